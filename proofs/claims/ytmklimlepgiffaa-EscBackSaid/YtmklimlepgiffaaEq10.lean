/- The functions that the statement reaches, by equations: no statement of its own. -/
import Derived.Test.YtmklimlepgiffaaEq9
set_option linter.unusedVariables false
set_option linter.unusedSimpArgs false
set_option linter.unusedSectionVars false
namespace Go.Va
open Go.Proofs
set_option maxRecDepth 100000
set_option maxHeartbeats 4000000
def stP (s out : ByteArray) (i : Nat) : St := { n := 18, k := 0, fr := [(0, .s (.string s)), (3, .s (.string out)), (4, .s (.int .i64 (.ofNat i)))], O := [] }
def stPe (s out : ByteArray) (i : Nat) : St := { n := 18, k := 0, fr := [(0, .s (.string s)), (3, .s (.string out)), (4, .s (.int .i64 (.ofNat i))), (8, .s (.bool false))], O := [] }
def stG (s out : ByteArray) : St := { n := 47, k := 0, fr := [(0, .s (.string s)), (4, .s (.string out))], O := [] }
def stGe (s out : ByteArray) : St := { n := 47, k := 0, fr := [(0, .s (.string s)), (4, .s (.string out)), (10, .s (.bool false))], O := [] }
def stGr : St := { n := 47, k := 0, fr := [(2, .s (.string ⟨#[]⟩)), (3, .s (.bool false))], O := [] }
def stI (s out : ByteArray) (n : Int) (c : Nat) : St := { n := 47, k := 0, fr := [(0, .s (.string s)), (4, .s (.string out)), (5, .s (.int .i64 n)), (6, .s (.int .i64 (.ofNat c)))], O := [] }
def stIe (s out : ByteArray) (n : Int) (c : Nat) : St := { n := 47, k := 0, fr := [(0, .s (.string s)), (4, .s (.string out)), (5, .s (.int .i64 n)), (6, .s (.int .i64 (.ofNat c))), (16, .s (.bool false))], O := [] }
def stB (s t a : ByteArray) (i : Nat) : St := { n := 68, k := 0, fr := [(5, .s (.bool true)), (6, .s (.string a)), (9, .s (.int .i64 (.ofNat i)))], O := [] }
def stBe (s t a : ByteArray) (i : Nat) : St := { n := 68, k := 0, fr := [(5, .s (.bool true)), (6, .s (.string a)), (9, .s (.int .i64 (.ofNat i))), (48, .s (.bool false))], O := [] }
section
variable (A : Ar) (hA : ArOk A) (s t w out out2 a x y : ByteArray) (b : Int) (i n m c : Nat) (q : Bool)
include hA
theorem eq_sign : evl (envV A) (.call 85 [.s (.int .u8 b)] []) = some (.ret (.s (.string (bif A.eq b 38 then ⟨#[38, 97, 109, 112, 59]⟩ else bif A.eq b 60 then ⟨#[38, 108, 116, 59]⟩ else bif A.eq b 62 then ⟨#[38, 103, 116, 59]⟩ else bif A.eq b 34 then ⟨#[38, 113, 117, 111, 116, 59]⟩ else ⟨[UInt8.ofNat b.toNat].toArray⟩))) []) := by
  rw [evl_fn (envV A) 85 _ _ (fn := Try.f85) (c := bd85) (lv := lvF85) rfl rfl rfl rfl rfl rfl]
  have hnle := hA.nleE; have hneq := hA.neqE
  have klt := hA.lt; have kle := hA.le; have keq := hA.eq; have knle := hA.nle; have kneq := hA.neq
  generalize lpOf (envV A) 85 bd85 = LP
  generalize evl (envV A) = E
  obtain ⟨aadd, asub, amul, arem, aquo, awr, ashr, aeq, alt, ale, aseq, aslt, acat, acut, asiz, aat, anle, aneq, afit⟩ := A
  simp only at hnle hneq
  subst hnle hneq
  simp only at klt kle keq knle kneq
  cbv
  cases c1 : aeq b 38
  · cbv
    cases c2 : aeq b 60
    · cbv
      cases c3 : aeq b 62
      · cbv
        cases c4 : aeq b 34
        · cbv
        · cbv
      · cbv
    · cbv
  · cbv
theorem lp_put {r : Option Res} (h1 : A.siz s = n) (h2 : A.lt (.ofNat i) (.ofNat n) = true) (h3 : A.at_ s i = some b) (h4 : evl (envV A) (.call 85 [.s (.int .u8 b)] []) = some (.ret (.s (.string w)) [])) (e1 : A.nle (A.siz out + A.siz w) 9223372036854775807 = true) (h5 : A.cat out w = out2) (h6 : A.add .i64 (.ofNat i) 1 = .ofNat (Nat.succ i))
    (hr : lpOf (envV A) 49 bd49 3 (stP s out2 (Nat.succ i)) = r) : lpOf (envV A) 49 bd49 3 (stP s out i) = r := by
  unfold stP at hr ⊢
  rw [lp_step (envV A) 49 (c0 := bd49) (lv := lvF49) rfl rfl]
  have klt := hA.lt; have kle := hA.le; have keq := hA.eq; have knle := hA.nle; have kneq := hA.neq
  rw [lp_split (lpOf (envV A) 49 bd49) 3]
  generalize lpOf (envV A) 49 bd49 3 = L3 at h1 h2 h3 h4 e1 h5 h6 hr ⊢
  generalize lpOf (envV A) 49 bd49 = LP
  generalize evl (envV A) = E at h1 h2 h3 h4 e1 h5 h6 hr ⊢
  obtain ⟨aadd, asub, amul, arem, aquo, awr, ashr, aeq, alt, ale, aseq, aslt, acat, acut, asiz, aat, anle, aneq, afit⟩ := A
  simp only at klt kle keq knle kneq
  try simp only at h1 h2 h3 h4 h5 h6 hr
  conv at e1 => lhs; cbv
  cbv
  rewrite [h1]
  cbv
  rewrite [h2]
  cbv
  rewrite [h3]
  cbv
  rewrite [h4]
  cbv
  rewrite [e1]
  cbv
  rewrite [h5]
  cbv
  rewrite [h6]
  cbv
  rewrite [hr]
  cbv
theorem lp_pute (h1 : A.siz s = n) (h2 : A.lt (.ofNat i) (.ofNat n) = false) : lpOf (envV A) 49 bd49 3 (stP s out i) = some (.code (.exit 0) (stPe s out i)) := by
  unfold stP stPe
  rw [lp_step (envV A) 49 (c0 := bd49) (lv := lvF49) rfl rfl]
  have klt := hA.lt; have kle := hA.le; have keq := hA.eq; have knle := hA.nle; have kneq := hA.neq
  generalize lpOf (envV A) 49 bd49 = LP
  generalize evl (envV A) = E at h1 h2 ⊢
  obtain ⟨aadd, asub, amul, arem, aquo, awr, ashr, aeq, alt, ale, aseq, aslt, acat, acut, asiz, aat, anle, aneq, afit⟩ := A
  simp only at klt kle keq knle kneq
  try simp only at h1 h2
  cbv
  rewrite [h1]
  cbv
  rewrite [h2]
  cbv
theorem eq_put (h1 : lpOf (envV A) 49 bd49 3 (stP s ⟨#[]⟩ 0) = some (.code (.exit 0) (stPe s out n))) : evl (envV A) (.call 49 [.s (.string s)] []) = some (.ret (.s (.string out)) []) := by
  unfold stP stPe at h1
  simp only [show Int.ofNat 0 = 0 from rfl] at h1
  rw [evl_fn (envV A) 49 _ _ (fn := Try.f49) (c := bd49) (lv := lvF49) rfl rfl rfl rfl rfl rfl]
  have klt := hA.lt; have kle := hA.le; have keq := hA.eq; have knle := hA.nle; have kneq := hA.neq
  rw [lp_split (lpOf (envV A) 49 bd49) 3]
  generalize lpOf (envV A) 49 bd49 3 = L3 at h1 ⊢
  generalize lpOf (envV A) 49 bd49 = LP
  generalize evl (envV A) = E at h1 ⊢
  obtain ⟨aadd, asub, amul, arem, aquo, awr, ashr, aeq, alt, ale, aseq, aslt, acat, acut, asiz, aat, anle, aneq, afit⟩ := A
  simp only at klt kle keq knle kneq
  try simp only at h1
  cbv
  rewrite [h1]
  cbv
theorem lp_in_short {r : Option Res} (h1 : A.lt (.ofNat c) 256 = true) (h2 : A.wr .u8 (.ofNat c) = b) (h3 : evl (envV A) (.call 85 [.s (.int .u8 b)] []) = some (.ret (.s (.string w)) [])) (h4 : A.siz s = n) (h5 : A.siz w = m) (h6 : A.le (.ofNat m) (.ofNat n) = false) (h7 : A.add .i64 (.ofNat c) 1 = .ofNat (Nat.succ c))
    (hr : lpOf (envV A) 47 bd47 5 (stI s out 0 (Nat.succ c)) = r) : lpOf (envV A) 47 bd47 5 (stI s out 0 c) = r := by
  unfold stI at hr ⊢
  rw [lp_step (envV A) 47 (c0 := bd47) (lv := lvF47) rfl rfl]
  have hnle := hA.nleE; have hneq := hA.neqE
  have klt := hA.lt; have kle := hA.le; have keq := hA.eq; have knle := hA.nle; have kneq := hA.neq
  rw [lp_split (lpOf (envV A) 47 bd47) 5]
  generalize lpOf (envV A) 47 bd47 5 = L5 at h1 h2 h3 h4 h5 h6 h7 hr ⊢
  generalize lpOf (envV A) 47 bd47 = LP
  generalize evl (envV A) = E at h1 h2 h3 h4 h5 h6 h7 hr ⊢
  obtain ⟨aadd, asub, amul, arem, aquo, awr, ashr, aeq, alt, ale, aseq, aslt, acat, acut, asiz, aat, anle, aneq, afit⟩ := A
  simp only at hnle hneq
  subst hnle hneq
  simp only at klt kle keq knle kneq
  try simp only at h1 h2 h3 h4 h5 h6 h7 hr
  cbv
  rewrite [h1]
  cbv
  rewrite [keq (0) (0)]
  cbv
  rewrite [h2]
  cbv
  rewrite [h3]
  cbv
  rewrite [h4]
  cbv
  rewrite [h5]
  cbv
  rewrite [h6]
  cbv
  rewrite [h7]
  cbv
  rewrite [hr]
  cbv
theorem lp_in {r : Option Res} (h1 : A.lt (.ofNat c) 256 = true) (h2 : A.wr .u8 (.ofNat c) = b) (h3 : evl (envV A) (.call 85 [.s (.int .u8 b)] []) = some (.ret (.s (.string w)) [])) (h4 : A.siz s = n) (h5 : A.siz w = m) (h6 : A.le (.ofNat m) (.ofNat n) = true) (e1 : Nat.ble m n = true) (h7 : A.add .i64 (.ofNat c) 1 = .ofNat (Nat.succ c))
    (h8 : A.seq (A.cut s 0 m) w = q) (e2 : Nat.ble (A.siz out + A.siz ⟨[UInt8.ofNat b.toNat].toArray⟩) 9223372036854775807 = true) (e3 : A.cat out ⟨[UInt8.ofNat b.toNat].toArray⟩ = out2)
    (hr : lpOf (envV A) 47 bd47 5 (bif q then stI s out2 (.ofNat m) (Nat.succ c) else stI s out 0 (Nat.succ c)) = r) : lpOf (envV A) 47 bd47 5 (stI s out 0 c) = r := by
  unfold stI at hr ⊢
  cases q <;> simp only [cond_true, cond_false] at hr
  ·
    rw [lp_step (envV A) 47 (c0 := bd47) (lv := lvF47) rfl rfl]
    have hnle := hA.nleE; have hneq := hA.neqE
    have klt := hA.lt; have kle := hA.le; have keq := hA.eq; have knle := hA.nle; have kneq := hA.neq
    rw [lp_split (lpOf (envV A) 47 bd47) 5]
    generalize lpOf (envV A) 47 bd47 5 = L5 at h1 h2 h3 h4 h5 h6 e1 h7 h8 hr ⊢
    generalize lpOf (envV A) 47 bd47 = LP
    generalize evl (envV A) = E at h1 h2 h3 h4 h5 h6 e1 h7 h8 hr ⊢
    obtain ⟨aadd, asub, amul, arem, aquo, awr, ashr, aeq, alt, ale, aseq, aslt, acat, acut, asiz, aat, anle, aneq, afit⟩ := A
    simp only at hnle hneq
    subst hnle hneq
    simp only at klt kle keq knle kneq
    try simp only at h1 h2 h3 h4 h5 h6 h7 h8 hr
    conv at e1 => lhs; cbv
    cbv
    rewrite [h1]
    cbv
    rewrite [keq (0) (0)]
    cbv
    rewrite [h2]
    cbv
    rewrite [h3]
    cbv
    rewrite [h4]
    cbv
    rewrite [h5]
    cbv
    rewrite [h6]
    cbv
    rewrite [h4]
    cbv
    rewrite [h5]
    cbv
    rewrite [e1]
    cbv
    rewrite [h8]
    cbv
    rewrite [h7]
    cbv
    rewrite [hr]
    cbv
  ·
    rw [lp_step (envV A) 47 (c0 := bd47) (lv := lvF47) rfl rfl]
    have hnle := hA.nleE; have hneq := hA.neqE
    have klt := hA.lt; have kle := hA.le; have keq := hA.eq; have knle := hA.nle; have kneq := hA.neq
    rw [lp_split (lpOf (envV A) 47 bd47) 5]
    generalize lpOf (envV A) 47 bd47 5 = L5 at h1 h2 h3 h4 h5 h6 e1 e2 e3 h7 h8 hr ⊢
    generalize lpOf (envV A) 47 bd47 = LP
    generalize evl (envV A) = E at h1 h2 h3 h4 h5 h6 e1 e2 e3 h7 h8 hr ⊢
    obtain ⟨aadd, asub, amul, arem, aquo, awr, ashr, aeq, alt, ale, aseq, aslt, acat, acut, asiz, aat, anle, aneq, afit⟩ := A
    simp only at hnle hneq
    subst hnle hneq
    simp only at klt kle keq knle kneq
    try simp only at h1 h2 h3 h4 h5 h6 h7 h8 hr
    conv at e1 => lhs; cbv
    conv at e2 => lhs; cbv
    conv at e3 => lhs; cbv
    cbv
    rewrite [h1]
    cbv
    rewrite [keq (0) (0)]
    cbv
    rewrite [h2]
    cbv
    rewrite [h3]
    cbv
    rewrite [h4]
    cbv
    rewrite [h5]
    cbv
    rewrite [h6]
    cbv
    rewrite [h4]
    cbv
    rewrite [h5]
    cbv
    rewrite [e1]
    cbv
    rewrite [h8]
    cbv
    rewrite [h2]
    cbv
    rewrite [e3]
    cbv
    rewrite [e2]
    cbv
    rewrite [h5]
    cbv
    rewrite [h7]
    cbv
    rewrite [hr]
    cbv
theorem lp_in_end (h1 : A.lt (.ofNat c) 256 = false) : lpOf (envV A) 47 bd47 5 (stI s out 0 c) = some (.code (.exit 2) (stIe s out 0 c)) := by
  unfold stI stIe
  rw [lp_step (envV A) 47 (c0 := bd47) (lv := lvF47) rfl rfl]
  have hnle := hA.nleE; have hneq := hA.neqE
  have klt := hA.lt; have kle := hA.le; have keq := hA.eq; have knle := hA.nle; have kneq := hA.neq
  generalize lpOf (envV A) 47 bd47 = LP
  generalize evl (envV A) = E at h1 ⊢
  obtain ⟨aadd, asub, amul, arem, aquo, awr, ashr, aeq, alt, ale, aseq, aslt, acat, acut, asiz, aat, anle, aneq, afit⟩ := A
  simp only at hnle hneq
  subst hnle hneq
  simp only at klt kle keq knle kneq
  try simp only at h1
  cbv
  rewrite [h1]
  cbv
theorem lp_in_met (d : Int) (h1 : A.lt (.ofNat c) 256 = q) (h2 : A.eq d 0 = false) : lpOf (envV A) 47 bd47 5 (stI s out d c) = some (.code (.exit 2) (stIe s out d c)) := by
  unfold stI stIe
  cases q
  ·
    rw [lp_step (envV A) 47 (c0 := bd47) (lv := lvF47) rfl rfl]
    have hnle := hA.nleE; have hneq := hA.neqE
    have klt := hA.lt; have kle := hA.le; have keq := hA.eq; have knle := hA.nle; have kneq := hA.neq
    generalize lpOf (envV A) 47 bd47 = LP
    generalize evl (envV A) = E at h1 h2 ⊢
    obtain ⟨aadd, asub, amul, arem, aquo, awr, ashr, aeq, alt, ale, aseq, aslt, acat, acut, asiz, aat, anle, aneq, afit⟩ := A
    simp only at hnle hneq
    subst hnle hneq
    simp only at klt kle keq knle kneq
    try simp only at h1 h2
    cbv
    rewrite [h1]
    cbv
  ·
    rw [lp_step (envV A) 47 (c0 := bd47) (lv := lvF47) rfl rfl]
    have hnle := hA.nleE; have hneq := hA.neqE
    have klt := hA.lt; have kle := hA.le; have keq := hA.eq; have knle := hA.nle; have kneq := hA.neq
    generalize lpOf (envV A) 47 bd47 = LP
    generalize evl (envV A) = E at h1 h2 ⊢
    obtain ⟨aadd, asub, amul, arem, aquo, awr, ashr, aeq, alt, ale, aseq, aslt, acat, acut, asiz, aat, anle, aneq, afit⟩ := A
    simp only at hnle hneq
    subst hnle hneq
    simp only at klt kle keq knle kneq
    try simp only at h1 h2
    cbv
    rewrite [h1]
    cbv
    rewrite [h2]
    cbv
theorem lp_get_no (h1 : A.siz s = n) (h2 : A.lt 0 (.ofNat n) = true) (h3 : lpOf (envV A) 47 bd47 5 (stI s out 0 0) = some (.code (.exit 2) (stIe s out 0 c))) : lpOf (envV A) 47 bd47 2 (stG s out) = some (.code .ret stGr) := by
  unfold stI stIe at h3; unfold stG stGr
  simp only [show Int.ofNat 0 = 0 from rfl] at h3
  rw [lp_step (envV A) 47 (c0 := bd47) (lv := lvF47) rfl rfl]
  have hnle := hA.nleE; have hneq := hA.neqE
  have klt := hA.lt; have kle := hA.le; have keq := hA.eq; have knle := hA.nle; have kneq := hA.neq
  rw [lp_split (lpOf (envV A) 47 bd47) 2]
  generalize lpOf (envV A) 47 bd47 2 = L2 at h1 h2 h3 ⊢
  rw [lp_split (lpOf (envV A) 47 bd47) 5]
  generalize lpOf (envV A) 47 bd47 5 = L5 at h1 h2 h3 ⊢
  generalize lpOf (envV A) 47 bd47 = LP
  generalize evl (envV A) = E at h1 h2 h3 ⊢
  obtain ⟨aadd, asub, amul, arem, aquo, awr, ashr, aeq, alt, ale, aseq, aslt, acat, acut, asiz, aat, anle, aneq, afit⟩ := A
  simp only at hnle hneq
  subst hnle hneq
  simp only at klt kle keq knle kneq
  try simp only at h1 h2 h3
  cbv
  rewrite [h1]
  cbv
  rewrite [h2]
  cbv
  rewrite [h3]
  cbv
  rewrite [keq (0) (0)]
  cbv
theorem lp_get {r : Option Res} (h1 : A.siz s = n) (h2 : A.lt 0 (.ofNat n) = true) (h3 : lpOf (envV A) 47 bd47 5 (stI s out 0 0) = some (.code (.exit 2) (stIe s out2 (.ofNat m) c))) (h4 : A.eq (.ofNat m) 0 = false) (e1 : Nat.ble m n = true) (e2 : Nat.ble n n = true) (h5 : A.cut s m n = x)
    (hr : lpOf (envV A) 47 bd47 2 (stG x out2) = r) : lpOf (envV A) 47 bd47 2 (stG s out) = r := by
  unfold stI stIe at h3; unfold stG at hr ⊢
  simp only [show Int.ofNat 0 = 0 from rfl] at h3
  rw [lp_step (envV A) 47 (c0 := bd47) (lv := lvF47) rfl rfl]
  have hnle := hA.nleE; have hneq := hA.neqE
  have klt := hA.lt; have kle := hA.le; have keq := hA.eq; have knle := hA.nle; have kneq := hA.neq
  rw [lp_split (lpOf (envV A) 47 bd47) 2]
  generalize lpOf (envV A) 47 bd47 2 = L2 at h1 h2 h3 h4 e1 e2 h5 hr ⊢
  rw [lp_split (lpOf (envV A) 47 bd47) 5]
  generalize lpOf (envV A) 47 bd47 5 = L5 at h1 h2 h3 h4 e1 e2 h5 hr ⊢
  generalize lpOf (envV A) 47 bd47 = LP
  generalize evl (envV A) = E at h1 h2 h3 h4 e1 e2 h5 hr ⊢
  obtain ⟨aadd, asub, amul, arem, aquo, awr, ashr, aeq, alt, ale, aseq, aslt, acat, acut, asiz, aat, anle, aneq, afit⟩ := A
  simp only at hnle hneq
  subst hnle hneq
  simp only at klt kle keq knle kneq
  try simp only at h1 h2 h3 h4 h5 hr
  conv at e1 => lhs; cbv
  conv at e2 => lhs; cbv
  cbv
  rewrite [h1]
  cbv
  rewrite [h2]
  cbv
  rewrite [h3]
  cbv
  rewrite [h4]
  cbv
  rewrite [h1]
  cbv
  rewrite [e1]
  cbv
  rewrite [e2]
  cbv
  rewrite [h5]
  cbv
  rewrite [hr]
  cbv
theorem lp_get_end (h1 : A.siz s = n) (h2 : A.lt 0 (.ofNat n) = false) : lpOf (envV A) 47 bd47 2 (stG s out) = some (.code (.exit 0) (stGe s out)) := by
  unfold stG stGe
  rw [lp_step (envV A) 47 (c0 := bd47) (lv := lvF47) rfl rfl]
  have hnle := hA.nleE; have hneq := hA.neqE
  have klt := hA.lt; have kle := hA.le; have keq := hA.eq; have knle := hA.nle; have kneq := hA.neq
  generalize lpOf (envV A) 47 bd47 = LP
  generalize evl (envV A) = E at h1 h2 ⊢
  obtain ⟨aadd, asub, amul, arem, aquo, awr, ashr, aeq, alt, ale, aseq, aslt, acat, acut, asiz, aat, anle, aneq, afit⟩ := A
  simp only at hnle hneq
  subst hnle hneq
  simp only at klt kle keq knle kneq
  try simp only at h1 h2
  cbv
  rewrite [h1]
  cbv
  rewrite [h2]
  cbv
theorem eq_get_no (h1 : lpOf (envV A) 47 bd47 2 (stG s ⟨#[]⟩) = some (.code .ret stGr)) : evl (envV A) (.call 47 [.s (.string s)] []) = some (.ret (.tup [.s (.string ⟨#[]⟩), .s (.bool false)]) []) := by
  unfold stG stGr at h1
  rw [evl_fn (envV A) 47 _ _ (fn := Try.f47) (c := bd47) (lv := lvF47) rfl rfl rfl rfl rfl rfl]
  have hnle := hA.nleE; have hneq := hA.neqE
  have klt := hA.lt; have kle := hA.le; have keq := hA.eq; have knle := hA.nle; have kneq := hA.neq
  rw [lp_split (lpOf (envV A) 47 bd47) 2]
  generalize lpOf (envV A) 47 bd47 2 = L2 at h1 ⊢
  generalize lpOf (envV A) 47 bd47 = LP
  generalize evl (envV A) = E at h1 ⊢
  obtain ⟨aadd, asub, amul, arem, aquo, awr, ashr, aeq, alt, ale, aseq, aslt, acat, acut, asiz, aat, anle, aneq, afit⟩ := A
  simp only at hnle hneq
  subst hnle hneq
  simp only at klt kle keq knle kneq
  try simp only at h1
  cbv
  rewrite [h1]
  cbv
theorem eq_get (h1 : lpOf (envV A) 47 bd47 2 (stG s ⟨#[]⟩) = some (.code (.exit 0) (stGe x out))) : evl (envV A) (.call 47 [.s (.string s)] []) = some (.ret (.tup [.s (.string out), .s (.bool true)]) []) := by
  unfold stG stGe at h1
  rw [evl_fn (envV A) 47 _ _ (fn := Try.f47) (c := bd47) (lv := lvF47) rfl rfl rfl rfl rfl rfl]
  have hnle := hA.nleE; have hneq := hA.neqE
  have klt := hA.lt; have kle := hA.le; have keq := hA.eq; have knle := hA.nle; have kneq := hA.neq
  rw [lp_split (lpOf (envV A) 47 bd47) 2]
  generalize lpOf (envV A) 47 bd47 2 = L2 at h1 ⊢
  generalize lpOf (envV A) 47 bd47 = LP
  generalize evl (envV A) = E at h1 ⊢
  obtain ⟨aadd, asub, amul, arem, aquo, awr, ashr, aeq, alt, ale, aseq, aslt, acat, acut, asiz, aat, anle, aneq, afit⟩ := A
  simp only at hnle hneq
  subst hnle hneq
  simp only at klt kle keq knle kneq
  try simp only at h1
  cbv
  rewrite [h1]
  cbv
theorem eq_et_long (h0 : evl (envV A) (.call 45 [] []) = some (.ret (.s (.bool true)) [])) (h1 : A.siz s = n) (h2 : A.lt 300 (.ofNat n) = true) : evl (envV A) (.call 8 [.s (.string s)] []) = some (.ret (.s (.bool true)) []) := by
  rw [evl_fn (envV A) 8 _ _ (fn := Try.f8) (c := bd8) (lv := lvF8) rfl rfl rfl rfl rfl rfl]
  have hnle := hA.nleE; have hneq := hA.neqE
  have klt := hA.lt; have kle := hA.le; have keq := hA.eq; have knle := hA.nle; have kneq := hA.neq
  generalize lpOf (envV A) 8 bd8 = LP
  generalize evl (envV A) = E at h0 h1 h2 ⊢
  obtain ⟨aadd, asub, amul, arem, aquo, awr, ashr, aeq, alt, ale, aseq, aslt, acat, acut, asiz, aat, anle, aneq, afit⟩ := A
  simp only at hnle hneq
  subst hnle hneq
  simp only at klt kle keq knle kneq
  try simp only at h0 h1 h2
  cbv
  rewrite [h0]
  cbv
  rewrite [h1]
  cbv
  rewrite [h2]
  cbv
theorem eq_et (h0 : evl (envV A) (.call 45 [] []) = some (.ret (.s (.bool true)) [])) (h1 : A.siz s = n) (h2 : A.lt 300 (.ofNat n) = false) (h3 : evl (envV A) (.call 46 [.s (.string s)] []) = some (.ret (.tup [.s (.string x), .s (.bool q)]) [])) (h4 : evl (envV A) (.call 47 [.s (.string s)] []) = some (.ret (.tup [.s (.string x), .s (.bool q)]) []))
    (h5 : evl (envV A) (.call 48 [.s (.string s)] []) = some (.ret (.s (.string y)) [])) (h6 : evl (envV A) (.call 49 [.s (.string s)] []) = some (.ret (.s (.string y)) [])) (h7 : A.seq x x = true) (h8 : A.seq y y = true) :
    evl (envV A) (.call 8 [.s (.string s)] []) = some (.ret (.s (.bool true)) []) := by
  cases q
  ·
    rw [evl_fn (envV A) 8 _ _ (fn := Try.f8) (c := bd8) (lv := lvF8) rfl rfl rfl rfl rfl rfl]
    have hnle := hA.nleE; have hneq := hA.neqE
    have klt := hA.lt; have kle := hA.le; have keq := hA.eq; have knle := hA.nle; have kneq := hA.neq
    generalize lpOf (envV A) 8 bd8 = LP
    generalize evl (envV A) = E at h0 h1 h2 h3 h4 h5 h6 h7 h8 ⊢
    obtain ⟨aadd, asub, amul, arem, aquo, awr, ashr, aeq, alt, ale, aseq, aslt, acat, acut, asiz, aat, anle, aneq, afit⟩ := A
    simp only at hnle hneq
    subst hnle hneq
    simp only at klt kle keq knle kneq
    try simp only at h0 h1 h2 h3 h4 h5 h6 h7 h8
    cbv
    rewrite [h0]
    cbv
    rewrite [h1]
    cbv
    rewrite [h2]
    cbv
    rewrite [h3]
    cbv
    rewrite [h4]
    cbv
    rewrite [h5]
    cbv
    rewrite [h6]
    cbv
    rewrite [h8]
    cbv
    rewrite [h7]
    cbv
  ·
    rw [evl_fn (envV A) 8 _ _ (fn := Try.f8) (c := bd8) (lv := lvF8) rfl rfl rfl rfl rfl rfl]
    have hnle := hA.nleE; have hneq := hA.neqE
    have klt := hA.lt; have kle := hA.le; have keq := hA.eq; have knle := hA.nle; have kneq := hA.neq
    generalize lpOf (envV A) 8 bd8 = LP
    generalize evl (envV A) = E at h0 h1 h2 h3 h4 h5 h6 h7 h8 ⊢
    obtain ⟨aadd, asub, amul, arem, aquo, awr, ashr, aeq, alt, ale, aseq, aslt, acat, acut, asiz, aat, anle, aneq, afit⟩ := A
    simp only at hnle hneq
    subst hnle hneq
    simp only at klt kle keq knle kneq
    try simp only at h0 h1 h2 h3 h4 h5 h6 h7 h8
    cbv
    rewrite [h0]
    cbv
    rewrite [h1]
    cbv
    rewrite [h2]
    cbv
    rewrite [h3]
    cbv
    rewrite [h4]
    cbv
    rewrite [h5]
    cbv
    rewrite [h6]
    cbv
    rewrite [h8]
    cbv
    rewrite [h7]
    cbv
theorem eq_eb_long (h0 : evl (envV A) (.call 45 [] []) = some (.ret (.s (.bool true)) [])) (h1 : A.siz s = n) (h2 : A.siz t = m) (h3 : (bif A.lt 300 (.ofNat n) then true else A.lt 300 (.ofNat m)) = true) : evl (envV A) (.call 9 [.s (.string s), .s (.string t)] []) = some (.ret (.s (.bool true)) []) := by
  cases h4 : A.lt 300 (.ofNat n) with
  | true =>
    clear h3
    rw [evl_fn (envV A) 9 _ _ (fn := Try.f9) (c := bd9) (lv := lvF9) rfl rfl rfl rfl rfl rfl]
    have hnle := hA.nleE; have hneq := hA.neqE
    have klt := hA.lt; have kle := hA.le; have keq := hA.eq; have knle := hA.nle; have kneq := hA.neq
    generalize lpOf (envV A) 9 bd9 = LP
    generalize evl (envV A) = E at h0 h1 h2 h4 ⊢
    obtain ⟨aadd, asub, amul, arem, aquo, awr, ashr, aeq, alt, ale, aseq, aslt, acat, acut, asiz, aat, anle, aneq, afit⟩ := A
    simp only at hnle hneq
    subst hnle hneq
    simp only at klt kle keq knle kneq
    try simp only at h0 h1 h2 h4
    cbv
    rewrite [h0]
    cbv
    rewrite [h1]
    cbv
    rewrite [h4]
    cbv
  | false =>
    rw [h4] at h3
    simp only [cond_false] at h3
    rw [evl_fn (envV A) 9 _ _ (fn := Try.f9) (c := bd9) (lv := lvF9) rfl rfl rfl rfl rfl rfl]
    have hnle := hA.nleE; have hneq := hA.neqE
    have klt := hA.lt; have kle := hA.le; have keq := hA.eq; have knle := hA.nle; have kneq := hA.neq
    generalize lpOf (envV A) 9 bd9 = LP
    generalize evl (envV A) = E at h0 h1 h2 h3 h4 ⊢
    obtain ⟨aadd, asub, amul, arem, aquo, awr, ashr, aeq, alt, ale, aseq, aslt, acat, acut, asiz, aat, anle, aneq, afit⟩ := A
    simp only at hnle hneq
    subst hnle hneq
    simp only at klt kle keq knle kneq
    try simp only at h0 h1 h2 h3 h4
    cbv
    rewrite [h0]
    cbv
    rewrite [h1]
    cbv
    rewrite [h4]
    cbv
    rewrite [h2]
    cbv
    rewrite [h3]
    cbv
theorem lp_eb {r : Option Res} (h1 : A.siz a = n) (h2 : A.lt (.ofNat i) (.ofNat n) = true) (h3 : A.at_ a i = some b) (h4 : A.eq b 60 = false) (h5 : A.eq b 62 = false) (h6 : A.eq b 34 = false) (h7 : A.add .i64 (.ofNat i) 1 = .ofNat (Nat.succ i))
    (hr : lpOf (envV A) 9 bd9 9 (stB s t a (Nat.succ i)) = r) : lpOf (envV A) 9 bd9 9 (stB s t a i) = r := by
  unfold stB at hr ⊢
  rw [lp_step (envV A) 9 (c0 := bd9) (lv := lvF9) rfl rfl]
  have hnle := hA.nleE; have hneq := hA.neqE
  have klt := hA.lt; have kle := hA.le; have keq := hA.eq; have knle := hA.nle; have kneq := hA.neq
  rw [lp_split (lpOf (envV A) 9 bd9) 9]
  generalize lpOf (envV A) 9 bd9 9 = L9 at h1 h2 h3 h4 h5 h6 h7 hr ⊢
  generalize lpOf (envV A) 9 bd9 = LP
  generalize evl (envV A) = E at h1 h2 h3 h4 h5 h6 h7 hr ⊢
  obtain ⟨aadd, asub, amul, arem, aquo, awr, ashr, aeq, alt, ale, aseq, aslt, acat, acut, asiz, aat, anle, aneq, afit⟩ := A
  simp only at hnle hneq
  subst hnle hneq
  simp only at klt kle keq knle kneq
  try simp only at h1 h2 h3 h4 h5 h6 h7 hr
  cbv
  rewrite [h1]
  cbv
  rewrite [h2]
  cbv
  rewrite [h3]
  cbv
  rewrite [h4]
  cbv
  rewrite [h3]
  cbv
  rewrite [h5]
  cbv
  rewrite [h3]
  cbv
  rewrite [h6]
  cbv
  rewrite [h7]
  cbv
  rewrite [hr]
  cbv
theorem lp_ebe (h1 : A.siz a = n) (h2 : A.lt (.ofNat i) (.ofNat n) = false) : lpOf (envV A) 9 bd9 9 (stB s t a i) = some (.code (.exit 0) (stBe s t a i)) := by
  unfold stB stBe
  rw [lp_step (envV A) 9 (c0 := bd9) (lv := lvF9) rfl rfl]
  have hnle := hA.nleE; have hneq := hA.neqE
  have klt := hA.lt; have kle := hA.le; have keq := hA.eq; have knle := hA.nle; have kneq := hA.neq
  generalize lpOf (envV A) 9 bd9 = LP
  generalize evl (envV A) = E at h1 h2 ⊢
  obtain ⟨aadd, asub, amul, arem, aquo, awr, ashr, aeq, alt, ale, aseq, aslt, acat, acut, asiz, aat, anle, aneq, afit⟩ := A
  simp only at hnle hneq
  subst hnle hneq
  simp only at klt kle keq knle kneq
  try simp only at h1 h2
  cbv
  rewrite [h1]
  cbv
  rewrite [h2]
  cbv
theorem eq_eb (st at_ : ByteArray) (k : Nat) (h0 : evl (envV A) (.call 45 [] []) = some (.ret (.s (.bool true)) [])) (h1 : A.siz s = n) (h2 : A.siz t = m) (h3 : A.lt 300 (.ofNat n) = false) (h4 : A.lt 300 (.ofNat m) = false) (h5 : evl (envV A) (.call 48 [.s (.string s)] []) = some (.ret (.s (.string a)) []))
    (h6 : evl (envV A) (.call 46 [.s (.string a)] []) = some (.ret (.tup [.s (.string x), .s (.bool true)]) [])) (h7 : A.seq x s = true) (e1 : Nat.ble (n + m) 9223372036854775807 = true) (h8 : A.cat s t = st) (h9 : evl (envV A) (.call 48 [.s (.string st)] []) = some (.ret (.s (.string y)) []))
    (h10 : evl (envV A) (.call 48 [.s (.string t)] []) = some (.ret (.s (.string w)) [])) (e2 : Nat.ble (A.siz a + A.siz w) 9223372036854775807 = true) (h11 : A.cat a w = at_) (h12 : A.seq y at_ = true)
    (h13 : lpOf (envV A) 9 bd9 9 (stB s t a 0) = some (.code (.exit 0) (stBe s t a k))) :
    evl (envV A) (.call 9 [.s (.string s), .s (.string t)] []) = some (.ret (.s (.bool true)) []) := by
  unfold stB stBe at h13
  simp only [show Int.ofNat 0 = 0 from rfl] at h13
  rw [evl_fn (envV A) 9 _ _ (fn := Try.f9) (c := bd9) (lv := lvF9) rfl rfl rfl rfl rfl rfl]
  have hnle := hA.nleE; have hneq := hA.neqE
  have klt := hA.lt; have kle := hA.le; have keq := hA.eq; have knle := hA.nle; have kneq := hA.neq
  rw [lp_split (lpOf (envV A) 9 bd9) 9]
  generalize lpOf (envV A) 9 bd9 9 = L9 at h0 h1 h2 h3 h4 h5 h6 h7 e1 h8 h9 h10 e2 h11 h12 h13 ⊢
  generalize lpOf (envV A) 9 bd9 = LP
  generalize evl (envV A) = E at h0 h1 h2 h3 h4 h5 h6 h7 e1 h8 h9 h10 e2 h11 h12 h13 ⊢
  obtain ⟨aadd, asub, amul, arem, aquo, awr, ashr, aeq, alt, ale, aseq, aslt, acat, acut, asiz, aat, anle, aneq, afit⟩ := A
  simp only at hnle hneq
  subst hnle hneq
  simp only at klt kle keq knle kneq
  try simp only at h0 h1 h2 h3 h4 h5 h6 h7 h8 h9 h10 h11 h12 h13
  conv at e1 => lhs; cbv
  conv at e2 => lhs; cbv
  cbv
  rewrite [h0]
  cbv
  rewrite [h1]
  cbv
  rewrite [h3]
  cbv
  rewrite [h2]
  cbv
  rewrite [h4]
  cbv
  rewrite [h5]
  cbv
  rewrite [h6]
  cbv
  rewrite [h7]
  cbv
  rewrite [h1]
  cbv
  rewrite [h2]
  cbv
  rewrite [h8]
  cbv
  rewrite [e1]
  cbv
  rewrite [h9]
  cbv
  rewrite [h10]
  cbv
  rewrite [h11]
  cbv
  rewrite [e2]
  cbv
  rewrite [h12]
  cbv
  rewrite [h13]
  cbv
end
end Go.Va
