/- The functions that the statement reaches, by equations: no statement of its own. -/
import Derived.Test.YtmklimlepgiffaaEq3
set_option linter.unusedVariables false
set_option linter.unusedSimpArgs false
set_option linter.unusedSectionVars false
namespace Go.Va.Es
open Go.Va
open Go.Proofs
set_option maxRecDepth 100000
set_option maxHeartbeats 4000000
abbrev sgn : ByteArray := ⟨#[38, 60, 62, 34]⟩
def stF (s : ByteArray) (i : Nat) : St := { n := 25, k := 0, fr := [(0, .s (.string s)), (11, .s (.int .i64 (.ofNat i)))], O := [] }
section
variable (A : Ar) (hA : ArOk A) (s w : ByteArray) (b : Int) (i n m : Nat) (q : Bool)
include hA
theorem eq_Index (x k : Int) (h : evl (envV A) (.call 113 [.s (.string sgn), .s (.int .u8 x)] []) = some (.ret (.s (.int .i64 k)) [])) :
    evl (envV A) (.call 111 [.s (.string sgn), .s (.int .u8 x)] []) = some (.ret (.s (.int .i64 k)) []) := by
  rw [evl_fn (envV A) 111 _ _ (fn := Try.f111) (c := bd111) (lv := lvF111) rfl rfl rfl rfl rfl rfl]
  have hnle := hA.nleE; have hneq := hA.neqE
  have klt := hA.lt; have kle := hA.le; have keq := hA.eq; have knle := hA.nle; have kneq := hA.neq
  generalize lpOf (envV A) 111 bd111 = LP
  generalize evl (envV A) = E at h ⊢
  obtain ⟨aadd, asub, amul, arem, aquo, awr, ashr, aeq, alt, ale, aseq, aslt, acat, acut, asiz, aat, anle, aneq, afit⟩ := A
  simp only at hnle hneq
  subst hnle hneq
  simp only at klt kle keq knle kneq
  try simp only at h
  cbv
  rewrite [h]
  cbv
theorem eq_Index2 (x k : Int) (h : evl (envV A) (.call 111 [.s (.string sgn), .s (.int .u8 x)] []) = some (.ret (.s (.int .i64 k)) [])) :
    evl (envV A) (.call 102 [.s (.string sgn), .s (.int .u8 x)] []) = some (.ret (.s (.int .i64 k)) []) := by
  rw [evl_fn (envV A) 102 _ _ (fn := Try.f102) (c := bd102) (lv := lvF102) rfl rfl rfl rfl rfl rfl]
  have hnle := hA.nleE; have hneq := hA.neqE
  have klt := hA.lt; have kle := hA.le; have keq := hA.eq; have knle := hA.nle; have kneq := hA.neq
  generalize lpOf (envV A) 102 bd102 = LP
  generalize evl (envV A) = E at h ⊢
  obtain ⟨aadd, asub, amul, arem, aquo, awr, ashr, aeq, alt, ale, aseq, aslt, acat, acut, asiz, aat, anle, aneq, afit⟩ := A
  simp only at hnle hneq
  subst hnle hneq
  simp only at klt kle keq knle kneq
  try simp only at h
  cbv
  rewrite [h]
  cbv
theorem eq_plain (x k : Int) (h : evl (envV A) (.call 102 [.s (.string sgn), .s (.int .u8 x)] []) = some (.ret (.s (.int .i64 k)) [])) (h1 : A.lt k 0 = q) :
    evl (envV A) (.call 86 [.s (.int .u8 x)] []) = some (.ret (.s (.bool q)) []) := by
  rw [evl_fn (envV A) 86 _ _ (fn := Try.f86) (c := bd86) (lv := lvF86) rfl rfl rfl rfl rfl rfl]
  have hnle := hA.nleE; have hneq := hA.neqE
  have klt := hA.lt; have kle := hA.le; have keq := hA.eq; have knle := hA.nle; have kneq := hA.neq
  generalize lpOf (envV A) 86 bd86 = LP
  generalize evl (envV A) = E at h h1 ⊢
  obtain ⟨aadd, asub, amul, arem, aquo, awr, ashr, aeq, alt, ale, aseq, aslt, acat, acut, asiz, aat, anle, aneq, afit⟩ := A
  simp only at hnle hneq
  subst hnle hneq
  simp only at klt kle keq knle kneq
  try simp only at h h1
  cbv
  rewrite [h]
  cbv
  rewrite [h1]
  cbv
theorem eq_word : evl (envV A) (.call 88 [.s (.int .u8 b)] []) = some (.ret (.s (.string (bif A.eq b 38 then ⟨#[38, 97, 109, 112, 59]⟩ else bif A.eq b 60 then ⟨#[38, 108, 116, 59]⟩ else bif A.eq b 62 then ⟨#[38, 103, 116, 59]⟩ else ⟨#[38, 113, 117, 111, 116, 59]⟩))) []) := by
  rw [evl_fn (envV A) 88 _ _ (fn := Try.f88) (c := bd88) (lv := lvF88) rfl rfl rfl rfl rfl rfl]
  have hnle := hA.nleE; have hneq := hA.neqE
  have klt := hA.lt; have kle := hA.le; have keq := hA.eq; have knle := hA.nle; have kneq := hA.neq
  generalize lpOf (envV A) 88 bd88 = LP
  generalize evl (envV A) = E
  obtain ⟨aadd, asub, amul, arem, aquo, awr, ashr, aeq, alt, ale, aseq, aslt, acat, acut, asiz, aat, anle, aneq, afit⟩ := A
  simp only at hnle hneq
  subst hnle hneq
  simp only at klt kle keq knle kneq
  cbv
  cases c1 : aeq b 38
  · cbv
    cases c2 : aeq b 60
    · cbv
      cases c3 : aeq b 62
      · cbv
      · cbv
    · cbv
  · cbv
theorem eq_HasPrefix (h1 : A.siz s = n) (h2 : A.siz w = m) (h3 : (bif A.le (.ofNat m) (.ofNat n) then A.seq (A.cut s 0 m) w else false) = q) (h4 : Nat.ble m n = A.le (.ofNat m) (.ofNat n)) :
    evl (envV A) (.call 109 [.s (.string s), .s (.string w)] []) = some (.ret (.s (.bool q)) []) := by
  cases h5 : A.le (.ofNat m) (.ofNat n) with
  | false =>
    rw [h5] at h3
    simp only [cond_false] at h3
    subst h3
    clear h4
    rw [evl_fn (envV A) 109 _ _ (fn := Try.f109) (c := bd109) (lv := lvF109) rfl rfl rfl rfl rfl rfl]
    have hnle := hA.nleE; have hneq := hA.neqE
    have klt := hA.lt; have kle := hA.le; have keq := hA.eq; have knle := hA.nle; have kneq := hA.neq
    generalize lpOf (envV A) 109 bd109 = LP
    generalize evl (envV A) = E at h1 h2 h5 ⊢
    obtain ⟨aadd, asub, amul, arem, aquo, awr, ashr, aeq, alt, ale, aseq, aslt, acat, acut, asiz, aat, anle, aneq, afit⟩ := A
    simp only at hnle hneq
    subst hnle hneq
    simp only at klt kle keq knle kneq
    try simp only at h1 h2 h5
    cbv
    rewrite [h1]
    cbv
    rewrite [h2]
    cbv
    rewrite [h5]
    cbv
  | true =>
    rw [h5] at h3 h4
    simp only [cond_true] at h3
    have e4 := h4
    clear h4
    rw [evl_fn (envV A) 109 _ _ (fn := Try.f109) (c := bd109) (lv := lvF109) rfl rfl rfl rfl rfl rfl]
    have hnle := hA.nleE; have hneq := hA.neqE
    have klt := hA.lt; have kle := hA.le; have keq := hA.eq; have knle := hA.nle; have kneq := hA.neq
    generalize lpOf (envV A) 109 bd109 = LP
    generalize evl (envV A) = E at h1 h2 h3 e4 h5 ⊢
    obtain ⟨aadd, asub, amul, arem, aquo, awr, ashr, aeq, alt, ale, aseq, aslt, acat, acut, asiz, aat, anle, aneq, afit⟩ := A
    simp only at hnle hneq
    subst hnle hneq
    simp only at klt kle keq knle kneq
    try simp only at h1 h2 h3 h5
    conv at e4 => lhs; cbv
    cbv
    rewrite [h1]
    cbv
    rewrite [h2]
    cbv
    rewrite [h5]
    cbv
    rewrite [h1]
    cbv
    rewrite [h2]
    cbv
    rewrite [e4]
    cbv
    rewrite [h3]
    cbv
theorem eq_HasPrefix2 (h : evl (envV A) (.call 109 [.s (.string s), .s (.string w)] []) = some (.ret (.s (.bool q)) [])) : evl (envV A) (.call 100 [.s (.string s), .s (.string w)] []) = some (.ret (.s (.bool q)) []) := by
  rw [evl_fn (envV A) 100 _ _ (fn := Try.f100) (c := bd100) (lv := lvF100) rfl rfl rfl rfl rfl rfl]
  have hnle := hA.nleE; have hneq := hA.neqE
  have klt := hA.lt; have kle := hA.le; have keq := hA.eq; have knle := hA.nle; have kneq := hA.neq
  generalize lpOf (envV A) 100 bd100 = LP
  generalize evl (envV A) = E at h ⊢
  obtain ⟨aadd, asub, amul, arem, aquo, awr, ashr, aeq, alt, ale, aseq, aslt, acat, acut, asiz, aat, anle, aneq, afit⟩ := A
  simp only at hnle hneq
  subst hnle hneq
  simp only at klt kle keq knle kneq
  try simp only at h
  cbv
  rewrite [h]
  cbv
theorem lp_first {r : Option Res} (h1 : A.lt (.ofNat i) 4 = true) (h2 : A.at_ sgn i = some b) (h3 : evl (envV A) (.call 88 [.s (.int .u8 b)] []) = some (.ret (.s (.string w)) [])) (h4 : evl (envV A) (.call 100 [.s (.string s), .s (.string w)] []) = some (.ret (.s (.bool q)) []))
    (h5 : A.siz w = m) (h6 : A.add .i64 (.ofNat i) 1 = .ofNat (Nat.succ i)) (hr : lpOf (envV A) 82 bd82 4 (stF s (Nat.succ i)) = r) :
    lpOf (envV A) 82 bd82 4 (stF s i) = (bif q then some (.code .ret { n := 25, k := 0, fr := [(2, .s (.int .u8 b)), (3, .s (.int .i64 (.ofNat m)))], O := [] }) else r) := by
  unfold stF at hr ⊢
  cases q
  ·
    rw [lp_step (envV A) 82 (c0 := bd82) (lv := lvF82) rfl rfl]
    have hnle := hA.nleE; have hneq := hA.neqE
    have klt := hA.lt; have kle := hA.le; have keq := hA.eq; have knle := hA.nle; have kneq := hA.neq
    rw [lp_split (lpOf (envV A) 82 bd82) 4]
    generalize lpOf (envV A) 82 bd82 4 = L4 at h1 h2 h3 h4 h5 h6 hr ⊢
    generalize lpOf (envV A) 82 bd82 = LP
    generalize evl (envV A) = E at h1 h2 h3 h4 h5 h6 hr ⊢
    obtain ⟨aadd, asub, amul, arem, aquo, awr, ashr, aeq, alt, ale, aseq, aslt, acat, acut, asiz, aat, anle, aneq, afit⟩ := A
    simp only at hnle hneq
    subst hnle hneq
    simp only at klt kle keq knle kneq
    try simp only at h1 h2 h3 h4 h5 h6 hr
    cbv
    rewrite [h1]
    cbv
    rewrite [h2]
    cbv
    rewrite [h3]
    cbv
    rewrite [h4]
    cbv
    rewrite [h6]
    cbv
    rewrite [hr]
    cbv
  ·
    rw [lp_step (envV A) 82 (c0 := bd82) (lv := lvF82) rfl rfl]
    have hnle := hA.nleE; have hneq := hA.neqE
    have klt := hA.lt; have kle := hA.le; have keq := hA.eq; have knle := hA.nle; have kneq := hA.neq
    rw [lp_split (lpOf (envV A) 82 bd82) 4]
    generalize lpOf (envV A) 82 bd82 4 = L4 at h1 h2 h3 h4 h5 h6 hr ⊢
    generalize lpOf (envV A) 82 bd82 = LP
    generalize evl (envV A) = E at h1 h2 h3 h4 h5 h6 hr ⊢
    obtain ⟨aadd, asub, amul, arem, aquo, awr, ashr, aeq, alt, ale, aseq, aslt, acat, acut, asiz, aat, anle, aneq, afit⟩ := A
    simp only at hnle hneq
    subst hnle hneq
    simp only at klt kle keq knle kneq
    try simp only at h1 h2 h3 h4 h5 h6 hr
    cbv
    rewrite [h1]
    cbv
    rewrite [h2]
    cbv
    rewrite [h3]
    cbv
    rewrite [h4]
    cbv
    rewrite [h2]
    cbv
    rewrite [h5]
    cbv
theorem lp_first_end (h1 : A.lt (.ofNat i) 4 = false) : lpOf (envV A) 82 bd82 4 (stF s i) = some (.code (.exit 0) { n := 25, k := 0, fr := [(0, .s (.string s)), (11, .s (.int .i64 (.ofNat i))), (12, .s (.bool false))], O := [] }) := by
  unfold stF
  rw [lp_step (envV A) 82 (c0 := bd82) (lv := lvF82) rfl rfl]
  have hnle := hA.nleE; have hneq := hA.neqE
  have klt := hA.lt; have kle := hA.le; have keq := hA.eq; have knle := hA.nle; have kneq := hA.neq
  generalize lpOf (envV A) 82 bd82 = LP
  generalize evl (envV A) = E at h1 ⊢
  obtain ⟨aadd, asub, amul, arem, aquo, awr, ashr, aeq, alt, ale, aseq, aslt, acat, acut, asiz, aat, anle, aneq, afit⟩ := A
  simp only at hnle hneq
  subst hnle hneq
  simp only at klt kle keq knle kneq
  try simp only at h1
  cbv
  rewrite [h1]
  cbv
theorem eq_first_plain (h1 : A.at_ s 0 = some b) (h2 : evl (envV A) (.call 86 [.s (.int .u8 b)] []) = some (.ret (.s (.bool true)) [])) : evl (envV A) (.call 82 [.s (.string s)] []) = some (.ret (.tup [.s (.int .u8 b), .s (.int .i64 1)]) []) := by
  rw [evl_fn (envV A) 82 _ _ (fn := Try.f82) (c := bd82) (lv := lvF82) rfl rfl rfl rfl rfl rfl]
  have hnle := hA.nleE; have hneq := hA.neqE
  have klt := hA.lt; have kle := hA.le; have keq := hA.eq; have knle := hA.nle; have kneq := hA.neq
  generalize lpOf (envV A) 82 bd82 = LP
  generalize evl (envV A) = E at h1 h2 ⊢
  obtain ⟨aadd, asub, amul, arem, aquo, awr, ashr, aeq, alt, ale, aseq, aslt, acat, acut, asiz, aat, anle, aneq, afit⟩ := A
  simp only at hnle hneq
  subst hnle hneq
  simp only at klt kle keq knle kneq
  try simp only at h1 h2
  cbv
  rewrite [h1]
  cbv
  rewrite [h2]
  cbv
  rewrite [h1]
  cbv
theorem eq_first_ret (c : Int) (h1 : A.at_ s 0 = some b) (h2 : evl (envV A) (.call 86 [.s (.int .u8 b)] []) = some (.ret (.s (.bool false)) [])) (h3 : lpOf (envV A) 82 bd82 4 (stF s 0) = some (.code .ret { n := 25, k := 0, fr := [(2, .s (.int .u8 c)), (3, .s (.int .i64 (.ofNat m)))], O := [] })) :
    evl (envV A) (.call 82 [.s (.string s)] []) = some (.ret (.tup [.s (.int .u8 c), .s (.int .i64 (.ofNat m))]) []) := by
  unfold stF at h3
  simp only [show Int.ofNat 0 = 0 from rfl] at h3
  rw [evl_fn (envV A) 82 _ _ (fn := Try.f82) (c := bd82) (lv := lvF82) rfl rfl rfl rfl rfl rfl]
  have hnle := hA.nleE; have hneq := hA.neqE
  have klt := hA.lt; have kle := hA.le; have keq := hA.eq; have knle := hA.nle; have kneq := hA.neq
  rw [lp_split (lpOf (envV A) 82 bd82) 4]
  generalize lpOf (envV A) 82 bd82 4 = L4 at h1 h2 h3 ⊢
  generalize lpOf (envV A) 82 bd82 = LP
  generalize evl (envV A) = E at h1 h2 h3 ⊢
  obtain ⟨aadd, asub, amul, arem, aquo, awr, ashr, aeq, alt, ale, aseq, aslt, acat, acut, asiz, aat, anle, aneq, afit⟩ := A
  simp only at hnle hneq
  subst hnle hneq
  simp only at klt kle keq knle kneq
  try simp only at h1 h2 h3
  cbv
  rewrite [h1]
  cbv
  rewrite [h2]
  cbv
  rewrite [h3]
  cbv
theorem eq_first_none (h1 : A.at_ s 0 = some b) (h2 : evl (envV A) (.call 86 [.s (.int .u8 b)] []) = some (.ret (.s (.bool false)) [])) (h3 : lpOf (envV A) 82 bd82 4 (stF s 0) = some (.code (.exit 0) { n := 25, k := 0, fr := [(0, .s (.string s)), (11, .s (.int .i64 (.ofNat 4))), (12, .s (.bool false))], O := [] })) :
    evl (envV A) (.call 82 [.s (.string s)] []) = some (.ret (.tup [.s (.int .u8 0), .s (.int .i64 0)]) []) := by
  unfold stF at h3
  simp only [show Int.ofNat 0 = 0 from rfl] at h3
  rw [evl_fn (envV A) 82 _ _ (fn := Try.f82) (c := bd82) (lv := lvF82) rfl rfl rfl rfl rfl rfl]
  have hnle := hA.nleE; have hneq := hA.neqE
  have klt := hA.lt; have kle := hA.le; have keq := hA.eq; have knle := hA.nle; have kneq := hA.neq
  rw [lp_split (lpOf (envV A) 82 bd82) 4]
  generalize lpOf (envV A) 82 bd82 4 = L4 at h1 h2 h3 ⊢
  generalize lpOf (envV A) 82 bd82 = LP
  generalize evl (envV A) = E at h1 h2 h3 ⊢
  obtain ⟨aadd, asub, amul, arem, aquo, awr, ashr, aeq, alt, ale, aseq, aslt, acat, acut, asiz, aat, anle, aneq, afit⟩ := A
  simp only at hnle hneq
  subst hnle hneq
  simp only at klt kle keq knle kneq
  try simp only at h1 h2 h3
  cbv
  rewrite [h1]
  cbv
  rewrite [h2]
  cbv
  rewrite [h3]
  cbv
end
end Go.Va.Es
