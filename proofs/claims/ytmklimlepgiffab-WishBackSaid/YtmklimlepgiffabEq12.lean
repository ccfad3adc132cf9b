/- The functions that the statement reaches, by equations: no statement of its own. -/
import Derived.Test.YtmklimlepgiffabEq11
import Derived.KernelRfl
set_option linter.unusedVariables false
set_option linter.unusedSimpArgs false
set_option linter.unusedSectionVars false
namespace Go.Va
open Go.Proofs
set_option maxRecDepth 100000
set_option maxHeartbeats 4000000
section
variable (A : Ar) (hA : ArOk A) (p q : Perm) (hpq : p = .imm ∧ q = .imm ∨ p = .full ∧ q = .ro ∨ p = .ro ∧ q = .full) (ws us : List AV) (n m i : Nat) (kd kd2 : Int) (tag key text tag2 key2 text2 : ByteArray) (ats ats2 ks ks2 : List AV) (s : Bool)
include hA
include hpq in
theorem lp_alike_ma (e0 : ws.length = n) (e1 : lget ws i = some (.agg (wC .imm kd tag key text ats ks))) (e2 : Nat.ble (Nat.succ i) n = true) (e3 : lget us i = some (.agg (wC .imm kd2 tag2 key2 text2 ats2 ks2))) (e4 : us.length = n) (e5 : 0 + i = i) (h1 : A.lt (.ofNat i) (.ofNat n) = true) (h2 : A.add .i64 (.ofNat i) 1 = .ofNat (Nat.succ i))
    (mk : Bool) (h3 : evl (envV A) (.call 78 [.sl 3 ats .imm, .sl 3 ats2 .imm] []) = some (.ret (.s (.bool false)) [])) (h4 : evl (envV A) (.call 41 [.sl 6 ks .imm, .sl 6 ks2 .imm] []) = some (.ret (.s (.bool mk)) [])) 
     :
    lpOf (envV A) 41 bd41 4 (stK p q ws us i) = some (.code .ret stK0) := by
  unfold wC at e1 e3
  unfold stK stK0
  rcases hpq with ⟨rfl, rfl⟩ | ⟨rfl, rfl⟩ | ⟨rfl, rfl⟩
  ·
    rw [lp_step (envV A) 41 (c0 := bd41) (lv := lvF41) rfl rfl]
    have hnle := hA.nleE; have hneq := hA.neqE
    generalize lpOf (envV A) 41 bd41 = LP
    generalize evl (envV A) = E at e0 e1 e2 e3 e4 e5 h1 h2 h3 h4 ⊢
    obtain ⟨aadd, asub, amul, arem, aquo, awr, ashr, aeq, alt, ale, aseq, aslt, acat, acut, asiz, aat, anle, aneq, afit⟩ := A
    simp only at hnle hneq
    subst hnle hneq
    try simp only at h1 h2 h3 h4
    conv at e0 => lhs; cbv
    conv at e1 => lhs; cbv
    conv at e2 => lhs; cbv
    conv at e3 => lhs; cbv
    conv at e4 => lhs; cbv
    conv at e5 => lhs; cbv
    cbv
    rewrite [e0]
    cbv
    rewrite [h1]
    cbv
    rewrite [e1]
    cbv
    rewrite [e3]
    cbv
    rewrite [h3]
    cbv
    rewrite [e1]
    cbv
    rewrite [e3]
    cbv
    rewrite [h4]
    show _ = _
    kernel_rfl
  ·
    rw [lp_step (envV A) 41 (c0 := bd41) (lv := lvF41) rfl rfl]
    have hnle := hA.nleE; have hneq := hA.neqE
    generalize lpOf (envV A) 41 bd41 = LP
    generalize evl (envV A) = E at e0 e1 e2 e3 e4 e5 h1 h2 h3 h4 ⊢
    obtain ⟨aadd, asub, amul, arem, aquo, awr, ashr, aeq, alt, ale, aseq, aslt, acat, acut, asiz, aat, anle, aneq, afit⟩ := A
    simp only at hnle hneq
    subst hnle hneq
    try simp only at h1 h2 h3 h4
    conv at e0 => lhs; cbv
    conv at e1 => lhs; cbv
    conv at e2 => lhs; cbv
    conv at e3 => lhs; cbv
    conv at e4 => lhs; cbv
    conv at e5 => lhs; cbv
    cbv
    rewrite [e0]
    cbv
    rewrite [h1]
    cbv
    rewrite [e0]
    cbv
    rewrite [e2]
    cbv
    rewrite [e5]
    cbv
    rewrite [e1]
    cbv
    rewrite [e3]
    cbv
    rewrite [h3]
    cbv
    rewrite [e0]
    cbv
    rewrite [e2]
    cbv
    rewrite [e5]
    cbv
    rewrite [e1]
    cbv
    rewrite [e3]
    cbv
    rewrite [h4]
    show _ = _
    kernel_rfl
  ·
    rw [lp_step (envV A) 41 (c0 := bd41) (lv := lvF41) rfl rfl]
    have hnle := hA.nleE; have hneq := hA.neqE
    generalize lpOf (envV A) 41 bd41 = LP
    generalize evl (envV A) = E at e0 e1 e2 e3 e4 e5 h1 h2 h3 h4 ⊢
    obtain ⟨aadd, asub, amul, arem, aquo, awr, ashr, aeq, alt, ale, aseq, aslt, acat, acut, asiz, aat, anle, aneq, afit⟩ := A
    simp only at hnle hneq
    subst hnle hneq
    try simp only at h1 h2 h3 h4
    conv at e0 => lhs; cbv
    conv at e1 => lhs; cbv
    conv at e2 => lhs; cbv
    conv at e3 => lhs; cbv
    conv at e4 => lhs; cbv
    conv at e5 => lhs; cbv
    cbv
    rewrite [e0]
    cbv
    rewrite [h1]
    cbv
    rewrite [e1]
    cbv
    rewrite [e4]
    cbv
    rewrite [e2]
    cbv
    rewrite [e5]
    cbv
    rewrite [e3]
    cbv
    rewrite [h3]
    cbv
    rewrite [e1]
    cbv
    rewrite [e4]
    cbv
    rewrite [e2]
    cbv
    rewrite [e5]
    cbv
    rewrite [e3]
    cbv
    rewrite [h4]
    show _ = _
    kernel_rfl
include hpq in
theorem lp_alike_mk (e0 : ws.length = n) (e1 : lget ws i = some (.agg (wC .imm kd tag key text ats ks))) (e2 : Nat.ble (Nat.succ i) n = true) (e3 : lget us i = some (.agg (wC .imm kd2 tag2 key2 text2 ats2 ks2))) (e4 : us.length = n) (e5 : 0 + i = i) (h1 : A.lt (.ofNat i) (.ofNat n) = true) (h2 : A.add .i64 (.ofNat i) 1 = .ofNat (Nat.succ i))
    (h3 : evl (envV A) (.call 78 [.sl 3 ats .imm, .sl 3 ats2 .imm] []) = some (.ret (.s (.bool true)) [])) (h4 : evl (envV A) (.call 41 [.sl 6 ks .imm, .sl 6 ks2 .imm] []) = some (.ret (.s (.bool false)) [])) 
     :
    lpOf (envV A) 41 bd41 4 (stK p q ws us i) = some (.code .ret stK0) := by
  unfold wC at e1 e3
  unfold stK stK0
  rcases hpq with ⟨rfl, rfl⟩ | ⟨rfl, rfl⟩ | ⟨rfl, rfl⟩
  ·
    rw [lp_step (envV A) 41 (c0 := bd41) (lv := lvF41) rfl rfl]
    have hnle := hA.nleE; have hneq := hA.neqE
    generalize lpOf (envV A) 41 bd41 = LP
    generalize evl (envV A) = E at e0 e1 e2 e3 e4 e5 h1 h2 h3 h4 ⊢
    obtain ⟨aadd, asub, amul, arem, aquo, awr, ashr, aeq, alt, ale, aseq, aslt, acat, acut, asiz, aat, anle, aneq, afit⟩ := A
    simp only at hnle hneq
    subst hnle hneq
    try simp only at h1 h2 h3 h4
    conv at e0 => lhs; cbv
    conv at e1 => lhs; cbv
    conv at e2 => lhs; cbv
    conv at e3 => lhs; cbv
    conv at e4 => lhs; cbv
    conv at e5 => lhs; cbv
    cbv
    rewrite [e0]
    cbv
    rewrite [h1]
    cbv
    rewrite [e1]
    cbv
    rewrite [e3]
    cbv
    rewrite [h3]
    cbv
    rewrite [e1]
    cbv
    rewrite [e3]
    cbv
    rewrite [h4]
    show _ = _
    kernel_rfl
  ·
    rw [lp_step (envV A) 41 (c0 := bd41) (lv := lvF41) rfl rfl]
    have hnle := hA.nleE; have hneq := hA.neqE
    generalize lpOf (envV A) 41 bd41 = LP
    generalize evl (envV A) = E at e0 e1 e2 e3 e4 e5 h1 h2 h3 h4 ⊢
    obtain ⟨aadd, asub, amul, arem, aquo, awr, ashr, aeq, alt, ale, aseq, aslt, acat, acut, asiz, aat, anle, aneq, afit⟩ := A
    simp only at hnle hneq
    subst hnle hneq
    try simp only at h1 h2 h3 h4
    conv at e0 => lhs; cbv
    conv at e1 => lhs; cbv
    conv at e2 => lhs; cbv
    conv at e3 => lhs; cbv
    conv at e4 => lhs; cbv
    conv at e5 => lhs; cbv
    cbv
    rewrite [e0]
    cbv
    rewrite [h1]
    cbv
    rewrite [e0]
    cbv
    rewrite [e2]
    cbv
    rewrite [e5]
    cbv
    rewrite [e1]
    cbv
    rewrite [e3]
    cbv
    rewrite [h3]
    cbv
    rewrite [e0]
    cbv
    rewrite [e2]
    cbv
    rewrite [e5]
    cbv
    rewrite [e1]
    cbv
    rewrite [e3]
    cbv
    rewrite [h4]
    show _ = _
    kernel_rfl
  ·
    rw [lp_step (envV A) 41 (c0 := bd41) (lv := lvF41) rfl rfl]
    have hnle := hA.nleE; have hneq := hA.neqE
    generalize lpOf (envV A) 41 bd41 = LP
    generalize evl (envV A) = E at e0 e1 e2 e3 e4 e5 h1 h2 h3 h4 ⊢
    obtain ⟨aadd, asub, amul, arem, aquo, awr, ashr, aeq, alt, ale, aseq, aslt, acat, acut, asiz, aat, anle, aneq, afit⟩ := A
    simp only at hnle hneq
    subst hnle hneq
    try simp only at h1 h2 h3 h4
    conv at e0 => lhs; cbv
    conv at e1 => lhs; cbv
    conv at e2 => lhs; cbv
    conv at e3 => lhs; cbv
    conv at e4 => lhs; cbv
    conv at e5 => lhs; cbv
    cbv
    rewrite [e0]
    cbv
    rewrite [h1]
    cbv
    rewrite [e1]
    cbv
    rewrite [e4]
    cbv
    rewrite [e2]
    cbv
    rewrite [e5]
    cbv
    rewrite [e3]
    cbv
    rewrite [h3]
    cbv
    rewrite [e1]
    cbv
    rewrite [e4]
    cbv
    rewrite [e2]
    cbv
    rewrite [e5]
    cbv
    rewrite [e3]
    cbv
    rewrite [h4]
    show _ = _
    kernel_rfl
include hpq in
theorem lp_alike_kd (e0 : ws.length = n) (e1 : lget ws i = some (.agg (wC .imm kd tag key text ats ks))) (e2 : Nat.ble (Nat.succ i) n = true) (e3 : lget us i = some (.agg (wC .imm kd2 tag2 key2 text2 ats2 ks2))) (e4 : us.length = n) (e5 : 0 + i = i) (h1 : A.lt (.ofNat i) (.ofNat n) = true) (h2 : A.add .i64 (.ofNat i) 1 = .ofNat (Nat.succ i))
    (h3 : evl (envV A) (.call 78 [.sl 3 ats .imm, .sl 3 ats2 .imm] []) = some (.ret (.s (.bool true)) [])) (h4 : evl (envV A) (.call 41 [.sl 6 ks .imm, .sl 6 ks2 .imm] []) = some (.ret (.s (.bool true)) [])) (h5 : A.eq kd kd2 = false)
     :
    lpOf (envV A) 41 bd41 4 (stK p q ws us i) = some (.code .ret stK0) := by
  unfold wC at e1 e3
  unfold stK stK0
  rcases hpq with ⟨rfl, rfl⟩ | ⟨rfl, rfl⟩ | ⟨rfl, rfl⟩
  ·
    rw [lp_step (envV A) 41 (c0 := bd41) (lv := lvF41) rfl rfl]
    have hnle := hA.nleE; have hneq := hA.neqE
    generalize lpOf (envV A) 41 bd41 = LP
    generalize evl (envV A) = E at e0 e1 e2 e3 e4 e5 h1 h2 h3 h4 h5 ⊢
    obtain ⟨aadd, asub, amul, arem, aquo, awr, ashr, aeq, alt, ale, aseq, aslt, acat, acut, asiz, aat, anle, aneq, afit⟩ := A
    simp only at hnle hneq
    subst hnle hneq
    try simp only at h1 h2 h3 h4 h5
    conv at e0 => lhs; cbv
    conv at e1 => lhs; cbv
    conv at e2 => lhs; cbv
    conv at e3 => lhs; cbv
    conv at e4 => lhs; cbv
    conv at e5 => lhs; cbv
    cbv
    rewrite [e0]
    cbv
    rewrite [h1]
    cbv
    rewrite [e1]
    cbv
    rewrite [e3]
    cbv
    rewrite [h3]
    cbv
    rewrite [e1]
    cbv
    rewrite [e3]
    cbv
    rewrite [h4]
    cbv
    rewrite [e1]
    cbv
    rewrite [e3]
    cbv
    rewrite [h5]
    cbv
  ·
    rw [lp_step (envV A) 41 (c0 := bd41) (lv := lvF41) rfl rfl]
    have hnle := hA.nleE; have hneq := hA.neqE
    generalize lpOf (envV A) 41 bd41 = LP
    generalize evl (envV A) = E at e0 e1 e2 e3 e4 e5 h1 h2 h3 h4 h5 ⊢
    obtain ⟨aadd, asub, amul, arem, aquo, awr, ashr, aeq, alt, ale, aseq, aslt, acat, acut, asiz, aat, anle, aneq, afit⟩ := A
    simp only at hnle hneq
    subst hnle hneq
    try simp only at h1 h2 h3 h4 h5
    conv at e0 => lhs; cbv
    conv at e1 => lhs; cbv
    conv at e2 => lhs; cbv
    conv at e3 => lhs; cbv
    conv at e4 => lhs; cbv
    conv at e5 => lhs; cbv
    cbv
    rewrite [e0]
    cbv
    rewrite [h1]
    cbv
    rewrite [e0]
    cbv
    rewrite [e2]
    cbv
    rewrite [e5]
    cbv
    rewrite [e1]
    cbv
    rewrite [e3]
    cbv
    rewrite [h3]
    cbv
    rewrite [e0]
    cbv
    rewrite [e2]
    cbv
    rewrite [e5]
    cbv
    rewrite [e1]
    cbv
    rewrite [e3]
    cbv
    rewrite [h4]
    cbv
    rewrite [e0]
    cbv
    rewrite [e2]
    cbv
    rewrite [e5]
    cbv
    rewrite [e1]
    cbv
    rewrite [e3]
    cbv
    rewrite [h5]
    cbv
  ·
    rw [lp_step (envV A) 41 (c0 := bd41) (lv := lvF41) rfl rfl]
    have hnle := hA.nleE; have hneq := hA.neqE
    generalize lpOf (envV A) 41 bd41 = LP
    generalize evl (envV A) = E at e0 e1 e2 e3 e4 e5 h1 h2 h3 h4 h5 ⊢
    obtain ⟨aadd, asub, amul, arem, aquo, awr, ashr, aeq, alt, ale, aseq, aslt, acat, acut, asiz, aat, anle, aneq, afit⟩ := A
    simp only at hnle hneq
    subst hnle hneq
    try simp only at h1 h2 h3 h4 h5
    conv at e0 => lhs; cbv
    conv at e1 => lhs; cbv
    conv at e2 => lhs; cbv
    conv at e3 => lhs; cbv
    conv at e4 => lhs; cbv
    conv at e5 => lhs; cbv
    cbv
    rewrite [e0]
    cbv
    rewrite [h1]
    cbv
    rewrite [e1]
    cbv
    rewrite [e4]
    cbv
    rewrite [e2]
    cbv
    rewrite [e5]
    cbv
    rewrite [e3]
    cbv
    rewrite [h3]
    cbv
    rewrite [e1]
    cbv
    rewrite [e4]
    cbv
    rewrite [e2]
    cbv
    rewrite [e5]
    cbv
    rewrite [e3]
    cbv
    rewrite [h4]
    cbv
    rewrite [e1]
    cbv
    rewrite [e4]
    cbv
    rewrite [e2]
    cbv
    rewrite [e5]
    cbv
    rewrite [e3]
    cbv
    rewrite [h5]
    cbv
include hpq in
theorem lp_alike_tag (e0 : ws.length = n) (e1 : lget ws i = some (.agg (wC .imm kd tag key text ats ks))) (e2 : Nat.ble (Nat.succ i) n = true) (e3 : lget us i = some (.agg (wC .imm kd2 tag2 key2 text2 ats2 ks2))) (e4 : us.length = n) (e5 : 0 + i = i) (h1 : A.lt (.ofNat i) (.ofNat n) = true) (h2 : A.add .i64 (.ofNat i) 1 = .ofNat (Nat.succ i))
    (h3 : evl (envV A) (.call 78 [.sl 3 ats .imm, .sl 3 ats2 .imm] []) = some (.ret (.s (.bool true)) [])) (h4 : evl (envV A) (.call 41 [.sl 6 ks .imm, .sl 6 ks2 .imm] []) = some (.ret (.s (.bool true)) [])) (h5 : A.eq kd kd2 = true) (h6 : A.seq tag tag2 = false)
     :
    lpOf (envV A) 41 bd41 4 (stK p q ws us i) = some (.code .ret stK0) := by
  unfold wC at e1 e3
  unfold stK stK0
  rcases hpq with ⟨rfl, rfl⟩ | ⟨rfl, rfl⟩ | ⟨rfl, rfl⟩
  ·
    rw [lp_step (envV A) 41 (c0 := bd41) (lv := lvF41) rfl rfl]
    have hnle := hA.nleE; have hneq := hA.neqE
    generalize lpOf (envV A) 41 bd41 = LP
    generalize evl (envV A) = E at e0 e1 e2 e3 e4 e5 h1 h2 h3 h4 h5 h6 ⊢
    obtain ⟨aadd, asub, amul, arem, aquo, awr, ashr, aeq, alt, ale, aseq, aslt, acat, acut, asiz, aat, anle, aneq, afit⟩ := A
    simp only at hnle hneq
    subst hnle hneq
    try simp only at h1 h2 h3 h4 h5 h6
    conv at e0 => lhs; cbv
    conv at e1 => lhs; cbv
    conv at e2 => lhs; cbv
    conv at e3 => lhs; cbv
    conv at e4 => lhs; cbv
    conv at e5 => lhs; cbv
    cbv
    rewrite [e0]
    cbv
    rewrite [h1]
    cbv
    rewrite [e1]
    cbv
    rewrite [e3]
    cbv
    rewrite [h3]
    cbv
    rewrite [e1]
    cbv
    rewrite [e3]
    cbv
    rewrite [h4]
    cbv
    rewrite [e1]
    cbv
    rewrite [e3]
    cbv
    rewrite [h5]
    cbv
    rewrite [e1]
    cbv
    rewrite [e3]
    cbv
    rewrite [h6]
    cbv
  ·
    rw [lp_step (envV A) 41 (c0 := bd41) (lv := lvF41) rfl rfl]
    have hnle := hA.nleE; have hneq := hA.neqE
    generalize lpOf (envV A) 41 bd41 = LP
    generalize evl (envV A) = E at e0 e1 e2 e3 e4 e5 h1 h2 h3 h4 h5 h6 ⊢
    obtain ⟨aadd, asub, amul, arem, aquo, awr, ashr, aeq, alt, ale, aseq, aslt, acat, acut, asiz, aat, anle, aneq, afit⟩ := A
    simp only at hnle hneq
    subst hnle hneq
    try simp only at h1 h2 h3 h4 h5 h6
    conv at e0 => lhs; cbv
    conv at e1 => lhs; cbv
    conv at e2 => lhs; cbv
    conv at e3 => lhs; cbv
    conv at e4 => lhs; cbv
    conv at e5 => lhs; cbv
    cbv
    rewrite [e0]
    cbv
    rewrite [h1]
    cbv
    rewrite [e0]
    cbv
    rewrite [e2]
    cbv
    rewrite [e5]
    cbv
    rewrite [e1]
    cbv
    rewrite [e3]
    cbv
    rewrite [h3]
    cbv
    rewrite [e0]
    cbv
    rewrite [e2]
    cbv
    rewrite [e5]
    cbv
    rewrite [e1]
    cbv
    rewrite [e3]
    cbv
    rewrite [h4]
    cbv
    rewrite [e0]
    cbv
    rewrite [e2]
    cbv
    rewrite [e5]
    cbv
    rewrite [e1]
    cbv
    rewrite [e3]
    cbv
    rewrite [h5]
    cbv
    rewrite [e0]
    cbv
    rewrite [e2]
    cbv
    rewrite [e5]
    cbv
    rewrite [e1]
    cbv
    rewrite [e3]
    cbv
    rewrite [h6]
    cbv
  ·
    rw [lp_step (envV A) 41 (c0 := bd41) (lv := lvF41) rfl rfl]
    have hnle := hA.nleE; have hneq := hA.neqE
    generalize lpOf (envV A) 41 bd41 = LP
    generalize evl (envV A) = E at e0 e1 e2 e3 e4 e5 h1 h2 h3 h4 h5 h6 ⊢
    obtain ⟨aadd, asub, amul, arem, aquo, awr, ashr, aeq, alt, ale, aseq, aslt, acat, acut, asiz, aat, anle, aneq, afit⟩ := A
    simp only at hnle hneq
    subst hnle hneq
    try simp only at h1 h2 h3 h4 h5 h6
    conv at e0 => lhs; cbv
    conv at e1 => lhs; cbv
    conv at e2 => lhs; cbv
    conv at e3 => lhs; cbv
    conv at e4 => lhs; cbv
    conv at e5 => lhs; cbv
    cbv
    rewrite [e0]
    cbv
    rewrite [h1]
    cbv
    rewrite [e1]
    cbv
    rewrite [e4]
    cbv
    rewrite [e2]
    cbv
    rewrite [e5]
    cbv
    rewrite [e3]
    cbv
    rewrite [h3]
    cbv
    rewrite [e1]
    cbv
    rewrite [e4]
    cbv
    rewrite [e2]
    cbv
    rewrite [e5]
    cbv
    rewrite [e3]
    cbv
    rewrite [h4]
    cbv
    rewrite [e1]
    cbv
    rewrite [e4]
    cbv
    rewrite [e2]
    cbv
    rewrite [e5]
    cbv
    rewrite [e3]
    cbv
    rewrite [h5]
    cbv
    rewrite [e1]
    cbv
    rewrite [e4]
    cbv
    rewrite [e2]
    cbv
    rewrite [e5]
    cbv
    rewrite [e3]
    cbv
    rewrite [h6]
    cbv
include hpq in
theorem lp_alike_key (e0 : ws.length = n) (e1 : lget ws i = some (.agg (wC .imm kd tag key text ats ks))) (e2 : Nat.ble (Nat.succ i) n = true) (e3 : lget us i = some (.agg (wC .imm kd2 tag2 key2 text2 ats2 ks2))) (e4 : us.length = n) (e5 : 0 + i = i) (h1 : A.lt (.ofNat i) (.ofNat n) = true) (h2 : A.add .i64 (.ofNat i) 1 = .ofNat (Nat.succ i))
    (h3 : evl (envV A) (.call 78 [.sl 3 ats .imm, .sl 3 ats2 .imm] []) = some (.ret (.s (.bool true)) [])) (h4 : evl (envV A) (.call 41 [.sl 6 ks .imm, .sl 6 ks2 .imm] []) = some (.ret (.s (.bool true)) [])) (h5 : A.eq kd kd2 = true) (h6 : A.seq tag tag2 = true) (h7 : A.seq key key2 = false)
     :
    lpOf (envV A) 41 bd41 4 (stK p q ws us i) = some (.code .ret stK0) := by
  unfold wC at e1 e3
  unfold stK stK0
  rcases hpq with ⟨rfl, rfl⟩ | ⟨rfl, rfl⟩ | ⟨rfl, rfl⟩
  ·
    rw [lp_step (envV A) 41 (c0 := bd41) (lv := lvF41) rfl rfl]
    have hnle := hA.nleE; have hneq := hA.neqE
    generalize lpOf (envV A) 41 bd41 = LP
    generalize evl (envV A) = E at e0 e1 e2 e3 e4 e5 h1 h2 h3 h4 h5 h6 h7 ⊢
    obtain ⟨aadd, asub, amul, arem, aquo, awr, ashr, aeq, alt, ale, aseq, aslt, acat, acut, asiz, aat, anle, aneq, afit⟩ := A
    simp only at hnle hneq
    subst hnle hneq
    try simp only at h1 h2 h3 h4 h5 h6 h7
    conv at e0 => lhs; cbv
    conv at e1 => lhs; cbv
    conv at e2 => lhs; cbv
    conv at e3 => lhs; cbv
    conv at e4 => lhs; cbv
    conv at e5 => lhs; cbv
    cbv
    rewrite [e0]
    cbv
    rewrite [h1]
    cbv
    rewrite [e1]
    cbv
    rewrite [e3]
    cbv
    rewrite [h3]
    cbv
    rewrite [e1]
    cbv
    rewrite [e3]
    cbv
    rewrite [h4]
    cbv
    rewrite [e1]
    cbv
    rewrite [e3]
    cbv
    rewrite [h5]
    cbv
    rewrite [e1]
    cbv
    rewrite [e3]
    cbv
    rewrite [h6]
    cbv
    rewrite [e1]
    cbv
    rewrite [e3]
    cbv
    rewrite [h7]
    cbv
  ·
    rw [lp_step (envV A) 41 (c0 := bd41) (lv := lvF41) rfl rfl]
    have hnle := hA.nleE; have hneq := hA.neqE
    generalize lpOf (envV A) 41 bd41 = LP
    generalize evl (envV A) = E at e0 e1 e2 e3 e4 e5 h1 h2 h3 h4 h5 h6 h7 ⊢
    obtain ⟨aadd, asub, amul, arem, aquo, awr, ashr, aeq, alt, ale, aseq, aslt, acat, acut, asiz, aat, anle, aneq, afit⟩ := A
    simp only at hnle hneq
    subst hnle hneq
    try simp only at h1 h2 h3 h4 h5 h6 h7
    conv at e0 => lhs; cbv
    conv at e1 => lhs; cbv
    conv at e2 => lhs; cbv
    conv at e3 => lhs; cbv
    conv at e4 => lhs; cbv
    conv at e5 => lhs; cbv
    cbv
    rewrite [e0]
    cbv
    rewrite [h1]
    cbv
    rewrite [e0]
    cbv
    rewrite [e2]
    cbv
    rewrite [e5]
    cbv
    rewrite [e1]
    cbv
    rewrite [e3]
    cbv
    rewrite [h3]
    cbv
    rewrite [e0]
    cbv
    rewrite [e2]
    cbv
    rewrite [e5]
    cbv
    rewrite [e1]
    cbv
    rewrite [e3]
    cbv
    rewrite [h4]
    cbv
    rewrite [e0]
    cbv
    rewrite [e2]
    cbv
    rewrite [e5]
    cbv
    rewrite [e1]
    cbv
    rewrite [e3]
    cbv
    rewrite [h5]
    cbv
    rewrite [e0]
    cbv
    rewrite [e2]
    cbv
    rewrite [e5]
    cbv
    rewrite [e1]
    cbv
    rewrite [e3]
    cbv
    rewrite [h6]
    cbv
    rewrite [e0]
    cbv
    rewrite [e2]
    cbv
    rewrite [e5]
    cbv
    rewrite [e1]
    cbv
    rewrite [e3]
    cbv
    rewrite [h7]
    cbv
  ·
    rw [lp_step (envV A) 41 (c0 := bd41) (lv := lvF41) rfl rfl]
    have hnle := hA.nleE; have hneq := hA.neqE
    generalize lpOf (envV A) 41 bd41 = LP
    generalize evl (envV A) = E at e0 e1 e2 e3 e4 e5 h1 h2 h3 h4 h5 h6 h7 ⊢
    obtain ⟨aadd, asub, amul, arem, aquo, awr, ashr, aeq, alt, ale, aseq, aslt, acat, acut, asiz, aat, anle, aneq, afit⟩ := A
    simp only at hnle hneq
    subst hnle hneq
    try simp only at h1 h2 h3 h4 h5 h6 h7
    conv at e0 => lhs; cbv
    conv at e1 => lhs; cbv
    conv at e2 => lhs; cbv
    conv at e3 => lhs; cbv
    conv at e4 => lhs; cbv
    conv at e5 => lhs; cbv
    cbv
    rewrite [e0]
    cbv
    rewrite [h1]
    cbv
    rewrite [e1]
    cbv
    rewrite [e4]
    cbv
    rewrite [e2]
    cbv
    rewrite [e5]
    cbv
    rewrite [e3]
    cbv
    rewrite [h3]
    cbv
    rewrite [e1]
    cbv
    rewrite [e4]
    cbv
    rewrite [e2]
    cbv
    rewrite [e5]
    cbv
    rewrite [e3]
    cbv
    rewrite [h4]
    cbv
    rewrite [e1]
    cbv
    rewrite [e4]
    cbv
    rewrite [e2]
    cbv
    rewrite [e5]
    cbv
    rewrite [e3]
    cbv
    rewrite [h5]
    cbv
    rewrite [e1]
    cbv
    rewrite [e4]
    cbv
    rewrite [e2]
    cbv
    rewrite [e5]
    cbv
    rewrite [e3]
    cbv
    rewrite [h6]
    cbv
    rewrite [e1]
    cbv
    rewrite [e4]
    cbv
    rewrite [e2]
    cbv
    rewrite [e5]
    cbv
    rewrite [e3]
    cbv
    rewrite [h7]
    cbv
include hpq in
theorem lp_alike_text (e0 : ws.length = n) (e1 : lget ws i = some (.agg (wC .imm kd tag key text ats ks))) (e2 : Nat.ble (Nat.succ i) n = true) (e3 : lget us i = some (.agg (wC .imm kd2 tag2 key2 text2 ats2 ks2))) (e4 : us.length = n) (e5 : 0 + i = i) (h1 : A.lt (.ofNat i) (.ofNat n) = true) (h2 : A.add .i64 (.ofNat i) 1 = .ofNat (Nat.succ i))
    (h3 : evl (envV A) (.call 78 [.sl 3 ats .imm, .sl 3 ats2 .imm] []) = some (.ret (.s (.bool true)) [])) (h4 : evl (envV A) (.call 41 [.sl 6 ks .imm, .sl 6 ks2 .imm] []) = some (.ret (.s (.bool true)) [])) (h5 : A.eq kd kd2 = true) (h6 : A.seq tag tag2 = true) (h7 : A.seq key key2 = true) (h8 : A.seq text text2 = false)
     :
    lpOf (envV A) 41 bd41 4 (stK p q ws us i) = some (.code .ret stK0) := by
  unfold wC at e1 e3
  unfold stK stK0
  rcases hpq with ⟨rfl, rfl⟩ | ⟨rfl, rfl⟩ | ⟨rfl, rfl⟩
  ·
    rw [lp_step (envV A) 41 (c0 := bd41) (lv := lvF41) rfl rfl]
    have hnle := hA.nleE; have hneq := hA.neqE
    generalize lpOf (envV A) 41 bd41 = LP
    generalize evl (envV A) = E at e0 e1 e2 e3 e4 e5 h1 h2 h3 h4 h5 h6 h7 h8 ⊢
    obtain ⟨aadd, asub, amul, arem, aquo, awr, ashr, aeq, alt, ale, aseq, aslt, acat, acut, asiz, aat, anle, aneq, afit⟩ := A
    simp only at hnle hneq
    subst hnle hneq
    try simp only at h1 h2 h3 h4 h5 h6 h7 h8
    conv at e0 => lhs; cbv
    conv at e1 => lhs; cbv
    conv at e2 => lhs; cbv
    conv at e3 => lhs; cbv
    conv at e4 => lhs; cbv
    conv at e5 => lhs; cbv
    cbv
    rewrite [e0]
    cbv
    rewrite [h1]
    cbv
    rewrite [e1]
    cbv
    rewrite [e3]
    cbv
    rewrite [h3]
    cbv
    rewrite [e1]
    cbv
    rewrite [e3]
    cbv
    rewrite [h4]
    cbv
    rewrite [e1]
    cbv
    rewrite [e3]
    cbv
    rewrite [h5]
    cbv
    rewrite [e1]
    cbv
    rewrite [e3]
    cbv
    rewrite [h6]
    cbv
    rewrite [e1]
    cbv
    rewrite [e3]
    cbv
    rewrite [h7]
    cbv
    rewrite [e1]
    cbv
    rewrite [e3]
    cbv
    rewrite [h8]
    cbv
  ·
    rw [lp_step (envV A) 41 (c0 := bd41) (lv := lvF41) rfl rfl]
    have hnle := hA.nleE; have hneq := hA.neqE
    generalize lpOf (envV A) 41 bd41 = LP
    generalize evl (envV A) = E at e0 e1 e2 e3 e4 e5 h1 h2 h3 h4 h5 h6 h7 h8 ⊢
    obtain ⟨aadd, asub, amul, arem, aquo, awr, ashr, aeq, alt, ale, aseq, aslt, acat, acut, asiz, aat, anle, aneq, afit⟩ := A
    simp only at hnle hneq
    subst hnle hneq
    try simp only at h1 h2 h3 h4 h5 h6 h7 h8
    conv at e0 => lhs; cbv
    conv at e1 => lhs; cbv
    conv at e2 => lhs; cbv
    conv at e3 => lhs; cbv
    conv at e4 => lhs; cbv
    conv at e5 => lhs; cbv
    cbv
    rewrite [e0]
    cbv
    rewrite [h1]
    cbv
    rewrite [e0]
    cbv
    rewrite [e2]
    cbv
    rewrite [e5]
    cbv
    rewrite [e1]
    cbv
    rewrite [e3]
    cbv
    rewrite [h3]
    cbv
    rewrite [e0]
    cbv
    rewrite [e2]
    cbv
    rewrite [e5]
    cbv
    rewrite [e1]
    cbv
    rewrite [e3]
    cbv
    rewrite [h4]
    cbv
    rewrite [e0]
    cbv
    rewrite [e2]
    cbv
    rewrite [e5]
    cbv
    rewrite [e1]
    cbv
    rewrite [e3]
    cbv
    rewrite [h5]
    cbv
    rewrite [e0]
    cbv
    rewrite [e2]
    cbv
    rewrite [e5]
    cbv
    rewrite [e1]
    cbv
    rewrite [e3]
    cbv
    rewrite [h6]
    cbv
    rewrite [e0]
    cbv
    rewrite [e2]
    cbv
    rewrite [e5]
    cbv
    rewrite [e1]
    cbv
    rewrite [e3]
    cbv
    rewrite [h7]
    cbv
    rewrite [e0]
    cbv
    rewrite [e2]
    cbv
    rewrite [e5]
    cbv
    rewrite [e1]
    cbv
    rewrite [e3]
    cbv
    rewrite [h8]
    cbv
  ·
    rw [lp_step (envV A) 41 (c0 := bd41) (lv := lvF41) rfl rfl]
    have hnle := hA.nleE; have hneq := hA.neqE
    generalize lpOf (envV A) 41 bd41 = LP
    generalize evl (envV A) = E at e0 e1 e2 e3 e4 e5 h1 h2 h3 h4 h5 h6 h7 h8 ⊢
    obtain ⟨aadd, asub, amul, arem, aquo, awr, ashr, aeq, alt, ale, aseq, aslt, acat, acut, asiz, aat, anle, aneq, afit⟩ := A
    simp only at hnle hneq
    subst hnle hneq
    try simp only at h1 h2 h3 h4 h5 h6 h7 h8
    conv at e0 => lhs; cbv
    conv at e1 => lhs; cbv
    conv at e2 => lhs; cbv
    conv at e3 => lhs; cbv
    conv at e4 => lhs; cbv
    conv at e5 => lhs; cbv
    cbv
    rewrite [e0]
    cbv
    rewrite [h1]
    cbv
    rewrite [e1]
    cbv
    rewrite [e4]
    cbv
    rewrite [e2]
    cbv
    rewrite [e5]
    cbv
    rewrite [e3]
    cbv
    rewrite [h3]
    cbv
    rewrite [e1]
    cbv
    rewrite [e4]
    cbv
    rewrite [e2]
    cbv
    rewrite [e5]
    cbv
    rewrite [e3]
    cbv
    rewrite [h4]
    cbv
    rewrite [e1]
    cbv
    rewrite [e4]
    cbv
    rewrite [e2]
    cbv
    rewrite [e5]
    cbv
    rewrite [e3]
    cbv
    rewrite [h5]
    cbv
    rewrite [e1]
    cbv
    rewrite [e4]
    cbv
    rewrite [e2]
    cbv
    rewrite [e5]
    cbv
    rewrite [e3]
    cbv
    rewrite [h6]
    cbv
    rewrite [e1]
    cbv
    rewrite [e4]
    cbv
    rewrite [e2]
    cbv
    rewrite [e5]
    cbv
    rewrite [e3]
    cbv
    rewrite [h7]
    cbv
    rewrite [e1]
    cbv
    rewrite [e4]
    cbv
    rewrite [e2]
    cbv
    rewrite [e5]
    cbv
    rewrite [e3]
    cbv
    rewrite [h8]
    cbv
include hpq in
theorem lp_alike_on {r : Option Res} (e0 : ws.length = n) (e1 : lget ws i = some (.agg (wC .imm kd tag key text ats ks))) (e2 : Nat.ble (Nat.succ i) n = true) (e3 : lget us i = some (.agg (wC .imm kd2 tag2 key2 text2 ats2 ks2))) (e4 : us.length = n) (e5 : 0 + i = i) (h1 : A.lt (.ofNat i) (.ofNat n) = true) (h2 : A.add .i64 (.ofNat i) 1 = .ofNat (Nat.succ i))
    (h3 : evl (envV A) (.call 78 [.sl 3 ats .imm, .sl 3 ats2 .imm] []) = some (.ret (.s (.bool true)) [])) (h4 : evl (envV A) (.call 41 [.sl 6 ks .imm, .sl 6 ks2 .imm] []) = some (.ret (.s (.bool true)) [])) (h5 : A.eq kd kd2 = true) (h6 : A.seq tag tag2 = true) (h7 : A.seq key key2 = true) (h8 : A.seq text text2 = true)
    (hr : lpOf (envV A) 41 bd41 4 (stK p q ws us (Nat.succ i)) = r) :
    lpOf (envV A) 41 bd41 4 (stK p q ws us i) = r := by
  unfold wC at e1 e3
  unfold stK at hr ⊢
  rcases hpq with ⟨rfl, rfl⟩ | ⟨rfl, rfl⟩ | ⟨rfl, rfl⟩
  ·
    rw [lp_step (envV A) 41 (c0 := bd41) (lv := lvF41) rfl rfl]
    have hnle := hA.nleE; have hneq := hA.neqE
    rw [lp_split (lpOf (envV A) 41 bd41) 4]
    generalize lpOf (envV A) 41 bd41 4 = L4 at e0 e1 e2 e3 e4 e5 h1 h2 h3 h4 h5 h6 h7 h8 hr ⊢
    generalize lpOf (envV A) 41 bd41 = LP
    generalize evl (envV A) = E at e0 e1 e2 e3 e4 e5 h1 h2 h3 h4 h5 h6 h7 h8 hr ⊢
    obtain ⟨aadd, asub, amul, arem, aquo, awr, ashr, aeq, alt, ale, aseq, aslt, acat, acut, asiz, aat, anle, aneq, afit⟩ := A
    simp only at hnle hneq
    subst hnle hneq
    try simp only at h1 h2 h3 h4 h5 h6 h7 h8 hr
    conv at e0 => lhs; cbv
    conv at e1 => lhs; cbv
    conv at e2 => lhs; cbv
    conv at e3 => lhs; cbv
    conv at e4 => lhs; cbv
    conv at e5 => lhs; cbv
    cbv
    rewrite [e0]
    cbv
    rewrite [h1]
    cbv
    rewrite [e1]
    cbv
    rewrite [e3]
    cbv
    rewrite [h3]
    cbv
    rewrite [e1]
    cbv
    rewrite [e3]
    cbv
    rewrite [h4]
    cbv
    rewrite [e1]
    cbv
    rewrite [e3]
    cbv
    rewrite [h5]
    cbv
    rewrite [e1]
    cbv
    rewrite [e3]
    cbv
    rewrite [h6]
    cbv
    rewrite [e1]
    cbv
    rewrite [e3]
    cbv
    rewrite [h7]
    cbv
    rewrite [e1]
    cbv
    rewrite [e3]
    cbv
    rewrite [h8]
    cbv
    rewrite [h2]
    cbv
    rewrite [hr]
    cbv
  ·
    rw [lp_step (envV A) 41 (c0 := bd41) (lv := lvF41) rfl rfl]
    have hnle := hA.nleE; have hneq := hA.neqE
    rw [lp_split (lpOf (envV A) 41 bd41) 4]
    generalize lpOf (envV A) 41 bd41 4 = L4 at e0 e1 e2 e3 e4 e5 h1 h2 h3 h4 h5 h6 h7 h8 hr ⊢
    generalize lpOf (envV A) 41 bd41 = LP
    generalize evl (envV A) = E at e0 e1 e2 e3 e4 e5 h1 h2 h3 h4 h5 h6 h7 h8 hr ⊢
    obtain ⟨aadd, asub, amul, arem, aquo, awr, ashr, aeq, alt, ale, aseq, aslt, acat, acut, asiz, aat, anle, aneq, afit⟩ := A
    simp only at hnle hneq
    subst hnle hneq
    try simp only at h1 h2 h3 h4 h5 h6 h7 h8 hr
    conv at e0 => lhs; cbv
    conv at e1 => lhs; cbv
    conv at e2 => lhs; cbv
    conv at e3 => lhs; cbv
    conv at e4 => lhs; cbv
    conv at e5 => lhs; cbv
    cbv
    rewrite [e0]
    cbv
    rewrite [h1]
    cbv
    rewrite [e0]
    cbv
    rewrite [e2]
    cbv
    rewrite [e5]
    cbv
    rewrite [e1]
    cbv
    rewrite [e3]
    cbv
    rewrite [h3]
    cbv
    rewrite [e0]
    cbv
    rewrite [e2]
    cbv
    rewrite [e5]
    cbv
    rewrite [e1]
    cbv
    rewrite [e3]
    cbv
    rewrite [h4]
    cbv
    rewrite [e0]
    cbv
    rewrite [e2]
    cbv
    rewrite [e5]
    cbv
    rewrite [e1]
    cbv
    rewrite [e3]
    cbv
    rewrite [h5]
    cbv
    rewrite [e0]
    cbv
    rewrite [e2]
    cbv
    rewrite [e5]
    cbv
    rewrite [e1]
    cbv
    rewrite [e3]
    cbv
    rewrite [h6]
    cbv
    rewrite [e0]
    cbv
    rewrite [e2]
    cbv
    rewrite [e5]
    cbv
    rewrite [e1]
    cbv
    rewrite [e3]
    cbv
    rewrite [h7]
    cbv
    rewrite [e0]
    cbv
    rewrite [e2]
    cbv
    rewrite [e5]
    cbv
    rewrite [e1]
    cbv
    rewrite [e3]
    cbv
    rewrite [h8]
    cbv
    rewrite [h2]
    cbv
    rewrite [hr]
    cbv
  ·
    rw [lp_step (envV A) 41 (c0 := bd41) (lv := lvF41) rfl rfl]
    have hnle := hA.nleE; have hneq := hA.neqE
    rw [lp_split (lpOf (envV A) 41 bd41) 4]
    generalize lpOf (envV A) 41 bd41 4 = L4 at e0 e1 e2 e3 e4 e5 h1 h2 h3 h4 h5 h6 h7 h8 hr ⊢
    generalize lpOf (envV A) 41 bd41 = LP
    generalize evl (envV A) = E at e0 e1 e2 e3 e4 e5 h1 h2 h3 h4 h5 h6 h7 h8 hr ⊢
    obtain ⟨aadd, asub, amul, arem, aquo, awr, ashr, aeq, alt, ale, aseq, aslt, acat, acut, asiz, aat, anle, aneq, afit⟩ := A
    simp only at hnle hneq
    subst hnle hneq
    try simp only at h1 h2 h3 h4 h5 h6 h7 h8 hr
    conv at e0 => lhs; cbv
    conv at e1 => lhs; cbv
    conv at e2 => lhs; cbv
    conv at e3 => lhs; cbv
    conv at e4 => lhs; cbv
    conv at e5 => lhs; cbv
    cbv
    rewrite [e0]
    cbv
    rewrite [h1]
    cbv
    rewrite [e1]
    cbv
    rewrite [e4]
    cbv
    rewrite [e2]
    cbv
    rewrite [e5]
    cbv
    rewrite [e3]
    cbv
    rewrite [h3]
    cbv
    rewrite [e1]
    cbv
    rewrite [e4]
    cbv
    rewrite [e2]
    cbv
    rewrite [e5]
    cbv
    rewrite [e3]
    cbv
    rewrite [h4]
    cbv
    rewrite [e1]
    cbv
    rewrite [e4]
    cbv
    rewrite [e2]
    cbv
    rewrite [e5]
    cbv
    rewrite [e3]
    cbv
    rewrite [h5]
    cbv
    rewrite [e1]
    cbv
    rewrite [e4]
    cbv
    rewrite [e2]
    cbv
    rewrite [e5]
    cbv
    rewrite [e3]
    cbv
    rewrite [h6]
    cbv
    rewrite [e1]
    cbv
    rewrite [e4]
    cbv
    rewrite [e2]
    cbv
    rewrite [e5]
    cbv
    rewrite [e3]
    cbv
    rewrite [h7]
    cbv
    rewrite [e1]
    cbv
    rewrite [e4]
    cbv
    rewrite [e2]
    cbv
    rewrite [e5]
    cbv
    rewrite [e3]
    cbv
    rewrite [h8]
    cbv
    rewrite [h2]
    cbv
    rewrite [hr]
    cbv
end
end Go.Va
