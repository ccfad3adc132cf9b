/- The functions that the statement reaches, by equations: no statement of its own. -/
import Derived.Test.YtmklimlepgiffabEq6
set_option linter.unusedVariables false
set_option linter.unusedSimpArgs false
set_option linter.unusedSectionVars false
namespace Go.Va
open Go.Proofs
set_option maxRecDepth 100000
set_option maxHeartbeats 4000000
abbrev trC (tag text key : ByteArray) (vs ks : List AV) : List AV := [.s (.string tag), .s (.string text), .s (.string key), .sl 3 vs .imm, .sl 5 ks .imm]
section
variable (A : Ar) (hA : ArOk A) (tag text key : ByteArray) (vs ks : List AV) (n m i : Nat) (tag2 text2 key2 : ByteArray) (vs2 ks2 : List AV)
include hA
/-! Count -/
theorem lp_tree_Count (c d e : Nat) {r : Option Res} (e0 : ks.length = n) (e1 : lget ks i = some (.agg (trC tag text key vs ks2))) (e2 : Nat.ble (Nat.succ i) n = true) (h1 : A.lt (.ofNat i) (.ofNat n) = true) (h2 : A.add .i64 (.ofNat i) 1 = .ofNat (Nat.succ i))
    (h3 : evl (envV A) (.call 29 [.agg (trC tag text key vs ks2)] []) = some (.ret (.s (.int .i64 (.ofNat d))) [])) (h4 : A.add .i64 (.ofNat c) (.ofNat d) = .ofNat e)
    (hr : lpOf (envV A) 29 bd29 3 { n := 19, k := 0, fr := [(3, .s (.int .i64 (.ofNat e))), (7, .sl 5 ks .imm), (8, .s (.int .i64 (.ofNat n))), (9, .s (.int .i64 (.ofNat (Nat.succ i))))], O := [] } = r) :
    lpOf (envV A) 29 bd29 3 { n := 19, k := 0, fr := [(3, .s (.int .i64 (.ofNat c))), (7, .sl 5 ks .imm), (8, .s (.int .i64 (.ofNat n))), (9, .s (.int .i64 (.ofNat i)))], O := [] } = r := by
  unfold trC at e1 h3
  rw [lp_step (envV A) 29 (c0 := bd29) (lv := lvF29) rfl rfl]
  have hnle := hA.nleE; have hneq := hA.neqE
  have klt := hA.lt; have kle := hA.le; have keq := hA.eq; have knle := hA.nle; have kneq := hA.neq
  rw [lp_split (lpOf (envV A) 29 bd29) 3]
  generalize lpOf (envV A) 29 bd29 3 = L3 at e0 e1 e2 h1 h2 h3 h4 hr ⊢
  generalize lpOf (envV A) 29 bd29 = LP
  generalize evl (envV A) = E at e0 e1 e2 h1 h2 h3 h4 hr ⊢
  obtain ⟨aadd, asub, amul, arem, aquo, awr, ashr, aeq, alt, ale, aseq, aslt, acat, acut, asiz, aat, anle, aneq, afit⟩ := A
  simp only at hnle hneq
  subst hnle hneq
  simp only at klt kle keq knle kneq
  try simp only at h1 h2 h3 h4 hr
  conv at e0 => lhs; cbv
  conv at e1 => lhs; cbv
  conv at e2 => lhs; cbv
  cbv
  rewrite [h1]
  cbv
  rewrite [e1]
  cbv
  rewrite [h3]
  cbv
  rewrite [h2]
  cbv
  rewrite [h4]
  cbv
  rewrite [hr]
  cbv
theorem lp_tree_Count_end (c : Nat) (h1 : A.lt (.ofNat i) (.ofNat n) = false) :
    lpOf (envV A) 29 bd29 3 { n := 19, k := 0, fr := [(3, .s (.int .i64 (.ofNat c))), (7, .sl 5 ks .imm), (8, .s (.int .i64 (.ofNat n))), (9, .s (.int .i64 (.ofNat i)))], O := [] } = some (.code (.exit 0) { n := 19, k := 0, fr := [(3, .s (.int .i64 (.ofNat c))), (7, .sl 5 ks .imm), (8, .s (.int .i64 (.ofNat n))), (9, .s (.int .i64 (.ofNat i))), (10, .s (.bool false))], O := [] }) := by
  rw [lp_step (envV A) 29 (c0 := bd29) (lv := lvF29) rfl rfl]
  have hnle := hA.nleE; have hneq := hA.neqE
  have klt := hA.lt; have kle := hA.le; have keq := hA.eq; have knle := hA.nle; have kneq := hA.neq
  generalize lpOf (envV A) 29 bd29 = LP
  generalize evl (envV A) = E at h1 ⊢
  obtain ⟨aadd, asub, amul, arem, aquo, awr, ashr, aeq, alt, ale, aseq, aslt, acat, acut, asiz, aat, anle, aneq, afit⟩ := A
  simp only at hnle hneq
  subst hnle hneq
  simp only at klt kle keq knle kneq
  try simp only at h1
  cbv
  rewrite [h1]
  cbv
theorem eq_tree_Count (c : Nat) (e0 : ks.length = n) (h1 : lpOf (envV A) 29 bd29 3 { n := 19, k := 0, fr := [(3, .s (.int .i64 1)), (7, .sl 5 ks .imm), (8, .s (.int .i64 (.ofNat n))), (9, .s (.int .i64 0))], O := [] } = some (.code (.exit 0) { n := 19, k := 0, fr := [(3, .s (.int .i64 (.ofNat c))), (7, .sl 5 ks .imm), (8, .s (.int .i64 (.ofNat n))), (9, .s (.int .i64 (.ofNat n))), (10, .s (.bool false))], O := [] })) :
    evl (envV A) (.call 29 [.agg (trC tag text key vs ks)] []) = some (.ret (.s (.int .i64 (.ofNat c))) []) := by
  unfold trC
  rw [evl_fn (envV A) 29 _ _ (fn := Try.f29) (c := bd29) (lv := lvF29) rfl rfl rfl rfl rfl rfl]
  have hnle := hA.nleE; have hneq := hA.neqE
  have klt := hA.lt; have kle := hA.le; have keq := hA.eq; have knle := hA.nle; have kneq := hA.neq
  rw [lp_split (lpOf (envV A) 29 bd29) 3]
  generalize lpOf (envV A) 29 bd29 3 = L3 at e0 h1 ⊢
  generalize lpOf (envV A) 29 bd29 = LP
  generalize evl (envV A) = E at e0 h1 ⊢
  obtain ⟨aadd, asub, amul, arem, aquo, awr, ashr, aeq, alt, ale, aseq, aslt, acat, acut, asiz, aat, anle, aneq, afit⟩ := A
  simp only at hnle hneq
  subst hnle hneq
  simp only at klt kle keq knle kneq
  try simp only at h1
  conv at e0 => lhs; cbv
  cbv
  rewrite [e0]
  cbv
  rewrite [h1]
  cbv
theorem lp_ref08_Count (c d e : Nat) {r : Option Res} (e0 : ks.length = n) (e1 : lget ks i = some (.agg (trC tag2 text2 key2 vs2 ks2))) (e2 : Nat.ble (Nat.succ i) n = true) (h1 : A.lt (.ofNat i) (.ofNat n) = true) (h2 : A.add .i64 (.ofNat i) 1 = .ofNat (Nat.succ i))
    (h3 : evl (envV A) (.call 30 [.agg (trC tag2 text2 key2 vs2 ks2)] []) = some (.ret (.s (.int .i64 (.ofNat d))) [])) (h4 : A.add .i64 (.ofNat c) (.ofNat d) = .ofNat e)
    (hr : lpOf (envV A) 30 bd30 3 { n := 21, k := 0, fr := [(1, .ptr 0 0), (3, .s (.int .i64 (.ofNat e))), (4, .s (.int .i64 (.ofNat (Nat.succ i))))], O := [trC tag text key vs ks] } = r) :
    lpOf (envV A) 30 bd30 3 { n := 21, k := 0, fr := [(1, .ptr 0 0), (3, .s (.int .i64 (.ofNat c))), (4, .s (.int .i64 (.ofNat i)))], O := [trC tag text key vs ks] } = r := by
  unfold trC at e1 h3 hr ⊢
  rw [lp_step (envV A) 30 (c0 := bd30) (lv := lvF30) rfl rfl]
  have hnle := hA.nleE; have hneq := hA.neqE
  have klt := hA.lt; have kle := hA.le; have keq := hA.eq; have knle := hA.nle; have kneq := hA.neq
  rw [lp_split (lpOf (envV A) 30 bd30) 3]
  generalize lpOf (envV A) 30 bd30 3 = L3 at e0 e1 e2 h1 h2 h3 h4 hr ⊢
  generalize lpOf (envV A) 30 bd30 = LP
  generalize evl (envV A) = E at e0 e1 e2 h1 h2 h3 h4 hr ⊢
  obtain ⟨aadd, asub, amul, arem, aquo, awr, ashr, aeq, alt, ale, aseq, aslt, acat, acut, asiz, aat, anle, aneq, afit⟩ := A
  simp only at hnle hneq
  subst hnle hneq
  simp only at klt kle keq knle kneq
  try simp only at h1 h2 h3 h4 hr
  conv at e0 => lhs; cbv
  conv at e1 => lhs; cbv
  conv at e2 => lhs; cbv
  cbv
  rewrite [e0]
  cbv
  rewrite [h1]
  cbv
  rewrite [e1]
  cbv
  rewrite [h3]
  cbv
  rewrite [h2]
  cbv
  rewrite [h4]
  cbv
  rewrite [hr]
  cbv
theorem lp_ref08_Count_end (c : Nat) (e0 : ks.length = n) (h1 : A.lt (.ofNat i) (.ofNat n) = false) :
    lpOf (envV A) 30 bd30 3 { n := 21, k := 0, fr := [(1, .ptr 0 0), (3, .s (.int .i64 (.ofNat c))), (4, .s (.int .i64 (.ofNat i)))], O := [trC tag text key vs ks] } = some (.code (.exit 0) { n := 21, k := 0, fr := [(1, .ptr 0 0), (3, .s (.int .i64 (.ofNat c))), (4, .s (.int .i64 (.ofNat i))), (9, .s (.bool false))], O := [trC tag text key vs ks] }) := by
  unfold trC
  rw [lp_step (envV A) 30 (c0 := bd30) (lv := lvF30) rfl rfl]
  have hnle := hA.nleE; have hneq := hA.neqE
  have klt := hA.lt; have kle := hA.le; have keq := hA.eq; have knle := hA.nle; have kneq := hA.neq
  generalize lpOf (envV A) 30 bd30 = LP
  generalize evl (envV A) = E at e0 h1 ⊢
  obtain ⟨aadd, asub, amul, arem, aquo, awr, ashr, aeq, alt, ale, aseq, aslt, acat, acut, asiz, aat, anle, aneq, afit⟩ := A
  simp only at hnle hneq
  subst hnle hneq
  simp only at klt kle keq knle kneq
  try simp only at h1
  conv at e0 => lhs; cbv
  cbv
  rewrite [e0]
  cbv
  rewrite [h1]
  cbv
theorem eq_ref08_Count (c : Nat) (h1 : lpOf (envV A) 30 bd30 3 { n := 21, k := 0, fr := [(1, .ptr 0 0), (3, .s (.int .i64 1)), (4, .s (.int .i64 0))], O := [trC tag text key vs ks] } = some (.code (.exit 0) { n := 21, k := 0, fr := [(1, .ptr 0 0), (3, .s (.int .i64 (.ofNat c))), (4, .s (.int .i64 (.ofNat i))), (9, .s (.bool false))], O := [trC tag text key vs ks] })) :
    evl (envV A) (.call 30 [.agg (trC tag text key vs ks)] []) = some (.ret (.s (.int .i64 (.ofNat c))) []) := by
  unfold trC at h1 ⊢
  rw [evl_fn (envV A) 30 _ _ (fn := Try.f30) (c := bd30) (lv := lvF30) rfl rfl rfl rfl rfl rfl]
  have hnle := hA.nleE; have hneq := hA.neqE
  have klt := hA.lt; have kle := hA.le; have keq := hA.eq; have knle := hA.nle; have kneq := hA.neq
  rw [lp_split (lpOf (envV A) 30 bd30) 3]
  generalize lpOf (envV A) 30 bd30 3 = L3 at h1 ⊢
  generalize lpOf (envV A) 30 bd30 = LP
  generalize evl (envV A) = E at h1 ⊢
  obtain ⟨aadd, asub, amul, arem, aquo, awr, ashr, aeq, alt, ale, aseq, aslt, acat, acut, asiz, aat, anle, aneq, afit⟩ := A
  simp only at hnle hneq
  subst hnle hneq
  simp only at klt kle keq knle kneq
  try simp only at h1
  cbv
  rewrite [h1]
  cbv
/-! Many -/
theorem lp_Many (k c d e f : Nat) {r : Option Res} (e0 : ks.length = n) (e1 : lget ks i = some (.agg (trC tag2 text2 key2 vs2 ks2))) (e2 : Nat.ble (Nat.succ i) n = true) (h1 : A.lt (.ofNat i) (.ofNat n) = true) (h2 : A.add .i64 (.ofNat i) 1 = .ofNat (Nat.succ i)) (h5 : A.le (.ofNat c) (.ofNat k) = true) (h6 : A.sub .i64 (.ofNat k) (.ofNat c) = .ofNat f)
    (h3 : evl (envV A) (.call 26 [.agg (trC tag2 text2 key2 vs2 ks2), .s (.int .i64 (.ofNat f))] []) = some (.ret (.s (.int .i64 (.ofNat d))) [])) (h4 : A.add .i64 (.ofNat c) (.ofNat d) = .ofNat e)
    (hr : lpOf (envV A) 26 bd26 5 { n := 55, k := 0, fr := [(1, .s (.int .i64 (.ofNat k))), (2, .ptr 0 0), (5, .s (.int .i64 (.ofNat e))), (6, .s (.int .i64 (.ofNat (Nat.succ i))))], O := [trC tag text key vs ks] } = r) :
    lpOf (envV A) 26 bd26 5 { n := 55, k := 0, fr := [(1, .s (.int .i64 (.ofNat k))), (2, .ptr 0 0), (5, .s (.int .i64 (.ofNat c))), (6, .s (.int .i64 (.ofNat i)))], O := [trC tag text key vs ks] } = r := by
  unfold trC at e1 h3 hr ⊢
  rw [lp_step (envV A) 26 (c0 := bd26) (lv := lvF26) rfl rfl]
  have hnle := hA.nleE; have hneq := hA.neqE
  have klt := hA.lt; have kle := hA.le; have keq := hA.eq; have knle := hA.nle; have kneq := hA.neq
  rw [lp_split (lpOf (envV A) 26 bd26) 5]
  generalize lpOf (envV A) 26 bd26 5 = L5 at e0 e1 e2 h1 h2 h5 h6 h3 h4 hr ⊢
  generalize lpOf (envV A) 26 bd26 = LP
  generalize evl (envV A) = E at e0 e1 e2 h1 h2 h5 h6 h3 h4 hr ⊢
  obtain ⟨aadd, asub, amul, arem, aquo, awr, ashr, aeq, alt, ale, aseq, aslt, acat, acut, asiz, aat, anle, aneq, afit⟩ := A
  simp only at hnle hneq
  subst hnle hneq
  simp only at klt kle keq knle kneq
  try simp only at h1 h2 h5 h6 h3 h4 hr
  conv at e0 => lhs; cbv
  conv at e1 => lhs; cbv
  conv at e2 => lhs; cbv
  cbv
  rewrite [e0]
  cbv
  rewrite [h1]
  cbv
  rewrite [h5]
  cbv
  rewrite [e1]
  cbv
  rewrite [h6]
  cbv
  rewrite [h3]
  cbv
  rewrite [h2]
  cbv
  rewrite [h4]
  cbv
  rewrite [hr]
  cbv
def stY (tag text key : ByteArray) (vs ks : List AV) (k c i : Nat) : St := { n := 55, k := 0, fr := [(1, .s (.int .i64 (.ofNat k))), (2, .ptr 0 0), (5, .s (.int .i64 (.ofNat c))), (6, .s (.int .i64 (.ofNat i))), (40, .s (.bool false))], O := [trC tag text key vs ks] }
theorem lp_Many_end (k c : Nat) (e0 : ks.length = n) (h1 : A.lt (.ofNat i) (.ofNat n) = false) :
    lpOf (envV A) 26 bd26 5 { n := 55, k := 0, fr := [(1, .s (.int .i64 (.ofNat k))), (2, .ptr 0 0), (5, .s (.int .i64 (.ofNat c))), (6, .s (.int .i64 (.ofNat i)))], O := [trC tag text key vs ks] } = some (.code (.exit 0) (stY tag text key vs ks k c i)) := by
  unfold stY trC
  rw [lp_step (envV A) 26 (c0 := bd26) (lv := lvF26) rfl rfl]
  have hnle := hA.nleE; have hneq := hA.neqE
  have klt := hA.lt; have kle := hA.le; have keq := hA.eq; have knle := hA.nle; have kneq := hA.neq
  generalize lpOf (envV A) 26 bd26 = LP
  generalize evl (envV A) = E at e0 h1 ⊢
  obtain ⟨aadd, asub, amul, arem, aquo, awr, ashr, aeq, alt, ale, aseq, aslt, acat, acut, asiz, aat, anle, aneq, afit⟩ := A
  simp only at hnle hneq
  subst hnle hneq
  simp only at klt kle keq knle kneq
  try simp only at h1
  conv at e0 => lhs; cbv
  cbv
  rewrite [e0]
  cbv
  rewrite [h1]
  cbv
theorem lp_Many_end2 (k c : Nat) (e0 : ks.length = n) (h1 : A.lt (.ofNat i) (.ofNat n) = true) (h2 : A.le (.ofNat c) (.ofNat k) = false) :
    lpOf (envV A) 26 bd26 5 { n := 55, k := 0, fr := [(1, .s (.int .i64 (.ofNat k))), (2, .ptr 0 0), (5, .s (.int .i64 (.ofNat c))), (6, .s (.int .i64 (.ofNat i)))], O := [trC tag text key vs ks] } = some (.code (.exit 0) (stY tag text key vs ks k c i)) := by
  unfold stY trC
  rw [lp_step (envV A) 26 (c0 := bd26) (lv := lvF26) rfl rfl]
  have hnle := hA.nleE; have hneq := hA.neqE
  have klt := hA.lt; have kle := hA.le; have keq := hA.eq; have knle := hA.nle; have kneq := hA.neq
  generalize lpOf (envV A) 26 bd26 = LP
  generalize evl (envV A) = E at e0 h1 h2 ⊢
  obtain ⟨aadd, asub, amul, arem, aquo, awr, ashr, aeq, alt, ale, aseq, aslt, acat, acut, asiz, aat, anle, aneq, afit⟩ := A
  simp only at hnle hneq
  subst hnle hneq
  simp only at klt kle keq knle kneq
  try simp only at h1 h2
  conv at e0 => lhs; cbv
  cbv
  rewrite [e0]
  cbv
  rewrite [h1]
  cbv
  rewrite [h2]
  cbv
theorem eq_Many (k c zt zx zk : Nat) (e1 : vs.length = m) (h1 : A.siz tag = zt) (h2 : A.siz text = zx) (h3 : A.siz key = zk) (h4 : evl (envV A) (.call 65 [.sl 3 vs .imm] []) = some (.ret (.s (.int .i64 1)) []))
    (h5 : A.lt 100 (.ofNat zt) = false) (h6 : A.lt 100 (.ofNat zx) = false) (h7 : A.lt 100 (.ofNat zk) = false)
    (h8 : lpOf (envV A) 26 bd26 5 { n := 55, k := 0, fr := [(1, .s (.int .i64 (.ofNat k))), (2, .ptr 0 0), (5, .s (.int .i64 1)), (6, .s (.int .i64 0))], O := [trC tag text key vs ks] } = some (.code (.exit 0) (stY tag text key vs ks k c i))) :
    evl (envV A) (.call 26 [.agg (trC tag text key vs ks), .s (.int .i64 (.ofNat k))] []) = some (.ret (.s (.int .i64 (.ofNat c))) []) := by
  unfold stY trC at h8
  unfold trC
  rw [evl_fn (envV A) 26 _ _ (fn := Try.f26) (c := bd26) (lv := lvF26) rfl rfl rfl rfl rfl rfl]
  have hnle := hA.nleE; have hneq := hA.neqE
  have klt := hA.lt; have kle := hA.le; have keq := hA.eq; have knle := hA.nle; have kneq := hA.neq
  rw [lp_split (lpOf (envV A) 26 bd26) 5]
  generalize lpOf (envV A) 26 bd26 5 = L5 at e1 h1 h2 h3 h4 h5 h6 h7 h8 ⊢
  generalize lpOf (envV A) 26 bd26 = LP
  generalize evl (envV A) = E at e1 h1 h2 h3 h4 h5 h6 h7 h8 ⊢
  obtain ⟨aadd, asub, amul, arem, aquo, awr, ashr, aeq, alt, ale, aseq, aslt, acat, acut, asiz, aat, anle, aneq, afit⟩ := A
  simp only at hnle hneq
  subst hnle hneq
  simp only at klt kle keq knle kneq
  try simp only at h1 h2 h3 h4 h5 h6 h7 h8
  conv at e1 => lhs; cbv
  cbv
  rewrite [h1]
  cbv
  rewrite [h5]
  cbv
  rewrite [h2]
  cbv
  rewrite [h6]
  cbv
  rewrite [h3]
  cbv
  rewrite [h7]
  cbv
  rewrite [h4]
  cbv
  rewrite [keq (1) (0)]
  cbv
  rewrite [h8]
  cbv
theorem eq_Many_long (k k1 zt zx zk : Nat) (fw : Int) (e1 : vs.length = m) (h1 : A.siz tag = zt) (h2 : A.siz text = zx) (h3 : A.siz key = zk) (h4 : evl (envV A) (.call 65 [.sl 3 vs .imm] []) = some (.ret (.s (.int .i64 fw)) [])) (h9 : A.add .i64 (.ofNat k) 1 = .ofNat k1)
    (h5 : (bif A.lt 100 (.ofNat zt) then true else bif A.lt 100 (.ofNat zx) then true else bif A.lt 100 (.ofNat zk) then true else A.eq fw 0) = true) :
    evl (envV A) (.call 26 [.agg (trC tag text key vs ks), .s (.int .i64 (.ofNat k))] []) = some (.ret (.s (.int .i64 (.ofNat k1))) []) := by
  unfold trC
  cases q1 : A.lt 100 (.ofNat zt) with
  | true =>
    clear h5
    rw [evl_fn (envV A) 26 _ _ (fn := Try.f26) (c := bd26) (lv := lvF26) rfl rfl rfl rfl rfl rfl]
    have hnle := hA.nleE; have hneq := hA.neqE
    have klt := hA.lt; have kle := hA.le; have keq := hA.eq; have knle := hA.nle; have kneq := hA.neq
    generalize lpOf (envV A) 26 bd26 = LP
    generalize evl (envV A) = E at e1 h1 h2 h3 h4 h9 q1 ⊢
    obtain ⟨aadd, asub, amul, arem, aquo, awr, ashr, aeq, alt, ale, aseq, aslt, acat, acut, asiz, aat, anle, aneq, afit⟩ := A
    simp only at hnle hneq
    subst hnle hneq
    simp only at klt kle keq knle kneq
    try simp only at h1 h2 h3 h4 h9 q1
    conv at e1 => lhs; cbv
    cbv
    rewrite [h1]
    cbv
    rewrite [q1]
    cbv
    rewrite [h9]
    cbv
  | false =>
    cases q2 : A.lt 100 (.ofNat zx) with
    | true =>
      clear h5
      rw [evl_fn (envV A) 26 _ _ (fn := Try.f26) (c := bd26) (lv := lvF26) rfl rfl rfl rfl rfl rfl]
      have hnle := hA.nleE; have hneq := hA.neqE
      have klt := hA.lt; have kle := hA.le; have keq := hA.eq; have knle := hA.nle; have kneq := hA.neq
      generalize lpOf (envV A) 26 bd26 = LP
      generalize evl (envV A) = E at e1 h1 h2 h3 h4 h9 q1 q2 ⊢
      obtain ⟨aadd, asub, amul, arem, aquo, awr, ashr, aeq, alt, ale, aseq, aslt, acat, acut, asiz, aat, anle, aneq, afit⟩ := A
      simp only at hnle hneq
      subst hnle hneq
      simp only at klt kle keq knle kneq
      try simp only at h1 h2 h3 h4 h9 q1 q2
      conv at e1 => lhs; cbv
      cbv
      rewrite [h1]
      cbv
      rewrite [q1]
      cbv
      rewrite [h2]
      cbv
      rewrite [q2]
      cbv
      rewrite [h9]
      cbv
    | false =>
      cases q3 : A.lt 100 (.ofNat zk) with
      | true =>
        clear h5
        rw [evl_fn (envV A) 26 _ _ (fn := Try.f26) (c := bd26) (lv := lvF26) rfl rfl rfl rfl rfl rfl]
        have hnle := hA.nleE; have hneq := hA.neqE
        have klt := hA.lt; have kle := hA.le; have keq := hA.eq; have knle := hA.nle; have kneq := hA.neq
        generalize lpOf (envV A) 26 bd26 = LP
        generalize evl (envV A) = E at e1 h1 h2 h3 h4 h9 q1 q2 q3 ⊢
        obtain ⟨aadd, asub, amul, arem, aquo, awr, ashr, aeq, alt, ale, aseq, aslt, acat, acut, asiz, aat, anle, aneq, afit⟩ := A
        simp only at hnle hneq
        subst hnle hneq
        simp only at klt kle keq knle kneq
        try simp only at h1 h2 h3 h4 h9 q1 q2 q3
        conv at e1 => lhs; cbv
        cbv
        rewrite [h1]
        cbv
        rewrite [q1]
        cbv
        rewrite [h2]
        cbv
        rewrite [q2]
        cbv
        rewrite [h3]
        cbv
        rewrite [q3]
        cbv
        rewrite [h9]
        cbv
      | false =>
        rw [q1, q2, q3] at h5
        simp only [cond_false] at h5
        rw [evl_fn (envV A) 26 _ _ (fn := Try.f26) (c := bd26) (lv := lvF26) rfl rfl rfl rfl rfl rfl]
        have hnle := hA.nleE; have hneq := hA.neqE
        have klt := hA.lt; have kle := hA.le; have keq := hA.eq; have knle := hA.nle; have kneq := hA.neq
        generalize lpOf (envV A) 26 bd26 = LP
        generalize evl (envV A) = E at e1 h1 h2 h3 h4 h9 h5 q1 q2 q3 ⊢
        obtain ⟨aadd, asub, amul, arem, aquo, awr, ashr, aeq, alt, ale, aseq, aslt, acat, acut, asiz, aat, anle, aneq, afit⟩ := A
        simp only at hnle hneq
        subst hnle hneq
        simp only at klt kle keq knle kneq
        try simp only at h1 h2 h3 h4 h9 h5 q1 q2 q3
        conv at e1 => lhs; cbv
        cbv
        rewrite [h1]
        cbv
        rewrite [q1]
        cbv
        rewrite [h2]
        cbv
        rewrite [q2]
        cbv
        rewrite [h3]
        cbv
        rewrite [q3]
        cbv
        rewrite [h4]
        cbv
        rewrite [h5]
        cbv
        rewrite [h9]
        cbv
end
end Go.Va
