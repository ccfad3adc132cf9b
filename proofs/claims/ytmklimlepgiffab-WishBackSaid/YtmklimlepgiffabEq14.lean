/- The functions that the statement reaches, by equations: no statement of its own. -/
import Derived.Test.YtmklimlepgiffabEq13
set_option linter.unusedVariables false
set_option linter.unusedSimpArgs false
set_option linter.unusedSectionVars false
namespace Go.Va
open Go.Proofs
set_option maxRecDepth 100000
set_option maxHeartbeats 4000000
def insC (o : Int) (a b : ByteArray) : List AV := [.s (.int .i64 o), .s (.string a), .s (.string b)]
def stEl (o : Int) (tag key text : ByteArray) (ats ks out : List AV) (n i : Nat) : St := { n := 50, k := 0, fr := [(1, .ptr 0 0), (3, .ptr 1 0), (4, .sl 3 out .full), (20, .sl 3 ats .imm), (21, .s (.int .i64 (.ofNat n))), (22, .s (.int .i64 (.ofNat i)))], O := [wC .imm 1 tag key text ats ks, insC o tag key] }
def stEle (o : Int) (tag key text : ByteArray) (ats ks out : List AV) (n i : Nat) : St := { n := 50, k := 0, fr := [(1, .ptr 0 0), (3, .ptr 1 0), (4, .sl 3 out .full), (20, .sl 3 ats .imm), (21, .s (.int .i64 (.ofNat n))), (22, .s (.int .i64 (.ofNat i))), (23, .s (.bool false))], O := [wC .imm 1 tag key text ats ks, insC o tag key] }
def stBk (p : Perm) (ws out : List AV) (n i : Nat) : St := { n := 42, k := 0, fr := [(3, .sl 3 out .full), (6, .sl 6 ws p), (7, .s (.int .i64 (.ofNat n))), (8, .s (.int .i64 (.ofNat i)))], O := [] }
def stBke (p : Perm) (ws out : List AV) (n i : Nat) : St := { n := 42, k := 0, fr := [(3, .sl 3 out .full), (6, .sl 6 ws p), (7, .s (.int .i64 (.ofNat n))), (8, .s (.int .i64 (.ofNat i))), (9, .s (.bool false))], O := [] }
section
variable (A : Ar) (hA : ArOk A) (p : Perm) (hp : p = .ro ∨ p = .imm) (xs ws ats ks out out2 out3 bs es : List AV) (n m i j k : Nat) (o kd : Int) (tag key text a b : ByteArray) (st : Bool)
include hA
theorem lp_el {r : Option Res} (e0 : ats.length = n) (e1 : lget ats i = some (.agg [.s (.string a), .s (.string b), .s (.bool st)])) (e2 : Nat.ble (Nat.succ i) n = true) (e3 : out.length = m) (e4 : out ++ [.agg [.s (.int .i64 (bif st then 6 else 5)), .s (.string a), .s (.string b)]] = out2) (e5 : Nat.beq m m = true)
    (h1 : A.lt (.ofNat i) (.ofNat n) = true) (h2 : A.add .i64 (.ofNat i) 1 = .ofNat (Nat.succ i)) (h3 : A.fit (Nat.succ m) 40 = true)
    (hr : lpOf (envV A) 87 bd87 6 (stEl o tag key text ats ks out2 n (Nat.succ i)) = r) : lpOf (envV A) 87 bd87 6 (stEl o tag key text ats ks out n i) = r := by
  unfold stEl wC insC at hr ⊢
  cases st <;> simp only [cond_true, cond_false] at e4
  ·
    rw [lp_step (envV A) 87 (c0 := bd87) (lv := lvF87) rfl rfl]
    have hnle := hA.nleE; have hneq := hA.neqE
    have klt := hA.lt; have kle := hA.le; have keq := hA.eq; have knle := hA.nle; have kneq := hA.neq
    rw [lp_split (lpOf (envV A) 87 bd87) 6]
    generalize lpOf (envV A) 87 bd87 6 = L6 at e0 e1 e2 e3 e4 e5 h1 h2 h3 hr ⊢
    generalize lpOf (envV A) 87 bd87 = LP
    generalize evl (envV A) = E at e0 e1 e2 e3 e4 e5 h1 h2 h3 hr ⊢
    obtain ⟨aadd, asub, amul, arem, aquo, awr, ashr, aeq, alt, ale, aseq, aslt, acat, acut, asiz, aat, anle, aneq, afit⟩ := A
    simp only at hnle hneq
    subst hnle hneq
    simp only at klt kle keq knle kneq
    try simp only at h1 h2 h3 hr
    conv at e0 => lhs; cbv
    conv at e1 => lhs; cbv
    conv at e2 => lhs; cbv
    conv at e3 => lhs; cbv
    conv at e4 => lhs; cbv
    conv at e5 => lhs; cbv
    cbv
    rewrite [h1]
    cbv
    rewrite [e1]
    cbv
    rewrite [e3]
    cbv
    rewrite [e5]
    cbv
    rewrite [e4]
    cbv
    rewrite [h3]
    cbv
    rewrite [h2]
    cbv
    rewrite [hr]
    cbv
  ·
    rw [lp_step (envV A) 87 (c0 := bd87) (lv := lvF87) rfl rfl]
    have hnle := hA.nleE; have hneq := hA.neqE
    have klt := hA.lt; have kle := hA.le; have keq := hA.eq; have knle := hA.nle; have kneq := hA.neq
    rw [lp_split (lpOf (envV A) 87 bd87) 6]
    generalize lpOf (envV A) 87 bd87 6 = L6 at e0 e1 e2 e3 e4 e5 h1 h2 h3 hr ⊢
    generalize lpOf (envV A) 87 bd87 = LP
    generalize evl (envV A) = E at e0 e1 e2 e3 e4 e5 h1 h2 h3 hr ⊢
    obtain ⟨aadd, asub, amul, arem, aquo, awr, ashr, aeq, alt, ale, aseq, aslt, acat, acut, asiz, aat, anle, aneq, afit⟩ := A
    simp only at hnle hneq
    subst hnle hneq
    simp only at klt kle keq knle kneq
    try simp only at h1 h2 h3 hr
    conv at e0 => lhs; cbv
    conv at e1 => lhs; cbv
    conv at e2 => lhs; cbv
    conv at e3 => lhs; cbv
    conv at e4 => lhs; cbv
    conv at e5 => lhs; cbv
    cbv
    rewrite [h1]
    cbv
    rewrite [e1]
    cbv
    rewrite [e3]
    cbv
    rewrite [e5]
    cbv
    rewrite [e4]
    cbv
    rewrite [h3]
    cbv
    rewrite [h2]
    cbv
    rewrite [hr]
    cbv
theorem lp_el_end (h1 : A.lt (.ofNat i) (.ofNat n) = false) : lpOf (envV A) 87 bd87 6 (stEl o tag key text ats ks out n i) = some (.code (.exit 0) (stEle o tag key text ats ks out n i)) := by
  unfold stEl stEle wC insC
  rw [lp_step (envV A) 87 (c0 := bd87) (lv := lvF87) rfl rfl]
  have hnle := hA.nleE; have hneq := hA.neqE
  have klt := hA.lt; have kle := hA.le; have keq := hA.eq; have knle := hA.nle; have kneq := hA.neq
  generalize lpOf (envV A) 87 bd87 = LP
  generalize evl (envV A) = E at h1 ⊢
  obtain ⟨aadd, asub, amul, arem, aquo, awr, ashr, aeq, alt, ale, aseq, aslt, acat, acut, asiz, aat, anle, aneq, afit⟩ := A
  simp only at hnle hneq
  subst hnle hneq
  simp only at klt kle keq knle kneq
  try simp only at h1
  cbv
  rewrite [h1]
  cbv
theorem eq_el_void (e0 : ats.length = n) (e3 : out.length = m) (e4 : Nat.ble m m = true) (e5 : out.take m = out) (h1 : evl (envV A) (.call 69 [.s (.string tag)] []) = some (.ret (.s (.bool true)) [])) (h3 : A.eq 3 3 = true)
    (h2 : lpOf (envV A) 87 bd87 6 (stEl 3 tag key text ats ks [.agg (insC 3 tag key)] n 0) = some (.code (.exit 0) (stEle 3 tag key text ats ks out n i))) :
    evl (envV A) (.call 87 [.agg (wC .imm 1 tag key text ats ks)] []) = some (.ret (.sl 3 out .full) []) := by
  unfold stEl stEle wC insC at h2
  unfold wC
  simp only [show Int.ofNat 0 = 0 from rfl] at h2
  rw [evl_fn (envV A) 87 _ _ (fn := Try.f87) (c := bd87) (lv := lvF87) rfl rfl rfl rfl rfl rfl]
  have hnle := hA.nleE; have hneq := hA.neqE
  have klt := hA.lt; have kle := hA.le; have keq := hA.eq; have knle := hA.nle; have kneq := hA.neq
  rw [lp_split (lpOf (envV A) 87 bd87) 6]
  generalize lpOf (envV A) 87 bd87 6 = L6 at e0 e3 e4 e5 h1 h3 h2 ⊢
  generalize lpOf (envV A) 87 bd87 = LP
  generalize evl (envV A) = E at e0 e3 e4 e5 h1 h3 h2 ⊢
  obtain ⟨aadd, asub, amul, arem, aquo, awr, ashr, aeq, alt, ale, aseq, aslt, acat, acut, asiz, aat, anle, aneq, afit⟩ := A
  simp only at hnle hneq
  subst hnle hneq
  simp only at klt kle keq knle kneq
  try simp only at h1 h3 h2
  conv at e0 => lhs; cbv
  conv at e3 => lhs; cbv
  conv at e4 => lhs; cbv
  conv at e5 => lhs; cbv
  cbv
  rewrite [h1]
  cbv
  rewrite [e0]
  cbv
  rewrite [h2]
  cbv
  rewrite [h3]
  cbv
  rewrite [e3]
  cbv
  rewrite [e4]
  cbv
  rewrite [e5]
  cbv
theorem eq_el_open (e0 : ats.length = n) (e3 : out.length = m) (e4 : Nat.ble m m = true) (e5 : out.take m = out) (e6 : bs.length = k) (e7 : out ++ bs = out2) (e8 : out2.length = j) (e9 : m + k = j) (ea : out2 ++ [.agg [.s (.int .i64 2), .s (.string ⟨#[]⟩), .s (.string ⟨#[]⟩)]] = out3) (eb : out3.length = Nat.succ j) (ec : Nat.ble (Nat.succ j) (Nat.succ j) = true) (ed : out3.take (Nat.succ j) = out3) (ef : Nat.beq j j = true) (eg : 0 + k = k) (eh : lcut bs 0 k = bs) (ei : Nat.beq m m = true) (h1 : evl (envV A) (.call 69 [.s (.string tag)] []) = some (.ret (.s (.bool false)) [])) (h3 : A.eq 1 3 = false)
    (h2 : lpOf (envV A) 87 bd87 6 (stEl 1 tag key text ats ks [.agg (insC 1 tag key)] n 0) = some (.code (.exit 0) (stEle 1 tag key text ats ks out n i)))
    (h4 : evl (envV A) (.call 49 [.sl 6 ks .imm] []) = some (.ret (.sl 3 bs .full) [])) (h5 : A.fit j 40 = true) (h6 : A.fit (Nat.succ j) 40 = true) :
    evl (envV A) (.call 87 [.agg (wC .imm 1 tag key text ats ks)] []) = some (.ret (.sl 3 out3 .full) []) := by
  unfold stEl stEle wC insC at h2
  unfold wC
  simp only [show Int.ofNat 0 = 0 from rfl] at h2
  rw [evl_fn (envV A) 87 _ _ (fn := Try.f87) (c := bd87) (lv := lvF87) rfl rfl rfl rfl rfl rfl]
  have hnle := hA.nleE; have hneq := hA.neqE
  have klt := hA.lt; have kle := hA.le; have keq := hA.eq; have knle := hA.nle; have kneq := hA.neq
  rw [lp_split (lpOf (envV A) 87 bd87) 6]
  generalize lpOf (envV A) 87 bd87 6 = L6 at e0 e3 e4 e5 e6 e7 e8 e9 ea eb ec ed ef eg eh ei h1 h3 h2 h4 h5 h6 ⊢
  generalize lpOf (envV A) 87 bd87 = LP
  generalize evl (envV A) = E at e0 e3 e4 e5 e6 e7 e8 e9 ea eb ec ed ef eg eh ei h1 h3 h2 h4 h5 h6 ⊢
  obtain ⟨aadd, asub, amul, arem, aquo, awr, ashr, aeq, alt, ale, aseq, aslt, acat, acut, asiz, aat, anle, aneq, afit⟩ := A
  simp only at hnle hneq
  subst hnle hneq
  simp only at klt kle keq knle kneq
  try simp only at h1 h3 h2 h4 h5 h6
  conv at e0 => lhs; cbv
  conv at e3 => lhs; cbv
  conv at e4 => lhs; cbv
  conv at e5 => lhs; cbv
  conv at e6 => lhs; cbv
  conv at e7 => lhs; cbv
  conv at e8 => lhs; cbv
  conv at e9 => lhs; cbv
  conv at ea => lhs; cbv
  conv at eb => lhs; cbv
  conv at ec => lhs; cbv
  conv at ed => lhs; cbv
  conv at ef => lhs; cbv
  conv at eg => lhs; cbv
  conv at eh => lhs; cbv
  conv at ei => lhs; cbv
  cbv
  rewrite [h1]
  cbv
  rewrite [e0]
  cbv
  rewrite [h2]
  cbv
  rewrite [h3]
  cbv
  rewrite [e3]
  cbv
  rewrite [h4]
  cbv
  rewrite [e3]
  cbv
  rewrite [e6]
  cbv
  rewrite [e7]
  cbv
  rewrite [e9]
  cbv
  rewrite [ei]
  cbv
  rewrite [h5]
  cbv
  rewrite [e8]
  cbv
  rewrite [ea]
  cbv
  rewrite [h6]
  cbv
include hp
theorem lp_bk_1 {r : Option Res} (e0 : ws.length = n) (e1 : lget ws i = some (.agg (wC .imm kd tag key text ats ks))) (e2 : Nat.ble (Nat.succ i) n = true) (e3 : out.length = m) (e4 : out ++ es = out2) (e5 : es.length = k) (e6 : m + k = j) (e7 : out2.length = j) (e8 : 0 + k = k) (e9 : lcut es 0 k = es) (ea : Nat.beq m m = true) (h1 : A.lt (.ofNat i) (.ofNat n) = true) (h2 : A.add .i64 (.ofNat i) 1 = .ofNat (Nat.succ i)) (h3 : A.eq kd 1 = true)
    (h4 : evl (envV A) (.call 87 [.agg (wC .imm kd tag key text ats ks)] []) = some (.ret (.sl 3 es .full) [])) (h5 : A.fit j 40 = true)
    (hr : lpOf (envV A) 49 bd49 3 (stBk p ws out2 n (Nat.succ i)) = r) : lpOf (envV A) 49 bd49 3 (stBk p ws out n i) = r := by
  unfold stBk at hr ⊢
  unfold wC at e1 h4
  rcases hp with rfl | rfl
  ·
    rw [lp_step (envV A) 49 (c0 := bd49) (lv := lvF49) rfl rfl]
    have hnle := hA.nleE; have hneq := hA.neqE
    have klt := hA.lt; have kle := hA.le; have keq := hA.eq; have knle := hA.nle; have kneq := hA.neq
    rw [lp_split (lpOf (envV A) 49 bd49) 3]
    generalize lpOf (envV A) 49 bd49 3 = L3 at e0 e1 e2 e3 e4 e5 e6 e7 e8 e9 ea h1 h2 h3 h4 h5 hr ⊢
    generalize lpOf (envV A) 49 bd49 = LP
    generalize evl (envV A) = E at e0 e1 e2 e3 e4 e5 e6 e7 e8 e9 ea h1 h2 h3 h4 h5 hr ⊢
    obtain ⟨aadd, asub, amul, arem, aquo, awr, ashr, aeq, alt, ale, aseq, aslt, acat, acut, asiz, aat, anle, aneq, afit⟩ := A
    simp only at hnle hneq
    subst hnle hneq
    simp only at klt kle keq knle kneq
    try simp only at h1 h2 h3 h4 h5 hr
    conv at e0 => lhs; cbv
    conv at e1 => lhs; cbv
    conv at e2 => lhs; cbv
    conv at e3 => lhs; cbv
    conv at e4 => lhs; cbv
    conv at e5 => lhs; cbv
    conv at e6 => lhs; cbv
    conv at e7 => lhs; cbv
    conv at e8 => lhs; cbv
    conv at e9 => lhs; cbv
    conv at ea => lhs; cbv
    cbv
    rewrite [h1]
    cbv
    rewrite [e1]
    cbv
    rewrite [h3]
    cbv
    rewrite [e3]
    cbv
    rewrite [h4]
    cbv
    rewrite [e3]
    cbv
    rewrite [e4]
    cbv
    rewrite [e5]
    cbv
    rewrite [e6]
    cbv
    rewrite [ea]
    cbv
    rewrite [h5]
    cbv
    rewrite [h2]
    cbv
    rewrite [hr]
    cbv
  ·
    rw [lp_step (envV A) 49 (c0 := bd49) (lv := lvF49) rfl rfl]
    have hnle := hA.nleE; have hneq := hA.neqE
    have klt := hA.lt; have kle := hA.le; have keq := hA.eq; have knle := hA.nle; have kneq := hA.neq
    rw [lp_split (lpOf (envV A) 49 bd49) 3]
    generalize lpOf (envV A) 49 bd49 3 = L3 at e0 e1 e2 e3 e4 e5 e6 e7 e8 e9 ea h1 h2 h3 h4 h5 hr ⊢
    generalize lpOf (envV A) 49 bd49 = LP
    generalize evl (envV A) = E at e0 e1 e2 e3 e4 e5 e6 e7 e8 e9 ea h1 h2 h3 h4 h5 hr ⊢
    obtain ⟨aadd, asub, amul, arem, aquo, awr, ashr, aeq, alt, ale, aseq, aslt, acat, acut, asiz, aat, anle, aneq, afit⟩ := A
    simp only at hnle hneq
    subst hnle hneq
    simp only at klt kle keq knle kneq
    try simp only at h1 h2 h3 h4 h5 hr
    conv at e0 => lhs; cbv
    conv at e1 => lhs; cbv
    conv at e2 => lhs; cbv
    conv at e3 => lhs; cbv
    conv at e4 => lhs; cbv
    conv at e5 => lhs; cbv
    conv at e6 => lhs; cbv
    conv at e7 => lhs; cbv
    conv at e8 => lhs; cbv
    conv at e9 => lhs; cbv
    conv at ea => lhs; cbv
    cbv
    rewrite [h1]
    cbv
    rewrite [e1]
    cbv
    rewrite [h3]
    cbv
    rewrite [e3]
    cbv
    rewrite [h4]
    cbv
    rewrite [e3]
    cbv
    rewrite [e4]
    cbv
    rewrite [e5]
    cbv
    rewrite [e6]
    cbv
    rewrite [ea]
    cbv
    rewrite [h5]
    cbv
    rewrite [h2]
    cbv
    rewrite [hr]
    cbv
theorem lp_bk_2 {r : Option Res} (e0 : ws.length = n) (e1 : lget ws i = some (.agg (wC .imm kd tag key text ats ks))) (e2 : Nat.ble (Nat.succ i) n = true) (e3 : out.length = m) (e4 : out ++ [.agg [.s (.int .i64 4), .s (.string text), .s (.string ⟨#[]⟩)]] = out2) (e5 : Nat.beq m m = true) (h1 : A.lt (.ofNat i) (.ofNat n) = true) (h2 : A.add .i64 (.ofNat i) 1 = .ofNat (Nat.succ i)) (h3 : A.eq kd 1 = false) (h4 : A.eq kd 2 = true) (h5 : A.fit (Nat.succ m) 40 = true)
    (hr : lpOf (envV A) 49 bd49 3 (stBk p ws out2 n (Nat.succ i)) = r) : lpOf (envV A) 49 bd49 3 (stBk p ws out n i) = r := by
  unfold stBk at hr ⊢
  unfold wC at e1
  rcases hp with rfl | rfl
  ·
    rw [lp_step (envV A) 49 (c0 := bd49) (lv := lvF49) rfl rfl]
    have hnle := hA.nleE; have hneq := hA.neqE
    have klt := hA.lt; have kle := hA.le; have keq := hA.eq; have knle := hA.nle; have kneq := hA.neq
    rw [lp_split (lpOf (envV A) 49 bd49) 3]
    generalize lpOf (envV A) 49 bd49 3 = L3 at e0 e1 e2 e3 e4 e5 h1 h2 h3 h4 h5 hr ⊢
    generalize lpOf (envV A) 49 bd49 = LP
    generalize evl (envV A) = E at e0 e1 e2 e3 e4 e5 h1 h2 h3 h4 h5 hr ⊢
    obtain ⟨aadd, asub, amul, arem, aquo, awr, ashr, aeq, alt, ale, aseq, aslt, acat, acut, asiz, aat, anle, aneq, afit⟩ := A
    simp only at hnle hneq
    subst hnle hneq
    simp only at klt kle keq knle kneq
    try simp only at h1 h2 h3 h4 h5 hr
    conv at e0 => lhs; cbv
    conv at e1 => lhs; cbv
    conv at e2 => lhs; cbv
    conv at e3 => lhs; cbv
    conv at e4 => lhs; cbv
    conv at e5 => lhs; cbv
    cbv
    rewrite [h1]
    cbv
    rewrite [e1]
    cbv
    rewrite [h3]
    cbv
    rewrite [h4]
    cbv
    rewrite [e3]
    cbv
    rewrite [e4]
    cbv
    rewrite [e5]
    cbv
    rewrite [h5]
    cbv
    rewrite [h2]
    cbv
    rewrite [hr]
    cbv
  ·
    rw [lp_step (envV A) 49 (c0 := bd49) (lv := lvF49) rfl rfl]
    have hnle := hA.nleE; have hneq := hA.neqE
    have klt := hA.lt; have kle := hA.le; have keq := hA.eq; have knle := hA.nle; have kneq := hA.neq
    rw [lp_split (lpOf (envV A) 49 bd49) 3]
    generalize lpOf (envV A) 49 bd49 3 = L3 at e0 e1 e2 e3 e4 e5 h1 h2 h3 h4 h5 hr ⊢
    generalize lpOf (envV A) 49 bd49 = LP
    generalize evl (envV A) = E at e0 e1 e2 e3 e4 e5 h1 h2 h3 h4 h5 hr ⊢
    obtain ⟨aadd, asub, amul, arem, aquo, awr, ashr, aeq, alt, ale, aseq, aslt, acat, acut, asiz, aat, anle, aneq, afit⟩ := A
    simp only at hnle hneq
    subst hnle hneq
    simp only at klt kle keq knle kneq
    try simp only at h1 h2 h3 h4 h5 hr
    conv at e0 => lhs; cbv
    conv at e1 => lhs; cbv
    conv at e2 => lhs; cbv
    conv at e3 => lhs; cbv
    conv at e4 => lhs; cbv
    conv at e5 => lhs; cbv
    cbv
    rewrite [h1]
    cbv
    rewrite [e1]
    cbv
    rewrite [h3]
    cbv
    rewrite [h4]
    cbv
    rewrite [e3]
    cbv
    rewrite [e4]
    cbv
    rewrite [e5]
    cbv
    rewrite [h5]
    cbv
    rewrite [h2]
    cbv
    rewrite [hr]
    cbv
theorem lp_bk_3 {r : Option Res} (e0 : ws.length = n) (e1 : lget ws i = some (.agg (wC .imm kd tag key text ats ks))) (e2 : Nat.ble (Nat.succ i) n = true) (e3 : out.length = m) (e4 : out ++ [.agg [.s (.int .i64 8), .s (.string ⟨#[]⟩), .s (.string ⟨#[]⟩)]] = out2) (e5 : Nat.beq m m = true) (h1 : A.lt (.ofNat i) (.ofNat n) = true) (h2 : A.add .i64 (.ofNat i) 1 = .ofNat (Nat.succ i)) (h3 : A.eq kd 1 = false) (h4 : A.eq kd 2 = false) (h6 : A.eq kd 3 = true) (h5 : A.fit (Nat.succ m) 40 = true)
    (hr : lpOf (envV A) 49 bd49 3 (stBk p ws out2 n (Nat.succ i)) = r) : lpOf (envV A) 49 bd49 3 (stBk p ws out n i) = r := by
  unfold stBk at hr ⊢
  unfold wC at e1
  rcases hp with rfl | rfl
  ·
    rw [lp_step (envV A) 49 (c0 := bd49) (lv := lvF49) rfl rfl]
    have hnle := hA.nleE; have hneq := hA.neqE
    have klt := hA.lt; have kle := hA.le; have keq := hA.eq; have knle := hA.nle; have kneq := hA.neq
    rw [lp_split (lpOf (envV A) 49 bd49) 3]
    generalize lpOf (envV A) 49 bd49 3 = L3 at e0 e1 e2 e3 e4 e5 h1 h2 h3 h4 h6 h5 hr ⊢
    generalize lpOf (envV A) 49 bd49 = LP
    generalize evl (envV A) = E at e0 e1 e2 e3 e4 e5 h1 h2 h3 h4 h6 h5 hr ⊢
    obtain ⟨aadd, asub, amul, arem, aquo, awr, ashr, aeq, alt, ale, aseq, aslt, acat, acut, asiz, aat, anle, aneq, afit⟩ := A
    simp only at hnle hneq
    subst hnle hneq
    simp only at klt kle keq knle kneq
    try simp only at h1 h2 h3 h4 h6 h5 hr
    conv at e0 => lhs; cbv
    conv at e1 => lhs; cbv
    conv at e2 => lhs; cbv
    conv at e3 => lhs; cbv
    conv at e4 => lhs; cbv
    conv at e5 => lhs; cbv
    cbv
    rewrite [h1]
    cbv
    rewrite [e1]
    cbv
    rewrite [h3]
    cbv
    rewrite [h4]
    cbv
    rewrite [h6]
    cbv
    rewrite [e3]
    cbv
    rewrite [e4]
    cbv
    rewrite [e5]
    cbv
    rewrite [h5]
    cbv
    rewrite [h2]
    cbv
    rewrite [hr]
    cbv
  ·
    rw [lp_step (envV A) 49 (c0 := bd49) (lv := lvF49) rfl rfl]
    have hnle := hA.nleE; have hneq := hA.neqE
    have klt := hA.lt; have kle := hA.le; have keq := hA.eq; have knle := hA.nle; have kneq := hA.neq
    rw [lp_split (lpOf (envV A) 49 bd49) 3]
    generalize lpOf (envV A) 49 bd49 3 = L3 at e0 e1 e2 e3 e4 e5 h1 h2 h3 h4 h6 h5 hr ⊢
    generalize lpOf (envV A) 49 bd49 = LP
    generalize evl (envV A) = E at e0 e1 e2 e3 e4 e5 h1 h2 h3 h4 h6 h5 hr ⊢
    obtain ⟨aadd, asub, amul, arem, aquo, awr, ashr, aeq, alt, ale, aseq, aslt, acat, acut, asiz, aat, anle, aneq, afit⟩ := A
    simp only at hnle hneq
    subst hnle hneq
    simp only at klt kle keq knle kneq
    try simp only at h1 h2 h3 h4 h6 h5 hr
    conv at e0 => lhs; cbv
    conv at e1 => lhs; cbv
    conv at e2 => lhs; cbv
    conv at e3 => lhs; cbv
    conv at e4 => lhs; cbv
    conv at e5 => lhs; cbv
    cbv
    rewrite [h1]
    cbv
    rewrite [e1]
    cbv
    rewrite [h3]
    cbv
    rewrite [h4]
    cbv
    rewrite [h6]
    cbv
    rewrite [e3]
    cbv
    rewrite [e4]
    cbv
    rewrite [e5]
    cbv
    rewrite [h5]
    cbv
    rewrite [h2]
    cbv
    rewrite [hr]
    cbv
theorem lp_bk_4 {r : Option Res} (e0 : ws.length = n) (e1 : lget ws i = some (.agg (wC .imm kd tag key text ats ks))) (e2 : Nat.ble (Nat.succ i) n = true) (e3 : out.length = m) (e4 : out ++ [.agg [.s (.int .i64 7), .s (.string ⟨#[]⟩), .s (.string ⟨#[]⟩)]] = out2) (e5 : Nat.beq m m = true) (h1 : A.lt (.ofNat i) (.ofNat n) = true) (h2 : A.add .i64 (.ofNat i) 1 = .ofNat (Nat.succ i)) (h3 : A.eq kd 1 = false) (h4 : A.eq kd 2 = false) (h6 : A.eq kd 3 = false) (h7 : A.eq kd 4 = true) (h5 : A.fit (Nat.succ m) 40 = true)
    (hr : lpOf (envV A) 49 bd49 3 (stBk p ws out2 n (Nat.succ i)) = r) : lpOf (envV A) 49 bd49 3 (stBk p ws out n i) = r := by
  unfold stBk at hr ⊢
  unfold wC at e1
  rcases hp with rfl | rfl
  ·
    rw [lp_step (envV A) 49 (c0 := bd49) (lv := lvF49) rfl rfl]
    have hnle := hA.nleE; have hneq := hA.neqE
    have klt := hA.lt; have kle := hA.le; have keq := hA.eq; have knle := hA.nle; have kneq := hA.neq
    rw [lp_split (lpOf (envV A) 49 bd49) 3]
    generalize lpOf (envV A) 49 bd49 3 = L3 at e0 e1 e2 e3 e4 e5 h1 h2 h3 h4 h6 h7 h5 hr ⊢
    generalize lpOf (envV A) 49 bd49 = LP
    generalize evl (envV A) = E at e0 e1 e2 e3 e4 e5 h1 h2 h3 h4 h6 h7 h5 hr ⊢
    obtain ⟨aadd, asub, amul, arem, aquo, awr, ashr, aeq, alt, ale, aseq, aslt, acat, acut, asiz, aat, anle, aneq, afit⟩ := A
    simp only at hnle hneq
    subst hnle hneq
    simp only at klt kle keq knle kneq
    try simp only at h1 h2 h3 h4 h6 h7 h5 hr
    conv at e0 => lhs; cbv
    conv at e1 => lhs; cbv
    conv at e2 => lhs; cbv
    conv at e3 => lhs; cbv
    conv at e4 => lhs; cbv
    conv at e5 => lhs; cbv
    cbv
    rewrite [h1]
    cbv
    rewrite [e1]
    cbv
    rewrite [h3]
    cbv
    rewrite [h4]
    cbv
    rewrite [h6]
    cbv
    rewrite [h7]
    cbv
    rewrite [e3]
    cbv
    rewrite [e4]
    cbv
    rewrite [e5]
    cbv
    rewrite [h5]
    cbv
    rewrite [h2]
    cbv
    rewrite [hr]
    cbv
  ·
    rw [lp_step (envV A) 49 (c0 := bd49) (lv := lvF49) rfl rfl]
    have hnle := hA.nleE; have hneq := hA.neqE
    have klt := hA.lt; have kle := hA.le; have keq := hA.eq; have knle := hA.nle; have kneq := hA.neq
    rw [lp_split (lpOf (envV A) 49 bd49) 3]
    generalize lpOf (envV A) 49 bd49 3 = L3 at e0 e1 e2 e3 e4 e5 h1 h2 h3 h4 h6 h7 h5 hr ⊢
    generalize lpOf (envV A) 49 bd49 = LP
    generalize evl (envV A) = E at e0 e1 e2 e3 e4 e5 h1 h2 h3 h4 h6 h7 h5 hr ⊢
    obtain ⟨aadd, asub, amul, arem, aquo, awr, ashr, aeq, alt, ale, aseq, aslt, acat, acut, asiz, aat, anle, aneq, afit⟩ := A
    simp only at hnle hneq
    subst hnle hneq
    simp only at klt kle keq knle kneq
    try simp only at h1 h2 h3 h4 h6 h7 h5 hr
    conv at e0 => lhs; cbv
    conv at e1 => lhs; cbv
    conv at e2 => lhs; cbv
    conv at e3 => lhs; cbv
    conv at e4 => lhs; cbv
    conv at e5 => lhs; cbv
    cbv
    rewrite [h1]
    cbv
    rewrite [e1]
    cbv
    rewrite [h3]
    cbv
    rewrite [h4]
    cbv
    rewrite [h6]
    cbv
    rewrite [h7]
    cbv
    rewrite [e3]
    cbv
    rewrite [e4]
    cbv
    rewrite [e5]
    cbv
    rewrite [h5]
    cbv
    rewrite [h2]
    cbv
    rewrite [hr]
    cbv
theorem lp_bk_end (h1 : A.lt (.ofNat i) (.ofNat n) = false) : lpOf (envV A) 49 bd49 3 (stBk p ws out n i) = some (.code (.exit 0) (stBke p ws out n i)) := by
  unfold stBk stBke
  rcases hp with rfl | rfl
  ·
    rw [lp_step (envV A) 49 (c0 := bd49) (lv := lvF49) rfl rfl]
    have hnle := hA.nleE; have hneq := hA.neqE
    have klt := hA.lt; have kle := hA.le; have keq := hA.eq; have knle := hA.nle; have kneq := hA.neq
    generalize lpOf (envV A) 49 bd49 = LP
    generalize evl (envV A) = E at h1 ⊢
    obtain ⟨aadd, asub, amul, arem, aquo, awr, ashr, aeq, alt, ale, aseq, aslt, acat, acut, asiz, aat, anle, aneq, afit⟩ := A
    simp only at hnle hneq
    subst hnle hneq
    simp only at klt kle keq knle kneq
    try simp only at h1
    cbv
    rewrite [h1]
    cbv
  ·
    rw [lp_step (envV A) 49 (c0 := bd49) (lv := lvF49) rfl rfl]
    have hnle := hA.nleE; have hneq := hA.neqE
    have klt := hA.lt; have kle := hA.le; have keq := hA.eq; have knle := hA.nle; have kneq := hA.neq
    generalize lpOf (envV A) 49 bd49 = LP
    generalize evl (envV A) = E at h1 ⊢
    obtain ⟨aadd, asub, amul, arem, aquo, awr, ashr, aeq, alt, ale, aseq, aslt, acat, acut, asiz, aat, anle, aneq, afit⟩ := A
    simp only at hnle hneq
    subst hnle hneq
    simp only at klt kle keq knle kneq
    try simp only at h1
    cbv
    rewrite [h1]
    cbv
theorem eq_bk (e0 : ws.length = n) (e3 : out.length = m) (e4 : Nat.ble m m = true) (e5 : out.take m = out) (h1 : lpOf (envV A) 49 bd49 3 (stBk p ws [] n 0) = some (.code (.exit 0) (stBke p ws out n i))) :
    evl (envV A) (.call 49 [.sl 6 ws p] []) = some (.ret (.sl 3 out .full) []) := by
  unfold stBk stBke at h1
  simp only [show Int.ofNat 0 = 0 from rfl] at h1
  rcases hp with rfl | rfl
  ·
    rw [evl_fn (envV A) 49 _ _ (fn := Try.f49) (c := bd49) (lv := lvF49) rfl rfl rfl rfl rfl rfl]
    have hnle := hA.nleE; have hneq := hA.neqE
    have klt := hA.lt; have kle := hA.le; have keq := hA.eq; have knle := hA.nle; have kneq := hA.neq
    rw [lp_split (lpOf (envV A) 49 bd49) 3]
    generalize lpOf (envV A) 49 bd49 3 = L3 at e0 e3 e4 e5 h1 ⊢
    generalize lpOf (envV A) 49 bd49 = LP
    generalize evl (envV A) = E at e0 e3 e4 e5 h1 ⊢
    obtain ⟨aadd, asub, amul, arem, aquo, awr, ashr, aeq, alt, ale, aseq, aslt, acat, acut, asiz, aat, anle, aneq, afit⟩ := A
    simp only at hnle hneq
    subst hnle hneq
    simp only at klt kle keq knle kneq
    try simp only at h1
    conv at e0 => lhs; cbv
    conv at e3 => lhs; cbv
    conv at e4 => lhs; cbv
    conv at e5 => lhs; cbv
    cbv
    rewrite [e0]
    cbv
    rewrite [h1]
    cbv
    rewrite [e3]
    cbv
    rewrite [e4]
    cbv
    rewrite [e5]
    cbv
  ·
    rw [evl_fn (envV A) 49 _ _ (fn := Try.f49) (c := bd49) (lv := lvF49) rfl rfl rfl rfl rfl rfl]
    have hnle := hA.nleE; have hneq := hA.neqE
    have klt := hA.lt; have kle := hA.le; have keq := hA.eq; have knle := hA.nle; have kneq := hA.neq
    rw [lp_split (lpOf (envV A) 49 bd49) 3]
    generalize lpOf (envV A) 49 bd49 3 = L3 at e0 e3 e4 e5 h1 ⊢
    generalize lpOf (envV A) 49 bd49 = LP
    generalize evl (envV A) = E at e0 e3 e4 e5 h1 ⊢
    obtain ⟨aadd, asub, amul, arem, aquo, awr, ashr, aeq, alt, ale, aseq, aslt, acat, acut, asiz, aat, anle, aneq, afit⟩ := A
    simp only at hnle hneq
    subst hnle hneq
    simp only at klt kle keq knle kneq
    try simp only at h1
    conv at e0 => lhs; cbv
    conv at e3 => lhs; cbv
    conv at e4 => lhs; cbv
    conv at e5 => lhs; cbv
    cbv
    rewrite [e0]
    cbv
    rewrite [h1]
    cbv
    rewrite [e3]
    cbv
    rewrite [e4]
    cbv
    rewrite [e5]
    cbv
end
end Go.Va
namespace Go.Va
open Go.Proofs
set_option maxRecDepth 100000
theorem atI_cell (v : AtT) : AV.agg [.s (.int .i64 (bif v.2.2 then 6 else 5)), .s (.string v.1), .s (.string v.2.1)] = insA (atI v) := by
  rcases v with ⟨a, b, c⟩
  unfold insA atI
  cases c <;> rfl
theorem lp_elI (o : Int) (tag key text : ByteArray) (ats : List AtT) (ks : List AV) : ∀ (m i : Nat) (out : List InsT), m + i = ats.length → out.length + m ≤ 1000 → ats.length ≤ 1000 →
    lpOf (envV realAr) 87 bd87 6 (stEl o tag key text (ats.map atA) ks (out.map insA) ats.length i) = some (.code (.exit 0) (stEle o tag key text (ats.map atA) ks ((out ++ (ats.drop i).map atI).map insA) ats.length ats.length))
  | 0, i, out, h, _, _ => by
    have : i = ats.length := by omega
    subst this
    rw [List.drop_length, List.map_nil, List.append_nil]
    exact lp_el_end realAr realAr_ok (ats := ats.map atA) (ks := ks) (out := out.map insA) (n := ats.length) (i := ats.length) (o := o) (tag := tag) (key := key) (text := text) (h1 := nlt_f (Nat.le_refl _))
  | m + 1, i, out, h, ho, hl => by
    have hi : i < ats.length := by omega
    have hg := mget atA ats hi
    have next := lp_elI o tag key text ats ks m (i + 1) (out ++ [atI ats[i]]) (by omega) (by simp; omega) hl
    rw [List.append_assoc, List.singleton_append, ← List.map_cons (f := atI), ← List.drop_eq_getElem_cons hi] at next
    have hlt : realAr.lt (.ofNat i) (.ofNat ats.length) = true := nlt_t hi
    have hadd : realAr.add .i64 (.ofNat i) 1 = .ofNat (Nat.succ i) := ninc (by omega)
    have hsn := msnoc insA out (atI ats[i])
    rw [← atI_cell] at hsn
    exact lp_el realAr realAr_ok (ats := ats.map atA) (ks := ks) (out := out.map insA) (out2 := (out ++ [atI ats[i]]).map insA) (n := ats.length) (m := out.length) (i := i) (o := o) (tag := tag) (key := key) (text := text) (a := ats[i].1) (b := ats[i].2.1) (st := ats[i].2.2) (e0 := mlen atA ats) (e1 := hg) (e2 := hble hi) (e3 := mlen insA out) (e4 := hsn) (e5 := hbeq _) (h1 := hlt) (h2 := hadd) (h3 := hfit (by omega)) (hr := next)
theorem s_el_void (tag key : ByteArray) (ats : List AtT) (hv : voidP tag = true) (hl : ats.length ≤ 990) : evl (envV realAr) (.call 87 [.agg (wC .imm 1 tag key ⟨#[]⟩ (ats.map atA) [])] []) = some (.ret (.sl 3 (((3, tag, key) :: ats.map atI).map insA) .full) []) := by
  have h1 : evl (envV realAr) (.call 69 [.s (.string tag)] []) = some (.ret (.s (.bool (voidP tag))) []) := eq_name_Void realAr tag
  rw [hv] at h1
  have h2 := lp_elI 3 tag key ⟨#[]⟩ ats [] ats.length 0 [(3, tag, key)] (by omega) (by simp; omega) (by omega)
  rw [List.drop_zero] at h2
  exact eq_el_void realAr realAr_ok (ats := ats.map atA) (ks := []) (out := ((3, tag, key) :: ats.map atI).map insA) (n := ats.length) (m := ((3, tag, key) :: ats.map atI).length) (i := ats.length) (tag := tag) (key := key) (text := ⟨#[]⟩) (e0 := mlen atA ats) (e3 := by rw [List.length_map]) (e4 := hble (Nat.le_refl _)) (e5 := List.take_of_length_le (by rw [List.length_map]; exact Nat.le_refl _)) (h1 := h1) (h3 := heq_t rfl) (h2 := h2)
theorem s_el_open (tag key : ByteArray) (ats : List AtT) (ks : List AV) (bs : List InsT) (hv : voidP tag = false) (hl : ats.length + bs.length ≤ 990) (hk : evl (envV realAr) (.call 49 [.sl 6 ks .imm] []) = some (.ret (.sl 3 (bs.map insA) .full) [])) :
    evl (envV realAr) (.call 87 [.agg (wC .imm 1 tag key ⟨#[]⟩ (ats.map atA) ks)] []) = some (.ret (.sl 3 (((1, tag, key) :: (ats.map atI ++ (bs ++ [(2, ⟨#[]⟩, ⟨#[]⟩)]))).map insA) .full) []) := by
  have h1 : evl (envV realAr) (.call 69 [.s (.string tag)] []) = some (.ret (.s (.bool (voidP tag))) []) := eq_name_Void realAr tag
  rw [hv] at h1
  have h2 := lp_elI 1 tag key ⟨#[]⟩ ats ks ats.length 0 [(1, tag, key)] (by omega) (by simp; omega) (by omega)
  rw [List.drop_zero] at h2
  have hle : ∀ x : List InsT, (x.map insA).take x.length = x.map insA := fun x => List.take_of_length_le (by rw [List.length_map]; exact Nat.le_refl _)
  have e := eq_el_open realAr realAr_ok (ats := ats.map atA) (ks := ks) (out := ((1, tag, key) :: ats.map atI).map insA) (bs := bs.map insA) (out2 := (((1, tag, key) :: ats.map atI) ++ bs).map insA) (out3 := ((((1, tag, key) :: ats.map atI) ++ bs) ++ [((2 : Int), (⟨#[]⟩ : ByteArray), (⟨#[]⟩ : ByteArray))]).map insA) (n := ats.length) (m := ((1, tag, key) :: ats.map atI).length) (i := ats.length) (k := bs.length) (j := (((1, tag, key) :: ats.map atI) ++ bs).length) (tag := tag) (key := key) (text := ⟨#[]⟩)
    (e0 := mlen atA ats) (e3 := by rw [List.length_map]) (e4 := hble (Nat.le_refl _)) (e5 := hle _) (e6 := mlen insA bs) (e7 := (List.map_append ..).symm) (e8 := mlen insA _) (e9 := (List.length_append ..).symm) (ea := msnoc insA _ ((2 : Int), (⟨#[]⟩ : ByteArray), (⟨#[]⟩ : ByteArray))) (eb := by rw [mlen insA, List.length_append]; rfl) (ec := hble (Nat.le_refl _)) (ed := by have := hle ((((1, tag, key) :: ats.map atI) ++ bs) ++ [((2 : Int), (⟨#[]⟩ : ByteArray), (⟨#[]⟩ : ByteArray))]); rw [List.length_append, List.length_singleton] at this; exact this) (ef := hbeq _) (eg := Nat.zero_add _) (eh := mcut0 insA bs rfl) (ei := hbeq _)
    (h1 := h1) (h3 := heq_f (by decide)) (h2 := h2) (h4 := hk) (h5 := hfit (by simp; omega)) (h6 := hfit (by simp; omega))
  rw [e]
  congr 5
  simp
theorem lp_bkI (p : Perm) (hp : p = .ro ∨ p = .imm) (ws : List WT) (hok : okWs ws) (hz : (flWs ws).length ≤ 900) (hk : ∀ t ∈ ws, evl (envV realAr) (.call 49 [.sl 6 (wtsA (kidsW t)) .imm] []) = some (.ret (.sl 3 ((flWs (kidsW t)).map insA) .full) [])) :
    ∀ (rest done : List WT) (out : List InsT), ws = done ++ rest → out.length + (flWs rest).length ≤ 900 → ws.length ≤ 900 →
    lpOf (envV realAr) 49 bd49 3 (stBk p (wtsA ws) (out.map insA) ws.length done.length) = some (.code (.exit 0) (stBke p (wtsA ws) ((out ++ flWs rest).map insA) ws.length ws.length))
  | [], done, out, h, _, _ => by
    have : ws.length = done.length := by rw [h, List.append_nil]
    rw [this]
    simp only [flWs, List.append_nil]
    exact lp_bk_end realAr realAr_ok p hp (ws := wtsA ws) (out := out.map insA) (n := done.length) (i := done.length) (h1 := nlt_f (Nat.le_refl _))
  | w :: rest, done, out, h, ho, hwl => by
    have hi : done.length < ws.length := by rw [h]; simp
    have hwi : ws[done.length] = w := by simp [h]
    have hg := wts_get hi
    rw [hwi] at hg
    have hmem : w ∈ ws := by rw [h]; simp
    have hw := okWs_mem hok hmem
    have hkw := hk w hmem
    simp only [flWs, List.length_append] at ho
    have next := lp_bkI p hp ws hok hz hk rest (done ++ [w]) (out ++ flW w) (by rw [h]; simp) (by rw [List.length_append]; omega) hwl
    rw [List.length_append, List.length_singleton] at next
    have hfl : out ++ flWs (w :: rest) = out ++ flW w ++ flWs rest := by simp [flWs]
    rw [hfl]
    have hlt : realAr.lt (.ofNat done.length) (.ofNat ws.length) = true := nlt_t hi
    have hadd : realAr.add .i64 (.ofNat done.length) 1 = .ofNat (Nat.succ done.length) := ninc (by omega)
    have hb : Nat.ble (Nat.succ done.length) ws.length = true := hble hi
    have elem : ∀ (tag key : ByteArray) (ats : List AtT) (ks : List WT), w = .node 1 tag key ⟨#[]⟩ ats ks → evl (envV realAr) (.call 87 [.agg (wC .imm 1 tag key ⟨#[]⟩ (ats.map atA) (wtsA ks))] []) = some (.ret (.sl 3 ((flW w).map insA) .full) []) →
        lpOf (envV realAr) 49 bd49 3 (stBk p (wtsA ws) (out.map insA) ws.length done.length) = some (.code (.exit 0) (stBke p (wtsA ws) ((out ++ flW w ++ flWs rest).map insA) ws.length ws.length)) := fun tag key ats ks e he => by
      have hg2 := hg
      rw [e] at hg2
      unfold wtA at hg2
      exact lp_bk_1 realAr realAr_ok p hp (ws := wtsA ws) (ats := ats.map atA) (ks := wtsA ks) (out := out.map insA) (out2 := (out ++ flW w).map insA) (es := (flW w).map insA) (n := ws.length) (m := out.length) (i := done.length) (j := out.length + (flW w).length) (k := (flW w).length) (kd := 1) (tag := tag) (key := key) (text := ⟨#[]⟩) (e0 := wts_len ws) (e1 := hg2) (e2 := hb) (e3 := mlen insA out) (e4 := (List.map_append ..).symm) (e5 := mlen insA _) (e6 := rfl) (e7 := by rw [mlen insA, List.length_append]) (e8 := Nat.zero_add _) (e9 := mcut0 insA _ rfl) (ea := hbeq _) (h1 := hlt) (h2 := hadd) (h3 := heq_t rfl) (h4 := he) (h5 := hfit (by omega)) (hr := next)
    rcases w with ⟨k, tag, key, text, ats, ks⟩
    simp only [okW] at hw
    rcases hw with ⟨rfl, rfl, hv, hoks⟩ | ⟨rfl, rfl, rfl, rfl, rfl⟩ | ⟨rfl | rfl, rfl, rfl, rfl, rfl, rfl⟩
    · cases hvb : voidP tag with
      | true =>
        have := hv hvb
        subst this
        have hfl2 : flW (.node 1 tag key ⟨#[]⟩ ats []) = (3, tag, key) :: ats.map atI := by simp [flW, hvb]
        refine elem tag key ats [] rfl ?_
        rw [hfl2]
        rw [hfl2] at ho
        simp only [List.length_cons, List.length_map] at ho
        have := s_el_void tag key ats hvb (by omega)
        simp only [wtsA]
        exact this
      | false =>
        have hfl2 : flW (.node 1 tag key ⟨#[]⟩ ats ks) = (1, tag, key) :: (ats.map atI ++ (flWs ks ++ [(2, ⟨#[]⟩, ⟨#[]⟩)])) := by simp [flW, hvb]
        refine elem tag key ats ks rfl ?_
        rw [hfl2]
        rw [hfl2] at ho
        simp only [List.length_cons, List.length_map, List.length_append] at ho
        exact s_el_open tag key ats (wtsA ks) (flWs ks) hvb (by omega) hkw
    · unfold wtA at hg
      have hsn : out.map insA ++ [.agg [.s (.int .i64 4), .s (.string text), .s (.string ⟨#[]⟩)]] = (out ++ [((4 : Int), (text : ByteArray), (⟨#[]⟩ : ByteArray))]).map insA := msnoc insA out (4, text, ⟨#[]⟩)
      exact lp_bk_2 realAr realAr_ok p hp (ws := wtsA ws) (ats := [].map atA) (ks := wtsA []) (out := out.map insA) (out2 := (out ++ [((4 : Int), (text : ByteArray), (⟨#[]⟩ : ByteArray))]).map insA) (n := ws.length) (m := out.length) (i := done.length) (kd := 2) (tag := ⟨#[]⟩) (key := ⟨#[]⟩) (text := text) (e0 := wts_len ws) (e1 := hg) (e2 := hb) (e3 := mlen insA out) (e4 := hsn) (e5 := hbeq _) (h1 := hlt) (h2 := hadd) (h3 := heq_f (by decide)) (h4 := heq_t rfl) (h5 := hfit (by omega)) (hr := by
        have hfl2 : flW (.node 2 ⟨#[]⟩ ⟨#[]⟩ text [] []) = [(4, text, ⟨#[]⟩)] := by simp [flW]
        rw [hfl2] at next ⊢
        exact next)
    · unfold wtA at hg
      have hsn : out.map insA ++ [.agg [.s (.int .i64 8), .s (.string ⟨#[]⟩), .s (.string ⟨#[]⟩)]] = (out ++ [((8 : Int), (⟨#[]⟩ : ByteArray), (⟨#[]⟩ : ByteArray))]).map insA := msnoc insA out (8, ⟨#[]⟩, ⟨#[]⟩)
      exact lp_bk_3 realAr realAr_ok p hp (ws := wtsA ws) (ats := [].map atA) (ks := wtsA []) (out := out.map insA) (out2 := (out ++ [((8 : Int), (⟨#[]⟩ : ByteArray), (⟨#[]⟩ : ByteArray))]).map insA) (n := ws.length) (m := out.length) (i := done.length) (kd := 3) (tag := ⟨#[]⟩) (key := ⟨#[]⟩) (text := ⟨#[]⟩) (e0 := wts_len ws) (e1 := hg) (e2 := hb) (e3 := mlen insA out) (e4 := hsn) (e5 := hbeq _) (h1 := hlt) (h2 := hadd) (h3 := heq_f (by decide)) (h4 := heq_f (by decide)) (h6 := heq_t rfl) (h5 := hfit (by omega)) (hr := by
        have hfl2 : flW (.node 3 ⟨#[]⟩ ⟨#[]⟩ ⟨#[]⟩ [] []) = [(8, ⟨#[]⟩, ⟨#[]⟩)] := by simp [flW]
        rw [hfl2] at next ⊢
        exact next)
    · unfold wtA at hg
      have hsn : out.map insA ++ [.agg [.s (.int .i64 7), .s (.string ⟨#[]⟩), .s (.string ⟨#[]⟩)]] = (out ++ [((7 : Int), (⟨#[]⟩ : ByteArray), (⟨#[]⟩ : ByteArray))]).map insA := msnoc insA out (7, ⟨#[]⟩, ⟨#[]⟩)
      exact lp_bk_4 realAr realAr_ok p hp (ws := wtsA ws) (ats := [].map atA) (ks := wtsA []) (out := out.map insA) (out2 := (out ++ [((7 : Int), (⟨#[]⟩ : ByteArray), (⟨#[]⟩ : ByteArray))]).map insA) (n := ws.length) (m := out.length) (i := done.length) (kd := 4) (tag := ⟨#[]⟩) (key := ⟨#[]⟩) (text := ⟨#[]⟩) (e0 := wts_len ws) (e1 := hg) (e2 := hb) (e3 := mlen insA out) (e4 := hsn) (e5 := hbeq _) (h1 := hlt) (h2 := hadd) (h3 := heq_f (by decide)) (h4 := heq_f (by decide)) (h6 := heq_f (by decide)) (h7 := heq_t rfl) (h5 := hfit (by omega)) (hr := by
        have hfl2 : flW (.node 4 ⟨#[]⟩ ⟨#[]⟩ ⟨#[]⟩ [] []) = [(7, ⟨#[]⟩, ⟨#[]⟩)] := by simp [flW]
        rw [hfl2] at next ⊢
        exact next)
theorem flW_pos (t : WT) : 1 ≤ (flW t).length := by
  rcases t with ⟨k, tag, key, text, ats, ks⟩
  unfold flW
  split
  · simp
  · split
    · simp
    · split
      · simp
      · split <;> simp
theorem flWs_len : ∀ ws : List WT, ws.length ≤ (flWs ws).length
  | [] => Nat.le_refl _
  | t :: ts => by
    have := flWs_len ts
    have := flW_pos t
    simp only [flWs, List.length_cons, List.length_append]
    omega
theorem s_BackL (p : Perm) (hp : p = .ro ∨ p = .imm) (ws : List WT) (hok : okWs ws) (hz : (flWs ws).length ≤ 900) (hk : ∀ t ∈ ws, evl (envV realAr) (.call 49 [.sl 6 (wtsA (kidsW t)) .imm] []) = some (.ret (.sl 3 ((flWs (kidsW t)).map insA) .full) [])) :
    evl (envV realAr) (.call 49 [.sl 6 (wtsA ws) p] []) = some (.ret (.sl 3 ((flWs ws).map insA) .full) []) := by
  have hwl := flWs_len ws
  have h := lp_bkI p hp ws hok hz hk ws [] [] rfl (by simp; omega) (by omega)
  rw [List.nil_append] at h
  exact eq_bk realAr realAr_ok p hp (ws := wtsA ws) (out := (flWs ws).map insA) (n := ws.length) (m := (flWs ws).length) (i := ws.length) (e0 := wts_len ws) (e3 := mlen insA _) (e4 := hble (Nat.le_refl _)) (e5 := List.take_of_length_le (by rw [List.length_map]; exact Nat.le_refl _)) (h1 := h)
theorem s_BackK : ∀ t : WT, okW t → (flW t).length ≤ 900 → evl (envV realAr) (.call 49 [.sl 6 (wtsA (kidsW t)) .imm] []) = some (.ret (.sl 3 ((flWs (kidsW t)).map insA) .full) []) := by
  intro t
  induction t using WT.ind with
  | h k tag key text ats ks ih =>
    intro hok hl
    have h1 := flW_kids _ hok
    have h2 := okW_kids _ hok
    simp only [kidsW] at h1 h2 ⊢
    exact s_BackL .imm (.inr rfl) ks h2 (by omega) (fun t ht => ih t ht (okWs_mem h2 ht) (by have := flWs_mem ht; omega))
theorem s_Back (ws : List WT) (hok : okWs ws) (hz : (flWs ws).length ≤ 900) : evl (envV realAr) (.call 49 [.sl 6 (wtsA ws) .ro] []) = some (.ret (.sl 3 ((flWs ws).map insA) .full) []) :=
  s_BackL .ro (.inl rfl) ws hok hz (fun t ht => s_BackK t (okWs_mem hok ht) (by have := flWs_mem ht; omega))
end Go.Va
namespace Go.Va
open Go.Proofs
set_option maxRecDepth 100000
set_option maxHeartbeats 4000000
section
variable (A : Ar) (hA : ArOk A) (xs ys ws us ks vs : List AV) (n m i k c d j : Nat) (z : Int)
include hA
section
variable (h0 : evl (envV A) (.call 39 [] []) = some (.ret (.s (.bool true)) []))
include h0
theorem eq_WT_few1 (h1 : evl (envV A) (.call 20 [.sl 3 xs .imm] []) = some (.ret (.s (.int .i64 0)) [])) (h3 : A.eq 0 0 = true) :
    evl (envV A) (.call 9 [.sl 3 xs .imm, .sl 3 ys .imm] []) = some (.ret (.s (.bool true)) []) := by
  rw [evl_fn (envV A) 9 _ _ (fn := Try.f9) (c := bd9) (lv := lvF9) rfl rfl rfl rfl rfl rfl]
  have hnle := hA.nleE; have hneq := hA.neqE
  generalize lpOf (envV A) 9 bd9 = LP
  generalize evl (envV A) = E at h0 h1 h3 ⊢
  obtain ⟨aadd, asub, amul, arem, aquo, awr, ashr, aeq, alt, ale, aseq, aslt, acat, acut, asiz, aat, anle, aneq, afit⟩ := A
  simp only at hnle hneq
  subst hnle hneq
  try simp only at h0 h1 h3
  cbv
  rewrite [h0]
  cbv
  rewrite [h1]
  cbv
  rewrite [h3]
  cbv
theorem eq_WT_few2 (h1 : evl (envV A) (.call 20 [.sl 3 xs .imm] []) = some (.ret (.s (.int .i64 1)) [])) (h2 : evl (envV A) (.call 20 [.sl 3 ys .imm] []) = some (.ret (.s (.int .i64 0)) [])) (h3 : A.eq 1 0 = false) (h4 : A.eq 0 0 = true) :
    evl (envV A) (.call 9 [.sl 3 xs .imm, .sl 3 ys .imm] []) = some (.ret (.s (.bool true)) []) := by
  rw [evl_fn (envV A) 9 _ _ (fn := Try.f9) (c := bd9) (lv := lvF9) rfl rfl rfl rfl rfl rfl]
  have hnle := hA.nleE; have hneq := hA.neqE
  generalize lpOf (envV A) 9 bd9 = LP
  generalize evl (envV A) = E at h0 h1 h2 h3 h4 ⊢
  obtain ⟨aadd, asub, amul, arem, aquo, awr, ashr, aeq, alt, ale, aseq, aslt, acat, acut, asiz, aat, anle, aneq, afit⟩ := A
  simp only at hnle hneq
  subst hnle hneq
  try simp only at h0 h1 h2 h3 h4
  cbv
  rewrite [h0]
  cbv
  rewrite [h1]
  cbv
  rewrite [h3]
  cbv
  rewrite [h2]
  cbv
  rewrite [h4]
  cbv
variable (h1 : evl (envV A) (.call 20 [.sl 3 xs .imm] []) = some (.ret (.s (.int .i64 1)) [])) (h2 : evl (envV A) (.call 20 [.sl 3 ys .imm] []) = some (.ret (.s (.int .i64 1)) [])) (h3 : A.eq 1 0 = false)
include h1 h2 h3
theorem eq_WT_no (h4 : evl (envV A) (.call 34 [.sl 3 xs .imm] []) = some (.ret (.tup [.sl 6 [] .full, .s (.iface 39 (.int .i64 z))]) [])) (h5 : evl (envV A) (.call 24 [.sl 3 xs .imm] []) = some (.ret (.s (.int .i64 z)) [])) (h6 : evl (envV A) (.call 18 [.s (.iface 39 (.int .i64 z))] []) = some (.ret (.s (.int .i64 z)) [])) (h7 : A.eq z z = true) (h8 : A.eq z 0 = false) (h9 : A.eq (.ofNat 0) 0 = true) :
    evl (envV A) (.call 9 [.sl 3 xs .imm, .sl 3 ys .imm] []) = some (.ret (.s (.bool true)) []) := by
  rw [evl_fn (envV A) 9 _ _ (fn := Try.f9) (c := bd9) (lv := lvF9) rfl rfl rfl rfl rfl rfl]
  have hnle := hA.nleE; have hneq := hA.neqE
  generalize lpOf (envV A) 9 bd9 = LP
  generalize evl (envV A) = E at h0 h1 h2 h3 h4 h5 h6 h7 h8 h9 ⊢
  obtain ⟨aadd, asub, amul, arem, aquo, awr, ashr, aeq, alt, ale, aseq, aslt, acat, acut, asiz, aat, anle, aneq, afit⟩ := A
  simp only at hnle hneq
  subst hnle hneq
  try simp only at h0 h1 h2 h3 h4 h5 h6 h7 h8 h9
  cbv
  rewrite [h0]
  cbv
  rewrite [h1]
  cbv
  rewrite [h3]
  cbv
  rewrite [h2]
  cbv
  rewrite [h3]
  cbv
  rewrite [h4]
  cbv
  rewrite [h5]
  cbv
  rewrite [h6]
  cbv
  rewrite [h7]
  cbv
  rewrite [h8]
  cbv
  rewrite [h9]
  cbv
  rewrite [h8]
  cbv
variable (e1 : ws.length = n) (e3 : ks.length = n) (e4 : 0 + n = n) (e5 : lcut ws 0 n = ws) (e6 : lcut ks 0 n = ks) (e7 : Nat.ble n n = true) (e8 : ws.take n = ws) (e9 : ks.take n = ks)
  (h4 : evl (envV A) (.call 34 [.sl 3 xs .imm] []) = some (.ret (.tup [.sl 6 ws .full, .s .nilIface]) [])) (h5 : evl (envV A) (.call 24 [.sl 3 xs .imm] []) = some (.ret (.s (.int .i64 0)) [])) (h6 : evl (envV A) (.call 18 [.s .nilIface] []) = some (.ret (.s (.int .i64 0)) [])) (h7 : A.eq 0 0 = true)
  (h8 : evl (envV A) (.call 40 [.sl 3 xs .imm] []) = some (.ret (.sl 6 ks .full) [])) (h9 : evl (envV A) (.call 36 [.sl 6 ws .ro] []) = some (.ret (.sl 6 vs .full) [])) (ha : evl (envV A) (.call 41 [.sl 6 vs .full, .sl 6 ks .ro] []) = some (.ret (.s (.bool true)) []))
  (hb : evl (envV A) (.call 42 [.sl 6 ws .ro] []) = some (.ret (.s (.int .i64 (.ofNat c))) [])) (hc : evl (envV A) (.call 35 [.sl 6 ks .ro] []) = some (.ret (.s (.int .i64 (.ofNat c))) [])) (hd : A.eq (.ofNat c) (.ofNat c) = true) (he : evl (envV A) (.call 43 [.sl 6 ws .ro, .sl 6 ws .ro] []) = some (.ret (.s (.bool true)) []))
include e1 e3 e4 e5 e6 e7 e8 e9 h4 h5 h6 h7 h8 h9 ha hb hc hd he
theorem eq_WT_no2 (hf : evl (envV A) (.call 34 [.sl 3 ys .imm] []) = some (.ret (.tup [.sl 6 [] .full, .s (.iface 39 (.int .i64 z))]) [])) :
    evl (envV A) (.call 9 [.sl 3 xs .imm, .sl 3 ys .imm] []) = some (.ret (.s (.bool true)) []) := by
  rw [evl_fn (envV A) 9 _ _ (fn := Try.f9) (c := bd9) (lv := lvF9) rfl rfl rfl rfl rfl rfl]
  have hnle := hA.nleE; have hneq := hA.neqE
  generalize lpOf (envV A) 9 bd9 = LP
  generalize evl (envV A) = E at h0 h1 h2 h3 e1 e3 e4 e5 e6 e7 e8 e9 h4 h5 h6 h7 h8 h9 ha hb hc hd he hf ⊢
  obtain ⟨aadd, asub, amul, arem, aquo, awr, ashr, aeq, alt, ale, aseq, aslt, acat, acut, asiz, aat, anle, aneq, afit⟩ := A
  simp only at hnle hneq
  subst hnle hneq
  try simp only at h0 h1 h2 h3 h4 h5 h6 h7 h8 h9 ha hb hc hd he hf
  conv at e1 => lhs; cbv
  conv at e3 => lhs; cbv
  conv at e4 => lhs; cbv
  conv at e5 => lhs; cbv
  conv at e6 => lhs; cbv
  conv at e7 => lhs; cbv
  conv at e8 => lhs; cbv
  conv at e9 => lhs; cbv
  cbv
  rewrite [h0]
  cbv
  rewrite [h1]
  cbv
  rewrite [h3]
  cbv
  rewrite [h2]
  cbv
  rewrite [h3]
  cbv
  rewrite [h4]
  cbv
  rewrite [h5]
  cbv
  rewrite [h6]
  cbv
  rewrite [h7]
  cbv
  rewrite [h7]
  cbv
  rewrite [h7]
  cbv
  rewrite [h8]
  cbv
  rewrite [e1]
  cbv
  rewrite [e4]
  cbv
  rewrite [e5]
  cbv
  rewrite [e7]
  cbv
  rewrite [h9]
  cbv
  rewrite [e3]
  cbv
  rewrite [e4]
  cbv
  rewrite [e6]
  cbv
  rewrite [e7]
  cbv
  rewrite [ha]
  cbv
  rewrite [e1]
  cbv
  rewrite [e4]
  cbv
  rewrite [e5]
  cbv
  rewrite [e7]
  cbv
  rewrite [hb]
  cbv
  rewrite [e3]
  cbv
  rewrite [e4]
  cbv
  rewrite [e6]
  cbv
  rewrite [e7]
  cbv
  rewrite [hc]
  cbv
  rewrite [hd]
  cbv
  rewrite [e1]
  cbv
  rewrite [e4]
  cbv
  rewrite [e5]
  cbv
  rewrite [e7]
  cbv
  rewrite [he]
  cbv
  rewrite [hf]
  cbv
theorem eq_WT (ts : List AV) (s : Bool) (ea : us.length = m) (eb : 0 + m = m) (ec : lcut us 0 m = us) (ed : Nat.ble m m = true) (ee : us.take m = us) (hf : evl (envV A) (.call 34 [.sl 3 ys .imm] []) = some (.ret (.tup [.sl 6 us .full, .s .nilIface]) [])) (hg : evl (envV A) (.call 43 [.sl 6 ws .ro, .sl 6 us .ro] []) = some (.ret (.s (.bool s)) [])) (hh : evl (envV A) (.call 40 [.sl 3 ys .imm] []) = some (.ret (.sl 6 ts .full) [])) (hi : evl (envV A) (.call 41 [.sl 6 ks .ro, .sl 6 ts .full] []) = some (.ret (.s (.bool s)) [])) :
    evl (envV A) (.call 9 [.sl 3 xs .imm, .sl 3 ys .imm] []) = some (.ret (.s (.bool true)) []) := by
  cases s
  ·
    rw [evl_fn (envV A) 9 _ _ (fn := Try.f9) (c := bd9) (lv := lvF9) rfl rfl rfl rfl rfl rfl]
    have hnle := hA.nleE; have hneq := hA.neqE
    generalize lpOf (envV A) 9 bd9 = LP
    generalize evl (envV A) = E at h0 h1 h2 h3 e1 e3 e4 e5 e6 e7 e8 e9 h4 h5 h6 h7 h8 h9 ha hb hc hd he ea eb ec ed ee hf hg hh hi ⊢
    obtain ⟨aadd, asub, amul, arem, aquo, awr, ashr, aeq, alt, ale, aseq, aslt, acat, acut, asiz, aat, anle, aneq, afit⟩ := A
    simp only at hnle hneq
    subst hnle hneq
    try simp only at h0 h1 h2 h3 h4 h5 h6 h7 h8 h9 ha hb hc hd he hf hg hh hi
    conv at e1 => lhs; cbv
    conv at e3 => lhs; cbv
    conv at e4 => lhs; cbv
    conv at e5 => lhs; cbv
    conv at e6 => lhs; cbv
    conv at e7 => lhs; cbv
    conv at e8 => lhs; cbv
    conv at e9 => lhs; cbv
    conv at ea => lhs; cbv
    conv at eb => lhs; cbv
    conv at ec => lhs; cbv
    conv at ed => lhs; cbv
    conv at ee => lhs; cbv
    cbv
    rewrite [h0]
    cbv
    rewrite [h1]
    cbv
    rewrite [h3]
    cbv
    rewrite [h2]
    cbv
    rewrite [h3]
    cbv
    rewrite [h4]
    cbv
    rewrite [h5]
    cbv
    rewrite [h6]
    cbv
    rewrite [h7]
    cbv
    rewrite [h7]
    cbv
    rewrite [h7]
    cbv
    rewrite [h8]
    cbv
    rewrite [e1]
    cbv
    rewrite [e4]
    cbv
    rewrite [e5]
    cbv
    rewrite [e7]
    cbv
    rewrite [h9]
    cbv
    rewrite [e3]
    cbv
    rewrite [e4]
    cbv
    rewrite [e6]
    cbv
    rewrite [e7]
    cbv
    rewrite [ha]
    cbv
    rewrite [e1]
    cbv
    rewrite [e4]
    cbv
    rewrite [e5]
    cbv
    rewrite [e7]
    cbv
    rewrite [hb]
    cbv
    rewrite [e3]
    cbv
    rewrite [e4]
    cbv
    rewrite [e6]
    cbv
    rewrite [e7]
    cbv
    rewrite [hc]
    cbv
    rewrite [hd]
    cbv
    rewrite [e1]
    cbv
    rewrite [e4]
    cbv
    rewrite [e5]
    cbv
    rewrite [e7]
    cbv
    rewrite [he]
    cbv
    rewrite [hf]
    cbv
    rewrite [e1]
    cbv
    rewrite [e4]
    cbv
    rewrite [e5]
    cbv
    rewrite [e7]
    cbv
    rewrite [ea]
    cbv
    rewrite [eb]
    cbv
    rewrite [ec]
    cbv
    rewrite [ed]
    cbv
    rewrite [hg]
    cbv
    rewrite [e3]
    cbv
    rewrite [hh]
    cbv
    rewrite [e3]
    cbv
    rewrite [e4]
    cbv
    rewrite [e6]
    cbv
    rewrite [e7]
    cbv
    rewrite [hi]
    cbv
  ·
    rw [evl_fn (envV A) 9 _ _ (fn := Try.f9) (c := bd9) (lv := lvF9) rfl rfl rfl rfl rfl rfl]
    have hnle := hA.nleE; have hneq := hA.neqE
    generalize lpOf (envV A) 9 bd9 = LP
    generalize evl (envV A) = E at h0 h1 h2 h3 e1 e3 e4 e5 e6 e7 e8 e9 h4 h5 h6 h7 h8 h9 ha hb hc hd he ea eb ec ed ee hf hg hh hi ⊢
    obtain ⟨aadd, asub, amul, arem, aquo, awr, ashr, aeq, alt, ale, aseq, aslt, acat, acut, asiz, aat, anle, aneq, afit⟩ := A
    simp only at hnle hneq
    subst hnle hneq
    try simp only at h0 h1 h2 h3 h4 h5 h6 h7 h8 h9 ha hb hc hd he hf hg hh hi
    conv at e1 => lhs; cbv
    conv at e3 => lhs; cbv
    conv at e4 => lhs; cbv
    conv at e5 => lhs; cbv
    conv at e6 => lhs; cbv
    conv at e7 => lhs; cbv
    conv at e8 => lhs; cbv
    conv at e9 => lhs; cbv
    conv at ea => lhs; cbv
    conv at eb => lhs; cbv
    conv at ec => lhs; cbv
    conv at ed => lhs; cbv
    conv at ee => lhs; cbv
    cbv
    rewrite [h0]
    cbv
    rewrite [h1]
    cbv
    rewrite [h3]
    cbv
    rewrite [h2]
    cbv
    rewrite [h3]
    cbv
    rewrite [h4]
    cbv
    rewrite [h5]
    cbv
    rewrite [h6]
    cbv
    rewrite [h7]
    cbv
    rewrite [h7]
    cbv
    rewrite [h7]
    cbv
    rewrite [h8]
    cbv
    rewrite [e1]
    cbv
    rewrite [e4]
    cbv
    rewrite [e5]
    cbv
    rewrite [e7]
    cbv
    rewrite [h9]
    cbv
    rewrite [e3]
    cbv
    rewrite [e4]
    cbv
    rewrite [e6]
    cbv
    rewrite [e7]
    cbv
    rewrite [ha]
    cbv
    rewrite [e1]
    cbv
    rewrite [e4]
    cbv
    rewrite [e5]
    cbv
    rewrite [e7]
    cbv
    rewrite [hb]
    cbv
    rewrite [e3]
    cbv
    rewrite [e4]
    cbv
    rewrite [e6]
    cbv
    rewrite [e7]
    cbv
    rewrite [hc]
    cbv
    rewrite [hd]
    cbv
    rewrite [e1]
    cbv
    rewrite [e4]
    cbv
    rewrite [e5]
    cbv
    rewrite [e7]
    cbv
    rewrite [he]
    cbv
    rewrite [hf]
    cbv
    rewrite [e1]
    cbv
    rewrite [e4]
    cbv
    rewrite [e5]
    cbv
    rewrite [e7]
    cbv
    rewrite [ea]
    cbv
    rewrite [eb]
    cbv
    rewrite [ec]
    cbv
    rewrite [ed]
    cbv
    rewrite [hg]
    cbv
    rewrite [e3]
    cbv
    rewrite [hh]
    cbv
    rewrite [e3]
    cbv
    rewrite [e4]
    cbv
    rewrite [e6]
    cbv
    rewrite [e7]
    cbv
    rewrite [hi]
    cbv
end
end
end Go.Va
namespace Go.Va
open Go.Proofs
set_option maxRecDepth 100000
set_option maxHeartbeats 4000000
def stSi (xs : List AV) (i : Nat) : St := { n := 26, k := 0, fr := [(0, .sl 3 xs .full), (1, .sl 3 xs .imm), (5, .s (.int .i64 (.ofNat i)))], O := [] }
def stSie (xs : List AV) (i : Nat) : St := { n := 26, k := 0, fr := [(0, .sl 3 xs .full), (1, .sl 3 xs .imm), (5, .s (.int .i64 (.ofNat i))), (14, .s (.bool false))], O := [] }
def stWb (xs ws : List AV) (c i : Nat) : St := { n := 64, k := 0, fr := [(0, .sl 3 xs .imm), (3, .s (.bool true)), (4, .sl 6 ws .full), (6, .s (.int .i64 (.ofNat c))), (7, .s (.int .i64 (.ofNat i)))], O := [] }
def stWbe (xs ws : List AV) (c i : Nat) : St := { n := 64, k := 0, fr := [(0, .sl 3 xs .imm), (3, .s (.bool true)), (4, .sl 6 ws .full), (6, .s (.int .i64 (.ofNat c))), (7, .s (.int .i64 (.ofNat i))), (24, .s (.bool false))], O := [] }
section
variable (A : Ar) (hA : ArOk A) (xs ys ws : List AV) (n m i k c d j : Nat) (o z : Int) (a b : ByteArray)
include hA
theorem lp_si {r : Option Res} (e0 : xs.length = n) (e1 : lget xs i = some (.agg [.s (.int .i64 o), .s (.string a), .s (.string b)])) (e2 : Nat.ble (Nat.succ i) n = true) (e3 : 0 + i = i) (h1 : A.lt (.ofNat i) (.ofNat n) = true) (h2 : A.add .i64 (.ofNat i) 1 = .ofNat (Nat.succ i)) (h3 : A.eq o o = true) (h4 : A.seq a a = true) (h5 : A.seq b b = true)
    (hr : lpOf (envV A) 19 bd19 4 (stSi xs (Nat.succ i)) = r) : lpOf (envV A) 19 bd19 4 (stSi xs i) = r := by
  unfold stSi at hr ⊢
  rw [lp_step (envV A) 19 (c0 := bd19) (lv := lvF19) rfl rfl]
  have hnle := hA.nleE; have hneq := hA.neqE
  rw [lp_split (lpOf (envV A) 19 bd19) 4]
  generalize lpOf (envV A) 19 bd19 4 = L4 at e0 e1 e2 e3 h1 h2 h3 h4 h5 hr ⊢
  generalize lpOf (envV A) 19 bd19 = LP
  generalize evl (envV A) = E at e0 e1 e2 e3 h1 h2 h3 h4 h5 hr ⊢
  obtain ⟨aadd, asub, amul, arem, aquo, awr, ashr, aeq, alt, ale, aseq, aslt, acat, acut, asiz, aat, anle, aneq, afit⟩ := A
  simp only at hnle hneq
  subst hnle hneq
  try simp only at h1 h2 h3 h4 h5 hr
  conv at e0 => lhs; cbv
  conv at e1 => lhs; cbv
  conv at e2 => lhs; cbv
  conv at e3 => lhs; cbv
  cbv
  rewrite [e0]
  cbv
  rewrite [h1]
  cbv
  rewrite [e0]
  cbv
  rewrite [e2]
  cbv
  rewrite [e3]
  cbv
  rewrite [e1]
  cbv
  rewrite [e1]
  cbv
  rewrite [h3]
  cbv
  rewrite [h4]
  cbv
  rewrite [h5]
  cbv
  rewrite [h2]
  cbv
  rewrite [hr]
  cbv
theorem lp_si_end (e0 : xs.length = n) (h1 : A.lt (.ofNat i) (.ofNat n) = false) : lpOf (envV A) 19 bd19 4 (stSi xs i) = some (.code (.exit 0) (stSie xs i)) := by
  unfold stSi stSie
  rw [lp_step (envV A) 19 (c0 := bd19) (lv := lvF19) rfl rfl]
  have hnle := hA.nleE; have hneq := hA.neqE
  generalize lpOf (envV A) 19 bd19 = LP
  generalize evl (envV A) = E at e0 h1 ⊢
  obtain ⟨aadd, asub, amul, arem, aquo, awr, ashr, aeq, alt, ale, aseq, aslt, acat, acut, asiz, aat, anle, aneq, afit⟩ := A
  simp only at hnle hneq
  subst hnle hneq
  try simp only at h1
  conv at e0 => lhs; cbv
  cbv
  rewrite [e0]
  cbv
  rewrite [h1]
  cbv
theorem eq_si (e0 : xs.length = n) (h1 : A.eq (.ofNat n) (.ofNat n) = true) (h2 : lpOf (envV A) 19 bd19 4 (stSi xs 0) = some (.code (.exit 0) (stSie xs i))) :
    evl (envV A) (.call 19 [.sl 3 xs .full, .sl 3 xs .imm] []) = some (.ret (.s (.bool true)) []) := by
  unfold stSi stSie at h2
  simp only [show Int.ofNat 0 = 0 from rfl] at h2
  rw [evl_fn (envV A) 19 _ _ (fn := Try.f19) (c := bd19) (lv := lvF19) rfl rfl rfl rfl rfl rfl]
  have hnle := hA.nleE; have hneq := hA.neqE
  rw [lp_split (lpOf (envV A) 19 bd19) 4]
  generalize lpOf (envV A) 19 bd19 4 = L4 at e0 h1 h2 ⊢
  generalize lpOf (envV A) 19 bd19 = LP
  generalize evl (envV A) = E at e0 h1 h2 ⊢
  obtain ⟨aadd, asub, amul, arem, aquo, awr, ashr, aeq, alt, ale, aseq, aslt, acat, acut, asiz, aat, anle, aneq, afit⟩ := A
  simp only at hnle hneq
  subst hnle hneq
  try simp only at h1 h2
  conv at e0 => lhs; cbv
  cbv
  rewrite [e0]
  cbv
  rewrite [h1]
  cbv
  rewrite [h2]
  cbv
theorem lp_wb_1 {r : Option Res} (e0 : xs.length = n) (e1 : lget xs i = some (.agg [.s (.int .i64 o), .s (.string a), .s (.string b)])) (e2 : Nat.ble (Nat.succ i) n = true) (h1 : A.lt (.ofNat i) (.ofNat n) = true) (h2 : A.add .i64 (.ofNat i) 1 = .ofNat (Nat.succ i)) (h3 : A.eq o 1 = true) (h4 : A.add .i64 (.ofNat c) 1 = .ofNat (Nat.succ c))
    (hr : lpOf (envV A) 12 bd12 9 (stWb xs ws (Nat.succ c) (Nat.succ i)) = r) : lpOf (envV A) 12 bd12 9 (stWb xs ws c i) = r := by
  unfold stWb at hr ⊢
  rw [lp_step (envV A) 12 (c0 := bd12) (lv := lvF12) rfl rfl]
  have hnle := hA.nleE; have hneq := hA.neqE
  rw [lp_split (lpOf (envV A) 12 bd12) 9]
  generalize lpOf (envV A) 12 bd12 9 = L9 at e0 e1 e2 h1 h2 h3 h4 hr ⊢
  generalize lpOf (envV A) 12 bd12 = LP
  generalize evl (envV A) = E at e0 e1 e2 h1 h2 h3 h4 hr ⊢
  obtain ⟨aadd, asub, amul, arem, aquo, awr, ashr, aeq, alt, ale, aseq, aslt, acat, acut, asiz, aat, anle, aneq, afit⟩ := A
  simp only at hnle hneq
  subst hnle hneq
  try simp only at h1 h2 h3 h4 hr
  conv at e0 => lhs; cbv
  conv at e1 => lhs; cbv
  conv at e2 => lhs; cbv
  cbv
  rewrite [e0]
  cbv
  rewrite [h1]
  cbv
  rewrite [e1]
  cbv
  rewrite [h3]
  cbv
  rewrite [h2]
  cbv
  rewrite [h4]
  cbv
  rewrite [hr]
  cbv
theorem lp_wb_3 {r : Option Res} (e0 : xs.length = n) (e1 : lget xs i = some (.agg [.s (.int .i64 o), .s (.string a), .s (.string b)])) (e2 : Nat.ble (Nat.succ i) n = true) (h1 : A.lt (.ofNat i) (.ofNat n) = true) (h2 : A.add .i64 (.ofNat i) 1 = .ofNat (Nat.succ i)) (h3 : A.eq o 1 = false) (h5 : A.eq o 3 = true) (h4 : A.add .i64 (.ofNat c) 1 = .ofNat (Nat.succ c))
    (hr : lpOf (envV A) 12 bd12 9 (stWb xs ws (Nat.succ c) (Nat.succ i)) = r) : lpOf (envV A) 12 bd12 9 (stWb xs ws c i) = r := by
  unfold stWb at hr ⊢
  rw [lp_step (envV A) 12 (c0 := bd12) (lv := lvF12) rfl rfl]
  have hnle := hA.nleE; have hneq := hA.neqE
  rw [lp_split (lpOf (envV A) 12 bd12) 9]
  generalize lpOf (envV A) 12 bd12 9 = L9 at e0 e1 e2 h1 h2 h3 h5 h4 hr ⊢
  generalize lpOf (envV A) 12 bd12 = LP
  generalize evl (envV A) = E at e0 e1 e2 h1 h2 h3 h5 h4 hr ⊢
  obtain ⟨aadd, asub, amul, arem, aquo, awr, ashr, aeq, alt, ale, aseq, aslt, acat, acut, asiz, aat, anle, aneq, afit⟩ := A
  simp only at hnle hneq
  subst hnle hneq
  try simp only at h1 h2 h3 h5 h4 hr
  conv at e0 => lhs; cbv
  conv at e1 => lhs; cbv
  conv at e2 => lhs; cbv
  cbv
  rewrite [e0]
  cbv
  rewrite [h1]
  cbv
  rewrite [e1]
  cbv
  rewrite [h3]
  cbv
  rewrite [e1]
  cbv
  rewrite [h5]
  cbv
  rewrite [h2]
  cbv
  rewrite [h4]
  cbv
  rewrite [hr]
  cbv
theorem lp_wb_4 {r : Option Res} (e0 : xs.length = n) (e1 : lget xs i = some (.agg [.s (.int .i64 o), .s (.string a), .s (.string b)])) (e2 : Nat.ble (Nat.succ i) n = true) (h1 : A.lt (.ofNat i) (.ofNat n) = true) (h2 : A.add .i64 (.ofNat i) 1 = .ofNat (Nat.succ i)) (h3 : A.eq o 1 = false) (h5 : A.eq o 3 = false) (h6 : A.eq o 4 = true) (h4 : A.add .i64 (.ofNat c) 1 = .ofNat (Nat.succ c))
    (hr : lpOf (envV A) 12 bd12 9 (stWb xs ws (Nat.succ c) (Nat.succ i)) = r) : lpOf (envV A) 12 bd12 9 (stWb xs ws c i) = r := by
  unfold stWb at hr ⊢
  rw [lp_step (envV A) 12 (c0 := bd12) (lv := lvF12) rfl rfl]
  have hnle := hA.nleE; have hneq := hA.neqE
  rw [lp_split (lpOf (envV A) 12 bd12) 9]
  generalize lpOf (envV A) 12 bd12 9 = L9 at e0 e1 e2 h1 h2 h3 h5 h6 h4 hr ⊢
  generalize lpOf (envV A) 12 bd12 = LP
  generalize evl (envV A) = E at e0 e1 e2 h1 h2 h3 h5 h6 h4 hr ⊢
  obtain ⟨aadd, asub, amul, arem, aquo, awr, ashr, aeq, alt, ale, aseq, aslt, acat, acut, asiz, aat, anle, aneq, afit⟩ := A
  simp only at hnle hneq
  subst hnle hneq
  try simp only at h1 h2 h3 h5 h6 h4 hr
  conv at e0 => lhs; cbv
  conv at e1 => lhs; cbv
  conv at e2 => lhs; cbv
  cbv
  rewrite [e0]
  cbv
  rewrite [h1]
  cbv
  rewrite [e1]
  cbv
  rewrite [h3]
  cbv
  rewrite [e1]
  cbv
  rewrite [h5]
  cbv
  rewrite [e1]
  cbv
  rewrite [h6]
  cbv
  rewrite [h2]
  cbv
  rewrite [h4]
  cbv
  rewrite [hr]
  cbv
theorem lp_wb_o {r : Option Res} (e0 : xs.length = n) (e1 : lget xs i = some (.agg [.s (.int .i64 o), .s (.string a), .s (.string b)])) (e2 : Nat.ble (Nat.succ i) n = true) (h1 : A.lt (.ofNat i) (.ofNat n) = true) (h2 : A.add .i64 (.ofNat i) 1 = .ofNat (Nat.succ i)) (h3 : A.eq o 1 = false) (h5 : A.eq o 3 = false) (h6 : A.eq o 4 = false)
    (hr : lpOf (envV A) 12 bd12 9 (stWb xs ws c (Nat.succ i)) = r) : lpOf (envV A) 12 bd12 9 (stWb xs ws c i) = r := by
  unfold stWb at hr ⊢
  rw [lp_step (envV A) 12 (c0 := bd12) (lv := lvF12) rfl rfl]
  have hnle := hA.nleE; have hneq := hA.neqE
  rw [lp_split (lpOf (envV A) 12 bd12) 9]
  generalize lpOf (envV A) 12 bd12 9 = L9 at e0 e1 e2 h1 h2 h3 h5 h6 hr ⊢
  generalize lpOf (envV A) 12 bd12 = LP
  generalize evl (envV A) = E at e0 e1 e2 h1 h2 h3 h5 h6 hr ⊢
  obtain ⟨aadd, asub, amul, arem, aquo, awr, ashr, aeq, alt, ale, aseq, aslt, acat, acut, asiz, aat, anle, aneq, afit⟩ := A
  simp only at hnle hneq
  subst hnle hneq
  try simp only at h1 h2 h3 h5 h6 hr
  conv at e0 => lhs; cbv
  conv at e1 => lhs; cbv
  conv at e2 => lhs; cbv
  cbv
  rewrite [e0]
  cbv
  rewrite [h1]
  cbv
  rewrite [e1]
  cbv
  rewrite [h3]
  cbv
  rewrite [e1]
  cbv
  rewrite [h5]
  cbv
  rewrite [e1]
  cbv
  rewrite [h6]
  cbv
  rewrite [h2]
  cbv
  rewrite [hr]
  cbv
theorem lp_wb_end (e0 : xs.length = n) (h1 : A.lt (.ofNat i) (.ofNat n) = false) : lpOf (envV A) 12 bd12 9 (stWb xs ws c i) = some (.code (.exit 0) (stWbe xs ws c i)) := by
  unfold stWb stWbe
  rw [lp_step (envV A) 12 (c0 := bd12) (lv := lvF12) rfl rfl]
  have hnle := hA.nleE; have hneq := hA.neqE
  generalize lpOf (envV A) 12 bd12 = LP
  generalize evl (envV A) = E at e0 h1 ⊢
  obtain ⟨aadd, asub, amul, arem, aquo, awr, ashr, aeq, alt, ale, aseq, aslt, acat, acut, asiz, aat, anle, aneq, afit⟩ := A
  simp only at hnle hneq
  subst hnle hneq
  try simp only at h1
  conv at e0 => lhs; cbv
  cbv
  rewrite [e0]
  cbv
  rewrite [h1]
  cbv
section
variable (h0 : evl (envV A) (.call 39 [] []) = some (.ret (.s (.bool true)) []))
include h0
theorem eq_WB_few (h1 : evl (envV A) (.call 20 [.sl 3 xs .imm] []) = some (.ret (.s (.int .i64 0)) [])) (h3 : A.eq 0 0 = true) :
    evl (envV A) (.call 12 [.sl 3 xs .imm] []) = some (.ret (.s (.bool true)) []) := by
  rw [evl_fn (envV A) 12 _ _ (fn := Try.f12) (c := bd12) (lv := lvF12) rfl rfl rfl rfl rfl rfl]
  have hnle := hA.nleE; have hneq := hA.neqE
  generalize lpOf (envV A) 12 bd12 = LP
  generalize evl (envV A) = E at h0 h1 h3 ⊢
  obtain ⟨aadd, asub, amul, arem, aquo, awr, ashr, aeq, alt, ale, aseq, aslt, acat, acut, asiz, aat, anle, aneq, afit⟩ := A
  simp only at hnle hneq
  subst hnle hneq
  try simp only at h0 h1 h3
  cbv
  rewrite [h0]
  cbv
  rewrite [h1]
  cbv
  rewrite [h3]
  cbv
variable (h1 : evl (envV A) (.call 20 [.sl 3 xs .imm] []) = some (.ret (.s (.int .i64 1)) [])) (h3 : A.eq 1 0 = false)
include h1 h3
theorem eq_WB_no (h4 : evl (envV A) (.call 34 [.sl 3 xs .imm] []) = some (.ret (.tup [.sl 6 [] .full, .s (.iface 39 (.int .i64 z))]) [])) :
    evl (envV A) (.call 12 [.sl 3 xs .imm] []) = some (.ret (.s (.bool true)) []) := by
  rw [evl_fn (envV A) 12 _ _ (fn := Try.f12) (c := bd12) (lv := lvF12) rfl rfl rfl rfl rfl rfl]
  have hnle := hA.nleE; have hneq := hA.neqE
  generalize lpOf (envV A) 12 bd12 = LP
  generalize evl (envV A) = E at h0 h1 h3 h4 ⊢
  obtain ⟨aadd, asub, amul, arem, aquo, awr, ashr, aeq, alt, ale, aseq, aslt, acat, acut, asiz, aat, anle, aneq, afit⟩ := A
  simp only at hnle hneq
  subst hnle hneq
  try simp only at h0 h1 h3 h4
  cbv
  rewrite [h0]
  cbv
  rewrite [h1]
  cbv
  rewrite [h3]
  cbv
  rewrite [h4]
  cbv
theorem eq_WB (e1 : ws.length = n) (e2 : 0 + n = n) (e3 : lcut ws 0 n = ws) (e4 : Nat.ble n n = true) (e5 : ws.take n = ws) (h4 : evl (envV A) (.call 34 [.sl 3 xs .imm] []) = some (.ret (.tup [.sl 6 ws .full, .s .nilIface]) [])) (h5 : lpOf (envV A) 12 bd12 9 (stWb xs ws 0 0) = some (.code (.exit 0) (stWbe xs ws c i)))
    (h6 : evl (envV A) (.call 49 [.sl 6 ws .ro] []) = some (.ret (.sl 3 xs .full) [])) (h7 : evl (envV A) (.call 19 [.sl 3 xs .full, .sl 3 xs .imm] []) = some (.ret (.s (.bool true)) [])) (h8 : evl (envV A) (.call 42 [.sl 6 ws .ro] []) = some (.ret (.s (.int .i64 (.ofNat c))) [])) (h9 : A.eq (.ofNat c) (.ofNat c) = true) :
    evl (envV A) (.call 12 [.sl 3 xs .imm] []) = some (.ret (.s (.bool true)) []) := by
  unfold stWb stWbe at h5
  simp only [show Int.ofNat 0 = 0 from rfl] at h5
  rw [evl_fn (envV A) 12 _ _ (fn := Try.f12) (c := bd12) (lv := lvF12) rfl rfl rfl rfl rfl rfl]
  have hnle := hA.nleE; have hneq := hA.neqE
  rw [lp_split (lpOf (envV A) 12 bd12) 9]
  generalize lpOf (envV A) 12 bd12 9 = L9 at e1 e2 e3 e4 e5 h0 h1 h3 h4 h5 h6 h7 h8 h9 ⊢
  generalize lpOf (envV A) 12 bd12 = LP
  generalize evl (envV A) = E at e1 e2 e3 e4 e5 h0 h1 h3 h4 h5 h6 h7 h8 h9 ⊢
  obtain ⟨aadd, asub, amul, arem, aquo, awr, ashr, aeq, alt, ale, aseq, aslt, acat, acut, asiz, aat, anle, aneq, afit⟩ := A
  simp only at hnle hneq
  subst hnle hneq
  try simp only at h0 h1 h3 h4 h5 h6 h7 h8 h9
  conv at e1 => lhs; cbv
  conv at e2 => lhs; cbv
  conv at e3 => lhs; cbv
  conv at e4 => lhs; cbv
  conv at e5 => lhs; cbv
  cbv
  rewrite [h0]
  cbv
  rewrite [h1]
  cbv
  rewrite [h3]
  cbv
  rewrite [h4]
  cbv
  rewrite [h5]
  cbv
  rewrite [e1]
  cbv
  rewrite [e2]
  cbv
  rewrite [e3]
  cbv
  rewrite [e4]
  cbv
  rewrite [h6]
  cbv
  rewrite [h7]
  cbv
  rewrite [e1]
  cbv
  rewrite [e2]
  cbv
  rewrite [e3]
  cbv
  rewrite [e4]
  cbv
  rewrite [h8]
  cbv
  rewrite [h9]
  cbv
end
end
theorem s_law14_up : evl (envV realAr) (.call 39 [] []) = some (.ret (.s (.bool true)) []) := evl_of (n := 100) (by kernel_rfl)
end Go.Va
namespace Go.Va
open Go.Proofs
set_option maxRecDepth 100000
theorem lp_siI (l : List InsT) (hl : l.length ≤ 1000) : ∀ (m i : Nat), m + i = l.length → lpOf (envV realAr) 19 bd19 4 (stSi (l.map insA) i) = some (.code (.exit 0) (stSie (l.map insA) l.length))
  | 0, i, h => by
    have : i = l.length := by omega
    subst this
    exact lp_si_end realAr realAr_ok (xs := l.map insA) (n := l.length) (i := l.length) (e0 := mlen insA l) (h1 := nlt_f (Nat.le_refl _))
  | m + 1, i, h => by
    have hi : i < l.length := by omega
    have hg := mget insA l hi
    have hlt : realAr.lt (.ofNat i) (.ofNat l.length) = true := nlt_t hi
    have hadd : realAr.add .i64 (.ofNat i) 1 = .ofNat (Nat.succ i) := ninc (by omega)
    exact lp_si realAr realAr_ok (xs := l.map insA) (n := l.length) (i := i) (o := l[i].1) (a := l[i].2.1) (b := l[i].2.2) (e0 := mlen insA l) (e1 := hg) (e2 := hble hi) (e3 := Nat.zero_add _) (h1 := hlt) (h2 := hadd) (h3 := heq_t rfl) (h4 := seq_refl _) (h5 := seq_refl _) (hr := lp_siI l hl m (i + 1) (by omega))
theorem s_same_self (l : List InsT) (hl : l.length ≤ 1000) : evl (envV realAr) (.call 19 [.sl 3 (l.map insA) .full, .sl 3 (l.map insA) .imm] []) = some (.ret (.s (.bool true)) []) :=
  eq_si realAr realAr_ok (xs := l.map insA) (n := l.length) (i := l.length) (e0 := mlen insA l) (h1 := heq_t rfl) (h2 := lp_siI l hl l.length 0 (by omega))
/-- how many instructions make a node -/
def mkN (x : InsT) : Nat := if x.1 = 1 ∨ x.1 = 3 ∨ x.1 = 4 then 1 else 0
def mkNs : List InsT → Nat
  | [] => 0
  | x :: l => mkN x + mkNs l
theorem mkNs_app : ∀ a b : List InsT, mkNs (a ++ b) = mkNs a + mkNs b
  | [], b => by simp [mkNs]
  | x :: a, b => by
    have := mkNs_app a b
    simp only [List.cons_append, mkNs]
    omega
theorem mkNs_at : ∀ ats : List AtT, mkNs (ats.map atI) = 0
  | [] => rfl
  | a :: ats => by
    have := atI_op a
    have h0 : mkN (atI a) = 0 := by
      unfold mkN
      rw [if_neg (by omega)]
    simp only [List.map_cons, mkNs, h0, mkNs_at ats]
theorem mkNs_L : ∀ ks : List WT, (∀ t ∈ ks, mkNs (flW t) = cntW t) → mkNs (flWs ks) = cntWs ks
  | [], _ => rfl
  | t :: ts, h => by
    rw [flWs, mkNs_app, h t (by simp), mkNs_L ts (fun u hu => h u (by simp [hu])), cntWs]
theorem mkNs_W : ∀ t : WT, okW t → mkNs (flW t) = cntW t := by
  intro t
  induction t using WT.ind with
  | h k tag key text ats ks ih =>
    intro hok
    have hk := okW_kids _ hok
    simp only [kidsW] at hk
    have hL := mkNs_L ks (fun t ht => ih t ht (okWs_mem hk ht))
    simp only [okW] at hok
    rcases hok with ⟨rfl, rfl, hv, hoks⟩ | ⟨rfl, rfl, rfl, rfl, rfl⟩ | ⟨rfl | rfl, rfl, rfl, rfl, rfl, rfl⟩
    · simp only [flW, cntW, if_true, show ¬ (1 : Int) = 2 by omega, show ¬ (1 : Int) = 3 by omega, show ¬ (1 : Int) = 4 by omega, if_false]
      split
      · rename_i q
        rw [hv q]
        simp [mkNs, mkNs_at, mkN, cntWs]
      · simp only [mkNs, mkNs_app, mkNs_at, hL]
        simp [mkN]
        omega
    · simp [flW, cntW, mkNs, mkN]
    · simp [flW, cntW, mkNs, mkN]
    · simp [flW, cntW, mkNs, mkN]
theorem lp_wbI (l : List InsT) (ws : List AV) (hl : l.length ≤ 1000) : ∀ (m i c : Nat), m + i = l.length → c ≤ i → lpOf (envV realAr) 12 bd12 9 (stWb (l.map insA) ws c i) = some (.code (.exit 0) (stWbe (l.map insA) ws (c + mkNs (l.drop i)) l.length))
  | 0, i, c, h, _ => by
    have : i = l.length := by omega
    subst this
    rw [List.drop_length]
    exact lp_wb_end realAr realAr_ok (xs := l.map insA) (ws := ws) (n := l.length) (i := l.length) (c := c) (e0 := mlen insA l) (h1 := nlt_f (Nat.le_refl _))
  | m + 1, i, c, h, hc => by
    have hi : i < l.length := by omega
    have hg := mget insA l hi
    have hlt : realAr.lt (.ofNat i) (.ofNat l.length) = true := nlt_t hi
    have hadd : realAr.add .i64 (.ofNat i) 1 = .ofNat (Nat.succ i) := ninc (by omega)
    have hb : Nat.ble (Nat.succ i) l.length = true := hble hi
    rw [List.drop_eq_getElem_cons hi]
    simp only [mkNs, mkN]
    by_cases h1 : l[i].1 = 1
    · rw [if_pos (.inl h1), ← Nat.add_assoc]
      exact lp_wb_1 realAr realAr_ok (xs := l.map insA) (ws := ws) (n := l.length) (i := i) (c := c) (o := l[i].1) (a := l[i].2.1) (b := l[i].2.2) (e0 := mlen insA l) (e1 := hg) (e2 := hb) (h1 := hlt) (h2 := hadd) (h3 := heq_t h1) (h4 := ninc (by omega)) (hr := lp_wbI l ws hl m (i + 1) (c + 1) (by omega) (by omega))
    · by_cases h3 : l[i].1 = 3
      · rw [if_pos (.inr (.inl h3)), ← Nat.add_assoc]
        exact lp_wb_3 realAr realAr_ok (xs := l.map insA) (ws := ws) (n := l.length) (i := i) (c := c) (o := l[i].1) (a := l[i].2.1) (b := l[i].2.2) (e0 := mlen insA l) (e1 := hg) (e2 := hb) (h1 := hlt) (h2 := hadd) (h3 := heq_f h1) (h5 := heq_t h3) (h4 := ninc (by omega)) (hr := lp_wbI l ws hl m (i + 1) (c + 1) (by omega) (by omega))
      · by_cases h4 : l[i].1 = 4
        · rw [if_pos (.inr (.inr h4)), ← Nat.add_assoc]
          exact lp_wb_4 realAr realAr_ok (xs := l.map insA) (ws := ws) (n := l.length) (i := i) (c := c) (o := l[i].1) (a := l[i].2.1) (b := l[i].2.2) (e0 := mlen insA l) (e1 := hg) (e2 := hb) (h1 := hlt) (h2 := hadd) (h3 := heq_f h1) (h5 := heq_f h3) (h6 := heq_t h4) (h4 := ninc (by omega)) (hr := lp_wbI l ws hl m (i + 1) (c + 1) (by omega) (by omega))
        · rw [if_neg (by omega), Nat.zero_add]
          exact lp_wb_o realAr realAr_ok (xs := l.map insA) (ws := ws) (n := l.length) (i := i) (c := c) (o := l[i].1) (a := l[i].2.1) (b := l[i].2.2) (e0 := mlen insA l) (e1 := hg) (e2 := hb) (h1 := hlt) (h2 := hadd) (h3 := heq_f h1) (h5 := heq_f h3) (h6 := heq_f h4) (hr := lp_wbI l ws hl m (i + 1) c (by omega) (by omega))
theorem cut0W (x : List WT) : lcut (wtsA x) 0 x.length = wtsA x := by rw [wtsA_map]; exact mcut0 wtA x rfl
theorem tkW (x : List WT) : (wtsA x).take x.length = wtsA x := List.take_of_length_le (by rw [wts_len]; exact Nat.le_refl _)
theorem wishBack_law (l : List InsT) (hl : l.length ≤ 9223372036854775807) : evl (envV realAr) (.call 12 [.sl 3 (l.map insA) .imm] []) = some (.ret (.s (.bool true)) []) := by
  rcases s_few l hl with h | ⟨h, hf, h150⟩
  · exact eq_WB_few realAr realAr_ok (xs := l.map insA) (h0 := s_law14_up) (h1 := h) (h3 := heq_t rfl)
  rcases s_Of l h150 hf with ⟨e, -, -, -, k⟩ | ⟨k0, -, k, hsz⟩
  · exact eq_WB_no realAr realAr_ok (xs := l.map insA) (h0 := s_law14_up) (h1 := h) (h3 := heq_f (by decide)) (h4 := k)
  obtain ⟨h120, hck⟩ := s_ckL l hf k0
  obtain ⟨hfl, hok⟩ := fl_of_check l hck
  generalize (someW (l.length + 1) l).1 = ws at k hsz hfl hok
  have hb := s_Back ws hok (by rw [← hfl]; omega)
  rw [← hfl] at hb
  have hc : mkNs l = cntWs ws := by rw [hfl]; exact mkNs_L ws (fun t ht => mkNs_W t (okWs_mem hok ht))
  have hlp := lp_wbI l (wtsA ws) (by omega) l.length 0 0 (by omega) (Nat.le_refl _)
  rw [List.drop_zero, Nat.zero_add, hc] at hlp
  exact eq_WB realAr realAr_ok (xs := l.map insA) (ws := wtsA ws) (n := ws.length) (c := cntWs ws) (i := l.length) (h0 := s_law14_up) (h1 := h) (h3 := heq_f (by decide)) (e1 := wts_len ws) (e2 := Nat.zero_add _) (e3 := cut0W ws) (e4 := hble (Nat.le_refl _)) (e5 := tkW ws) (h4 := k) (h5 := hlp) (h6 := hb) (h7 := s_same_self l (by omega)) (h8 := s_Count .ro (.inl rfl) ws (by omega)) (h9 := heq_t rfl)
theorem atsWs_fl : ∀ ks : List WT, (∀ t ∈ ks, atsW t ≤ (flW t).length) → atsWs ks ≤ (flWs ks).length
  | [], _ => Nat.le_refl _
  | t :: ts, h => by
    have h1 := h t (by simp)
    have h2 := atsWs_fl ts (fun u hu => h u (by simp [hu]))
    simp only [flWs, atsWs, List.length_append]
    omega
theorem atsW_fl : ∀ t : WT, okW t → atsW t ≤ (flW t).length := by
  intro t
  induction t using WT.ind with
  | h k tag key text ats ks ih =>
    intro hok
    have hk := okW_kids _ hok
    simp only [kidsW] at hk
    have hL := atsWs_fl ks (fun t ht => ih t ht (okWs_mem hk ht))
    simp only [okW] at hok
    rcases hok with ⟨rfl, rfl, hv, hoks⟩ | ⟨rfl, rfl, rfl, rfl, rfl⟩ | ⟨rfl | rfl, rfl, rfl, rfl, rfl, rfl⟩
    · simp only [flW, atsW, show ¬ (1 : Int) = 2 by omega, show ¬ (1 : Int) = 3 by omega, show ¬ (1 : Int) = 4 by omega, if_false]
      split
      · rename_i q
        rw [hv q]
        simp [atsWs]
      · simp
        omega
    all_goals simp [flW, atsW, atsWs]
theorem wishTells_law (l m : List InsT) (hl : l.length ≤ 9223372036854775807) (hm : m.length ≤ 9223372036854775807) : evl (envV realAr) (.call 9 [.sl 3 (l.map insA) .imm, .sl 3 (m.map insA) .imm] []) = some (.ret (.s (.bool true)) []) := by
  rcases s_few l hl with h | ⟨h, hf, h150⟩
  · exact eq_WT_few1 realAr realAr_ok (xs := l.map insA) (ys := m.map insA) (h0 := s_law14_up) (h1 := h) (h3 := heq_t rfl)
  rcases s_few m hm with g | ⟨g, gf, g150⟩
  · exact eq_WT_few2 realAr realAr_ok (xs := l.map insA) (ys := m.map insA) (h0 := s_law14_up) (h1 := h) (h2 := g) (h3 := heq_f (by decide)) (h4 := heq_t rfl)
  rcases s_Of l h150 hf with ⟨e, -, he, kc, k⟩ | ⟨k0, kc, k, hsz⟩
  · exact eq_WT_no realAr realAr_ok (xs := l.map insA) (ys := m.map insA) (z := .ofNat (e + 1)) (h0 := s_law14_up) (h1 := h) (h2 := g) (h3 := heq_f (by decide)) (h4 := k) (h5 := kc) (h6 := s_law00_Code (e + 1) he) (h7 := heq_t rfl) (h8 := heq_f (by show ((e + 1 : Nat) : Int) ≠ 0; omega)) (h9 := heq_t rfl)
  obtain ⟨h120, hck⟩ := s_ckL l hf k0
  obtain ⟨hfl, hok⟩ := fl_of_check l hck
  generalize (someW (l.length + 1) l).1 = ws at k hsz hfl hok
  have hat := atsWs_fl ws (fun t ht => atsW_fl t (okWs_mem hok ht))
  rw [← hfl] at hat
  have hro := s_refOf ws (by rw [← hfl]; omega) hok
  rw [← hfl] at hro
  have ha := s_Alike .full .ro (.inr (.inl ⟨rfl, rfl⟩)) ws ws (by omega)
  rw [likeW_refl] at ha
  have hsm := s_Same ws ws (by omega)
  rw [likeW_refl] at hsm
  rcases s_Of m g150 gf with ⟨e2, -, -, -, k2⟩ | ⟨g0, -, k2, gsz⟩
  · exact eq_WT_no2 realAr realAr_ok (xs := l.map insA) (ys := m.map insA) (ws := wtsA ws) (ks := wtsA ws) (vs := wtsA ws) (n := ws.length) (c := cntWs ws) (h0 := s_law14_up) (h1 := h) (h2 := g) (h3 := heq_f (by decide)) (e1 := wts_len ws) (e3 := wts_len ws) (e4 := Nat.zero_add _) (e5 := cut0W ws) (e6 := cut0W ws) (e7 := hble (Nat.le_refl _)) (e8 := tkW ws) (e9 := tkW ws)
      (h4 := k) (h5 := kc) (h6 := s_law00_Code 0 (by omega)) (h7 := heq_t rfl) (h8 := hro) (h9 := s_As .ro (.inl rfl) ws (by omega)) (ha := ha) (hb := s_Count .ro (.inl rfl) ws (by omega)) (hc := s_refCount .ro (.inl rfl) ws (by omega)) (hd := heq_t rfl) (he := hsm) (hf := k2)
  · obtain ⟨g120, gck⟩ := s_ckL m gf g0
    obtain ⟨gfl, gok⟩ := fl_of_check m gck
    generalize (someW (m.length + 1) m).1 = us at k2 gsz gfl gok
    have gro := s_refOf us (by rw [← gfl]; omega) gok
    rw [← gfl] at gro
    exact eq_WT realAr realAr_ok (xs := l.map insA) (ys := m.map insA) (ws := wtsA ws) (ks := wtsA ws) (vs := wtsA ws) (us := wtsA us) (ts := wtsA us) (s := likeW ws us) (n := ws.length) (m := us.length) (c := cntWs ws) (h0 := s_law14_up) (h1 := h) (h2 := g) (h3 := heq_f (by decide)) (e1 := wts_len ws) (e3 := wts_len ws) (e4 := Nat.zero_add _) (e5 := cut0W ws) (e6 := cut0W ws) (e7 := hble (Nat.le_refl _)) (e8 := tkW ws) (e9 := tkW ws)
      (h4 := k) (h5 := kc) (h6 := s_law00_Code 0 (by omega)) (h7 := heq_t rfl) (h8 := hro) (h9 := s_As .ro (.inl rfl) ws (by omega)) (ha := ha) (hb := s_Count .ro (.inl rfl) ws (by omega)) (hc := s_refCount .ro (.inl rfl) ws (by omega)) (hd := heq_t rfl) (he := hsm)
      (ea := wts_len us) (eb := Nat.zero_add _) (ec := cut0W us) (ed := hble (Nat.le_refl _)) (ee := tkW us) (hf := k2) (hg := s_Same ws us (by omega)) (hh := gro) (hi := s_Alike .ro .full (.inr (.inr ⟨rfl, rfl⟩)) ws us (by omega))
end Go.Va
