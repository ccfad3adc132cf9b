/- The functions that the statement reaches, by equations: no statement of its own. -/
import Derived.Test.YtmklimlepgiffaaEq8
set_option linter.unusedVariables false
set_option linter.unusedSimpArgs false
namespace Go.Va
open Go.Proofs
set_option maxRecDepth 100000
set_option maxHeartbeats 4000000
def stB (xs : List AV) (bv ev : AV) (i : Nat) : St := { n := 69, k := 0, fr := [(0, .sl 3 xs .imm), (3, .s (.bool true)), (4, bv), (5, ev), (6, .s (.int .i64 (.ofNat i)))], O := [] }
section
variable (A : Ar) (hA : ArOk A) (xs bs : List AV) (n i m : Nat) (o e : Int) (a b : ByteArray)
include hA
theorem lp_cp_on {r : Option Res} (e0 : lget xs i = some (.agg [.s (.int .i64 o), .s (.string a), .s (.string b)])) (e1 : xs.length = n) (ef : Nat.ble (Nat.succ i) n = true) (e2 : bs.length = m) (h1 : A.lt (.ofNat i) (.ofNat n) = true)
    (h2 : evl (envV A) (.call 24 [.agg [.s (.int .i64 o), .s (.string a), .s (.string b)]] []) = some (.ret (.s (.bool true)) [])) (h3 : A.add .i64 (.ofNat i) 1 = .ofNat (Nat.succ i))
    (hr : lpOf (envV A) 14 bd14 6 (stB xs (.sl 1 bs .full) (.s .nilIface) (Nat.succ i)) = r) : lpOf (envV A) 14 bd14 6 (stB xs (.sl 1 bs .full) (.s .nilIface) i) = r := by
  unfold stB at hr ⊢
  rw [lp_step (envV A) 14 (c0 := bd14) (lv := lvF14) rfl rfl]
  have hnle := hA.nleE; have hneq := hA.neqE
  have klt := hA.lt; have kle := hA.le; have keq := hA.eq; have knle := hA.nle; have kneq := hA.neq
  rw [lp_split (lpOf (envV A) 14 bd14) 6]
  generalize lpOf (envV A) 14 bd14 6 = L6 at e0 e1 ef e2 h1 h2 h3 hr ⊢
  generalize lpOf (envV A) 14 bd14 = LP
  generalize evl (envV A) = E at e0 e1 ef e2 h1 h2 h3 hr ⊢
  obtain ⟨aadd, asub, amul, arem, aquo, awr, ashr, aeq, alt, ale, aseq, aslt, acat, acut, asiz, aat, anle, aneq, afit⟩ := A
  simp only at hnle hneq
  subst hnle hneq
  simp only at klt kle keq knle kneq
  try simp only at h1 h2 h3 hr
  conv at e0 => lhs; cbv
  conv at e1 => lhs; cbv
  conv at ef => lhs; cbv
  conv at e2 => lhs; cbv
  cbv
  rewrite [e1]
  cbv
  rewrite [h1]
  cbv
  rewrite [e0]
  cbv
  rewrite [h2]
  cbv
  rewrite [h3]
  cbv
  rewrite [hr]
  cbv
theorem lp_cp_on2 {r : Option Res} (e0 : lget xs i = some (.agg [.s (.int .i64 o), .s (.string a), .s (.string b)])) (e1 : xs.length = n) (ef : Nat.ble (Nat.succ i) n = true) (h1 : A.lt (.ofNat i) (.ofNat n) = true)
    (h2 : evl (envV A) (.call 24 [.agg [.s (.int .i64 o), .s (.string a), .s (.string b)]] []) = some (.ret (.s (.bool true)) [])) (h3 : A.add .i64 (.ofNat i) 1 = .ofNat (Nat.succ i))
    (hr : lpOf (envV A) 14 bd14 6 (stB xs (.sl 1 [] .full) (.s (.iface 45 (.int .i64 e))) (Nat.succ i)) = r) : lpOf (envV A) 14 bd14 6 (stB xs (.sl 1 [] .full) (.s (.iface 45 (.int .i64 e))) i) = r := by
  unfold stB at hr ⊢
  rw [lp_step (envV A) 14 (c0 := bd14) (lv := lvF14) rfl rfl]
  have hnle := hA.nleE; have hneq := hA.neqE
  have klt := hA.lt; have kle := hA.le; have keq := hA.eq; have knle := hA.nle; have kneq := hA.neq
  rw [lp_split (lpOf (envV A) 14 bd14) 6]
  generalize lpOf (envV A) 14 bd14 6 = L6 at e0 e1 ef h1 h2 h3 hr ⊢
  generalize lpOf (envV A) 14 bd14 = LP
  generalize evl (envV A) = E at e0 e1 ef h1 h2 h3 hr ⊢
  obtain ⟨aadd, asub, amul, arem, aquo, awr, ashr, aeq, alt, ale, aseq, aslt, acat, acut, asiz, aat, anle, aneq, afit⟩ := A
  simp only at hnle hneq
  subst hnle hneq
  simp only at klt kle keq knle kneq
  try simp only at h1 h2 h3 hr
  conv at e0 => lhs; cbv
  conv at e1 => lhs; cbv
  conv at ef => lhs; cbv
  cbv
  rewrite [e1]
  cbv
  rewrite [h1]
  cbv
  rewrite [e0]
  cbv
  rewrite [h2]
  cbv
  rewrite [h3]
  cbv
  rewrite [hr]
  cbv
theorem lp_cp_no (e0 : lget xs i = some (.agg [.s (.int .i64 o), .s (.string a), .s (.string b)])) (e1 : xs.length = n) (ef : Nat.ble (Nat.succ i) n = true) (h1 : A.lt (.ofNat i) (.ofNat n) = true)
    (h2 : evl (envV A) (.call 24 [.agg [.s (.int .i64 o), .s (.string a), .s (.string b)]] []) = some (.ret (.s (.bool false)) [])) (h3 : A.eq (.ofNat 0) 0 = true) :
    lpOf (envV A) 14 bd14 6 (stB xs (.sl 1 [] .full) (.s (.iface 45 (.int .i64 1))) i) = some (.code .ret { n := 69, k := 0, fr := [(2, .s (.bool true))], O := [] }) := by
  unfold stB
  rw [lp_step (envV A) 14 (c0 := bd14) (lv := lvF14) rfl rfl]
  have hnle := hA.nleE; have hneq := hA.neqE
  have klt := hA.lt; have kle := hA.le; have keq := hA.eq; have knle := hA.nle; have kneq := hA.neq
  generalize lpOf (envV A) 14 bd14 = LP
  generalize evl (envV A) = E at e0 e1 ef h1 h2 h3 ⊢
  obtain ⟨aadd, asub, amul, arem, aquo, awr, ashr, aeq, alt, ale, aseq, aslt, acat, acut, asiz, aat, anle, aneq, afit⟩ := A
  simp only at hnle hneq
  subst hnle hneq
  simp only at klt kle keq knle kneq
  try simp only at h1 h2 h3
  conv at e0 => lhs; cbv
  conv at e1 => lhs; cbv
  conv at ef => lhs; cbv
  cbv
  rewrite [e1]
  cbv
  rewrite [h1]
  cbv
  rewrite [e0]
  cbv
  rewrite [h2]
  cbv
  rewrite [keq (1) (1)]
  cbv
  rewrite [h3]
  cbv
theorem lp_cp_end (e1 : xs.length = n) (e2 : bs.length = m) (h1 : A.lt (.ofNat i) (.ofNat n) = false) :
    lpOf (envV A) 14 bd14 6 (stB xs (.sl 1 bs .full) (.s .nilIface) i) = some (.code (.exit 0) { n := 69, k := 0, fr := [(0, .sl 3 xs .imm), (3, .s (.bool true)), (4, .sl 1 bs .full), (5, .s .nilIface), (6, .s (.int .i64 (.ofNat i))), (21, .s (.bool false))], O := [] }) := by
  unfold stB
  rw [lp_step (envV A) 14 (c0 := bd14) (lv := lvF14) rfl rfl]
  have hnle := hA.nleE; have hneq := hA.neqE
  generalize lpOf (envV A) 14 bd14 = LP
  generalize evl (envV A) = E at e1 e2 h1 ⊢
  obtain ⟨aadd, asub, amul, arem, aquo, awr, ashr, aeq, alt, ale, aseq, aslt, acat, acut, asiz, aat, anle, aneq, afit⟩ := A
  simp only at hnle hneq
  subst hnle hneq
  try simp only at h1
  conv at e1 => lhs; cbv
  conv at e2 => lhs; cbv
  cbv
  rewrite [e1]
  cbv
  rewrite [h1]
  cbv
theorem lp_cp_end2 (e1 : xs.length = n) (h1 : A.lt (.ofNat i) (.ofNat n) = false) :
    lpOf (envV A) 14 bd14 6 (stB xs (.sl 1 [] .full) (.s (.iface 45 (.int .i64 e))) i) = some (.code (.exit 0) { n := 69, k := 0, fr := [(0, .sl 3 xs .imm), (3, .s (.bool true)), (4, .sl 1 [] .full), (5, .s (.iface 45 (.int .i64 e))), (6, .s (.int .i64 (.ofNat i))), (21, .s (.bool false))], O := [] }) := by
  unfold stB
  rw [lp_step (envV A) 14 (c0 := bd14) (lv := lvF14) rfl rfl]
  have hnle := hA.nleE; have hneq := hA.neqE
  generalize lpOf (envV A) 14 bd14 = LP
  generalize evl (envV A) = E at e1 h1 ⊢
  obtain ⟨aadd, asub, amul, arem, aquo, awr, ashr, aeq, alt, ale, aseq, aslt, acat, acut, asiz, aat, anle, aneq, afit⟩ := A
  simp only at hnle hneq
  subst hnle hneq
  try simp only at h1
  conv at e1 => lhs; cbv
  cbv
  rewrite [e1]
  cbv
  rewrite [h1]
  cbv
theorem eq_cp_few (h0 : evl (envV A) (.call 71 [] []) = some (.ret (.s (.bool true)) [])) (h1 : evl (envV A) (.call 72 [.sl 3 xs .imm] []) = some (.ret (.s (.int .i64 0)) [])) :
    evl (envV A) (.call 14 [.sl 3 xs .imm] []) = some (.ret (.s (.bool true)) []) := by
  rw [evl_fn (envV A) 14 _ _ (fn := Try.f14) (c := bd14) (lv := lvF14) rfl rfl rfl rfl rfl rfl]
  have klt := hA.lt; have kle := hA.le; have keq := hA.eq; have knle := hA.nle; have kneq := hA.neq
  generalize lpOf (envV A) 14 bd14 = LP
  generalize evl (envV A) = E at h0 h1 ⊢
  obtain ⟨aadd, asub, amul, arem, aquo, awr, ashr, aeq, alt, ale, aseq, aslt, acat, acut, asiz, aat, anle, aneq, afit⟩ := A
  simp only at klt kle keq knle kneq
  try simp only at h0 h1
  cbv
  rewrite [h0]
  cbv
  rewrite [h1]
  cbv
  rewrite [keq (0) (0)]
  cbv
theorem eq_cp_no (h0 : evl (envV A) (.call 71 [] []) = some (.ret (.s (.bool true)) [])) (h1 : evl (envV A) (.call 72 [.sl 3 xs .imm] []) = some (.ret (.s (.int .i64 1)) []))
    (h2 : evl (envV A) (.call 73 [.sl 3 xs .imm] []) = some (.ret (.tup [.sl 1 [] .full, .s (.iface 45 (.int .i64 1))]) []))
    (h3 : lpOf (envV A) 14 bd14 6 { n := 69, k := 0, fr := [(0, .sl 3 xs .imm), (3, .s (.bool true)), (4, .sl 1 [] .full), (5, .s (.iface 45 (.int .i64 1))), (6, .s (.int .i64 0))], O := [] } = some (.code .ret { n := 69, k := 0, fr := [(2, .s (.bool true))], O := [] })) :
    evl (envV A) (.call 14 [.sl 3 xs .imm] []) = some (.ret (.s (.bool true)) []) := by
  rw [evl_fn (envV A) 14 _ _ (fn := Try.f14) (c := bd14) (lv := lvF14) rfl rfl rfl rfl rfl rfl]
  have hnle := hA.nleE; have hneq := hA.neqE
  have klt := hA.lt; have kle := hA.le; have keq := hA.eq; have knle := hA.nle; have kneq := hA.neq
  rw [lp_split (lpOf (envV A) 14 bd14) 6]
  generalize lpOf (envV A) 14 bd14 6 = L6 at h0 h1 h2 h3 ⊢
  generalize lpOf (envV A) 14 bd14 = LP
  generalize evl (envV A) = E at h0 h1 h2 h3 ⊢
  obtain ⟨aadd, asub, amul, arem, aquo, awr, ashr, aeq, alt, ale, aseq, aslt, acat, acut, asiz, aat, anle, aneq, afit⟩ := A
  simp only at hnle hneq
  subst hnle hneq
  simp only at klt kle keq knle kneq
  try simp only at h0 h1 h2 h3
  cbv
  rewrite [h0]
  cbv
  rewrite [h1]
  cbv
  rewrite [keq (1) (0)]
  cbv
  rewrite [h2]
  cbv
  rewrite [h3]
  cbv
theorem eq_cp_large (e1 : xs.length = n) (h0 : evl (envV A) (.call 71 [] []) = some (.ret (.s (.bool true)) [])) (h1 : evl (envV A) (.call 72 [.sl 3 xs .imm] []) = some (.ret (.s (.int .i64 1)) []))
    (h2 : evl (envV A) (.call 73 [.sl 3 xs .imm] []) = some (.ret (.tup [.sl 1 [] .full, .s (.iface 45 (.int .i64 13))]) [])) (h4 : A.lt 120 (.ofNat n) = true) (h5 : A.eq (.ofNat 0) 0 = true)
    (h3 : lpOf (envV A) 14 bd14 6 { n := 69, k := 0, fr := [(0, .sl 3 xs .imm), (3, .s (.bool true)), (4, .sl 1 [] .full), (5, .s (.iface 45 (.int .i64 13))), (6, .s (.int .i64 0))], O := [] } = some (.code (.exit 0) { n := 69, k := 0, fr := [(0, .sl 3 xs .imm), (3, .s (.bool true)), (4, .sl 1 [] .full), (5, .s (.iface 45 (.int .i64 13))), (6, .s (.int .i64 (.ofNat i))), (21, .s (.bool false))], O := [] })) :
    evl (envV A) (.call 14 [.sl 3 xs .imm] []) = some (.ret (.s (.bool true)) []) := by
  rw [evl_fn (envV A) 14 _ _ (fn := Try.f14) (c := bd14) (lv := lvF14) rfl rfl rfl rfl rfl rfl]
  have hnle := hA.nleE; have hneq := hA.neqE
  have klt := hA.lt; have kle := hA.le; have keq := hA.eq; have knle := hA.nle; have kneq := hA.neq
  rw [lp_split (lpOf (envV A) 14 bd14) 6]
  generalize lpOf (envV A) 14 bd14 6 = L6 at e1 h0 h1 h2 h3 h4 h5 ⊢
  generalize lpOf (envV A) 14 bd14 = LP
  generalize evl (envV A) = E at e1 h0 h1 h2 h3 h4 h5 ⊢
  obtain ⟨aadd, asub, amul, arem, aquo, awr, ashr, aeq, alt, ale, aseq, aslt, acat, acut, asiz, aat, anle, aneq, afit⟩ := A
  simp only at hnle hneq
  subst hnle hneq
  simp only at klt kle keq knle kneq
  try simp only at h0 h1 h2 h3 h4 h5
  conv at e1 => lhs; cbv
  cbv
  rewrite [h0]
  cbv
  rewrite [h1]
  cbv
  rewrite [keq (1) (0)]
  cbv
  rewrite [h2]
  cbv
  rewrite [h3]
  cbv
  rewrite [e1]
  cbv
  rewrite [h4]
  cbv
  rewrite [keq (13) (13)]
  cbv
  rewrite [h5]
  cbv
theorem eq_cp_ok (bb : List UInt8) (e1 : xs.length = n) (e2 : bs.length = m) (e3 : bytesOf bs = some bb) (e4 : Nat.ble m m = true) (e5 : 0 + m = m) (e6 : lcut bs 0 m = bs) (h6 : A.seq ⟨⟨bb⟩⟩ ⟨⟨bb⟩⟩ = true) (h0 : evl (envV A) (.call 71 [] []) = some (.ret (.s (.bool true)) [])) (h1 : evl (envV A) (.call 72 [.sl 3 xs .imm] []) = some (.ret (.s (.int .i64 1)) []))
    (h2 : evl (envV A) (.call 73 [.sl 3 xs .imm] []) = some (.ret (.tup [.sl 1 bs .full, .s .nilIface]) [])) (h4 : A.lt 120 (.ofNat n) = false) (h5 : evl (envV A) (.call 74 [.sl 3 xs .imm] []) = some (.ret (.sl 1 bs .full) []))
    (h3 : lpOf (envV A) 14 bd14 6 { n := 69, k := 0, fr := [(0, .sl 3 xs .imm), (3, .s (.bool true)), (4, .sl 1 bs .full), (5, .s .nilIface), (6, .s (.int .i64 0))], O := [] } = some (.code (.exit 0) { n := 69, k := 0, fr := [(0, .sl 3 xs .imm), (3, .s (.bool true)), (4, .sl 1 bs .full), (5, .s .nilIface), (6, .s (.int .i64 (.ofNat i))), (21, .s (.bool false))], O := [] })) :
    evl (envV A) (.call 14 [.sl 3 xs .imm] []) = some (.ret (.s (.bool true)) []) := by
  rw [evl_fn (envV A) 14 _ _ (fn := Try.f14) (c := bd14) (lv := lvF14) rfl rfl rfl rfl rfl rfl]
  have hnle := hA.nleE; have hneq := hA.neqE
  have klt := hA.lt; have kle := hA.le; have keq := hA.eq; have knle := hA.nle; have kneq := hA.neq
  rw [lp_split (lpOf (envV A) 14 bd14) 6]
  generalize lpOf (envV A) 14 bd14 6 = L6 at e1 e2 e3 e4 e5 e6 h6 h0 h1 h2 h3 h4 h5 ⊢
  generalize lpOf (envV A) 14 bd14 = LP
  generalize evl (envV A) = E at e1 e2 e3 e4 e5 e6 h6 h0 h1 h2 h3 h4 h5 ⊢
  obtain ⟨aadd, asub, amul, arem, aquo, awr, ashr, aeq, alt, ale, aseq, aslt, acat, acut, asiz, aat, anle, aneq, afit⟩ := A
  simp only at hnle hneq
  subst hnle hneq
  simp only at klt kle keq knle kneq
  try simp only at h6 h0 h1 h2 h3 h4 h5
  conv at e1 => lhs; cbv
  conv at e2 => lhs; cbv
  conv at e3 => lhs; cbv
  conv at e4 => lhs; cbv
  conv at e5 => lhs; cbv
  conv at e6 => lhs; cbv
  cbv
  rewrite [h0]
  cbv
  rewrite [h1]
  cbv
  rewrite [keq (1) (0)]
  cbv
  rewrite [h2]
  cbv
  rewrite [h3]
  cbv
  rewrite [e1]
  cbv
  rewrite [h4]
  cbv
  rewrite [e2]
  cbv
  rewrite [e5]
  cbv
  rewrite [e4]
  cbv
  rewrite [e6]
  cbv
  rewrite [e3]
  cbv
  rewrite [h5]
  cbv
  rewrite [e3]
  cbv
  rewrite [h6]
  cbv
end
theorem lp_cp_all (is : List InsT) (hf : fewOk is) (hl : is.length ≤ 150) (bv ev : AV) (hbe : (∃ bs, bv = .sl 1 (bl bs) .full ∧ ev = .s .nilIface) ∨ ∃ e, bv = .sl 1 [] .full ∧ ev = errI e) (ha : ∀ i ∈ is, insP i = true) : ∀ (m i : Nat), m + i = is.length →
    lpOf (envV realAr) 14 bd14 6 (stB (is.map insA) bv ev i) = some (.code (.exit 0) { n := 69, k := 0, fr := [(0, .sl 3 (is.map insA) .imm), (3, .s (.bool true)), (4, bv), (5, ev), (6, .s (.int .i64 (.ofNat is.length))), (21, .s (.bool false))], O := [] })
  | 0, i, h => by
    rw [show i = is.length by omega]
    rcases hbe with ⟨bs, rfl, rfl⟩ | ⟨e, rfl, rfl⟩
    · exact lp_cp_end realAr realAr_ok _ _ is.length _ bs.length (by simp) (bl_len _) (nat_lt_f (Nat.le_refl _))
    · exact lp_cp_end2 realAr realAr_ok _ is.length _ e (by simp) (nat_lt_f (Nat.le_refl _))
  | m + 1, i, h => by
    have hi : i < is.length := by omega
    have hg : lget (is.map insA) i = some (insA is[i]) := by rw [lget_get]; simp [hi]
    obtain ⟨h1, h2⟩ := hf is[i] (List.getElem_mem hi)
    have hm := s_ref11_May is[i] (by omega) (by omega)
    rw [ha is[i] (List.getElem_mem hi)] at hm
    have hn := lp_cp_all is hf hl bv ev hbe ha m (i + 1) (by omega)
    rcases hbe with ⟨bs, rfl, rfl⟩ | ⟨e, rfl, rfl⟩
    · exact lp_cp_on realAr realAr_ok _ _ is.length i bs.length _ _ _ hg (by simp) (ble_of hi) (bl_len _) (nat_lt_t hi) hm (nat_inc (by omega)) hn
    · exact lp_cp_on2 realAr realAr_ok _ is.length i _ e _ _ hg (by simp) (ble_of hi) (nat_lt_t hi) hm (nat_inc (by omega)) hn
theorem lp_cp_bad (is : List InsT) (hf : fewOk is) (hl : is.length ≤ 150) : ∀ (m i : Nat), m + i = is.length → (∃ j ∈ is.drop i, insP j = false) →
    lpOf (envV realAr) 14 bd14 6 (stB (is.map insA) (.sl 1 [] .full) (errI 1) i) = some (.code .ret { n := 69, k := 0, fr := [(2, .s (.bool true))], O := [] })
  | 0, i, h, hx => by
    rw [List.drop_of_length_le (by omega)] at hx
    obtain ⟨j, hj, _⟩ := hx
    cases hj
  | m + 1, i, h, hx => by
    have hi : i < is.length := by omega
    have hg : lget (is.map insA) i = some (insA is[i]) := by rw [lget_get]; simp [hi]
    obtain ⟨h1, h2⟩ := hf is[i] (List.getElem_mem hi)
    have hm := s_ref11_May is[i] (by omega) (by omega)
    cases hv : insP is[i] with
    | false =>
      rw [hv] at hm
      exact lp_cp_no realAr realAr_ok _ is.length i _ _ _ hg (by simp) (ble_of hi) (nat_lt_t hi) hm rfl
    | true =>
      rw [hv] at hm
      refine lp_cp_on2 realAr realAr_ok _ is.length i _ 1 _ _ hg (by simp) (ble_of hi) (nat_lt_t hi) hm (nat_inc (by omega)) (lp_cp_bad is hf hl m (i + 1) (by omega) ?_)
      rw [List.drop_eq_getElem_cons hi] at hx
      obtain ⟨j, hj, e⟩ := hx
      rcases List.mem_cons.1 hj with rfl | hj
      · rw [hv] at e; cases e
      · exact ⟨j, hj, e⟩
theorem codePuts_law (is : List InsT) (hl : is.length ≤ 9223372036854775807) : evl (envV realAr) (.call 14 [.sl 3 (is.map insA) .imm] []) = some (.ret (.s (.bool true)) []) := by
  rcases s_few is hl with h1 | ⟨h1, hf, h150⟩
  · exact eq_cp_few realAr realAr_ok _ s_law12_up h1
  · have h2 := s_code_Put is .imm (.inr rfl) hf (by omega)
    by_cases ha : ∀ i ∈ is, insP i = true
    · rw [putR_all is [] ha, List.nil_append] at h2
      by_cases hk : 120 < is.length
      · have hk' : realAr.lt 120 (.ofNat is.length) = true := by simp [realAr_lt]; omega
        simp only [resPut, decide_eq_true hk, cond_true] at h2
        exact eq_cp_large realAr realAr_ok _ is.length is.length (by simp) s_law12_up h1 h2 hk' rfl (lp_cp_all is hf h150 _ _ (.inr ⟨13, rfl, rfl⟩) ha is.length 0 (by omega))
      · have hk' : realAr.lt 120 (.ofNat is.length) = false := by simp [realAr_lt]; omega
        simp only [resPut, decide_eq_false hk, cond_false] at h2
        exact eq_cp_ok realAr realAr_ok _ _ is.length is.length _ _ (by simp) (bl_len _) (bl_bytes _) (ble_of (Nat.le_refl _)) (Nat.zero_add _) (by rw [bl_cut, List.drop_zero, List.take_of_length_le (Nat.le_refl _)]) (seq_refl _) s_law12_up h1 h2 hk' (s_ref11_Put is hf (by omega)) (lp_cp_all is hf h150 _ _ (.inl ⟨_, rfl, rfl⟩) ha is.length 0 (by omega))
    · have hx : ∃ i ∈ is, insP i = false := by
        simpa using ha
      rw [putR_no is [] hx] at h2
      exact eq_cp_no realAr realAr_ok _ s_law12_up h1 h2 (lp_cp_bad is hf h150 is.length 0 (by omega) hx)
end Go.Va
