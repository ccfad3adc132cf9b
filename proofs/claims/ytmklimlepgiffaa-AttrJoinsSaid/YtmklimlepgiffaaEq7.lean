/- The functions that the statement reaches, by equations: no statement of its own. -/
import Derived.Test.YtmklimlepgiffaaEq6
set_option linter.unusedVariables false
set_option linter.unusedSimpArgs false
set_option linter.unusedSectionVars false
namespace Go.Va
open Go.Proofs
set_option maxRecDepth 100000
set_option maxHeartbeats 4000000
theorem eq_attr_some1 (A : Ar) (a c : ByteArray) (st b : Bool) : evl (envV A) (.call 107 [.agg [.s (.string a), .s (.string c), .s (.bool st)], .ptr 0 0] [[.s (.bool b)]]) = some (.ret (.s (.bool (st != b))) [[.s (.bool b)]]) := by
  cases st <;> cases b
  ·
    rw [evl_fn (envV A) 107 _ _ (fn := Try.f107) (c := bd107) (lv := lvF107) rfl rfl rfl rfl rfl rfl]
    generalize lpOf (envV A) 107 bd107 = LP
    generalize evl (envV A) = E
    obtain ⟨aadd, asub, amul, arem, aquo, awr, ashr, aeq, alt, ale, aseq, aslt, acat, acut, asiz, aat, anle, aneq, afit⟩ := A
    cbv
  ·
    rw [evl_fn (envV A) 107 _ _ (fn := Try.f107) (c := bd107) (lv := lvF107) rfl rfl rfl rfl rfl rfl]
    generalize lpOf (envV A) 107 bd107 = LP
    generalize evl (envV A) = E
    obtain ⟨aadd, asub, amul, arem, aquo, awr, ashr, aeq, alt, ale, aseq, aslt, acat, acut, asiz, aat, anle, aneq, afit⟩ := A
    cbv
  ·
    rw [evl_fn (envV A) 107 _ _ (fn := Try.f107) (c := bd107) (lv := lvF107) rfl rfl rfl rfl rfl rfl]
    generalize lpOf (envV A) 107 bd107 = LP
    generalize evl (envV A) = E
    obtain ⟨aadd, asub, amul, arem, aquo, awr, ashr, aeq, alt, ale, aseq, aslt, acat, acut, asiz, aat, anle, aneq, afit⟩ := A
    cbv
  ·
    rw [evl_fn (envV A) 107 _ _ (fn := Try.f107) (c := bd107) (lv := lvF107) rfl rfl rfl rfl rfl rfl]
    generalize lpOf (envV A) 107 bd107 = LP
    generalize evl (envV A) = E
    obtain ⟨aadd, asub, amul, arem, aquo, awr, ashr, aeq, alt, ale, aseq, aslt, acat, acut, asiz, aat, anle, aneq, afit⟩ := A
    cbv
def stV (xs : List AV) (b : Bool) (n i : Nat) : St := { n := 19, k := 1, fr := [(0, .sl 3 xs .ro), (1, .fn 107 [] [.ptr 0 0]), (7, .s (.int .i64 (.ofNat n))), (8, .s (.int .i64 (.ofNat i)))], O := [[.s (.bool b)]] }
def stVe (xs : List AV) (b : Bool) (n i : Nat) : St := { n := 19, k := 1, fr := [(0, .sl 3 xs .ro), (1, .fn 107 [] [.ptr 0 0]), (7, .s (.int .i64 (.ofNat n))), (8, .s (.int .i64 (.ofNat i))), (9, .s (.bool false))], O := [[.s (.bool b)]] }
def stW (xs : List AV) (b : Bool) (i j : Nat) : St := { n := 42, k := 1, fr := [(0, .sl 3 xs .full), (1, .fn 107 [] [.ptr 0 0]), (5, .s (.int .i64 (.ofNat i))), (6, .s (.int .i64 (.ofNat j)))], O := [[.s (.bool b)]] }
def stWe (xs : List AV) (b : Bool) (i j : Nat) : St := { n := 42, k := 1, fr := [(0, .sl 3 xs .full), (1, .fn 107 [] [.ptr 0 0]), (5, .s (.int .i64 (.ofNat i))), (6, .s (.int .i64 (.ofNat j))), (19, .s (.bool false))], O := [[.s (.bool b)]] }
def zeroA : AV := .agg [.s (.string ⟨#[]⟩), .s (.string ⟨#[]⟩), .s (.bool false)]
section
variable (A : Ar) (hA : ArOk A) (xs zs ys ws : List AV) (n i j : Nat) (a c : ByteArray) (st b : Bool)
include hA
theorem lp_some_idx {r : Option Res} (q : Bool) (e1 : lget xs i = some (.agg [.s (.string a), .s (.string c), .s (.bool st)])) (e2 : Nat.ble (Nat.succ i) n = true) (e3 : xs.length = n) (h2 : A.lt (.ofNat i) (.ofNat n) = true) (h3 : A.add .i64 (.ofNat i) 1 = .ofNat (Nat.succ i))
    (h1 : evl (envV A) (.call 107 [.agg [.s (.string a), .s (.string c), .s (.bool st)], .ptr 0 0] [[.s (.bool b)]]) = some (.ret (.s (.bool q)) [[.s (.bool b)]]))
    (hr : lpOf (envV A) 103 bd103 2 (stV xs b n (Nat.succ i)) = r) :
    lpOf (envV A) 103 bd103 2 (stV xs b n i) = (bif q then some (.code .ret { n := 19, k := 1, fr := [(4, .s (.int .i64 (.ofNat i)))], O := [[.s (.bool b)]] }) else r) := by
  unfold stV at hr ⊢
  rw [lp_step (envV A) 103 (c0 := bd103) (lv := lvF103) rfl rfl]
  have hnle := hA.nleE; have hneq := hA.neqE
  have klt := hA.lt; have kle := hA.le; have keq := hA.eq; have knle := hA.nle; have kneq := hA.neq
  rw [lp_split (lpOf (envV A) 103 bd103) 2]
  generalize lpOf (envV A) 103 bd103 2 = L2 at e1 e2 e3 h1 h2 h3 hr ⊢
  generalize lpOf (envV A) 103 bd103 = LP
  generalize evl (envV A) = E at e1 e2 e3 h1 h2 h3 hr ⊢
  obtain ⟨aadd, asub, amul, arem, aquo, awr, ashr, aeq, alt, ale, aseq, aslt, acat, acut, asiz, aat, anle, aneq, afit⟩ := A
  simp only at hnle hneq
  subst hnle hneq
  simp only at klt kle keq knle kneq
  try simp only at h1 h2 h3 hr
  conv at e1 => lhs; cbv
  conv at e2 => lhs; cbv
  conv at e3 => lhs; cbv
  cbv
  rewrite [h2]
  cbv
  rewrite [e1]
  cbv
  rewrite [h1]
  cbv
  cases q
  · cbv
    rewrite [h3]
    cbv
    rewrite [hr]
    cbv
  · cbv
theorem lp_some_idx_end (e3 : xs.length = n) (h2 : A.lt (.ofNat i) (.ofNat n) = false) :
    lpOf (envV A) 103 bd103 2 (stV xs b n i) = some (.code (.exit 0) (stVe xs b n i)) := by
  unfold stV stVe
  rw [lp_step (envV A) 103 (c0 := bd103) (lv := lvF103) rfl rfl]
  have hnle := hA.nleE; have hneq := hA.neqE
  have klt := hA.lt; have kle := hA.le; have keq := hA.eq; have knle := hA.nle; have kneq := hA.neq
  generalize lpOf (envV A) 103 bd103 = LP
  generalize evl (envV A) = E at e3 h2 ⊢
  obtain ⟨aadd, asub, amul, arem, aquo, awr, ashr, aeq, alt, ale, aseq, aslt, acat, acut, asiz, aat, anle, aneq, afit⟩ := A
  simp only at hnle hneq
  subst hnle hneq
  simp only at klt kle keq knle kneq
  try simp only at h2
  conv at e3 => lhs; cbv
  cbv
  rewrite [h2]
  cbv
theorem eq_some_idx_some (e3 : xs.length = n) (h1 : lpOf (envV A) 103 bd103 2 (stV xs b n 0) = some (.code .ret { n := 19, k := 1, fr := [(4, .s (.int .i64 (.ofNat i)))], O := [[.s (.bool b)]] })) :
    evl (envV A) (.call 103 [.sl 3 xs .ro, .fn 107 [] [.ptr 0 0]] [[.s (.bool b)]]) = some (.ret (.s (.int .i64 (.ofNat i))) [[.s (.bool b)]]) := by
  unfold stV at h1
  simp only [show Int.ofNat 0 = 0 from rfl] at h1
  rw [evl_fn (envV A) 103 _ _ (fn := Try.f103) (c := bd103) (lv := lvF103) rfl rfl rfl rfl rfl rfl]
  have hnle := hA.nleE; have hneq := hA.neqE
  have klt := hA.lt; have kle := hA.le; have keq := hA.eq; have knle := hA.nle; have kneq := hA.neq
  rw [lp_split (lpOf (envV A) 103 bd103) 2]
  generalize lpOf (envV A) 103 bd103 2 = L2 at e3 h1 ⊢
  generalize lpOf (envV A) 103 bd103 = LP
  generalize evl (envV A) = E at e3 h1 ⊢
  obtain ⟨aadd, asub, amul, arem, aquo, awr, ashr, aeq, alt, ale, aseq, aslt, acat, acut, asiz, aat, anle, aneq, afit⟩ := A
  simp only at hnle hneq
  subst hnle hneq
  simp only at klt kle keq knle kneq
  try simp only at h1
  conv at e3 => lhs; cbv
  cbv
  rewrite [e3]
  cbv
  rewrite [h1]
  cbv
theorem eq_some_idx_none (e3 : xs.length = n) (h1 : lpOf (envV A) 103 bd103 2 (stV xs b n 0) = some (.code (.exit 0) (stVe xs b n i))) :
    evl (envV A) (.call 103 [.sl 3 xs .ro, .fn 107 [] [.ptr 0 0]] [[.s (.bool b)]]) = some (.ret (.s (.int .i64 (-1))) [[.s (.bool b)]]) := by
  unfold stV stVe at h1
  simp only [show Int.ofNat 0 = 0 from rfl] at h1
  rw [evl_fn (envV A) 103 _ _ (fn := Try.f103) (c := bd103) (lv := lvF103) rfl rfl rfl rfl rfl rfl]
  have hnle := hA.nleE; have hneq := hA.neqE
  have klt := hA.lt; have kle := hA.le; have keq := hA.eq; have knle := hA.nle; have kneq := hA.neq
  rw [lp_split (lpOf (envV A) 103 bd103) 2]
  generalize lpOf (envV A) 103 bd103 2 = L2 at e3 h1 ⊢
  generalize lpOf (envV A) 103 bd103 = LP
  generalize evl (envV A) = E at e3 h1 ⊢
  obtain ⟨aadd, asub, amul, arem, aquo, awr, ashr, aeq, alt, ale, aseq, aslt, acat, acut, asiz, aat, anle, aneq, afit⟩ := A
  simp only at hnle hneq
  subst hnle hneq
  simp only at klt kle keq knle kneq
  try simp only at h1
  conv at e3 => lhs; cbv
  cbv
  rewrite [e3]
  cbv
  rewrite [h1]
  cbv
theorem lp_del_keep {r : Option Res} (e0 : xs.length = n) (e1 : lget xs j = some (.agg [.s (.string a), .s (.string c), .s (.bool st)])) (e2 : Nat.ble (Nat.succ j) n = true) (e3 : 0 + j = j) (e4 : 0 + i = i) (e5 : Nat.ble (Nat.succ i) n = true) (e6 : lset xs i (.agg [.s (.string a), .s (.string c), .s (.bool st)]) = zs) (a2 c2 : ByteArray) (st2 : Bool) (e7 : lget xs i = some (.agg [.s (.string a2), .s (.string c2), .s (.bool st2)]))
    (h1 : A.lt (.ofNat j) (.ofNat n) = true) (h2 : evl (envV A) (.call 107 [.agg [.s (.string a), .s (.string c), .s (.bool st)], .ptr 0 0] [[.s (.bool b)]]) = some (.ret (.s (.bool false)) [[.s (.bool b)]])) (h3 : A.add .i64 (.ofNat i) 1 = .ofNat (Nat.succ i)) (h4 : A.add .i64 (.ofNat j) 1 = .ofNat (Nat.succ j))
    (hr : lpOf (envV A) 105 bd105 5 (stW zs b (Nat.succ i) (Nat.succ j)) = r) :
    lpOf (envV A) 105 bd105 5 (stW xs b i j) = r := by
  unfold stW at hr ⊢
  rw [lp_step (envV A) 105 (c0 := bd105) (lv := lvF105) rfl rfl]
  have hnle := hA.nleE; have hneq := hA.neqE
  have klt := hA.lt; have kle := hA.le; have keq := hA.eq; have knle := hA.nle; have kneq := hA.neq
  rw [lp_split (lpOf (envV A) 105 bd105) 5]
  generalize lpOf (envV A) 105 bd105 5 = L5 at e0 e1 e2 e3 e4 e5 e6 e7 h1 h2 h3 h4 hr ⊢
  generalize lpOf (envV A) 105 bd105 = LP
  generalize evl (envV A) = E at e0 e1 e2 e3 e4 e5 e6 e7 h1 h2 h3 h4 hr ⊢
  obtain ⟨aadd, asub, amul, arem, aquo, awr, ashr, aeq, alt, ale, aseq, aslt, acat, acut, asiz, aat, anle, aneq, afit⟩ := A
  simp only at hnle hneq
  subst hnle hneq
  simp only at klt kle keq knle kneq
  try simp only at h1 h2 h3 h4 hr
  conv at e0 => lhs; cbv
  conv at e1 => lhs; cbv
  conv at e2 => lhs; cbv
  conv at e3 => lhs; cbv
  conv at e4 => lhs; cbv
  conv at e5 => lhs; cbv
  conv at e6 => lhs; cbv
  conv at e7 => lhs; cbv
  cbv
  rewrite [e0]
  cbv
  rewrite [h1]
  cbv
  rewrite [e0]
  cbv
  rewrite [e2]
  cbv
  rewrite [e3]
  cbv
  rewrite [e1]
  cbv
  rewrite [h2]
  cbv
  rewrite [e0]
  cbv
  rewrite [e4]
  cbv
  rewrite [e5]
  cbv
  rewrite [e7]
  cbv
  rewrite [e6]
  cbv
  rewrite [h3]
  cbv
  rewrite [h4]
  cbv
  rewrite [hr]
  cbv
theorem lp_del_drop {r : Option Res} (e0 : xs.length = n) (e1 : lget xs j = some (.agg [.s (.string a), .s (.string c), .s (.bool st)])) (e2 : Nat.ble (Nat.succ j) n = true) (e3 : 0 + j = j)
    (h1 : A.lt (.ofNat j) (.ofNat n) = true) (h2 : evl (envV A) (.call 107 [.agg [.s (.string a), .s (.string c), .s (.bool st)], .ptr 0 0] [[.s (.bool b)]]) = some (.ret (.s (.bool true)) [[.s (.bool b)]])) (h4 : A.add .i64 (.ofNat j) 1 = .ofNat (Nat.succ j))
    (hr : lpOf (envV A) 105 bd105 5 (stW xs b i (Nat.succ j)) = r) :
    lpOf (envV A) 105 bd105 5 (stW xs b i j) = r := by
  unfold stW at hr ⊢
  rw [lp_step (envV A) 105 (c0 := bd105) (lv := lvF105) rfl rfl]
  have hnle := hA.nleE; have hneq := hA.neqE
  have klt := hA.lt; have kle := hA.le; have keq := hA.eq; have knle := hA.nle; have kneq := hA.neq
  rw [lp_split (lpOf (envV A) 105 bd105) 5]
  generalize lpOf (envV A) 105 bd105 5 = L5 at e0 e1 e2 e3 h1 h2 h4 hr ⊢
  generalize lpOf (envV A) 105 bd105 = LP
  generalize evl (envV A) = E at e0 e1 e2 e3 h1 h2 h4 hr ⊢
  obtain ⟨aadd, asub, amul, arem, aquo, awr, ashr, aeq, alt, ale, aseq, aslt, acat, acut, asiz, aat, anle, aneq, afit⟩ := A
  simp only at hnle hneq
  subst hnle hneq
  simp only at klt kle keq knle kneq
  try simp only at h1 h2 h4 hr
  conv at e0 => lhs; cbv
  conv at e1 => lhs; cbv
  conv at e2 => lhs; cbv
  conv at e3 => lhs; cbv
  cbv
  rewrite [e0]
  cbv
  rewrite [h1]
  cbv
  rewrite [e0]
  cbv
  rewrite [e2]
  cbv
  rewrite [e3]
  cbv
  rewrite [e1]
  cbv
  rewrite [h2]
  cbv
  rewrite [h4]
  cbv
  rewrite [hr]
  cbv
theorem lp_del_end (e0 : xs.length = n) (h1 : A.lt (.ofNat j) (.ofNat n) = false) :
    lpOf (envV A) 105 bd105 5 (stW xs b i j) = some (.code (.exit 0) (stWe xs b i j)) := by
  unfold stW stWe
  rw [lp_step (envV A) 105 (c0 := bd105) (lv := lvF105) rfl rfl]
  have hnle := hA.nleE; have hneq := hA.neqE
  have klt := hA.lt; have kle := hA.le; have keq := hA.eq; have knle := hA.nle; have kneq := hA.neq
  generalize lpOf (envV A) 105 bd105 = LP
  generalize evl (envV A) = E at e0 h1 ⊢
  obtain ⟨aadd, asub, amul, arem, aquo, awr, ashr, aeq, alt, ale, aseq, aslt, acat, acut, asiz, aat, anle, aneq, afit⟩ := A
  simp only at hnle hneq
  subst hnle hneq
  simp only at klt kle keq knle kneq
  try simp only at h1
  conv at e0 => lhs; cbv
  cbv
  rewrite [e0]
  cbv
  rewrite [h1]
  cbv
theorem eq_del_none (e0 : xs.length = n) (e1 : 0 + n = n) (e2 : Nat.ble n n = true) (e3 : lcut xs 0 n = xs) (h1 : evl (envV A) (.call 103 [.sl 3 xs .ro, .fn 107 [] [.ptr 0 0]] [[.s (.bool b)]]) = some (.ret (.s (.int .i64 (-1))) [[.s (.bool b)]])) :
    evl (envV A) (.call 105 [.sl 3 xs .full, .fn 107 [] [.ptr 0 0]] [[.s (.bool b)]]) = some (.ret (.sl 3 xs .full) [[.s (.bool b)]]) := by
  rw [evl_fn (envV A) 105 _ _ (fn := Try.f105) (c := bd105) (lv := lvF105) rfl rfl rfl rfl rfl rfl]
  have hnle := hA.nleE; have hneq := hA.neqE
  have klt := hA.lt; have kle := hA.le; have keq := hA.eq; have knle := hA.nle; have kneq := hA.neq
  generalize lpOf (envV A) 105 bd105 = LP
  generalize evl (envV A) = E at e0 e1 e2 e3 h1 ⊢
  obtain ⟨aadd, asub, amul, arem, aquo, awr, ashr, aeq, alt, ale, aseq, aslt, acat, acut, asiz, aat, anle, aneq, afit⟩ := A
  simp only at hnle hneq
  subst hnle hneq
  simp only at klt kle keq knle kneq
  try simp only at h1
  conv at e0 => lhs; cbv
  conv at e1 => lhs; cbv
  conv at e2 => lhs; cbv
  conv at e3 => lhs; cbv
  cbv
  rewrite [e0]
  cbv
  rewrite [e1]
  cbv
  rewrite [e2]
  cbv
  rewrite [e3]
  cbv
  rewrite [h1]
  cbv
  rewrite [keq (-1) (-1)]
  cbv
  rewrite [e0]
  cbv
  rewrite [e2]
  cbv
  rewrite [e3]
  cbv
theorem eq_del_some (m : Nat) (e0 : xs.length = n) (e4 : zs.length = n) (e1 : 0 + n = n) (e2 : Nat.ble n n = true) (e3 : lcut xs 0 n = xs) (e5 : Nat.ble j n = true) (e6 : n - j = m) (e8 : 0 + j = j) (e9 : j + m = n) (ea : zs.take j ++ List.replicate m zeroA ++ zs.drop n = ws) (eb : ws.length = n) (ec : ws.take j = ys)
    (h1 : evl (envV A) (.call 103 [.sl 3 xs .ro, .fn 107 [] [.ptr 0 0]] [[.s (.bool b)]]) = some (.ret (.s (.int .i64 (.ofNat i))) [[.s (.bool b)]])) (h2 : A.eq (.ofNat i) (-1) = false) (h3 : A.add .i64 (.ofNat i) 1 = .ofNat (Nat.succ i))
    (h4 : lpOf (envV A) 105 bd105 5 (stW xs b i (Nat.succ i)) = some (.code (.exit 0) (stWe zs b j n))) :
    evl (envV A) (.call 105 [.sl 3 xs .full, .fn 107 [] [.ptr 0 0]] [[.s (.bool b)]]) = some (.ret (.sl 3 ys .full) [[.s (.bool b)]]) := by
  unfold stW stWe at h4
  unfold zeroA at ea
  rw [evl_fn (envV A) 105 _ _ (fn := Try.f105) (c := bd105) (lv := lvF105) rfl rfl rfl rfl rfl rfl]
  have hnle := hA.nleE; have hneq := hA.neqE
  have klt := hA.lt; have kle := hA.le; have keq := hA.eq; have knle := hA.nle; have kneq := hA.neq
  rw [lp_split (lpOf (envV A) 105 bd105) 5]
  generalize lpOf (envV A) 105 bd105 5 = L5 at e0 e1 e2 e3 e4 e5 e6 e8 e9 ea eb ec h1 h2 h3 h4 ⊢
  generalize lpOf (envV A) 105 bd105 = LP
  generalize evl (envV A) = E at e0 e1 e2 e3 e4 e5 e6 e8 e9 ea eb ec h1 h2 h3 h4 ⊢
  obtain ⟨aadd, asub, amul, arem, aquo, awr, ashr, aeq, alt, ale, aseq, aslt, acat, acut, asiz, aat, anle, aneq, afit⟩ := A
  simp only at hnle hneq
  subst hnle hneq
  simp only at klt kle keq knle kneq
  try simp only at h1 h2 h3 h4
  conv at e0 => lhs; cbv
  conv at e1 => lhs; cbv
  conv at e2 => lhs; cbv
  conv at e3 => lhs; cbv
  conv at e4 => lhs; cbv
  conv at e5 => lhs; cbv
  conv at e6 => lhs; cbv
  conv at e8 => lhs; cbv
  conv at e9 => lhs; cbv
  conv at ea => lhs; cbv
  conv at eb => lhs; cbv
  conv at ec => lhs; cbv
  cbv
  rewrite [e0]
  cbv
  rewrite [e1]
  cbv
  rewrite [e2]
  cbv
  rewrite [e3]
  cbv
  rewrite [h1]
  cbv
  rewrite [h2]
  cbv
  rewrite [h3]
  cbv
  rewrite [h4]
  cbv
  rewrite [e4]
  cbv
  rewrite [e2]
  cbv
  rewrite [e5]
  cbv
  rewrite [e4]
  cbv
  rewrite [e6]
  cbv
  rewrite [e8]
  cbv
  rewrite [e9]
  cbv
  rewrite [e2]
  cbv
  rewrite [ea]
  cbv
  rewrite [eb]
  cbv
  rewrite [e5]
  cbv
  rewrite [eb]
  cbv
  rewrite [e5]
  cbv
  rewrite [ec]
  cbv
theorem eq_attr_some (p : Perm) (hp : p = .ro ∨ p = .imm) (e0 : xs.length = n) (h1 : evl (envV A) (.call 106 [.sl 3 xs p] []) = some (.ret (.sl 3 xs .full) []))
    (h2 : evl (envV A) (.call 105 [.sl 3 xs .full, .fn 107 [] [.ptr 0 0]] [[.s (.bool b)]]) = some (.ret (.sl 3 ys .full) [[.s (.bool b)]])) (m : Nat) (e1 : ys.length = m) (e2 : ys.take m = ys) (e3 : Nat.ble m m = true) :
    evl (envV A) (.call 92 [.sl 3 xs p, .s (.bool b)] []) = some (.ret (.sl 3 ys .full) []) := by
  rcases hp with rfl | rfl
  ·
    rw [evl_fn (envV A) 92 _ _ (fn := Try.f92) (c := bd92) (lv := lvF92) rfl rfl rfl rfl rfl rfl]
    have hnle := hA.nleE; have hneq := hA.neqE
    have klt := hA.lt; have kle := hA.le; have keq := hA.eq; have knle := hA.nle; have kneq := hA.neq
    generalize lpOf (envV A) 92 bd92 = LP
    generalize evl (envV A) = E at e0 e1 e2 e3 h1 h2 ⊢
    obtain ⟨aadd, asub, amul, arem, aquo, awr, ashr, aeq, alt, ale, aseq, aslt, acat, acut, asiz, aat, anle, aneq, afit⟩ := A
    simp only at hnle hneq
    subst hnle hneq
    simp only at klt kle keq knle kneq
    try simp only at h1 h2
    conv at e0 => lhs; cbv
    conv at e1 => lhs; cbv
    conv at e2 => lhs; cbv
    conv at e3 => lhs; cbv
    cbv
    rewrite [h1]
    cbv
    rewrite [h2]
    cbv
  ·
    rw [evl_fn (envV A) 92 _ _ (fn := Try.f92) (c := bd92) (lv := lvF92) rfl rfl rfl rfl rfl rfl]
    have hnle := hA.nleE; have hneq := hA.neqE
    have klt := hA.lt; have kle := hA.le; have keq := hA.eq; have knle := hA.nle; have kneq := hA.neq
    generalize lpOf (envV A) 92 bd92 = LP
    generalize evl (envV A) = E at e0 e1 e2 e3 h1 h2 ⊢
    obtain ⟨aadd, asub, amul, arem, aquo, awr, ashr, aeq, alt, ale, aseq, aslt, acat, acut, asiz, aat, anle, aneq, afit⟩ := A
    simp only at hnle hneq
    subst hnle hneq
    simp only at klt kle keq knle kneq
    try simp only at h1 h2
    conv at e0 => lhs; cbv
    conv at e1 => lhs; cbv
    conv at e2 => lhs; cbv
    conv at e3 => lhs; cbv
    cbv
    rewrite [h1]
    cbv
    rewrite [h2]
    cbv
end
end Go.Va
