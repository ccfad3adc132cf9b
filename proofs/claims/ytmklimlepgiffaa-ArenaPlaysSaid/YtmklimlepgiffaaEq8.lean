/- The functions that the statement reaches, by equations: no statement of its own. -/
import Derived.Test.YtmklimlepgiffaaEq7
set_option linter.unusedVariables false
set_option linter.unusedSimpArgs false
set_option linter.unusedSectionVars false
namespace Go.Va
open Go.Proofs
set_option maxRecDepth 100000
set_option maxHeartbeats 4000000
namespace ArInt
/-- an arena -/
def arO (ss fs : List AV) (room last : Int) : List AV := [.sl 2 ss .full, .sl 1 fs .full, .s (.int .i64 room), .s (.int .i64 last)]
def arV (ss fs : List AV) (room last : Int) : AV := .rp true [.sl 2 ss .ro, .sl 1 fs .ro, .s (.int .i64 room), .s (.int .i64 last)]
def stA (ss : List AV) (id : Int) (n i : Nat) : St := { n := 27, k := 0, fr := [(1, .s (.int .i64 id)), (10, .sl 2 ss .ro), (11, .s (.int .i64 (.ofNat n))), (12, .s (.int .i64 (.ofNat i)))], O := [] }
def stAe (ss : List AV) (id : Int) (n i : Nat) : St := { n := 27, k := 0, fr := [(1, .s (.int .i64 id)), (10, .sl 2 ss .ro), (11, .s (.int .i64 (.ofNat n))), (12, .s (.int .i64 (.ofNat i))), (13, .s (.bool false))], O := [] }
section
variable (A : Ar) (hA : ArOk A) (ss fs ss2 fs2 : List AV) (n m i k p q : Nat) (room last id j d : Int)
include hA
theorem eq_New (h1 : A.lt room 1 = false) (h2 : A.lt 200 room = false) : evl (envV A) (.call 34 [.s (.int .i64 room)] []) = some (.ret (.tup [.ptr 0 0, .s .nilIface]) [arO [] [] room 0]) := by
  unfold arO
  rw [evl_fn (envV A) 34 _ _ (fn := Try.f34) (c := bd34) (lv := lvF34) rfl rfl rfl rfl rfl rfl]
  have hnle := hA.nleE; have hneq := hA.neqE
  have klt := hA.lt; have kle := hA.le; have keq := hA.eq; have knle := hA.nle; have kneq := hA.neq
  generalize lpOf (envV A) 34 bd34 = LP
  generalize evl (envV A) = E at h1 h2 ⊢
  obtain ⟨aadd, asub, amul, arem, aquo, awr, ashr, aeq, alt, ale, aseq, aslt, acat, acut, asiz, aat, anle, aneq, afit⟩ := A
  simp only at hnle hneq
  subst hnle hneq
  simp only at klt kle keq knle kneq
  try simp only at h1 h2
  cbv
  rewrite [h1]
  cbv
  rewrite [h2]
  cbv
theorem eq_New_no (h1 : (bif A.lt room 1 then true else A.lt 200 room) = true) : evl (envV A) (.call 34 [.s (.int .i64 room)] []) = some (.ret (.tup [.s (.pointer none), .s (.iface 45 (.int .i64 1))]) []) := by
  cases h2 : A.lt room 1 with
  | true =>
    clear h1
    rw [evl_fn (envV A) 34 _ _ (fn := Try.f34) (c := bd34) (lv := lvF34) rfl rfl rfl rfl rfl rfl]
    have hnle := hA.nleE; have hneq := hA.neqE
    have klt := hA.lt; have kle := hA.le; have keq := hA.eq; have knle := hA.nle; have kneq := hA.neq
    generalize lpOf (envV A) 34 bd34 = LP
    generalize evl (envV A) = E at h2 ⊢
    obtain ⟨aadd, asub, amul, arem, aquo, awr, ashr, aeq, alt, ale, aseq, aslt, acat, acut, asiz, aat, anle, aneq, afit⟩ := A
    simp only at hnle hneq
    subst hnle hneq
    simp only at klt kle keq knle kneq
    try simp only at h2
    cbv
    rewrite [h2]
    cbv
  | false =>
    rw [h2] at h1
    simp only [cond_false] at h1
    rw [evl_fn (envV A) 34 _ _ (fn := Try.f34) (c := bd34) (lv := lvF34) rfl rfl rfl rfl rfl rfl]
    have hnle := hA.nleE; have hneq := hA.neqE
    have klt := hA.lt; have kle := hA.le; have keq := hA.eq; have knle := hA.nle; have kneq := hA.neq
    generalize lpOf (envV A) 34 bd34 = LP
    generalize evl (envV A) = E at h1 h2 ⊢
    obtain ⟨aadd, asub, amul, arem, aquo, awr, ashr, aeq, alt, ale, aseq, aslt, acat, acut, asiz, aat, anle, aneq, afit⟩ := A
    simp only at hnle hneq
    subst hnle hneq
    simp only at klt kle keq knle kneq
    try simp only at h1 h2
    cbv
    rewrite [h2]
    cbv
    rewrite [h1]
    cbv
theorem eq_Live (e0 : ss.length = n) (e1 : fs.length = m) (h1 : A.sub .i64 (.ofNat n) (.ofNat m) = d) : evl (envV A) (.call 41 [arV ss fs room last] []) = some (.ret (.s (.int .i64 d)) []) := by
  unfold arV
  rw [evl_fn (envV A) 41 _ _ (fn := Try.f41) (c := bd41) (lv := lvF41) rfl rfl rfl rfl rfl rfl]
  have hnle := hA.nleE; have hneq := hA.neqE
  have klt := hA.lt; have kle := hA.le; have keq := hA.eq; have knle := hA.nle; have kneq := hA.neq
  generalize lpOf (envV A) 41 bd41 = LP
  generalize evl (envV A) = E at e0 e1 h1 ⊢
  obtain ⟨aadd, asub, amul, arem, aquo, awr, ashr, aeq, alt, ale, aseq, aslt, acat, acut, asiz, aat, anle, aneq, afit⟩ := A
  simp only at hnle hneq
  subst hnle hneq
  simp only at klt kle keq knle kneq
  try simp only at h1
  conv at e0 => lhs; cbv
  conv at e1 => lhs; cbv
  cbv
  rewrite [e0]
  cbv
  rewrite [e1]
  cbv
  rewrite [h1]
  cbv
theorem lp_at {r : Option Res} (x : Int) (e0 : ss.length = n) (e1 : lget ss i = some (.agg (.s (.int .i64 j) :: [.s (.int .i64 x)]))) (e2 : Nat.ble (Nat.succ i) n = true) (h2 : A.lt (.ofNat i) (.ofNat n) = true) (h3 : A.add .i64 (.ofNat i) 1 = .ofNat (Nat.succ i))
    (hr : lpOf (envV A) 79 bd79 2 (stA ss id n (Nat.succ i)) = r) :
    lpOf (envV A) 79 bd79 2 (stA ss id n i) = (bif (bif A.eq j id then A.lt 0 id else false) then some (.code .ret { n := 27, k := 0, fr := [(4, .s (.int .i64 (.ofNat i)))], O := [] }) else r) := by
  unfold stA at hr ⊢
  rw [lp_step (envV A) 79 (c0 := bd79) (lv := lvF79) rfl rfl]
  have hnle := hA.nleE; have hneq := hA.neqE
  have klt := hA.lt; have kle := hA.le; have keq := hA.eq; have knle := hA.nle; have kneq := hA.neq
  rw [lp_split (lpOf (envV A) 79 bd79) 2]
  generalize lpOf (envV A) 79 bd79 2 = L2 at e0 e1 e2 h2 h3 hr ⊢
  generalize lpOf (envV A) 79 bd79 = LP
  generalize evl (envV A) = E at e0 e1 e2 h2 h3 hr ⊢
  obtain ⟨aadd, asub, amul, arem, aquo, awr, ashr, aeq, alt, ale, aseq, aslt, acat, acut, asiz, aat, anle, aneq, afit⟩ := A
  simp only at hnle hneq
  subst hnle hneq
  simp only at klt kle keq knle kneq
  try simp only at h2 h3 hr
  conv at e0 => lhs; cbv
  conv at e1 => lhs; cbv
  conv at e2 => lhs; cbv
  cbv
  rewrite [h2]
  cbv
  rewrite [e1]
  cbv
  cases c1 : aeq j id
  · cbv
    rewrite [h3]
    cbv
    rewrite [hr]
    cbv
  · cbv
    cases c2 : alt 0 id
    · cbv
      rewrite [h3]
      cbv
      rewrite [hr]
      cbv
    · cbv
theorem lp_at_end (e0 : ss.length = n) (h2 : A.lt (.ofNat i) (.ofNat n) = false) :
    lpOf (envV A) 79 bd79 2 (stA ss id n i) = some (.code (.exit 0) (stAe ss id n i)) := by
  unfold stA stAe
  rw [lp_step (envV A) 79 (c0 := bd79) (lv := lvF79) rfl rfl]
  have hnle := hA.nleE; have hneq := hA.neqE
  have klt := hA.lt; have kle := hA.le; have keq := hA.eq; have knle := hA.nle; have kneq := hA.neq
  generalize lpOf (envV A) 79 bd79 = LP
  generalize evl (envV A) = E at e0 h2 ⊢
  obtain ⟨aadd, asub, amul, arem, aquo, awr, ashr, aeq, alt, ale, aseq, aslt, acat, acut, asiz, aat, anle, aneq, afit⟩ := A
  simp only at hnle hneq
  subst hnle hneq
  simp only at klt kle keq knle kneq
  try simp only at h2
  conv at e0 => lhs; cbv
  cbv
  rewrite [h2]
  cbv
theorem eq_at_some (e0 : ss.length = n) (h1 : lpOf (envV A) 79 bd79 2 (stA ss id n 0) = some (.code .ret { n := 27, k := 0, fr := [(4, .s (.int .i64 (.ofNat i)))], O := [] })) :
    evl (envV A) (.call 79 [arV ss fs room last, .s (.int .i64 id)] []) = some (.ret (.s (.int .i64 (.ofNat i))) []) := by
  unfold stA at h1
  unfold arV
  simp only [show Int.ofNat 0 = 0 from rfl] at h1
  rw [evl_fn (envV A) 79 _ _ (fn := Try.f79) (c := bd79) (lv := lvF79) rfl rfl rfl rfl rfl rfl]
  have hnle := hA.nleE; have hneq := hA.neqE
  have klt := hA.lt; have kle := hA.le; have keq := hA.eq; have knle := hA.nle; have kneq := hA.neq
  rw [lp_split (lpOf (envV A) 79 bd79) 2]
  generalize lpOf (envV A) 79 bd79 2 = L2 at e0 h1 ⊢
  generalize lpOf (envV A) 79 bd79 = LP
  generalize evl (envV A) = E at e0 h1 ⊢
  obtain ⟨aadd, asub, amul, arem, aquo, awr, ashr, aeq, alt, ale, aseq, aslt, acat, acut, asiz, aat, anle, aneq, afit⟩ := A
  simp only at hnle hneq
  subst hnle hneq
  simp only at klt kle keq knle kneq
  try simp only at h1
  conv at e0 => lhs; cbv
  cbv
  rewrite [e0]
  cbv
  rewrite [h1]
  cbv
theorem eq_at_none (e0 : ss.length = n) (h1 : lpOf (envV A) 79 bd79 2 (stA ss id n 0) = some (.code (.exit 0) (stAe ss id n i))) :
    evl (envV A) (.call 79 [arV ss fs room last, .s (.int .i64 id)] []) = some (.ret (.s (.int .i64 (-1))) []) := by
  unfold stA stAe at h1
  unfold arV
  simp only [show Int.ofNat 0 = 0 from rfl] at h1
  rw [evl_fn (envV A) 79 _ _ (fn := Try.f79) (c := bd79) (lv := lvF79) rfl rfl rfl rfl rfl rfl]
  have hnle := hA.nleE; have hneq := hA.neqE
  have klt := hA.lt; have kle := hA.le; have keq := hA.eq; have knle := hA.nle; have kneq := hA.neq
  rw [lp_split (lpOf (envV A) 79 bd79) 2]
  generalize lpOf (envV A) 79 bd79 2 = L2 at e0 h1 ⊢
  generalize lpOf (envV A) 79 bd79 = LP
  generalize evl (envV A) = E at e0 h1 ⊢
  obtain ⟨aadd, asub, amul, arem, aquo, awr, ashr, aeq, alt, ale, aseq, aslt, acat, acut, asiz, aat, anle, aneq, afit⟩ := A
  simp only at hnle hneq
  subst hnle hneq
  simp only at klt kle keq knle kneq
  try simp only at h1
  conv at e0 => lhs; cbv
  cbv
  rewrite [e0]
  cbv
  rewrite [h1]
  cbv
theorem eq_Get_no (h0 : evl (envV A) (.call 79 [arV ss fs room last, .s (.int .i64 id)] []) = some (.ret (.s (.int .i64 (-1))) [])) :
    evl (envV A) (.call 44 [arV ss fs room last, .s (.int .i64 id)] []) = some (.ret (.tup [.s (.int .i64 0), .s (.bool false)]) []) := by
  unfold arV at h0 ⊢
  rw [evl_fn (envV A) 44 _ _ (fn := Try.f44) (c := bd44) (lv := lvF44) rfl rfl rfl rfl rfl rfl]
  have hnle := hA.nleE; have hneq := hA.neqE
  have klt := hA.lt; have kle := hA.le; have keq := hA.eq; have knle := hA.nle; have kneq := hA.neq
  generalize lpOf (envV A) 44 bd44 = LP
  generalize evl (envV A) = E at h0 ⊢
  obtain ⟨aadd, asub, amul, arem, aquo, awr, ashr, aeq, alt, ale, aseq, aslt, acat, acut, asiz, aat, anle, aneq, afit⟩ := A
  simp only at hnle hneq
  subst hnle hneq
  simp only at klt kle keq knle kneq
  try simp only at h0
  cbv
  rewrite [h0]
  cbv
  rewrite [kle (0) (-1)]
  cbv
theorem eq_Get (x : Int) (e0 : ss.length = n) (e1 : lget ss i = some (.agg (.s (.int .i64 j) :: [.s (.int .i64 x)]))) (e2 : Nat.ble (Nat.succ i) n = true) (h1 : A.le 0 (.ofNat i) = true) (h0 : evl (envV A) (.call 79 [arV ss fs room last, .s (.int .i64 id)] []) = some (.ret (.s (.int .i64 (.ofNat i))) [])) :
    evl (envV A) (.call 44 [arV ss fs room last, .s (.int .i64 id)] []) = some (.ret (.tup [.s (.int .i64 x), .s (.bool true)]) []) := by
  unfold arV at h0 ⊢
  rw [evl_fn (envV A) 44 _ _ (fn := Try.f44) (c := bd44) (lv := lvF44) rfl rfl rfl rfl rfl rfl]
  have hnle := hA.nleE; have hneq := hA.neqE
  have klt := hA.lt; have kle := hA.le; have keq := hA.eq; have knle := hA.nle; have kneq := hA.neq
  generalize lpOf (envV A) 44 bd44 = LP
  generalize evl (envV A) = E at e0 e1 e2 h0 h1 ⊢
  obtain ⟨aadd, asub, amul, arem, aquo, awr, ashr, aeq, alt, ale, aseq, aslt, acat, acut, asiz, aat, anle, aneq, afit⟩ := A
  simp only at hnle hneq
  subst hnle hneq
  simp only at klt kle keq knle kneq
  try simp only at h0 h1
  conv at e0 => lhs; cbv
  conv at e1 => lhs; cbv
  conv at e2 => lhs; cbv
  cbv
  rewrite [h0]
  cbv
  rewrite [h1]
  cbv
  rewrite [e1]
  cbv
theorem eq_Set_no (x : Int) (h0 : evl (envV A) (.call 79 [arV ss fs room last, .s (.int .i64 id)] []) = some (.ret (.s (.int .i64 (-1))) [])) :
    evl (envV A) (.call 39 [.ptr 0 0, .s (.int .i64 id), .s (.int .i64 x)] [arO ss fs room last]) = some (.ret (.s (.bool false)) [arO ss fs room last]) := by
  unfold arV at h0; unfold arO
  rw [evl_fn (envV A) 39 _ _ (fn := Try.f39) (c := bd39) (lv := lvF39) rfl rfl rfl rfl rfl rfl]
  have hnle := hA.nleE; have hneq := hA.neqE
  have klt := hA.lt; have kle := hA.le; have keq := hA.eq; have knle := hA.nle; have kneq := hA.neq
  generalize lpOf (envV A) 39 bd39 = LP
  generalize evl (envV A) = E at h0 ⊢
  obtain ⟨aadd, asub, amul, arem, aquo, awr, ashr, aeq, alt, ale, aseq, aslt, acat, acut, asiz, aat, anle, aneq, afit⟩ := A
  simp only at hnle hneq
  subst hnle hneq
  simp only at klt kle keq knle kneq
  try simp only at h0
  cbv
  rewrite [h0]
  cbv
  rewrite [klt (-1) (0)]
  cbv
theorem eq_Set (x : Int) (y : Int) (e0 : ss.length = n) (e1 : lget ss i = some (.agg (.s (.int .i64 j) :: [.s (.int .i64 y)]))) (e2 : Nat.ble (Nat.succ i) n = true) (e3 : 0 + i = i) (e4 : lset ss i (.agg (.s (.int .i64 j) :: [.s (.int .i64 x)])) = ss2) (h1 : A.lt (.ofNat i) 0 = false) (h0 : evl (envV A) (.call 79 [arV ss fs room last, .s (.int .i64 id)] []) = some (.ret (.s (.int .i64 (.ofNat i))) [])) :
    evl (envV A) (.call 39 [.ptr 0 0, .s (.int .i64 id), .s (.int .i64 x)] [arO ss fs room last]) = some (.ret (.s (.bool true)) [arO ss2 fs room last]) := by
  unfold arV at h0; unfold arO
  rw [evl_fn (envV A) 39 _ _ (fn := Try.f39) (c := bd39) (lv := lvF39) rfl rfl rfl rfl rfl rfl]
  have hnle := hA.nleE; have hneq := hA.neqE
  have klt := hA.lt; have kle := hA.le; have keq := hA.eq; have knle := hA.nle; have kneq := hA.neq
  generalize lpOf (envV A) 39 bd39 = LP
  generalize evl (envV A) = E at e0 e1 e2 e3 e4 h0 h1 ⊢
  obtain ⟨aadd, asub, amul, arem, aquo, awr, ashr, aeq, alt, ale, aseq, aslt, acat, acut, asiz, aat, anle, aneq, afit⟩ := A
  simp only at hnle hneq
  subst hnle hneq
  simp only at klt kle keq knle kneq
  try simp only at h0 h1
  conv at e0 => lhs; cbv
  conv at e1 => lhs; cbv
  conv at e2 => lhs; cbv
  conv at e3 => lhs; cbv
  conv at e4 => lhs; cbv
  cbv
  rewrite [h0]
  cbv
  rewrite [h1]
  cbv
  rewrite [e0]
  cbv
  rewrite [e2]
  cbv
  rewrite [e3]
  cbv
  rewrite [e1]
  cbv
  rewrite [e4]
  cbv
theorem eq_Drop_no (h0 : evl (envV A) (.call 79 [arV ss fs room last, .s (.int .i64 id)] []) = some (.ret (.s (.int .i64 (-1))) [])) :
    evl (envV A) (.call 38 [.ptr 0 0, .s (.int .i64 id)] [arO ss fs room last]) = some (.ret (.s (.bool false)) [arO ss fs room last]) := by
  unfold arV at h0; unfold arO
  rw [evl_fn (envV A) 38 _ _ (fn := Try.f38) (c := bd38) (lv := lvF38) rfl rfl rfl rfl rfl rfl]
  have hnle := hA.nleE; have hneq := hA.neqE
  have klt := hA.lt; have kle := hA.le; have keq := hA.eq; have knle := hA.nle; have kneq := hA.neq
  generalize lpOf (envV A) 38 bd38 = LP
  generalize evl (envV A) = E at h0 ⊢
  obtain ⟨aadd, asub, amul, arem, aquo, awr, ashr, aeq, alt, ale, aseq, aslt, acat, acut, asiz, aat, anle, aneq, afit⟩ := A
  simp only at hnle hneq
  subst hnle hneq
  simp only at klt kle keq knle kneq
  try simp only at h0
  cbv
  rewrite [h0]
  cbv
  rewrite [klt (-1) (0)]
  cbv
theorem eq_Drop (y : Int) (e0 : ss.length = n) (e1 : lget ss i = some (.agg (.s (.int .i64 j) :: [.s (.int .i64 y)]))) (e2 : Nat.ble (Nat.succ i) n = true) (e3 : 0 + i = i) (e4 : lset ss i (.agg (.s (.int .i64 0) :: [.s (.int .i64 0)])) = ss2) (e5 : fs.length = m) (e6 : Nat.beq m m = true) (e7 : fs ++ [.s (.int .i64 (.ofNat i))] = fs2)
    (h2 : A.fit (Nat.succ m) 8 = true) (h1 : A.lt (.ofNat i) 0 = false) (h0 : evl (envV A) (.call 79 [arV ss fs room last, .s (.int .i64 id)] []) = some (.ret (.s (.int .i64 (.ofNat i))) [])) :
    evl (envV A) (.call 38 [.ptr 0 0, .s (.int .i64 id)] [arO ss fs room last]) = some (.ret (.s (.bool true)) [arO ss2 fs2 room last]) := by
  unfold arV at h0; unfold arO
  rw [evl_fn (envV A) 38 _ _ (fn := Try.f38) (c := bd38) (lv := lvF38) rfl rfl rfl rfl rfl rfl]
  have hnle := hA.nleE; have hneq := hA.neqE
  have klt := hA.lt; have kle := hA.le; have keq := hA.eq; have knle := hA.nle; have kneq := hA.neq
  generalize lpOf (envV A) 38 bd38 = LP
  generalize evl (envV A) = E at e0 e1 e2 e3 e4 e5 e6 e7 h0 h1 h2 ⊢
  obtain ⟨aadd, asub, amul, arem, aquo, awr, ashr, aeq, alt, ale, aseq, aslt, acat, acut, asiz, aat, anle, aneq, afit⟩ := A
  simp only at hnle hneq
  subst hnle hneq
  simp only at klt kle keq knle kneq
  try simp only at h0 h1 h2
  conv at e0 => lhs; cbv
  conv at e1 => lhs; cbv
  conv at e2 => lhs; cbv
  conv at e3 => lhs; cbv
  conv at e4 => lhs; cbv
  conv at e5 => lhs; cbv
  conv at e6 => lhs; cbv
  conv at e7 => lhs; cbv
  cbv
  rewrite [h0]
  cbv
  rewrite [h1]
  cbv
  rewrite [e0]
  cbv
  rewrite [e2]
  cbv
  rewrite [e3]
  cbv
  rewrite [e1]
  cbv
  rewrite [e4]
  cbv
  rewrite [e5]
  cbv
  rewrite [e6]
  cbv
  rewrite [e7]
  cbv
  rewrite [h2]
  cbv
theorem eq_Put_full (x : Int) (h0 : evl (envV A) (.call 41 [arV ss fs room last] []) = some (.ret (.s (.int .i64 d)) [])) (h1 : A.le room d = true) :
    evl (envV A) (.call 36 [.ptr 0 0, .s (.int .i64 x)] [arO ss fs room last]) = some (.ret (.tup [.s (.int .i64 0), .s (.iface 45 (.int .i64 6))]) [arO ss fs room last]) := by
  unfold arV at h0; unfold arO
  rw [evl_fn (envV A) 36 _ _ (fn := Try.f36) (c := bd36) (lv := lvF36) rfl rfl rfl rfl rfl rfl]
  have hnle := hA.nleE; have hneq := hA.neqE
  have klt := hA.lt; have kle := hA.le; have keq := hA.eq; have knle := hA.nle; have kneq := hA.neq
  generalize lpOf (envV A) 36 bd36 = LP
  generalize evl (envV A) = E at h0 h1 ⊢
  obtain ⟨aadd, asub, amul, arem, aquo, awr, ashr, aeq, alt, ale, aseq, aslt, acat, acut, asiz, aat, anle, aneq, afit⟩ := A
  simp only at hnle hneq
  subst hnle hneq
  simp only at klt kle keq knle kneq
  try simp only at h0 h1
  cbv
  rewrite [h0]
  cbv
  rewrite [h1]
  cbv
theorem eq_Add (l2 : Int) (h0 : evl (envV A) (.call 97 [.ptr 0 3, .s (.int .i64 1)] [arO ss fs room last]) = some (.ret (.s (.int .i64 l2)) [arO ss fs room l2])) :
    evl (envV A) (.call 77 [.ptr 0 3, .s (.int .i64 1)] [arO ss fs room last]) = some (.ret (.s (.int .i64 l2)) [arO ss fs room l2]) := by
  unfold arO at h0 ⊢
  rw [evl_fn (envV A) 77 _ _ (fn := Try.f77) (c := bd77) (lv := lvF77) rfl rfl rfl rfl rfl rfl]
  have hnle := hA.nleE; have hneq := hA.neqE
  have klt := hA.lt; have kle := hA.le; have keq := hA.eq; have knle := hA.nle; have kneq := hA.neq
  generalize lpOf (envV A) 77 bd77 = LP
  generalize evl (envV A) = E at h0 ⊢
  obtain ⟨aadd, asub, amul, arem, aquo, awr, ashr, aeq, alt, ale, aseq, aslt, acat, acut, asiz, aat, anle, aneq, afit⟩ := A
  simp only at hnle hneq
  subst hnle hneq
  simp only at klt kle keq knle kneq
  try simp only at h0
  cbv
  rewrite [h0]
  cbv
theorem eq_Put_new (x : Int) (l2 : Int) (h0 : evl (envV A) (.call 41 [arV ss fs room last] []) = some (.ret (.s (.int .i64 d)) [])) (h1 : A.le room d = false)
    (h2 : evl (envV A) (.call 77 [.ptr 0 3, .s (.int .i64 1)] [arO ss fs room last]) = some (.ret (.s (.int .i64 l2)) [arO ss fs room l2]))
    (e0 : ss.length = n) (e1 : fs.length = 0) (e3 : Nat.beq n n = true) (e4 : ss ++ [.agg (.s (.int .i64 l2) :: [.s (.int .i64 x)])] = ss2) (h4 : A.fit (Nat.succ n) 16 = true) :
    evl (envV A) (.call 36 [.ptr 0 0, .s (.int .i64 x)] [arO ss fs room last]) = some (.ret (.tup [.s (.int .i64 l2), .s .nilIface]) [arO ss2 fs room l2]) := by
  unfold arV at h0; unfold arO at h2 ⊢
  rw [evl_fn (envV A) 36 _ _ (fn := Try.f36) (c := bd36) (lv := lvF36) rfl rfl rfl rfl rfl rfl]
  have hnle := hA.nleE; have hneq := hA.neqE
  have klt := hA.lt; have kle := hA.le; have keq := hA.eq; have knle := hA.nle; have kneq := hA.neq
  generalize lpOf (envV A) 36 bd36 = LP
  generalize evl (envV A) = E at e0 e1 e3 e4 h0 h1 h2 h4 ⊢
  obtain ⟨aadd, asub, amul, arem, aquo, awr, ashr, aeq, alt, ale, aseq, aslt, acat, acut, asiz, aat, anle, aneq, afit⟩ := A
  simp only at hnle hneq
  subst hnle hneq
  simp only at klt kle keq knle kneq
  try simp only at h0 h1 h2 h4
  conv at e0 => lhs; cbv
  conv at e1 => lhs; cbv
  conv at e3 => lhs; cbv
  conv at e4 => lhs; cbv
  cbv
  rewrite [h0]
  cbv
  rewrite [h1]
  cbv
  rewrite [h2]
  cbv
  rewrite [e1]
  cbv
  rewrite [klt (0) (Int.ofNat 0)]
  cbv
  rewrite [e0]
  cbv
  rewrite [e3]
  cbv
  rewrite [e4]
  cbv
  rewrite [h4]
  cbv
theorem eq_Put_free (x : Int) (y : Int) (l2 : Int) (h0 : evl (envV A) (.call 41 [arV ss fs room last] []) = some (.ret (.s (.int .i64 d)) [])) (h1 : A.le room d = false)
    (h2 : evl (envV A) (.call 77 [.ptr 0 3, .s (.int .i64 1)] [arO ss fs room last]) = some (.ret (.s (.int .i64 l2)) [arO ss fs room l2]))
    (e0 : ss.length = n) (e1 : fs.length = m) (h3 : A.lt 0 (.ofNat m) = true) (h4 : A.sub .i64 (.ofNat m) 1 = .ofNat p) (e2 : Nat.ble (Nat.succ p) m = true) (e3 : lget fs p = some (.s (.int .i64 (.ofNat q)))) (e4 : 0 + p = p) (e5 : Nat.ble (Nat.succ q) n = true) (e6 : 0 + q = q)
    (e7 : lget ss q = some (.agg (.s (.int .i64 j) :: [.s (.int .i64 y)]))) (e8 : lset ss q (.agg (.s (.int .i64 l2) :: [.s (.int .i64 x)])) = ss2) (e9 : fs.take p = fs2) (ea : p - 0 = p) (eb : Nat.ble p m = true) :
    evl (envV A) (.call 36 [.ptr 0 0, .s (.int .i64 x)] [arO ss fs room last]) = some (.ret (.tup [.s (.int .i64 l2), .s .nilIface]) [arO ss2 fs2 room l2]) := by
  unfold arV at h0; unfold arO at h2 ⊢
  rw [evl_fn (envV A) 36 _ _ (fn := Try.f36) (c := bd36) (lv := lvF36) rfl rfl rfl rfl rfl rfl]
  have hnle := hA.nleE; have hneq := hA.neqE
  have klt := hA.lt; have kle := hA.le; have keq := hA.eq; have knle := hA.nle; have kneq := hA.neq
  generalize lpOf (envV A) 36 bd36 = LP
  generalize evl (envV A) = E at e0 e1 e2 e3 e4 e5 e6 e7 e8 e9 ea eb h0 h1 h2 h3 h4 ⊢
  obtain ⟨aadd, asub, amul, arem, aquo, awr, ashr, aeq, alt, ale, aseq, aslt, acat, acut, asiz, aat, anle, aneq, afit⟩ := A
  simp only at hnle hneq
  subst hnle hneq
  simp only at klt kle keq knle kneq
  try simp only at h0 h1 h2 h3 h4
  conv at e0 => lhs; cbv
  conv at e1 => lhs; cbv
  conv at e2 => lhs; cbv
  conv at e3 => lhs; cbv
  conv at e4 => lhs; cbv
  conv at e5 => lhs; cbv
  conv at e6 => lhs; cbv
  conv at e7 => lhs; cbv
  conv at e8 => lhs; cbv
  conv at e9 => lhs; cbv
  conv at ea => lhs; cbv
  conv at eb => lhs; cbv
  cbv
  rewrite [h0]
  cbv
  rewrite [h1]
  cbv
  rewrite [h2]
  cbv
  rewrite [e1]
  cbv
  rewrite [h3]
  cbv
  rewrite [e0]
  cbv
  rewrite [e1]
  cbv
  rewrite [h4]
  cbv
  rewrite [e2]
  cbv
  rewrite [e4]
  cbv
  rewrite [e3]
  cbv
  rewrite [e5]
  cbv
  rewrite [e6]
  cbv
  rewrite [e7]
  cbv
  rewrite [e1]
  cbv
  rewrite [e8]
  cbv
  rewrite [h4]
  cbv
  rewrite [eb]
  cbv
  rewrite [e1]
  cbv
  rewrite [e9]
  cbv
  rewrite [eb]
  cbv
end
end ArInt
end Go.Va
namespace Go.Va
open Go.Proofs
set_option maxRecDepth 100000
set_option maxHeartbeats 4000000
namespace ArInt
section
variable (A : Ar) (hA : ArOk A) (ss fs ss2 fs2 : List AV) (n m i k p q : Nat) (room last id j d : Int)
include hA
theorem eq_Room : evl (envV A) (.call 43 [arV ss fs room last] []) = some (.ret (.s (.int .i64 room)) []) := by
  unfold arV
  rw [evl_fn (envV A) 43 _ _ (fn := Try.f43) (c := bd43) (lv := lvF43) rfl rfl rfl rfl rfl rfl]
  have hnle := hA.nleE; have hneq := hA.neqE
  have klt := hA.lt; have kle := hA.le; have keq := hA.eq; have knle := hA.nle; have kneq := hA.neq
  generalize lpOf (envV A) 43 bd43 = LP
  generalize evl (envV A) = E
  obtain ⟨aadd, asub, amul, arem, aquo, awr, ashr, aeq, alt, ale, aseq, aslt, acat, acut, asiz, aat, anle, aneq, afit⟩ := A
  simp only at hnle hneq
  subst hnle hneq
  simp only at klt kle keq knle kneq
  cbv
theorem eq_Load (h0 : evl (envV A) (.call 99 [.rp true [.s (.int .i64 last)]] []) = some (.ret (.s (.int .i64 last)) [])) :
    evl (envV A) (.call 81 [.rp true [.s (.int .i64 last)]] []) = some (.ret (.s (.int .i64 last)) []) := by
  rw [evl_fn (envV A) 81 _ _ (fn := Try.f81) (c := bd81) (lv := lvF81) rfl rfl rfl rfl rfl rfl]
  have hnle := hA.nleE; have hneq := hA.neqE
  have klt := hA.lt; have kle := hA.le; have keq := hA.eq; have knle := hA.nle; have kneq := hA.neq
  generalize lpOf (envV A) 81 bd81 = LP
  generalize evl (envV A) = E at h0 ⊢
  obtain ⟨aadd, asub, amul, arem, aquo, awr, ashr, aeq, alt, ale, aseq, aslt, acat, acut, asiz, aat, anle, aneq, afit⟩ := A
  simp only at hnle hneq
  subst hnle hneq
  simp only at klt kle keq knle kneq
  try simp only at h0
  cbv
  rewrite [h0]
  cbv
theorem eq_Store (h0 : evl (envV A) (.call 98 [.ptr 0 3, .s (.int .i64 d)] [arO ss fs room last]) = some (.ret (.tup []) [arO ss fs room d])) :
    evl (envV A) (.call 80 [.ptr 0 3, .s (.int .i64 d)] [arO ss fs room last]) = some (.ret (.tup []) [arO ss fs room d]) := by
  unfold arO at h0 ⊢
  rw [evl_fn (envV A) 80 _ _ (fn := Try.f80) (c := bd80) (lv := lvF80) rfl rfl rfl rfl rfl rfl]
  have hnle := hA.nleE; have hneq := hA.neqE
  have klt := hA.lt; have kle := hA.le; have keq := hA.eq; have knle := hA.nle; have kneq := hA.neq
  generalize lpOf (envV A) 80 bd80 = LP
  generalize evl (envV A) = E at h0 ⊢
  obtain ⟨aadd, asub, amul, arem, aquo, awr, ashr, aeq, alt, ale, aseq, aslt, acat, acut, asiz, aat, anle, aneq, afit⟩ := A
  simp only at hnle hneq
  subst hnle hneq
  simp only at klt kle keq knle kneq
  try simp only at h0
  cbv
  rewrite [h0]
  cbv
theorem eq_Next (h0 : evl (envV A) (.call 81 [.rp true [.s (.int .i64 last)]] []) = some (.ret (.s (.int .i64 last)) [])) (h1 : A.add .i64 last 1 = d) :
    evl (envV A) (.call 42 [arV ss fs room last] []) = some (.ret (.s (.int .i64 d)) []) := by
  unfold arV
  rw [evl_fn (envV A) 42 _ _ (fn := Try.f42) (c := bd42) (lv := lvF42) rfl rfl rfl rfl rfl rfl]
  have hnle := hA.nleE; have hneq := hA.neqE
  have klt := hA.lt; have kle := hA.le; have keq := hA.eq; have knle := hA.nle; have kneq := hA.neq
  generalize lpOf (envV A) 42 bd42 = LP
  generalize evl (envV A) = E at h0 h1 ⊢
  obtain ⟨aadd, asub, amul, arem, aquo, awr, ashr, aeq, alt, ale, aseq, aslt, acat, acut, asiz, aat, anle, aneq, afit⟩ := A
  simp only at hnle hneq
  subst hnle hneq
  simp only at klt kle keq knle kneq
  try simp only at h0 h1
  cbv
  rewrite [h0]
  cbv
  rewrite [h1]
  cbv
theorem eq_Clone (e0 : ss.length = n) (e1 : fs.length = m) (e2 : 0 + n = n) (e3 : 0 + m = m) (e4 : lcut ss 0 n = ss) (e5 : lcut fs 0 m = fs) (e6 : Nat.ble n n = true) (e7 : Nat.ble m m = true) (h1 : A.fit n 16 = true) (h2 : A.fit m 8 = true)
    (h0 : evl (envV A) (.call 81 [.rp true [.s (.int .i64 last)]] []) = some (.ret (.s (.int .i64 last)) []))
    (h3 : evl (envV A) (.call 80 [.ptr 0 3, .s (.int .i64 last)] [arO ss fs room 0]) = some (.ret (.tup []) [arO ss fs room last])) :
    evl (envV A) (.call 40 [.ptr 0 0] [arO ss fs room last]) = some (.ret (.ptr 1 0) [arO ss fs room last, arO ss fs room last]) := by
  unfold arO at h3 ⊢
  rw [evl_fn (envV A) 40 _ _ (fn := Try.f40) (c := bd40) (lv := lvF40) rfl rfl rfl rfl rfl rfl]
  have hnle := hA.nleE; have hneq := hA.neqE
  have klt := hA.lt; have kle := hA.le; have keq := hA.eq; have knle := hA.nle; have kneq := hA.neq
  generalize lpOf (envV A) 40 bd40 = LP
  generalize evl (envV A) = E at e0 e1 e2 e3 e4 e5 e6 e7 h0 h1 h2 h3 ⊢
  obtain ⟨aadd, asub, amul, arem, aquo, awr, ashr, aeq, alt, ale, aseq, aslt, acat, acut, asiz, aat, anle, aneq, afit⟩ := A
  simp only at hnle hneq
  subst hnle hneq
  simp only at klt kle keq knle kneq
  try simp only at h0 h1 h2 h3
  conv at e0 => lhs; cbv
  conv at e1 => lhs; cbv
  conv at e2 => lhs; cbv
  conv at e3 => lhs; cbv
  conv at e4 => lhs; cbv
  conv at e5 => lhs; cbv
  conv at e6 => lhs; cbv
  conv at e7 => lhs; cbv
  cbv
  rewrite [e0]
  cbv
  rewrite [e2]
  cbv
  rewrite [e4]
  cbv
  rewrite [e6]
  cbv
  rewrite [e0]
  cbv
  rewrite [e2]
  cbv
  rewrite [h1]
  cbv
  rewrite [e1]
  cbv
  rewrite [e3]
  cbv
  rewrite [e5]
  cbv
  rewrite [e7]
  cbv
  rewrite [e1]
  cbv
  rewrite [e3]
  cbv
  rewrite [h2]
  cbv
  rewrite [h0]
  cbv
  rewrite [h3]
  cbv
end
end ArInt
end Go.Va
