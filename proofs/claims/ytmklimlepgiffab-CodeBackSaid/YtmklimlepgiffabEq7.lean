/- The functions that the statement reaches, by equations: no statement of its own. -/
import Derived.Test.YtmklimlepgiffabEq6
set_option linter.unusedVariables false
set_option linter.unusedSimpArgs false
set_option linter.unusedSectionVars false
namespace Go.Va
open Go.Proofs
set_option maxRecDepth 100000
set_option maxHeartbeats 4000000
def stS (xs ys : List AV) (p q : Perm) (i : Nat) : St := { n := 26, k := 0, fr := [(0, .sl 3 xs p), (1, .sl 3 ys q), (5, .s (.int .i64 (.ofNat i)))], O := [] }
def stSe (xs ys : List AV) (p q : Perm) (i : Nat) : St := { n := 26, k := 0, fr := [(0, .sl 3 xs p), (1, .sl 3 ys q), (5, .s (.int .i64 (.ofNat i))), (14, .s (.bool false))], O := [] }
theorem lp_ref11_Same_on (A : Ar) (xs ys : List AV) (p q : Perm) (hp : p = .ro ∨ p = .imm) (hq : q = .ro ∨ q = .imm) (o : Int) (a b : ByteArray) (n i : Nat) {r : Option Res} (e0 : xs.length = n) (e1 : ys.length = n) (e2 : lget xs i = some (.agg [.s (.int .i64 o), .s (.string a), .s (.string b)])) (e3 : lget ys i = some (.agg [.s (.int .i64 o), .s (.string a), .s (.string b)]))
    (h1 : A.eq o o = true) (h2 : A.seq a a = true) (h3 : A.seq b b = true) (h4 : A.lt (.ofNat i) (.ofNat n) = true) (h5 : A.add .i64 (.ofNat i) 1 = .ofNat (Nat.succ i))
    (h6 : lpOf (envV A) 19 bd19 4 (stS xs ys p q (Nat.succ i)) = r) : lpOf (envV A) 19 bd19 4 (stS xs ys p q i) = r := by
  unfold stS at h6 ⊢
  rcases hp with rfl | rfl <;> rcases hq with rfl | rfl
  ·
    rw [lp_step (envV A) 19 (c0 := bd19) (lv := lvF19) rfl rfl]
    rw [lp_split (lpOf (envV A) 19 bd19) 4]
    generalize lpOf (envV A) 19 bd19 4 = L4 at e0 e1 e2 e3 h1 h2 h3 h4 h5 h6 ⊢
    generalize lpOf (envV A) 19 bd19 = LP
    generalize evl (envV A) = E at e0 e1 e2 e3 h1 h2 h3 h4 h5 h6 ⊢
    obtain ⟨aadd, asub, amul, arem, aquo, awr, ashr, aeq, alt, ale, aseq, aslt, acat, acut, asiz, aat, anle, aneq, afit⟩ := A
    try simp only at h1 h2 h3 h4 h5 h6
    conv at e0 => lhs; cbv
    conv at e1 => lhs; cbv
    conv at e2 => lhs; cbv
    conv at e3 => lhs; cbv
    cbv
    rewrite [e0]
    cbv
    rewrite [h4]
    cbv
    rewrite [e2]
    cbv
    rewrite [e3]
    cbv
    rewrite [h1]
    cbv
    rewrite [h2]
    cbv
    rewrite [h3]
    cbv
    rewrite [h5]
    cbv
    rewrite [h6]
    cbv
  ·
    rw [lp_step (envV A) 19 (c0 := bd19) (lv := lvF19) rfl rfl]
    rw [lp_split (lpOf (envV A) 19 bd19) 4]
    generalize lpOf (envV A) 19 bd19 4 = L4 at e0 e1 e2 e3 h1 h2 h3 h4 h5 h6 ⊢
    generalize lpOf (envV A) 19 bd19 = LP
    generalize evl (envV A) = E at e0 e1 e2 e3 h1 h2 h3 h4 h5 h6 ⊢
    obtain ⟨aadd, asub, amul, arem, aquo, awr, ashr, aeq, alt, ale, aseq, aslt, acat, acut, asiz, aat, anle, aneq, afit⟩ := A
    try simp only at h1 h2 h3 h4 h5 h6
    conv at e0 => lhs; cbv
    conv at e1 => lhs; cbv
    conv at e2 => lhs; cbv
    conv at e3 => lhs; cbv
    cbv
    rewrite [e0]
    cbv
    rewrite [h4]
    cbv
    rewrite [e2]
    cbv
    rewrite [e3]
    cbv
    rewrite [h1]
    cbv
    rewrite [h2]
    cbv
    rewrite [h3]
    cbv
    rewrite [h5]
    cbv
    rewrite [h6]
    cbv
  ·
    rw [lp_step (envV A) 19 (c0 := bd19) (lv := lvF19) rfl rfl]
    rw [lp_split (lpOf (envV A) 19 bd19) 4]
    generalize lpOf (envV A) 19 bd19 4 = L4 at e0 e1 e2 e3 h1 h2 h3 h4 h5 h6 ⊢
    generalize lpOf (envV A) 19 bd19 = LP
    generalize evl (envV A) = E at e0 e1 e2 e3 h1 h2 h3 h4 h5 h6 ⊢
    obtain ⟨aadd, asub, amul, arem, aquo, awr, ashr, aeq, alt, ale, aseq, aslt, acat, acut, asiz, aat, anle, aneq, afit⟩ := A
    try simp only at h1 h2 h3 h4 h5 h6
    conv at e0 => lhs; cbv
    conv at e1 => lhs; cbv
    conv at e2 => lhs; cbv
    conv at e3 => lhs; cbv
    cbv
    rewrite [e0]
    cbv
    rewrite [h4]
    cbv
    rewrite [e2]
    cbv
    rewrite [e3]
    cbv
    rewrite [h1]
    cbv
    rewrite [h2]
    cbv
    rewrite [h3]
    cbv
    rewrite [h5]
    cbv
    rewrite [h6]
    cbv
  ·
    rw [lp_step (envV A) 19 (c0 := bd19) (lv := lvF19) rfl rfl]
    rw [lp_split (lpOf (envV A) 19 bd19) 4]
    generalize lpOf (envV A) 19 bd19 4 = L4 at e0 e1 e2 e3 h1 h2 h3 h4 h5 h6 ⊢
    generalize lpOf (envV A) 19 bd19 = LP
    generalize evl (envV A) = E at e0 e1 e2 e3 h1 h2 h3 h4 h5 h6 ⊢
    obtain ⟨aadd, asub, amul, arem, aquo, awr, ashr, aeq, alt, ale, aseq, aslt, acat, acut, asiz, aat, anle, aneq, afit⟩ := A
    try simp only at h1 h2 h3 h4 h5 h6
    conv at e0 => lhs; cbv
    conv at e1 => lhs; cbv
    conv at e2 => lhs; cbv
    conv at e3 => lhs; cbv
    cbv
    rewrite [e0]
    cbv
    rewrite [h4]
    cbv
    rewrite [e2]
    cbv
    rewrite [e3]
    cbv
    rewrite [h1]
    cbv
    rewrite [h2]
    cbv
    rewrite [h3]
    cbv
    rewrite [h5]
    cbv
    rewrite [h6]
    cbv
theorem lp_ref11_Same_end (A : Ar) (xs ys : List AV) (p q : Perm) (hp : p = .ro ∨ p = .imm) (hq : q = .ro ∨ q = .imm) (n : Nat) (e0 : xs.length = n) (h4 : A.lt (.ofNat n) (.ofNat n) = false) :
    lpOf (envV A) 19 bd19 4 (stS xs ys p q n) = some (.code (.exit 0) (stSe xs ys p q n)) := by
  unfold stS stSe
  rcases hp with rfl | rfl <;> rcases hq with rfl | rfl
  ·
    rw [lp_step (envV A) 19 (c0 := bd19) (lv := lvF19) rfl rfl]
    generalize lpOf (envV A) 19 bd19 = LP
    generalize evl (envV A) = E at e0 h4 ⊢
    obtain ⟨aadd, asub, amul, arem, aquo, awr, ashr, aeq, alt, ale, aseq, aslt, acat, acut, asiz, aat, anle, aneq, afit⟩ := A
    try simp only at h4
    conv at e0 => lhs; cbv
    cbv
    rewrite [e0]
    cbv
    rewrite [h4]
    cbv
  ·
    rw [lp_step (envV A) 19 (c0 := bd19) (lv := lvF19) rfl rfl]
    generalize lpOf (envV A) 19 bd19 = LP
    generalize evl (envV A) = E at e0 h4 ⊢
    obtain ⟨aadd, asub, amul, arem, aquo, awr, ashr, aeq, alt, ale, aseq, aslt, acat, acut, asiz, aat, anle, aneq, afit⟩ := A
    try simp only at h4
    conv at e0 => lhs; cbv
    cbv
    rewrite [e0]
    cbv
    rewrite [h4]
    cbv
  ·
    rw [lp_step (envV A) 19 (c0 := bd19) (lv := lvF19) rfl rfl]
    generalize lpOf (envV A) 19 bd19 = LP
    generalize evl (envV A) = E at e0 h4 ⊢
    obtain ⟨aadd, asub, amul, arem, aquo, awr, ashr, aeq, alt, ale, aseq, aslt, acat, acut, asiz, aat, anle, aneq, afit⟩ := A
    try simp only at h4
    conv at e0 => lhs; cbv
    cbv
    rewrite [e0]
    cbv
    rewrite [h4]
    cbv
  ·
    rw [lp_step (envV A) 19 (c0 := bd19) (lv := lvF19) rfl rfl]
    generalize lpOf (envV A) 19 bd19 = LP
    generalize evl (envV A) = E at e0 h4 ⊢
    obtain ⟨aadd, asub, amul, arem, aquo, awr, ashr, aeq, alt, ale, aseq, aslt, acat, acut, asiz, aat, anle, aneq, afit⟩ := A
    try simp only at h4
    conv at e0 => lhs; cbv
    cbv
    rewrite [e0]
    cbv
    rewrite [h4]
    cbv
theorem eq_ref11_Same (A : Ar) (xs ys : List AV) (p q : Perm) (hp : p = .ro ∨ p = .imm) (hq : q = .ro ∨ q = .imm) (n : Nat) (e0 : xs.length = n) (e1 : ys.length = n) (h1 : A.eq (.ofNat n) (.ofNat n) = true)
    (h2 : lpOf (envV A) 19 bd19 4 (stS xs ys p q 0) = some (.code (.exit 0) (stSe xs ys p q n))) :
    evl (envV A) (.call 19 [.sl 3 xs p, .sl 3 ys q] []) = some (.ret (.s (.bool true)) []) := by
  unfold stS stSe at h2
  simp only [show Int.ofNat 0 = 0 from rfl] at h2
  rcases hp with rfl | rfl <;> rcases hq with rfl | rfl
  ·
    rw [evl_fn (envV A) 19 _ _ (fn := Try.f19) (c := bd19) (lv := lvF19) rfl rfl rfl rfl rfl rfl]
    rw [lp_split (lpOf (envV A) 19 bd19) 4]
    generalize lpOf (envV A) 19 bd19 4 = L4 at e0 e1 h1 h2 ⊢
    generalize lpOf (envV A) 19 bd19 = LP
    generalize evl (envV A) = E at e0 e1 h1 h2 ⊢
    obtain ⟨aadd, asub, amul, arem, aquo, awr, ashr, aeq, alt, ale, aseq, aslt, acat, acut, asiz, aat, anle, aneq, afit⟩ := A
    try simp only at h1 h2
    conv at e0 => lhs; cbv
    conv at e1 => lhs; cbv
    cbv
    rewrite [e0]
    cbv
    rewrite [e1]
    cbv
    rewrite [h1]
    cbv
    rewrite [h2]
    cbv
  ·
    rw [evl_fn (envV A) 19 _ _ (fn := Try.f19) (c := bd19) (lv := lvF19) rfl rfl rfl rfl rfl rfl]
    rw [lp_split (lpOf (envV A) 19 bd19) 4]
    generalize lpOf (envV A) 19 bd19 4 = L4 at e0 e1 h1 h2 ⊢
    generalize lpOf (envV A) 19 bd19 = LP
    generalize evl (envV A) = E at e0 e1 h1 h2 ⊢
    obtain ⟨aadd, asub, amul, arem, aquo, awr, ashr, aeq, alt, ale, aseq, aslt, acat, acut, asiz, aat, anle, aneq, afit⟩ := A
    try simp only at h1 h2
    conv at e0 => lhs; cbv
    conv at e1 => lhs; cbv
    cbv
    rewrite [e0]
    cbv
    rewrite [e1]
    cbv
    rewrite [h1]
    cbv
    rewrite [h2]
    cbv
  ·
    rw [evl_fn (envV A) 19 _ _ (fn := Try.f19) (c := bd19) (lv := lvF19) rfl rfl rfl rfl rfl rfl]
    rw [lp_split (lpOf (envV A) 19 bd19) 4]
    generalize lpOf (envV A) 19 bd19 4 = L4 at e0 e1 h1 h2 ⊢
    generalize lpOf (envV A) 19 bd19 = LP
    generalize evl (envV A) = E at e0 e1 h1 h2 ⊢
    obtain ⟨aadd, asub, amul, arem, aquo, awr, ashr, aeq, alt, ale, aseq, aslt, acat, acut, asiz, aat, anle, aneq, afit⟩ := A
    try simp only at h1 h2
    conv at e0 => lhs; cbv
    conv at e1 => lhs; cbv
    cbv
    rewrite [e0]
    cbv
    rewrite [e1]
    cbv
    rewrite [h1]
    cbv
    rewrite [h2]
    cbv
  ·
    rw [evl_fn (envV A) 19 _ _ (fn := Try.f19) (c := bd19) (lv := lvF19) rfl rfl rfl rfl rfl rfl]
    rw [lp_split (lpOf (envV A) 19 bd19) 4]
    generalize lpOf (envV A) 19 bd19 4 = L4 at e0 e1 h1 h2 ⊢
    generalize lpOf (envV A) 19 bd19 = LP
    generalize evl (envV A) = E at e0 e1 h1 h2 ⊢
    obtain ⟨aadd, asub, amul, arem, aquo, awr, ashr, aeq, alt, ale, aseq, aslt, acat, acut, asiz, aat, anle, aneq, afit⟩ := A
    try simp only at h1 h2
    conv at e0 => lhs; cbv
    conv at e1 => lhs; cbv
    cbv
    rewrite [e0]
    cbv
    rewrite [e1]
    cbv
    rewrite [h1]
    cbv
    rewrite [h2]
    cbv
theorem lp_ref11_Same (is : List InsT) (p q : Perm) (hp : p = .ro ∨ p = .imm) (hq : q = .ro ∨ q = .imm) (hl : is.length ≤ 9223372036854775807) : ∀ (m i : Nat), m + i = is.length →
    lpOf (envV realAr) 19 bd19 4 (stS (is.map insA) (is.map insA) p q i) = some (.code (.exit 0) (stSe (is.map insA) (is.map insA) p q is.length))
  | 0, i, h => by
    rw [show i = is.length by omega]
    exact lp_ref11_Same_end realAr _ _ p q hp hq is.length (by simp) (by simp [realAr_lt])
  | m + 1, i, h => by
    have hi : i < is.length := by omega
    have hg : lget (is.map insA) i = some (insA is[i]) := by rw [lget_get]; simp [hi]
    refine lp_ref11_Same_on realAr _ _ p q hp hq is[i].1 is[i].2.1 is[i].2.2 is.length i (by simp) (by simp) hg hg (eq_refl' _) (seq_refl _) (seq_refl _) (by simp [realAr_lt] <;> omega) ?_ (lp_ref11_Same is p q hp hq hl m (i + 1) (by omega))
    rw [realAr_ok.add]
    exact wrap_nat (n := i + 1) (by omega)
theorem s_ref11_Same (is : List InsT) (p q : Perm) (hp : p = .ro ∨ p = .imm) (hq : q = .ro ∨ q = .imm) (hl : is.length ≤ 9223372036854775807) :
    evl (envV realAr) (.call 19 [.sl 3 (is.map insA) p, .sl 3 (is.map insA) q] []) = some (.ret (.s (.bool true)) []) :=
  eq_ref11_Same realAr _ _ p q hp hq is.length (by simp) (by simp) (eq_refl' _) (lp_ref11_Same is p q hp hq hl is.length 0 (by omega))
end Go.Va
