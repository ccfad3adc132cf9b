/- The functions that the statement reaches, by equations: no statement of its own. -/
import Derived.Test.YtmklimlepgiffabEq9
set_option linter.unusedVariables false
set_option linter.unusedSimpArgs false
set_option linter.unusedSectionVars false
namespace Go.Va
open Go.Proofs
set_option maxRecDepth 100000
set_option maxHeartbeats 4000000
def stG (xs : List AV) (i : Nat) : St := { n := 33, k := 0, fr := [(0, .sl 3 xs .imm), (3, .s (.int .i64 (.ofNat i)))], O := [] }
def stGe (xs : List AV) (i : Nat) : St := { n := 33, k := 0, fr := [(0, .sl 3 xs .imm), (3, .s (.int .i64 (.ofNat i))), (11, .s (.bool false))], O := [] }
def stG0 : St := { n := 33, k := 0, fr := [(2, .s (.int .i64 0))], O := [] }
section
variable (A : Ar) (xs : List AV) (n i za zb : Nat) (o : Bool) (a b : ByteArray)
theorem lp_few3_on {r : Option Res} (e0 : lget xs i = some (.agg [.s (.string a), .s (.string b), .s (.bool o)])) (e1 : xs.length = n) (h1 : A.siz a = za) (h2 : A.siz b = zb) (h3 : A.nle (Nat.succ i) n = true)
    (h4 : A.lt (.ofNat i) (.ofNat n) = true) (h5 : A.lt (.ofNat i) 20 = true) (h6 : A.lt 100 (.ofNat za) = false) (h7 : A.lt 100 (.ofNat zb) = false) (h8 : A.add .i64 (.ofNat i) 1 = .ofNat (Nat.succ i))
    (h9 : lpOf (envV A) 65 bd65 2 (stG xs (Nat.succ i)) = r) : lpOf (envV A) 65 bd65 2 (stG xs i) = r := by
  unfold stG at h9 ⊢
  rw [lp_step (envV A) 65 (c0 := bd65) (lv := lvF65) rfl rfl]
  rw [lp_split (lpOf (envV A) 65 bd65) 2]
  generalize lpOf (envV A) 65 bd65 2 = L2 at e0 e1 h1 h2 h3 h4 h5 h6 h7 h8 h9 ⊢
  generalize lpOf (envV A) 65 bd65 = LP
  generalize evl (envV A) = E at e0 e1 h1 h2 h3 h4 h5 h6 h7 h8 h9 ⊢
  obtain ⟨aadd, asub, amul, arem, aquo, awr, ashr, aeq, alt, ale, aseq, aslt, acat, acut, asiz, aat, anle, aneq, afit⟩ := A
  try simp only at h1 h2 h3 h4 h5 h6 h7 h8 h9
  conv at e0 => lhs; cbv
  conv at e1 => lhs; cbv
  cbv
  rewrite [e1]
  cbv
  rewrite [h4]
  cbv
  rewrite [h5]
  cbv
  rewrite [e0]
  cbv
  rewrite [h1]
  cbv
  rewrite [h6]
  cbv
  rewrite [e0]
  cbv
  rewrite [h2]
  cbv
  rewrite [h7]
  cbv
  rewrite [h8]
  cbv
  rewrite [h9]
  cbv
theorem lp_few3_a (e0 : lget xs i = some (.agg [.s (.string a), .s (.string b), .s (.bool o)])) (e1 : xs.length = n) (h1 : A.siz a = za) (h3 : A.nle (Nat.succ i) n = true)
    (h4 : A.lt (.ofNat i) (.ofNat n) = true) (h5 : A.lt (.ofNat i) 20 = true) (h6 : A.lt 100 (.ofNat za) = true) : lpOf (envV A) 65 bd65 2 (stG xs i) = some (.code .ret stG0) := by
  unfold stG stG0
  rw [lp_step (envV A) 65 (c0 := bd65) (lv := lvF65) rfl rfl]
  generalize lpOf (envV A) 65 bd65 = LP
  generalize evl (envV A) = E at e0 e1 h1 h3 h4 h5 h6 ⊢
  obtain ⟨aadd, asub, amul, arem, aquo, awr, ashr, aeq, alt, ale, aseq, aslt, acat, acut, asiz, aat, anle, aneq, afit⟩ := A
  try simp only at h1 h3 h4 h5 h6
  conv at e0 => lhs; cbv
  conv at e1 => lhs; cbv
  cbv
  rewrite [e1]
  cbv
  rewrite [h4]
  cbv
  rewrite [h5]
  cbv
  rewrite [e0]
  cbv
  rewrite [h1]
  cbv
  rewrite [h6]
  cbv
theorem lp_few3_b (e0 : lget xs i = some (.agg [.s (.string a), .s (.string b), .s (.bool o)])) (e1 : xs.length = n) (h1 : A.siz a = za) (h2 : A.siz b = zb) (h3 : A.nle (Nat.succ i) n = true)
    (h4 : A.lt (.ofNat i) (.ofNat n) = true) (h5 : A.lt (.ofNat i) 20 = true) (h6 : A.lt 100 (.ofNat za) = false) (h7 : A.lt 100 (.ofNat zb) = true) : lpOf (envV A) 65 bd65 2 (stG xs i) = some (.code .ret stG0) := by
  unfold stG stG0
  rw [lp_step (envV A) 65 (c0 := bd65) (lv := lvF65) rfl rfl]
  generalize lpOf (envV A) 65 bd65 = LP
  generalize evl (envV A) = E at e0 e1 h1 h2 h3 h4 h5 h6 h7 ⊢
  obtain ⟨aadd, asub, amul, arem, aquo, awr, ashr, aeq, alt, ale, aseq, aslt, acat, acut, asiz, aat, anle, aneq, afit⟩ := A
  try simp only at h1 h2 h3 h4 h5 h6 h7
  conv at e0 => lhs; cbv
  conv at e1 => lhs; cbv
  cbv
  rewrite [e1]
  cbv
  rewrite [h4]
  cbv
  rewrite [h5]
  cbv
  rewrite [e0]
  cbv
  rewrite [h1]
  cbv
  rewrite [h6]
  cbv
  rewrite [e0]
  cbv
  rewrite [h2]
  cbv
  rewrite [h7]
  cbv
theorem lp_few3_end (e1 : xs.length = n) (h4 : A.lt (.ofNat i) (.ofNat n) = false) : lpOf (envV A) 65 bd65 2 (stG xs i) = some (.code (.exit 0) (stGe xs i)) := by
  unfold stG stGe
  rw [lp_step (envV A) 65 (c0 := bd65) (lv := lvF65) rfl rfl]
  generalize lpOf (envV A) 65 bd65 = LP
  generalize evl (envV A) = E at e1 h4 ⊢
  obtain ⟨aadd, asub, amul, arem, aquo, awr, ashr, aeq, alt, ale, aseq, aslt, acat, acut, asiz, aat, anle, aneq, afit⟩ := A
  try simp only at h4
  conv at e1 => lhs; cbv
  cbv
  rewrite [e1]
  cbv
  rewrite [h4]
  cbv
theorem lp_few3_end2 (e1 : xs.length = n) (h4 : A.lt (.ofNat i) (.ofNat n) = true) (h5 : A.lt (.ofNat i) 20 = false) : lpOf (envV A) 65 bd65 2 (stG xs i) = some (.code (.exit 0) (stGe xs i)) := by
  unfold stG stGe
  rw [lp_step (envV A) 65 (c0 := bd65) (lv := lvF65) rfl rfl]
  generalize lpOf (envV A) 65 bd65 = LP
  generalize evl (envV A) = E at e1 h4 h5 ⊢
  obtain ⟨aadd, asub, amul, arem, aquo, awr, ashr, aeq, alt, ale, aseq, aslt, acat, acut, asiz, aat, anle, aneq, afit⟩ := A
  try simp only at h4 h5
  conv at e1 => lhs; cbv
  cbv
  rewrite [e1]
  cbv
  rewrite [h4]
  cbv
  rewrite [h5]
  cbv
theorem eq_few3 (e1 : xs.length = n) (h1 : lpOf (envV A) 65 bd65 2 (stG xs 0) = some (.code (.exit 0) (stGe xs i))) :
    evl (envV A) (.call 65 [.sl 3 xs .imm] []) = some (.ret (.s (.int .i64 (bif A.lt 20 (.ofNat n) then 0 else 1))) []) := by
  unfold stG stGe at h1
  simp only [show Int.ofNat 0 = 0 from rfl] at h1
  rw [evl_fn (envV A) 65 _ _ (fn := Try.f65) (c := bd65) (lv := lvF65) rfl rfl rfl rfl rfl rfl]
  rw [lp_split (lpOf (envV A) 65 bd65) 2]
  generalize lpOf (envV A) 65 bd65 2 = L2 at e1 h1 ⊢
  generalize lpOf (envV A) 65 bd65 = LP
  generalize evl (envV A) = E at e1 h1 ⊢
  obtain ⟨aadd, asub, amul, arem, aquo, awr, ashr, aeq, alt, ale, aseq, aslt, acat, acut, asiz, aat, anle, aneq, afit⟩ := A
  try simp only at h1
  conv at e1 => lhs; cbv
  cbv
  rewrite [h1]
  cbv
  rewrite [e1]
  cbv
  cases c1 : alt 20 (Int.ofNat n)
  · cbv
  · cbv
theorem eq_few30 (h1 : lpOf (envV A) 65 bd65 2 (stG xs 0) = some (.code .ret stG0)) :
    evl (envV A) (.call 65 [.sl 3 xs .imm] []) = some (.ret (.s (.int .i64 0)) []) := by
  unfold stG stG0 at h1
  simp only [show Int.ofNat 0 = 0 from rfl] at h1
  rw [evl_fn (envV A) 65 _ _ (fn := Try.f65) (c := bd65) (lv := lvF65) rfl rfl rfl rfl rfl rfl]
  rw [lp_split (lpOf (envV A) 65 bd65) 2]
  generalize lpOf (envV A) 65 bd65 2 = L2 at h1 ⊢
  generalize lpOf (envV A) 65 bd65 = LP
  generalize evl (envV A) = E at h1 ⊢
  obtain ⟨aadd, asub, amul, arem, aquo, awr, ashr, aeq, alt, ale, aseq, aslt, acat, acut, asiz, aat, anle, aneq, afit⟩ := A
  try simp only at h1
  cbv
  rewrite [h1]
  cbv
end
def few3 (is : List AttrT) : Prop := ∀ i ∈ is, i.1.size ≤ 100 ∧ i.2.1.size ≤ 100
theorem lt_fn3 (i : Nat) (k : Int) : realAr.lt (.ofNat i) k = decide ((i : Int) < k) := rfl
theorem lp_few3 (is : List AttrT) : ∀ (m i : Nat), m + i = is.length → (∀ j ∈ is.take i, j.1.size ≤ 100 ∧ j.2.1.size ≤ 100) → i ≤ 20 →
    lpOf (envV realAr) 65 bd65 2 (stG (is.map attrA) i) = some (.code .ret stG0) ∨ (∃ k, lpOf (envV realAr) 65 bd65 2 (stG (is.map attrA) i) = some (.code (.exit 0) (stGe (is.map attrA) k))) ∧ (is.length ≤ 20 → few3 is)
  | 0, i, h, hs, h5 => by
    right
    refine ⟨⟨i, lp_few3_end realAr _ is.length i (by simp) (by simp [realAr_lt'] <;> omega)⟩, fun _ => ?_⟩
    rw [List.take_of_length_le (by omega)] at hs
    exact hs
  | m + 1, i, h, hs, h5 => by
    have hi : i < is.length := by omega
    have hg : lget (is.map attrA) i = some (attrA is[i]) := by rw [lget_get]; simp [hi]
    have h3 : realAr.nle (Nat.succ i) is.length = true := by rw [realAr_ok.nle]; exact decide_eq_true hi
    have h4 : realAr.lt (.ofNat i) (.ofNat is.length) = true := by simp [realAr_lt'] <;> omega
    by_cases h20 : i < 20
    · have h6 : realAr.lt (.ofNat i) 20 = true := by rw [lt_fn3]; simp; omega
      by_cases ha : is[i].1.size ≤ 100
      · by_cases hb : is[i].2.1.size ≤ 100
        · have hnext := lp_few3 is m (i + 1) (by omega) (by
            intro j hj
            rw [List.take_succ_eq_append_getElem hi, List.mem_append] at hj
            rcases hj with hj | hj
            · exact hs j hj
            · simp at hj; subst hj; exact ⟨ha, hb⟩) (by omega)
          have e := fun r => lp_few3_on realAr (is.map attrA) is.length i is[i].1.size is[i].2.1.size is[i].2.2 is[i].1 is[i].2.1 (r := r) hg (by simp) rfl rfl h3 h4 h6 (by simp [realAr_lt'] <;> omega) (by simp [realAr_lt'] <;> omega)
            (by rw [realAr_ok.add]; exact wrap_nat (n := i + 1) (by omega))
          rcases hnext with q | ⟨⟨k, q⟩, q2⟩
          · exact .inl (e _ q)
          · exact .inr ⟨⟨k, e _ q⟩, q2⟩
        · left
          exact lp_few3_b realAr (is.map attrA) is.length i is[i].1.size is[i].2.1.size is[i].2.2 is[i].1 is[i].2.1 hg (by simp) rfl rfl h3 h4 h6 (by simp [realAr_lt'] <;> omega) (by simp [realAr_lt'] <;> omega)
      · left
        exact lp_few3_a realAr (is.map attrA) is.length i is[i].1.size is[i].2.2 is[i].1 is[i].2.1 hg (by simp) rfl h3 h4 h6 (by simp [realAr_lt'] <;> omega)
    · right
      refine ⟨⟨i, lp_few3_end2 realAr _ is.length i (by simp) h4 (by rw [lt_fn3]; simp; omega)⟩, fun q => by omega⟩
/-- whether instructions are few, and short -/
theorem s_few3 (is : List AttrT) :
    evl (envV realAr) (.call 65 [.sl 3 (is.map attrA) .imm] []) = some (.ret (.s (.int .i64 0)) []) ∨ evl (envV realAr) (.call 65 [.sl 3 (is.map attrA) .imm] []) = some (.ret (.s (.int .i64 1)) []) ∧ few3 is ∧ is.length ≤ 20 := by
  rcases lp_few3 is is.length 0 (by omega) (by simp) (by omega) with h | ⟨⟨k, h⟩, h2⟩
  · exact .inl (eq_few30 realAr _ h)
  · have := eq_few3 realAr _ is.length k (by simp) h
    by_cases q : 20 < is.length
    · left
      rw [this, show realAr.lt 20 (.ofNat is.length) = true by simp [realAr_lt']; omega]
      rfl
    · right
      rw [this, show realAr.lt 20 (.ofNat is.length) = false by simp [realAr_lt']; omega]
      exact ⟨rfl, h2 (by omega), by omega⟩
end Go.Va
