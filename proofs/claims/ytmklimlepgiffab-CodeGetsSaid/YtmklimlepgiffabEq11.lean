/- The functions that the statement reaches, by equations: no statement of its own. -/
import Derived.Test.YtmklimlepgiffabEq10
set_option linter.unusedVariables false
set_option linter.unusedSimpArgs false
namespace Go.Va
open Go.Proofs
set_option maxRecDepth 100000
set_option maxHeartbeats 4000000
section
variable (A : Ar)
theorem eq_CodeGets_large (xs : List AV) (n : Nat) (e0 : xs.length = n) (h0 : evl (envV A) (.call 15 [] []) = some (.ret (.s (.bool true)) [])) (h1 : A.lt 3000 (.ofNat n) = true) :
    evl (envV A) (.call 3 [.sl 1 xs .imm] []) = some (.ret (.s (.bool true)) []) := by
  rw [evl_fn (envV A) 3 _ _ (fn := Try.f3) (c := bd3) (lv := lvF3) rfl rfl rfl rfl rfl rfl]
  generalize lpOf (envV A) 3 bd3 = LP
  generalize evl (envV A) = E at e0 h0 h1 ⊢
  obtain ⟨aadd, asub, amul, arem, aquo, awr, ashr, aeq, alt, ale, aseq, aslt, acat, acut, asiz, aat, anle, aneq, afit⟩ := A
  try simp only at h0 h1
  conv at e0 => lhs; cbv
  cbv
  rewrite [h0]
  cbv
  rewrite [e0]
  cbv
  rewrite [h1]
  cbv
theorem eq_CodeGets_ok (xs os : List AV) (n k : Nat) (e0 : xs.length = n) (h0 : evl (envV A) (.call 15 [] []) = some (.ret (.s (.bool true)) [])) (h1 : A.lt 3000 (.ofNat n) = false)
    (h2 : evl (envV A) (.call 16 [.sl 1 xs .imm] []) = some (.ret (.tup [.sl 3 os .full, .s .nilIface]) []))
    (h3 : evl (envV A) (.call 17 [.sl 1 xs .imm] []) = some (.ret (.tup [.sl 3 os .full, .s (.int .i64 0)]) []))
    (h4 : evl (envV A) (.call 18 [.s .nilIface] []) = some (.ret (.s (.int .i64 0)) [])) (h5 : A.eq 0 0 = true) (e1 : os.length = k) (e2 : lcut os 0 k = os) (h7 : A.nle k k = true) (e3 : 0 + k = k)
    (h6 : evl (envV A) (.call 19 [.sl 3 os .ro, .sl 3 os .ro] []) = some (.ret (.s (.bool true)) [])) :
    evl (envV A) (.call 3 [.sl 1 xs .imm] []) = some (.ret (.s (.bool true)) []) := by
  rw [evl_fn (envV A) 3 _ _ (fn := Try.f3) (c := bd3) (lv := lvF3) rfl rfl rfl rfl rfl rfl]
  generalize lpOf (envV A) 3 bd3 = LP
  generalize evl (envV A) = E at e0 h0 h1 h2 h3 h4 h5 h6 e1 e2 h7 e3 ⊢
  obtain ⟨aadd, asub, amul, arem, aquo, awr, ashr, aeq, alt, ale, aseq, aslt, acat, acut, asiz, aat, anle, aneq, afit⟩ := A
  try simp only at h0 h1 h2 h3 h4 h5 h6 h7
  conv at e0 => lhs; cbv
  conv at e1 => lhs; cbv
  conv at e2 => lhs; cbv
  conv at e3 => lhs; cbv
  cbv
  rewrite [h0]
  cbv
  rewrite [e0]
  cbv
  rewrite [h1]
  cbv
  rewrite [h2]
  cbv
  rewrite [h3]
  cbv
  rewrite [h4]
  cbv
  rewrite [h5]
  cbv
  rewrite [e1]
  cbv
  rewrite [e2]
  cbv
  rewrite [e3]
  cbv
  rewrite [h7]
  cbv
  rewrite [h6]
  cbv
theorem eq_CodeGets_no (xs : List AV) (n : Nat) (e : Int) (e0 : xs.length = n) (h0 : evl (envV A) (.call 15 [] []) = some (.ret (.s (.bool true)) [])) (h1 : A.lt 3000 (.ofNat n) = false)
    (h2 : evl (envV A) (.call 16 [.sl 1 xs .imm] []) = some (.ret (.tup [.sl 3 [] .full, .s (.iface 39 (.int .i64 e))]) []))
    (h3 : evl (envV A) (.call 17 [.sl 1 xs .imm] []) = some (.ret (.tup [.sl 3 [] .full, .s (.int .i64 e)]) []))
    (h4 : evl (envV A) (.call 18 [.s (.iface 39 (.int .i64 e))] []) = some (.ret (.s (.int .i64 e)) [])) (h5 : A.eq e e = true) (h7 : A.nle 0 0 = true)
    (h6 : evl (envV A) (.call 19 [.sl 3 [] .ro, .sl 3 [] .ro] []) = some (.ret (.s (.bool true)) [])) :
    evl (envV A) (.call 3 [.sl 1 xs .imm] []) = some (.ret (.s (.bool true)) []) := by
  rw [evl_fn (envV A) 3 _ _ (fn := Try.f3) (c := bd3) (lv := lvF3) rfl rfl rfl rfl rfl rfl]
  generalize lpOf (envV A) 3 bd3 = LP
  generalize evl (envV A) = E at e0 h0 h1 h2 h3 h4 h5 h6 h7 ⊢
  obtain ⟨aadd, asub, amul, arem, aquo, awr, ashr, aeq, alt, ale, aseq, aslt, acat, acut, asiz, aat, anle, aneq, afit⟩ := A
  try simp only at h0 h1 h2 h3 h4 h5 h6 h7
  conv at e0 => lhs; cbv
  cbv
  rewrite [h0]
  cbv
  rewrite [e0]
  cbv
  rewrite [h1]
  cbv
  rewrite [h2]
  cbv
  rewrite [h3]
  cbv
  rewrite [h4]
  cbv
  rewrite [h5]
  cbv
  rewrite [h7]
  cbv
  rewrite [h6]
  cbv
end
theorem getR_err : ∀ (f : Nat) (is : List InsT) (bs : List UInt8) (e : Int), getR f is bs = .error e → e = 7 ∨ e = 13
  | f, is, [], e, h => by cases f <;> cases h
  | 0, is, b :: l, e, h => by cases h; exact .inl rfl
  | f + 1, is, b :: l, e, h => by
    unfold getR at h
    split at h
    · cases h; exact .inl rfl
    · split at h
      · cases h; exact .inr rfl
      · exact getR_err f _ _ e h
theorem getR_len : ∀ (f : Nat) (is : List InsT) (bs : List UInt8) (js : List InsT), is.length ≤ 120 → getR f is bs = .ok js → js.length ≤ 120
  | f, is, [], js, hi, h => by cases f <;> (cases h; exact hi)
  | 0, is, b :: l, js, hi, h => by cases h
  | f + 1, is, b :: l, js, hi, h => by
    unfold getR at h
    split at h
    · cases h
    · split at h
      · cases h
      · exact getR_len f _ _ js (by simp; omega) h
theorem codeGets_law (bs : List UInt8) : evl (envV realAr) (.call 3 [.sl 1 (bl bs) .imm] []) = some (.ret (.s (.bool true)) []) := by
  by_cases h : 3000 < bs.length
  · exact eq_CodeGets_large realAr _ bs.length (bl_len bs) s_law12_up (by simp [realAr_lt]; omega)
  · have h1 : realAr.lt 3000 (.ofNat bs.length) = false := by simp [realAr_lt]; omega
    have h2 := s_code_Get bs (by omega)
    have h3 := s_ref11_Get bs (by omega)
    cases hr : getR bs.length [] bs with
    | ok is =>
      rw [hr] at h2 h3
      have hl := getR_len _ _ _ _ (by simp) hr
      exact eq_CodeGets_ok realAr _ _ bs.length is.length (bl_len bs) s_law12_up h1 h2 h3 s_law00_Code0 (eq_refl' _) (by simp) (by simp [lcut, List.take_of_length_le]) (by simp [realAr_ok.nle]) (Nat.zero_add _) (s_ref11_Same is .ro .ro (.inl rfl) (.inl rfl) (by omega))
    | error e =>
      rw [hr] at h2 h3
      refine eq_CodeGets_no realAr _ bs.length e (bl_len bs) s_law12_up h1 h2 h3 (s_law00_Code e ?_) (eq_refl' _) rfl (s_ref11_Same [] .ro .ro (.inl rfl) (.inl rfl) (by simp))
      rcases getR_err _ _ _ _ hr with rfl | rfl <;> simp
end Go.Va
