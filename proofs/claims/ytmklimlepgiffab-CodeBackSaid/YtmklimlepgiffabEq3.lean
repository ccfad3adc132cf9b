/- The functions that the statement reaches, by equations: no statement of its own. -/
import Derived.Test.YtmklimlepgiffabEq2
set_option linter.unusedVariables false
set_option linter.unusedSimpArgs false
set_option linter.unusedSectionVars false
namespace Go.Va
open Go.Proofs
set_option maxRecDepth 100000
set_option maxHeartbeats 4000000
def textsA (A : Ar) (o : Int) : Int := bif A.eq o 4 then 1 else bif A.eq o 1 then 2 else bif A.eq o 3 then 2 else bif A.eq o 5 then 2 else bif A.eq o 6 then 2 else 0
theorem eq_code_texts (A : Ar) (o : Int) : evl (envV A) (.call 60 [.s (.int .i64 o)] []) = some (.ret (.s (.int .i64 (textsA A o))) []) := by
  have h1 := eq_ins_Tells A o
  have h2 := eq_ins_Makes A o
  unfold textsA
  rw [evl_fn (envV A) 60 _ _ (fn := Try.f60) (c := bd60) (lv := lvF60) rfl rfl rfl rfl rfl rfl]
  generalize lpOf (envV A) 60 bd60 = LP
  generalize evl (envV A) = E at h1 h2 ⊢
  obtain ⟨aadd, asub, amul, arem, aquo, awr, ashr, aeq, alt, ale, aseq, aslt, acat, acut, asiz, aat, anle, aneq, afit⟩ := A
  try simp only at h1 h2
  cbv
  cases c1 : aeq o 4
  · cbv
    rewrite [h2]
    cbv
    rewrite [c1]
    cbv
    cases c2 : aeq o 1
    · cbv
      cases c3 : aeq o 3
      · cbv
        rewrite [h1]
        cbv
        cases c4 : aeq o 5
        · cbv
          cases c5 : aeq o 6
          · cbv
          · cbv
        · cbv
      · cbv
    · cbv
  · cbv
theorem eq_code_text_ok (A : Ar) (xs ys zs : List AV) (b : List UInt8) (n m : Nat) (e0 : xs.length = n) (e1 : lget xs 0 = some (.s (.int .u8 (.ofNat m)))) (e2 : lcut xs 1 m = ys) (e3 : bytesOf ys = some b)
    (e4 : lcut xs (m + 1) (n - (m + 1)) = zs) (h1 : A.wr .i64 (.ofNat m) = .ofNat m) (h2 : A.add .i64 1 (.ofNat m) = .ofNat (m + 1)) (h3 : A.eq (.ofNat n) 0 = false) (h4 : A.le (.ofNat n) (.ofNat m) = false)
    (h5 : A.nle (Nat.succ m) n = true) (h6 : A.nle 1 (Nat.succ m) = true) (h7 : A.nle n n = true) :
    evl (envV A) (.call 93 [.sl 1 xs .imm] []) = some (.ret (.tup [.s (.string ⟨⟨b⟩⟩), .sl 1 zs .imm, .s (.bool true)]) []) := by
  rw [evl_fn (envV A) 93 _ _ (fn := Try.f93) (c := bd93) (lv := lvF93) rfl rfl rfl rfl rfl rfl]
  generalize lpOf (envV A) 93 bd93 = LP
  generalize evl (envV A) = E at e0 e1 e2 e3 e4 h1 h2 h3 h4 h5 h6 h7 ⊢
  obtain ⟨aadd, asub, amul, arem, aquo, awr, ashr, aeq, alt, ale, aseq, aslt, acat, acut, asiz, aat, anle, aneq, afit⟩ := A
  try simp only at h1 h2 h3 h4 h5 h6 h7
  conv at e0 => lhs; cbv
  conv at e1 => lhs; cbv
  conv at e2 => lhs; cbv
  conv at e3 => lhs; cbv
  conv at e4 => lhs; cbv
  cbv
  rewrite [e0]
  cbv
  rewrite [h3]
  cbv
  rewrite [e0]
  cbv
  rewrite [e1]
  cbv
  rewrite [h1]
  cbv
  rewrite [h4]
  cbv
  rewrite [e1]
  cbv
  rewrite [e0]
  cbv
  rewrite [h1]
  cbv
  rewrite [h2]
  cbv
  rewrite [h5]
  cbv
  rewrite [h6]
  cbv
  rewrite [e2]
  cbv
  rewrite [e3]
  cbv
  rewrite [e0]
  cbv
  rewrite [h5]
  cbv
  rewrite [h7]
  cbv
  rewrite [e4]
  cbv
theorem eq_code_text_no (A : Ar) (xs : List AV) (n m : Nat) (e0 : xs.length = n) (e1 : lget xs 0 = some (.s (.int .u8 (.ofNat m)))) (h1 : A.wr .i64 (.ofNat m) = .ofNat m) (h3 : A.eq (.ofNat n) 0 = false) (h4 : A.le (.ofNat n) (.ofNat m) = true) :
    evl (envV A) (.call 93 [.sl 1 xs .imm] []) = some (.ret (.tup [.s (.string ⟨#[]⟩), .sl 1 [] .full, .s (.bool false)]) []) := by
  rw [evl_fn (envV A) 93 _ _ (fn := Try.f93) (c := bd93) (lv := lvF93) rfl rfl rfl rfl rfl rfl]
  generalize lpOf (envV A) 93 bd93 = LP
  generalize evl (envV A) = E at e0 e1 h1 h3 h4 ⊢
  obtain ⟨aadd, asub, amul, arem, aquo, awr, ashr, aeq, alt, ale, aseq, aslt, acat, acut, asiz, aat, anle, aneq, afit⟩ := A
  try simp only at h1 h3 h4
  conv at e0 => lhs; cbv
  conv at e1 => lhs; cbv
  cbv
  rewrite [e0]
  cbv
  rewrite [h3]
  cbv
  rewrite [e0]
  cbv
  rewrite [e1]
  cbv
  rewrite [h1]
  cbv
  rewrite [h4]
  cbv
theorem eq_code_text_nil (A : Ar) (h3 : A.eq (.ofNat 0) 0 = true) :
    evl (envV A) (.call 93 [.sl 1 [] .imm] []) = some (.ret (.tup [.s (.string ⟨#[]⟩), .sl 1 [] .full, .s (.bool false)]) []) := by
  rw [evl_fn (envV A) 93 _ _ (fn := Try.f93) (c := bd93) (lv := lvF93) rfl rfl rfl rfl rfl rfl]
  generalize lpOf (envV A) 93 bd93 = LP
  generalize evl (envV A) = E at h3 ⊢
  obtain ⟨aadd, asub, amul, arem, aquo, awr, ashr, aeq, alt, ale, aseq, aslt, acat, acut, asiz, aat, anle, aneq, afit⟩ := A
  try simp only at h3
  cbv
  rewrite [h3]
  cbv
/-- a text, and what stands behind it -/
def takeT : List UInt8 → Option (ByteArray × List UInt8)
  | [] => none
  | b :: l => if l.length < b.toNat then none else some (⟨⟨l.take b.toNat⟩⟩, l.drop b.toNat)
theorem takeT_cons (b : UInt8) (l : List UInt8) : takeT (b :: l) = if l.length < b.toNat then none else some (⟨⟨l.take b.toNat⟩⟩, l.drop b.toNat) := rfl
def textR : Option (ByteArray × List UInt8) → AV
  | some (s, l) => .tup [.s (.string s), .sl 1 (bl l) .imm, .s (.bool true)]
  | none => .tup [.s (.string ⟨#[]⟩), .sl 1 [] .full, .s (.bool false)]
theorem s_code_text (bs : List UInt8) (hs : bs.length ≤ 9223372036854775807) : evl (envV realAr) (.call 93 [.sl 1 (bl bs) .imm] []) = some (.ret (textR (takeT bs)) []) := by
  match bs with
  | [] => exact eq_code_text_nil realAr rfl
  | b :: l =>
    have hb : b.toNat < 256 := b.toNat_lt
    have hw : realAr.wr .i64 (.ofNat b.toNat) = .ofNat b.toNat := wrap_nat (by omega)
    have h3 : realAr.eq (.ofNat (l.length + 1)) 0 = false := by simp [realAr_ok.eq] <;> omega
    have e0 : (bl (b :: l)).length = l.length + 1 := by simp [bl_len]
    rw [takeT_cons]
    by_cases h : l.length < b.toNat
    · rw [if_pos h]
      exact eq_code_text_no realAr _ (l.length + 1) b.toNat e0 rfl hw h3 (by simp [realAr_ok.le] <;> omega)
    · rw [if_neg h]
      refine eq_code_text_ok realAr _ _ _ _ (l.length + 1) b.toNat e0 rfl rfl ?_ ?_ hw ?_ h3 ?_ ?_ ?_ ?_
      · rw [bl_cut, bl_bytes]; rfl
      · rw [bl_cut]
        simp only [List.drop_succ_cons]
        rw [List.take_of_length_le (by simp)]
      · rw [realAr_ok.add]
        have := wrap_nat (n := b.toNat + 1) (by omega)
        rw [show (1 : Int) + Int.ofNat b.toNat = ((b.toNat + 1 : Nat) : Int) by simp <;> omega, this]
        rfl
      · simp [realAr_ok.le] <;> omega
      · simp [realAr_ok.nle] <;> omega
      · simp [realAr_ok.nle] <;> omega
      · simp [realAr_ok.nle]
section
variable (A : Ar) (hA : ArOk A)
include hA
variable (xs ys zs ws : List AV) (s1 s2 : ByteArray) (n m : Nat) (may : Bool)
theorem eq_code_one2 (e0 : xs.length = n) (e1 : lget xs 0 = some (.s (.int .u8 (.ofNat m)))) (e2 : lcut xs 1 (n - 1) = ys)
    (h1 : A.wr .i64 (.ofNat m) = .ofNat m) (h5 : A.nle 1 n = true) (h8 : A.nle n n = true) (h3 : evl (envV A) (.call 60 [.s (.int .i64 (.ofNat m))] []) = some (.ret (.s (.int .i64 2)) []))
    (h4 : evl (envV A) (.call 93 [.sl 1 ys .imm] []) = some (.ret (.tup [.s (.string s1), .sl 1 zs .imm, .s (.bool true)]) []))
    (h6 : evl (envV A) (.call 93 [.sl 1 zs .imm] []) = some (.ret (.tup [.s (.string s2), .sl 1 ws .imm, .s (.bool true)]) []))
    (h7 : evl (envV A) (.call 59 [.agg [.s (.int .i64 (.ofNat m)), .s (.string s1), .s (.string s2)]] []) = some (.ret (.s (.bool may)) [])) :
    evl (envV A) (.call 57 [.sl 1 xs .imm] []) = some (.ret (.tup [.agg [.s (.int .i64 (.ofNat m)), .s (.string s1), .s (.string s2)], .sl 1 ws .imm, .s (.bool may)]) []) := by
  rw [evl_fn (envV A) 57 _ _ (fn := Try.f57) (c := bd57) (lv := lvF57) rfl rfl rfl rfl rfl rfl]
  have klt := hA.lt; have kle := hA.le; have keq := hA.eq; have knle := hA.nle; have kneq := hA.neq
  generalize lpOf (envV A) 57 bd57 = LP
  generalize evl (envV A) = E at e0 e1 e2 h1 h5 h8 h3 h4 h6 h7 ⊢
  obtain ⟨aadd, asub, amul, arem, aquo, awr, ashr, aeq, alt, ale, aseq, aslt, acat, acut, asiz, aat, anle, aneq, afit⟩ := A
  simp only at klt kle keq knle kneq
  try simp only at h1 h5 h8 h3 h4 h6 h7
  conv at e0 => lhs; cbv
  conv at e1 => lhs; cbv
  conv at e2 => lhs; cbv
  cbv
  rewrite [e1]
  cbv
  rewrite [e0]
  cbv
  rewrite [h1]
  cbv
  rewrite [h5]
  cbv
  rewrite [h8]
  cbv
  rewrite [e2]
  cbv
  rewrite [h3]
  cbv
  rewrite [klt (0) (2)]
  cbv
  rewrite [h4]
  cbv
  rewrite [klt (1) (2)]
  cbv
  rewrite [h6]
  cbv
  rewrite [h7]
  cbv
theorem eq_code_one2b (e0 : xs.length = n) (e1 : lget xs 0 = some (.s (.int .u8 (.ofNat m)))) (e2 : lcut xs 1 (n - 1) = ys)
    (h1 : A.wr .i64 (.ofNat m) = .ofNat m) (h5 : A.nle 1 n = true) (h8 : A.nle n n = true) (h3 : evl (envV A) (.call 60 [.s (.int .i64 (.ofNat m))] []) = some (.ret (.s (.int .i64 2)) []))
    (h4 : evl (envV A) (.call 93 [.sl 1 ys .imm] []) = some (.ret (.tup [.s (.string s1), .sl 1 zs .imm, .s (.bool true)]) []))
    (h6 : evl (envV A) (.call 93 [.sl 1 zs .imm] []) = some (.ret (.tup [.s (.string s2), .sl 1 [] .full, .s (.bool false)]) [])) :
    evl (envV A) (.call 57 [.sl 1 xs .imm] []) = some (.ret (.tup [.agg [.s (.int .i64 (.ofNat m)), .s (.string s1), .s (.string s2)], .sl 1 [] .full, .s (.bool false)]) []) := by
  rw [evl_fn (envV A) 57 _ _ (fn := Try.f57) (c := bd57) (lv := lvF57) rfl rfl rfl rfl rfl rfl]
  have klt := hA.lt; have kle := hA.le; have keq := hA.eq; have knle := hA.nle; have kneq := hA.neq
  generalize lpOf (envV A) 57 bd57 = LP
  generalize evl (envV A) = E at e0 e1 e2 h1 h5 h8 h3 h4 h6 ⊢
  obtain ⟨aadd, asub, amul, arem, aquo, awr, ashr, aeq, alt, ale, aseq, aslt, acat, acut, asiz, aat, anle, aneq, afit⟩ := A
  simp only at klt kle keq knle kneq
  try simp only at h1 h5 h8 h3 h4 h6
  conv at e0 => lhs; cbv
  conv at e1 => lhs; cbv
  conv at e2 => lhs; cbv
  cbv
  rewrite [e1]
  cbv
  rewrite [e0]
  cbv
  rewrite [h1]
  cbv
  rewrite [h5]
  cbv
  rewrite [h8]
  cbv
  rewrite [e2]
  cbv
  rewrite [h3]
  cbv
  rewrite [klt (0) (2)]
  cbv
  rewrite [h4]
  cbv
  rewrite [klt (1) (2)]
  cbv
  rewrite [h6]
  cbv
  rewrite [knle (0) (0)]
  cbv
theorem eq_code_one2a (e0 : xs.length = n) (e1 : lget xs 0 = some (.s (.int .u8 (.ofNat m)))) (e2 : lcut xs 1 (n - 1) = ys)
    (h1 : A.wr .i64 (.ofNat m) = .ofNat m) (h5 : A.nle 1 n = true) (h8 : A.nle n n = true) (h3 : evl (envV A) (.call 60 [.s (.int .i64 (.ofNat m))] []) = some (.ret (.s (.int .i64 2)) []))
    (h4 : evl (envV A) (.call 93 [.sl 1 ys .imm] []) = some (.ret (.tup [.s (.string s1), .sl 1 [] .full, .s (.bool false)]) [])) :
    evl (envV A) (.call 57 [.sl 1 xs .imm] []) = some (.ret (.tup [.agg [.s (.int .i64 (.ofNat m)), .s (.string s1), .s (.string ⟨#[]⟩)], .sl 1 [] .full, .s (.bool false)]) []) := by
  rw [evl_fn (envV A) 57 _ _ (fn := Try.f57) (c := bd57) (lv := lvF57) rfl rfl rfl rfl rfl rfl]
  have klt := hA.lt; have kle := hA.le; have keq := hA.eq; have knle := hA.nle; have kneq := hA.neq
  generalize lpOf (envV A) 57 bd57 = LP
  generalize evl (envV A) = E at e0 e1 e2 h1 h5 h8 h3 h4 ⊢
  obtain ⟨aadd, asub, amul, arem, aquo, awr, ashr, aeq, alt, ale, aseq, aslt, acat, acut, asiz, aat, anle, aneq, afit⟩ := A
  simp only at klt kle keq knle kneq
  try simp only at h1 h5 h8 h3 h4
  conv at e0 => lhs; cbv
  conv at e1 => lhs; cbv
  conv at e2 => lhs; cbv
  cbv
  rewrite [e1]
  cbv
  rewrite [e0]
  cbv
  rewrite [h1]
  cbv
  rewrite [h5]
  cbv
  rewrite [h8]
  cbv
  rewrite [e2]
  cbv
  rewrite [h3]
  cbv
  rewrite [klt (0) (2)]
  cbv
  rewrite [h4]
  cbv
  rewrite [klt (1) (2)]
  cbv
  rewrite [knle (0) (0)]
  cbv
theorem eq_code_one1 (e0 : xs.length = n) (e1 : lget xs 0 = some (.s (.int .u8 (.ofNat m)))) (e2 : lcut xs 1 (n - 1) = ys)
    (h1 : A.wr .i64 (.ofNat m) = .ofNat m) (h5 : A.nle 1 n = true) (h8 : A.nle n n = true) (h3 : evl (envV A) (.call 60 [.s (.int .i64 (.ofNat m))] []) = some (.ret (.s (.int .i64 1)) []))
    (h4 : evl (envV A) (.call 93 [.sl 1 ys .imm] []) = some (.ret (.tup [.s (.string s1), .sl 1 zs .imm, .s (.bool true)]) []))
    (h7 : evl (envV A) (.call 59 [.agg [.s (.int .i64 (.ofNat m)), .s (.string s1), .s (.string ⟨#[]⟩)]] []) = some (.ret (.s (.bool may)) [])) :
    evl (envV A) (.call 57 [.sl 1 xs .imm] []) = some (.ret (.tup [.agg [.s (.int .i64 (.ofNat m)), .s (.string s1), .s (.string ⟨#[]⟩)], .sl 1 zs .imm, .s (.bool may)]) []) := by
  rw [evl_fn (envV A) 57 _ _ (fn := Try.f57) (c := bd57) (lv := lvF57) rfl rfl rfl rfl rfl rfl]
  have klt := hA.lt; have kle := hA.le; have keq := hA.eq; have knle := hA.nle; have kneq := hA.neq
  generalize lpOf (envV A) 57 bd57 = LP
  generalize evl (envV A) = E at e0 e1 e2 h1 h5 h8 h3 h4 h7 ⊢
  obtain ⟨aadd, asub, amul, arem, aquo, awr, ashr, aeq, alt, ale, aseq, aslt, acat, acut, asiz, aat, anle, aneq, afit⟩ := A
  simp only at klt kle keq knle kneq
  try simp only at h1 h5 h8 h3 h4 h7
  conv at e0 => lhs; cbv
  conv at e1 => lhs; cbv
  conv at e2 => lhs; cbv
  cbv
  rewrite [e1]
  cbv
  rewrite [e0]
  cbv
  rewrite [h1]
  cbv
  rewrite [h5]
  cbv
  rewrite [h8]
  cbv
  rewrite [e2]
  cbv
  rewrite [h3]
  cbv
  rewrite [klt (0) (1)]
  cbv
  rewrite [h4]
  cbv
  rewrite [klt (1) (1)]
  cbv
  rewrite [h7]
  cbv
theorem eq_code_one1a (e0 : xs.length = n) (e1 : lget xs 0 = some (.s (.int .u8 (.ofNat m)))) (e2 : lcut xs 1 (n - 1) = ys)
    (h1 : A.wr .i64 (.ofNat m) = .ofNat m) (h5 : A.nle 1 n = true) (h8 : A.nle n n = true) (h3 : evl (envV A) (.call 60 [.s (.int .i64 (.ofNat m))] []) = some (.ret (.s (.int .i64 1)) []))
    (h4 : evl (envV A) (.call 93 [.sl 1 ys .imm] []) = some (.ret (.tup [.s (.string s1), .sl 1 [] .full, .s (.bool false)]) [])) :
    evl (envV A) (.call 57 [.sl 1 xs .imm] []) = some (.ret (.tup [.agg [.s (.int .i64 (.ofNat m)), .s (.string s1), .s (.string ⟨#[]⟩)], .sl 1 [] .full, .s (.bool false)]) []) := by
  rw [evl_fn (envV A) 57 _ _ (fn := Try.f57) (c := bd57) (lv := lvF57) rfl rfl rfl rfl rfl rfl]
  have klt := hA.lt; have kle := hA.le; have keq := hA.eq; have knle := hA.nle; have kneq := hA.neq
  generalize lpOf (envV A) 57 bd57 = LP
  generalize evl (envV A) = E at e0 e1 e2 h1 h5 h8 h3 h4 ⊢
  obtain ⟨aadd, asub, amul, arem, aquo, awr, ashr, aeq, alt, ale, aseq, aslt, acat, acut, asiz, aat, anle, aneq, afit⟩ := A
  simp only at klt kle keq knle kneq
  try simp only at h1 h5 h8 h3 h4
  conv at e0 => lhs; cbv
  conv at e1 => lhs; cbv
  conv at e2 => lhs; cbv
  cbv
  rewrite [e1]
  cbv
  rewrite [e0]
  cbv
  rewrite [h1]
  cbv
  rewrite [h5]
  cbv
  rewrite [h8]
  cbv
  rewrite [e2]
  cbv
  rewrite [h3]
  cbv
  rewrite [klt (0) (1)]
  cbv
  rewrite [h4]
  cbv
  rewrite [klt (1) (1)]
  cbv
  rewrite [knle (0) (0)]
  cbv
theorem eq_code_one0 (e0 : xs.length = n) (e1 : lget xs 0 = some (.s (.int .u8 (.ofNat m)))) (e2 : lcut xs 1 (n - 1) = ys)
    (h1 : A.wr .i64 (.ofNat m) = .ofNat m) (h5 : A.nle 1 n = true) (h8 : A.nle n n = true) (h3 : evl (envV A) (.call 60 [.s (.int .i64 (.ofNat m))] []) = some (.ret (.s (.int .i64 0)) []))
    (h7 : evl (envV A) (.call 59 [.agg [.s (.int .i64 (.ofNat m)), .s (.string ⟨#[]⟩), .s (.string ⟨#[]⟩)]] []) = some (.ret (.s (.bool may)) [])) :
    evl (envV A) (.call 57 [.sl 1 xs .imm] []) = some (.ret (.tup [.agg [.s (.int .i64 (.ofNat m)), .s (.string ⟨#[]⟩), .s (.string ⟨#[]⟩)], .sl 1 ys .imm, .s (.bool may)]) []) := by
  rw [evl_fn (envV A) 57 _ _ (fn := Try.f57) (c := bd57) (lv := lvF57) rfl rfl rfl rfl rfl rfl]
  have klt := hA.lt; have kle := hA.le; have keq := hA.eq; have knle := hA.nle; have kneq := hA.neq
  generalize lpOf (envV A) 57 bd57 = LP
  generalize evl (envV A) = E at e0 e1 e2 h1 h5 h8 h3 h7 ⊢
  obtain ⟨aadd, asub, amul, arem, aquo, awr, ashr, aeq, alt, ale, aseq, aslt, acat, acut, asiz, aat, anle, aneq, afit⟩ := A
  simp only at klt kle keq knle kneq
  try simp only at h1 h5 h8 h3 h7
  conv at e0 => lhs; cbv
  conv at e1 => lhs; cbv
  conv at e2 => lhs; cbv
  cbv
  rewrite [e1]
  cbv
  rewrite [e0]
  cbv
  rewrite [h1]
  cbv
  rewrite [h5]
  cbv
  rewrite [h8]
  cbv
  rewrite [e2]
  cbv
  rewrite [h3]
  cbv
  rewrite [klt (0) (0)]
  cbv
  rewrite [klt (1) (0)]
  cbv
  rewrite [h7]
  cbv
end
theorem lp_code_Get_on (A : Ar) (hA : ArOk A) (xs os os2 ws : List AV) (s1 s2 : ByteArray) (o : Int) (n k : Nat) {r : Option Res} (e0 : xs.length = n) (e1 : os.length = k)
    (e2 : os ++ [.agg [.s (.int .i64 o), .s (.string s1), .s (.string s2)]] = os2)
    (h1 : evl (envV A) (.call 57 [.sl 1 xs .imm] []) = some (.ret (.tup [.agg [.s (.int .i64 o), .s (.string s1), .s (.string s2)], .sl 1 ws .imm, .s (.bool true)]) []))
    (h3 : A.lt 0 (.ofNat n) = true) (h4 : A.eq (.ofNat k) 120 = false) (h5 : A.neq k k = true) (h6 : A.fit (Nat.succ k) 40 = true)
    (h2 : lpOf (envV A) 16 bd16 2 { n := 32, k := 0, fr := [(0, .sl 1 ws .imm), (4, .sl 3 os2 .full)], O := [] } = r) :
    lpOf (envV A) 16 bd16 2 { n := 32, k := 0, fr := [(0, .sl 1 xs .imm), (4, .sl 3 os .full)], O := [] } = r := by
  rw [lp_step (envV A) 16 (c0 := bd16) (lv := lvF16) rfl rfl]
  have klt := hA.lt; have kle := hA.le; have keq := hA.eq; have knle := hA.nle; have kneq := hA.neq
  rw [lp_split (lpOf (envV A) 16 bd16) 2]
  generalize lpOf (envV A) 16 bd16 2 = L2 at e0 e1 e2 h1 h3 h4 h5 h6 h2 ⊢
  generalize lpOf (envV A) 16 bd16 = LP
  generalize evl (envV A) = E at e0 e1 e2 h1 h3 h4 h5 h6 h2 ⊢
  obtain ⟨aadd, asub, amul, arem, aquo, awr, ashr, aeq, alt, ale, aseq, aslt, acat, acut, asiz, aat, anle, aneq, afit⟩ := A
  simp only at klt kle keq knle kneq
  try simp only at h1 h3 h4 h5 h6 h2
  conv at e0 => lhs; cbv
  conv at e1 => lhs; cbv
  conv at e2 => lhs; cbv
  cbv
  rewrite [e0]
  cbv
  rewrite [h3]
  cbv
  rewrite [h1]
  cbv
  rewrite [e1]
  cbv
  rewrite [h4]
  cbv
  rewrite [e1]
  cbv
  rewrite [e2]
  cbv
  rewrite [h5]
  cbv
  rewrite [h6]
  cbv
  rewrite [h2]
  cbv
theorem lp_code_Get_large (A : Ar) (hA : ArOk A) (xs os ws : List AV) (s1 s2 : ByteArray) (o : Int) (n k : Nat) (e0 : xs.length = n) (e1 : os.length = k)
    (h1 : evl (envV A) (.call 57 [.sl 1 xs .imm] []) = some (.ret (.tup [.agg [.s (.int .i64 o), .s (.string s1), .s (.string s2)], .sl 1 ws .imm, .s (.bool true)]) []))
    (h3 : A.lt 0 (.ofNat n) = true) (h4 : A.eq (.ofNat k) 120 = true) :
    lpOf (envV A) 16 bd16 2 { n := 32, k := 0, fr := [(0, .sl 1 xs .imm), (4, .sl 3 os .full)], O := [] } = some (.code .ret { n := 32, k := 0, fr := [(2, .sl 3 [] .full), (3, .s (.iface 39 (.int .i64 13)))], O := [] }) := by
  rw [lp_step (envV A) 16 (c0 := bd16) (lv := lvF16) rfl rfl]
  have klt := hA.lt; have kle := hA.le; have keq := hA.eq; have knle := hA.nle; have kneq := hA.neq
  generalize lpOf (envV A) 16 bd16 = LP
  generalize evl (envV A) = E at e0 e1 h1 h3 h4 ⊢
  obtain ⟨aadd, asub, amul, arem, aquo, awr, ashr, aeq, alt, ale, aseq, aslt, acat, acut, asiz, aat, anle, aneq, afit⟩ := A
  simp only at klt kle keq knle kneq
  try simp only at h1 h3 h4
  conv at e0 => lhs; cbv
  conv at e1 => lhs; cbv
  cbv
  rewrite [e0]
  cbv
  rewrite [h3]
  cbv
  rewrite [h1]
  cbv
  rewrite [e1]
  cbv
  rewrite [h4]
  cbv
theorem lp_code_Get_no (A : Ar) (hA : ArOk A) (xs os ws : List AV) (s1 s2 : ByteArray) (o : Int) (n : Nat) (e0 : xs.length = n)
    (h1 : evl (envV A) (.call 57 [.sl 1 xs .imm] []) = some (.ret (.tup [.agg [.s (.int .i64 o), .s (.string s1), .s (.string s2)], .sl 1 ws .imm, .s (.bool false)]) []))
    (h3 : A.lt 0 (.ofNat n) = true) :
    lpOf (envV A) 16 bd16 2 { n := 32, k := 0, fr := [(0, .sl 1 xs .imm), (4, .sl 3 os .full)], O := [] } = some (.code .ret { n := 32, k := 0, fr := [(2, .sl 3 [] .full), (3, .s (.iface 39 (.int .i64 7)))], O := [] }) := by
  rw [lp_step (envV A) 16 (c0 := bd16) (lv := lvF16) rfl rfl]
  have klt := hA.lt; have kle := hA.le; have keq := hA.eq; have knle := hA.nle; have kneq := hA.neq
  generalize lpOf (envV A) 16 bd16 = LP
  generalize evl (envV A) = E at e0 h1 h3 ⊢
  obtain ⟨aadd, asub, amul, arem, aquo, awr, ashr, aeq, alt, ale, aseq, aslt, acat, acut, asiz, aat, anle, aneq, afit⟩ := A
  simp only at klt kle keq knle kneq
  try simp only at h1 h3
  conv at e0 => lhs; cbv
  cbv
  rewrite [e0]
  cbv
  rewrite [h3]
  cbv
  rewrite [h1]
  cbv
theorem lp_code_Get_no2 (A : Ar) (hA : ArOk A) (xs os : List AV) (s1 s2 : ByteArray) (o : Int) (n : Nat) (e0 : xs.length = n)
    (h1 : evl (envV A) (.call 57 [.sl 1 xs .imm] []) = some (.ret (.tup [.agg [.s (.int .i64 o), .s (.string s1), .s (.string s2)], .sl 1 [] .full, .s (.bool false)]) []))
    (h3 : A.lt 0 (.ofNat n) = true) :
    lpOf (envV A) 16 bd16 2 { n := 32, k := 0, fr := [(0, .sl 1 xs .imm), (4, .sl 3 os .full)], O := [] } = some (.code .ret { n := 32, k := 0, fr := [(2, .sl 3 [] .full), (3, .s (.iface 39 (.int .i64 7)))], O := [] }) := by
  rw [lp_step (envV A) 16 (c0 := bd16) (lv := lvF16) rfl rfl]
  have klt := hA.lt; have kle := hA.le; have keq := hA.eq; have knle := hA.nle; have kneq := hA.neq
  generalize lpOf (envV A) 16 bd16 = LP
  generalize evl (envV A) = E at e0 h1 h3 ⊢
  obtain ⟨aadd, asub, amul, arem, aquo, awr, ashr, aeq, alt, ale, aseq, aslt, acat, acut, asiz, aat, anle, aneq, afit⟩ := A
  simp only at klt kle keq knle kneq
  try simp only at h1 h3
  conv at e0 => lhs; cbv
  cbv
  rewrite [e0]
  cbv
  rewrite [h3]
  cbv
  rewrite [h1]
  cbv
theorem lp_code_Get_end (A : Ar) (hA : ArOk A) (os : List AV) :
    lpOf (envV A) 16 bd16 2 { n := 32, k := 0, fr := [(0, .sl 1 [] .imm), (4, .sl 3 os .full)], O := [] } = some (.code (.exit 0) { n := 32, k := 0, fr := [(0, .sl 1 [] .imm), (4, .sl 3 os .full), (10, .s (.bool false))], O := [] }) := by
  rw [lp_step (envV A) 16 (c0 := bd16) (lv := lvF16) rfl rfl]
  have klt := hA.lt; have kle := hA.le; have keq := hA.eq; have knle := hA.nle; have kneq := hA.neq
  generalize lpOf (envV A) 16 bd16 = LP
  generalize evl (envV A) = E
  obtain ⟨aadd, asub, amul, arem, aquo, awr, ashr, aeq, alt, ale, aseq, aslt, acat, acut, asiz, aat, anle, aneq, afit⟩ := A
  simp only at klt kle keq knle kneq
  cbv
  rewrite [klt (0) (Int.ofNat 0)]
  cbv
end Go.Va
