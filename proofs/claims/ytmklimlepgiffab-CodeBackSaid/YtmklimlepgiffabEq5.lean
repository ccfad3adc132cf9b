/- The functions that the statement reaches, by equations: no statement of its own. -/
import Derived.Test.YtmklimlepgiffabEq4
set_option linter.unusedVariables false
set_option linter.unusedSimpArgs false
set_option linter.unusedSectionVars false
namespace Go.Va
open Go.Proofs
set_option maxRecDepth 100000
set_option maxHeartbeats 4000000
section
variable (A : Ar) (hA : ArOk A)
include hA
theorem eq_code_Get_ok (xs os : List AV) (k : Nat) (e0 : os.length = k) (e1 : os.take k = os) (h2 : A.nle k k = true) (h1 : lpOf (envV A) 16 bd16 2 { n := 32, k := 0, fr := [(0, .sl 1 xs .imm), (4, .sl 3 [] .full)], O := [] } = some (.code (.exit 0) { n := 32, k := 0, fr := [(0, .sl 1 [] .imm), (4, .sl 3 os .full), (10, .s (.bool false))], O := [] }))
     : evl (envV A) (.call 16 [.sl 1 xs .imm] []) = some (.ret (.tup [.sl 3 os .full, .s .nilIface]) []) := by
  rw [evl_fn (envV A) 16 _ _ (fn := Try.f16) (c := bd16) (lv := lvF16) rfl rfl rfl rfl rfl rfl]
  rw [lp_split (lpOf (envV A) 16 bd16) 2]
  generalize lpOf (envV A) 16 bd16 2 = L2 at h1 e0 e1 h2 ⊢
  generalize lpOf (envV A) 16 bd16 = LP
  generalize evl (envV A) = E at h1 e0 e1 h2 ⊢
  obtain ⟨aadd, asub, amul, arem, aquo, awr, ashr, aeq, alt, ale, aseq, aslt, acat, acut, asiz, aat, anle, aneq, afit⟩ := A
  try simp only at h1 h2
  conv at e0 => lhs; cbv
  conv at e1 => lhs; cbv
  cbv
  rewrite [h1]
  cbv
  rewrite [e0]
  cbv
  rewrite [e1]
  cbv
  rewrite [h2]
  cbv
theorem eq_code_Get_no (xs : List AV) (e : Int) (h1 : lpOf (envV A) 16 bd16 2 { n := 32, k := 0, fr := [(0, .sl 1 xs .imm), (4, .sl 3 [] .full)], O := [] } = some (.code .ret { n := 32, k := 0, fr := [(2, .sl 3 [] .full), (3, .s (.iface 39 (.int .i64 e)))], O := [] }))
     : evl (envV A) (.call 16 [.sl 1 xs .imm] []) = some (.ret (.tup [.sl 3 [] .full, .s (.iface 39 (.int .i64 e))]) []) := by
  rw [evl_fn (envV A) 16 _ _ (fn := Try.f16) (c := bd16) (lv := lvF16) rfl rfl rfl rfl rfl rfl]
  rw [lp_split (lpOf (envV A) 16 bd16) 2]
  generalize lpOf (envV A) 16 bd16 2 = L2 at h1 ⊢
  generalize lpOf (envV A) 16 bd16 = LP
  generalize evl (envV A) = E at h1 ⊢
  obtain ⟨aadd, asub, amul, arem, aquo, awr, ashr, aeq, alt, ale, aseq, aslt, acat, acut, asiz, aat, anle, aneq, afit⟩ := A
  try simp only at h1
  cbv
  rewrite [h1]
  cbv
end
def resGet : Except Int (List InsT) → AV
  | .ok is => .tup [.sl 3 (is.map insA) .full, .s .nilIface]
  | .error e => .tup [.sl 3 [] .full, errI e]
theorem s_code_Get (bs : List UInt8) (hs : bs.length ≤ 9223372036854775807) : evl (envV realAr) (.call 16 [.sl 1 (bl bs) .imm] []) = some (.ret (resGet (getR bs.length [] bs)) []) := by
  have h := lp_code_Get bs.length bs [] (Nat.le_refl _) hs (by simp)
  cases hr : getR bs.length [] bs with
  | ok is =>
    rw [hr] at h
    exact eq_code_Get_ok realAr realAr_ok _ _ is.length (by simp) (by rw [List.take_of_length_le (by simp)]) (by simp [realAr_ok.nle]) h
  | error e =>
    rw [hr] at h
    exact eq_code_Get_no realAr realAr_ok _ e h
theorem eq_ref11_texts (A : Ar) (o : Int) : evl (envV A) (.call 94 [.s (.int .i64 o)] []) = some (.ret (.s (.int .i64 (bif A.eq o 1 then 2 else bif A.eq o 3 then 2 else bif A.eq o 5 then 2 else bif A.eq o 6 then 2 else bif A.eq o 4 then 1 else 0))) []) := by
  rw [evl_fn (envV A) 94 _ _ (fn := Try.f94) (c := bd94) (lv := lvF94) rfl rfl rfl rfl rfl rfl]
  generalize lpOf (envV A) 94 bd94 = LP
  generalize evl (envV A) = E
  obtain ⟨aadd, asub, amul, arem, aquo, awr, ashr, aeq, alt, ale, aseq, aslt, acat, acut, asiz, aat, anle, aneq, afit⟩ := A
  cbv
  cases c1 : aeq o 1
  · cbv
    cases c2 : aeq o 3
    · cbv
      cases c3 : aeq o 5
      · cbv
        cases c4 : aeq o 6
        · cbv
          cases c5 : aeq o 4
          · cbv
          · cbv
        · cbv
      · cbv
    · cbv
  · cbv
def stR (xs : List AV) (m at_ k : Nat) (s1 s2 : ByteArray) : St := { n := 63, k := 0, fr := [(0, .sl 1 xs .imm), (2, .ptr 0 0), (4, .ptr 1 0), (5, .s (.int .i64 (.ofNat at_))), (6, .s (.int .i64 (.ofNat k)))], O := [[.s (.int .i64 0), .s (.string ⟨#[]⟩), .s (.string ⟨#[]⟩)], [.s (.int .i64 (.ofNat m)), .s (.string s1), .s (.string s2)]] }
def stRf : St := { n := 63, k := 0, fr := [(2, .ptr 0 0), (3, .s (.int .i64 0))], O := [[.s (.int .i64 0), .s (.string ⟨#[]⟩), .s (.string ⟨#[]⟩)]] }
def stRe (xs : List AV) (m at_ k : Nat) (s1 s2 : ByteArray) : St := { n := 63, k := 0, fr := [(0, .sl 1 xs .imm), (2, .ptr 0 0), (4, .ptr 1 0), (5, .s (.int .i64 (.ofNat at_))), (6, .s (.int .i64 (.ofNat k))), (18, .s (.bool false))], O := [[.s (.int .i64 0), .s (.string ⟨#[]⟩), .s (.string ⟨#[]⟩)], [.s (.int .i64 (.ofNat m)), .s (.string s1), .s (.string s2)]] }
section
variable (A : Ar) (hA : ArOk A)
include hA
theorem lp_ref11_one_0 (xs ys : List AV) (b1 : List UInt8) (n m at_ t c d : Nat) (s1 s2 : ByteArray) {r : Option Res} (e0 : xs.length = n) (e1 : lget xs at_ = some (.s (.int .u8 (.ofNat c)))) (e2 : lcut xs (at_ + 1) (d - (at_ + 1)) = ys) (e3 : bytesOf ys = some b1) (h1 : A.wr .i64 (.ofNat c) = .ofNat c)
   (h2 : A.add .i64 (.ofNat at_) 1 = .ofNat (Nat.succ at_)) (h3 : A.add .i64 (.ofNat (Nat.succ at_)) (.ofNat c) = .ofNat d) (h4 : evl (envV A) (.call 94 [.s (.int .i64 (.ofNat m))] []) = some (.ret (.s (.int .i64 (.ofNat t))) []))
   (h5 : A.lt (.ofNat 0) (.ofNat t) = true) (h6 : A.le (.ofNat n) (.ofNat at_) = false) (h7 : A.lt (.ofNat n) (.ofNat d) = false) (h8 : A.nle (Nat.succ at_) d = true) (h9 : A.nle d n = true) (h10 : A.nle n n = true)
   (hr : lpOf (envV A) 58 bd58 4 (stR xs m d 1 ⟨⟨b1⟩⟩ s2) = r) (ha : A.add .i64 (.ofNat 0) 1 = .ofNat 1) (hq : A.eq (.ofNat 0) 0 = true)
     : lpOf (envV A) 58 bd58 4 (stR xs m at_ 0 s1 s2) = r := by
  unfold stR at hr ⊢
  rw [lp_step (envV A) 58 (c0 := bd58) (lv := lvF58) rfl rfl]
  rw [lp_split (lpOf (envV A) 58 bd58) 4]
  generalize lpOf (envV A) 58 bd58 4 = L4 at e0 e1 e2 e3 h1 h2 h3 h4 h5 h6 h7 h8 h9 h10 hr ha hq ⊢
  generalize lpOf (envV A) 58 bd58 = LP
  generalize evl (envV A) = E at e0 e1 e2 e3 h1 h2 h3 h4 h5 h6 h7 h8 h9 h10 hr ha hq ⊢
  obtain ⟨aadd, asub, amul, arem, aquo, awr, ashr, aeq, alt, ale, aseq, aslt, acat, acut, asiz, aat, anle, aneq, afit⟩ := A
  try simp only at h1 h2 h3 h4 h5 h6 h7 h8 h9 h10 hr ha hq
  conv at e0 => lhs; cbv
  conv at e1 => lhs; cbv
  conv at e2 => lhs; cbv
  conv at e3 => lhs; cbv
  cbv
  rewrite [h4]
  cbv
  rewrite [h5]
  cbv
  rewrite [e0]
  cbv
  rewrite [h6]
  cbv
  rewrite [e1]
  cbv
  rewrite [e0]
  cbv
  rewrite [h1]
  cbv
  rewrite [h2]
  cbv
  rewrite [h3]
  cbv
  rewrite [h7]
  cbv
  rewrite [hq]
  cbv
  rewrite [e0]
  cbv
  rewrite [h2]
  cbv
  rewrite [h8]
  cbv
  rewrite [h9]
  cbv
  rewrite [e2]
  cbv
  rewrite [e3]
  cbv
  rewrite [ha]
  cbv
  rewrite [hr]
  cbv
theorem lp_ref11_one_1 (xs ys : List AV) (b1 : List UInt8) (n m at_ t c d : Nat) (s1 s2 : ByteArray) {r : Option Res} (e0 : xs.length = n) (e1 : lget xs at_ = some (.s (.int .u8 (.ofNat c)))) (e2 : lcut xs (at_ + 1) (d - (at_ + 1)) = ys) (e3 : bytesOf ys = some b1) (h1 : A.wr .i64 (.ofNat c) = .ofNat c)
   (h2 : A.add .i64 (.ofNat at_) 1 = .ofNat (Nat.succ at_)) (h3 : A.add .i64 (.ofNat (Nat.succ at_)) (.ofNat c) = .ofNat d) (h4 : evl (envV A) (.call 94 [.s (.int .i64 (.ofNat m))] []) = some (.ret (.s (.int .i64 (.ofNat t))) []))
   (h5 : A.lt (.ofNat 1) (.ofNat t) = true) (h6 : A.le (.ofNat n) (.ofNat at_) = false) (h7 : A.lt (.ofNat n) (.ofNat d) = false) (h8 : A.nle (Nat.succ at_) d = true) (h9 : A.nle d n = true) (h10 : A.nle n n = true)
   (hr : lpOf (envV A) 58 bd58 4 (stR xs m d 2 s1 ⟨⟨b1⟩⟩) = r) (ha : A.add .i64 (.ofNat 1) 1 = .ofNat 2) (hq : A.eq (.ofNat 1) 0 = false)
     : lpOf (envV A) 58 bd58 4 (stR xs m at_ 1 s1 s2) = r := by
  unfold stR at hr ⊢
  rw [lp_step (envV A) 58 (c0 := bd58) (lv := lvF58) rfl rfl]
  rw [lp_split (lpOf (envV A) 58 bd58) 4]
  generalize lpOf (envV A) 58 bd58 4 = L4 at e0 e1 e2 e3 h1 h2 h3 h4 h5 h6 h7 h8 h9 h10 hr ha hq ⊢
  generalize lpOf (envV A) 58 bd58 = LP
  generalize evl (envV A) = E at e0 e1 e2 e3 h1 h2 h3 h4 h5 h6 h7 h8 h9 h10 hr ha hq ⊢
  obtain ⟨aadd, asub, amul, arem, aquo, awr, ashr, aeq, alt, ale, aseq, aslt, acat, acut, asiz, aat, anle, aneq, afit⟩ := A
  try simp only at h1 h2 h3 h4 h5 h6 h7 h8 h9 h10 hr ha hq
  conv at e0 => lhs; cbv
  conv at e1 => lhs; cbv
  conv at e2 => lhs; cbv
  conv at e3 => lhs; cbv
  cbv
  rewrite [h4]
  cbv
  rewrite [h5]
  cbv
  rewrite [e0]
  cbv
  rewrite [h6]
  cbv
  rewrite [e1]
  cbv
  rewrite [e0]
  cbv
  rewrite [h1]
  cbv
  rewrite [h2]
  cbv
  rewrite [h3]
  cbv
  rewrite [h7]
  cbv
  rewrite [hq]
  cbv
  rewrite [e0]
  cbv
  rewrite [h2]
  cbv
  rewrite [h8]
  cbv
  rewrite [h9]
  cbv
  rewrite [e2]
  cbv
  rewrite [e3]
  cbv
  rewrite [ha]
  cbv
  rewrite [hr]
  cbv
theorem lp_ref11_one_f1 (xs : List AV) (n m at_ t k : Nat) (s1 s2 : ByteArray) (e0 : xs.length = n) (h4 : evl (envV A) (.call 94 [.s (.int .i64 (.ofNat m))] []) = some (.ret (.s (.int .i64 (.ofNat t))) []))
   (h5 : A.lt (.ofNat k) (.ofNat t) = true) (h6 : A.le (.ofNat n) (.ofNat at_) = true)
     : lpOf (envV A) 58 bd58 4 (stR xs m at_ k s1 s2) = some (.code .ret stRf) := by
  unfold stR stRf
  rw [lp_step (envV A) 58 (c0 := bd58) (lv := lvF58) rfl rfl]
  generalize lpOf (envV A) 58 bd58 = LP
  generalize evl (envV A) = E at e0 h4 h5 h6 ⊢
  obtain ⟨aadd, asub, amul, arem, aquo, awr, ashr, aeq, alt, ale, aseq, aslt, acat, acut, asiz, aat, anle, aneq, afit⟩ := A
  try simp only at h4 h5 h6
  conv at e0 => lhs; cbv
  cbv
  rewrite [h4]
  cbv
  rewrite [h5]
  cbv
  rewrite [e0]
  cbv
  rewrite [h6]
  cbv
theorem lp_ref11_one_f2 (xs : List AV) (n m at_ t k c d : Nat) (s1 s2 : ByteArray) (e0 : xs.length = n) (e1 : lget xs at_ = some (.s (.int .u8 (.ofNat c)))) (h1 : A.wr .i64 (.ofNat c) = .ofNat c)
   (h2 : A.add .i64 (.ofNat at_) 1 = .ofNat (Nat.succ at_)) (h3 : A.add .i64 (.ofNat (Nat.succ at_)) (.ofNat c) = .ofNat d) (h4 : evl (envV A) (.call 94 [.s (.int .i64 (.ofNat m))] []) = some (.ret (.s (.int .i64 (.ofNat t))) []))
   (h5 : A.lt (.ofNat k) (.ofNat t) = true) (h6 : A.le (.ofNat n) (.ofNat at_) = false) (h7 : A.lt (.ofNat n) (.ofNat d) = true) 
     : lpOf (envV A) 58 bd58 4 (stR xs m at_ k s1 s2) = some (.code .ret stRf) := by
  unfold stR stRf
  rw [lp_step (envV A) 58 (c0 := bd58) (lv := lvF58) rfl rfl]
  generalize lpOf (envV A) 58 bd58 = LP
  generalize evl (envV A) = E at e0 e1 h1 h2 h3 h4 h5 h6 h7 ⊢
  obtain ⟨aadd, asub, amul, arem, aquo, awr, ashr, aeq, alt, ale, aseq, aslt, acat, acut, asiz, aat, anle, aneq, afit⟩ := A
  try simp only at h1 h2 h3 h4 h5 h6 h7
  conv at e0 => lhs; cbv
  conv at e1 => lhs; cbv
  cbv
  rewrite [h4]
  cbv
  rewrite [h5]
  cbv
  rewrite [e0]
  cbv
  rewrite [h6]
  cbv
  rewrite [e1]
  cbv
  rewrite [e0]
  cbv
  rewrite [h1]
  cbv
  rewrite [h2]
  cbv
  rewrite [h3]
  cbv
  rewrite [h7]
  cbv
theorem lp_ref11_one_end (xs : List AV) (m at_ t k : Nat) (s1 s2 : ByteArray) (h4 : evl (envV A) (.call 94 [.s (.int .i64 (.ofNat m))] []) = some (.ret (.s (.int .i64 (.ofNat t))) []))
   (h5 : A.lt (.ofNat k) (.ofNat t) = false)
     : lpOf (envV A) 58 bd58 4 (stR xs m at_ k s1 s2) = some (.code (.exit 0) (stRe xs m at_ k s1 s2)) := by
  unfold stR stRe
  rw [lp_step (envV A) 58 (c0 := bd58) (lv := lvF58) rfl rfl]
  generalize lpOf (envV A) 58 bd58 = LP
  generalize evl (envV A) = E at h4 h5 ⊢
  obtain ⟨aadd, asub, amul, arem, aquo, awr, ashr, aeq, alt, ale, aseq, aslt, acat, acut, asiz, aat, anle, aneq, afit⟩ := A
  try simp only at h4 h5
  cbv
  rewrite [h4]
  cbv
  rewrite [h5]
  cbv
theorem eq_ref11_one_f (xs : List AV) (n m : Nat) (e0 : xs.length = n) (e1 : lget xs 0 = some (.s (.int .u8 (.ofNat m)))) (h1 : A.wr .i64 (.ofNat m) = .ofNat m)
    (h2 : lpOf (envV A) 58 bd58 4 (stR xs m 1 0 ⟨#[]⟩ ⟨#[]⟩) = some (.code .ret stRf)) :
    evl (envV A) (.call 58 [.sl 1 xs .imm] []) = some (.ret (.tup [insA (0, ⟨#[]⟩, ⟨#[]⟩), .s (.int .i64 0)]) []) := by
  unfold stR stRf at h2
  simp only [show Int.ofNat 0 = 0 from rfl, show Int.ofNat 1 = 1 from rfl] at h2
  unfold insA
  rw [evl_fn (envV A) 58 _ _ (fn := Try.f58) (c := bd58) (lv := lvF58) rfl rfl rfl rfl rfl rfl]
  rw [lp_split (lpOf (envV A) 58 bd58) 4]
  generalize lpOf (envV A) 58 bd58 4 = L4 at e0 e1 h1 h2 ⊢
  generalize lpOf (envV A) 58 bd58 = LP
  generalize evl (envV A) = E at e0 e1 h1 h2 ⊢
  obtain ⟨aadd, asub, amul, arem, aquo, awr, ashr, aeq, alt, ale, aseq, aslt, acat, acut, asiz, aat, anle, aneq, afit⟩ := A
  try simp only at h1 h2
  conv at e0 => lhs; cbv
  conv at e1 => lhs; cbv
  cbv
  rewrite [e1]
  cbv
  rewrite [h1]
  cbv
  rewrite [h2]
  cbv
theorem eq_ref11_one_ok (xs : List AV) (n m at_ k : Nat) (s1 s2 : ByteArray) (may : Bool) (e0 : xs.length = n) (e1 : lget xs 0 = some (.s (.int .u8 (.ofNat m)))) (h1 : A.wr .i64 (.ofNat m) = .ofNat m)
    (h2 : lpOf (envV A) 58 bd58 4 (stR xs m 1 0 ⟨#[]⟩ ⟨#[]⟩) = some (.code (.exit 0) (stRe xs m at_ k s1 s2)))
    (h3 : evl (envV A) (.call 95 [.agg [.s (.int .i64 (.ofNat m)), .s (.string s1), .s (.string s2)]] []) = some (.ret (.s (.bool may)) [])) :
    evl (envV A) (.call 58 [.sl 1 xs .imm] []) = some (.ret (bif may then .tup [insA (m, s1, s2), .s (.int .i64 (.ofNat at_))] else .tup [insA (0, ⟨#[]⟩, ⟨#[]⟩), .s (.int .i64 0)]) []) := by
  unfold stR stRe at h2
  simp only [show Int.ofNat 0 = 0 from rfl, show Int.ofNat 1 = 1 from rfl] at h2
  unfold insA
  rw [evl_fn (envV A) 58 _ _ (fn := Try.f58) (c := bd58) (lv := lvF58) rfl rfl rfl rfl rfl rfl]
  rw [lp_split (lpOf (envV A) 58 bd58) 4]
  generalize lpOf (envV A) 58 bd58 4 = L4 at e0 e1 h1 h2 h3 ⊢
  generalize lpOf (envV A) 58 bd58 = LP
  generalize evl (envV A) = E at e0 e1 h1 h2 h3 ⊢
  obtain ⟨aadd, asub, amul, arem, aquo, awr, ashr, aeq, alt, ale, aseq, aslt, acat, acut, asiz, aat, anle, aneq, afit⟩ := A
  try simp only at h1 h2 h3
  conv at e0 => lhs; cbv
  conv at e1 => lhs; cbv
  cbv
  rewrite [e1]
  cbv
  rewrite [h1]
  cbv
  rewrite [h2]
  cbv
  rewrite [h3]
  cbv
  cases may
  · cbv
  · cbv
end
end Go.Va
namespace Go.Va
open Go.Proofs
set_option maxRecDepth 100000
set_option maxHeartbeats 4000000
section
variable (A : Ar) (hA : ArOk A)
include hA
theorem lp_ref11_Get_on (xs os os2 ws : List AV) (s1 s2 : ByteArray) (o : Int) (n k at_ : Nat) {r : Option Res} (e0 : xs.length = n) (e1 : os.length = k)
    (e2 : os ++ [.agg [.s (.int .i64 o), .s (.string s1), .s (.string s2)]] = os2) (e3 : lcut xs at_ (n - at_) = ws)
    (h1 : evl (envV A) (.call 58 [.sl 1 xs .imm] []) = some (.ret (.tup [.agg [.s (.int .i64 o), .s (.string s1), .s (.string s2)], .s (.int .i64 (.ofNat at_))]) []))
    (h3 : A.lt 0 (.ofNat n) = true) (h4 : A.eq (.ofNat k) 120 = false) (h5 : A.neq k k = true) (h6 : A.fit (Nat.succ k) 40 = true) (h7 : A.eq (.ofNat at_) 0 = false) (h8 : A.nle at_ n = true) (h9 : A.nle n n = true)
    (h2 : lpOf (envV A) 17 bd17 2 { n := 28, k := 0, fr := [(0, .sl 1 ws .imm), (4, .sl 3 os2 .full)], O := [] } = r) :
    lpOf (envV A) 17 bd17 2 { n := 28, k := 0, fr := [(0, .sl 1 xs .imm), (4, .sl 3 os .full)], O := [] } = r := by
  rw [lp_step (envV A) 17 (c0 := bd17) (lv := lvF17) rfl rfl]
  rw [lp_split (lpOf (envV A) 17 bd17) 2]
  generalize lpOf (envV A) 17 bd17 2 = L2 at e0 e1 e2 e3 h1 h3 h4 h5 h6 h2 h7 h8 h9 ⊢
  generalize lpOf (envV A) 17 bd17 = LP
  generalize evl (envV A) = E at e0 e1 e2 e3 h1 h3 h4 h5 h6 h2 h7 h8 h9 ⊢
  obtain ⟨aadd, asub, amul, arem, aquo, awr, ashr, aeq, alt, ale, aseq, aslt, acat, acut, asiz, aat, anle, aneq, afit⟩ := A
  try simp only at h1 h3 h4 h5 h6 h2 h7 h8 h9
  conv at e0 => lhs; cbv
  conv at e1 => lhs; cbv
  conv at e2 => lhs; cbv
  conv at e3 => lhs; cbv
  cbv
  rewrite [e0]
  cbv
  rewrite [h3]
  cbv
  rewrite [h1]
  cbv
  rewrite [h7]
  cbv
  rewrite [e1]
  cbv
  rewrite [h4]
  cbv
  rewrite [e1]
  cbv
  rewrite [e2]
  cbv
  rewrite [h5]
  cbv
  rewrite [h6]
  cbv
  rewrite [e0]
  cbv
  rewrite [h8]
  cbv
  rewrite [h9]
  cbv
  rewrite [e3]
  cbv
  rewrite [h2]
  cbv
theorem lp_ref11_Get_large (xs os : List AV) (s1 s2 : ByteArray) (o : Int) (n k at_ : Nat) (e0 : xs.length = n) (e1 : os.length = k)
    (h1 : evl (envV A) (.call 58 [.sl 1 xs .imm] []) = some (.ret (.tup [.agg [.s (.int .i64 o), .s (.string s1), .s (.string s2)], .s (.int .i64 (.ofNat at_))]) []))
    (h3 : A.lt 0 (.ofNat n) = true) (h4 : A.eq (.ofNat k) 120 = true) (h7 : A.eq (.ofNat at_) 0 = false) :
    lpOf (envV A) 17 bd17 2 { n := 28, k := 0, fr := [(0, .sl 1 xs .imm), (4, .sl 3 os .full)], O := [] } = some (.code .ret { n := 28, k := 0, fr := [(2, .sl 3 [] .full), (3, .s (.int .i64 13))], O := [] }) := by
  rw [lp_step (envV A) 17 (c0 := bd17) (lv := lvF17) rfl rfl]
  generalize lpOf (envV A) 17 bd17 = LP
  generalize evl (envV A) = E at e0 e1 h1 h3 h4 h7 ⊢
  obtain ⟨aadd, asub, amul, arem, aquo, awr, ashr, aeq, alt, ale, aseq, aslt, acat, acut, asiz, aat, anle, aneq, afit⟩ := A
  try simp only at h1 h3 h4 h7
  conv at e0 => lhs; cbv
  conv at e1 => lhs; cbv
  cbv
  rewrite [e0]
  cbv
  rewrite [h3]
  cbv
  rewrite [h1]
  cbv
  rewrite [h7]
  cbv
  rewrite [e1]
  cbv
  rewrite [h4]
  cbv
theorem lp_ref11_Get_no (xs os : List AV) (s1 s2 : ByteArray) (o : Int) (n : Nat) (e0 : xs.length = n)
    (h1 : evl (envV A) (.call 58 [.sl 1 xs .imm] []) = some (.ret (.tup [.agg [.s (.int .i64 o), .s (.string s1), .s (.string s2)], .s (.int .i64 0)]) []))
    (h3 : A.lt 0 (.ofNat n) = true) :
    lpOf (envV A) 17 bd17 2 { n := 28, k := 0, fr := [(0, .sl 1 xs .imm), (4, .sl 3 os .full)], O := [] } = some (.code .ret { n := 28, k := 0, fr := [(2, .sl 3 [] .full), (3, .s (.int .i64 7))], O := [] }) := by
  rw [lp_step (envV A) 17 (c0 := bd17) (lv := lvF17) rfl rfl]
  have klt := hA.lt; have kle := hA.le; have keq := hA.eq; have knle := hA.nle; have kneq := hA.neq
  generalize lpOf (envV A) 17 bd17 = LP
  generalize evl (envV A) = E at e0 h1 h3 ⊢
  obtain ⟨aadd, asub, amul, arem, aquo, awr, ashr, aeq, alt, ale, aseq, aslt, acat, acut, asiz, aat, anle, aneq, afit⟩ := A
  simp only at klt kle keq knle kneq
  try simp only at h1 h3
  conv at e0 => lhs; cbv
  cbv
  rewrite [e0]
  cbv
  rewrite [h3]
  cbv
  rewrite [h1]
  cbv
  rewrite [keq (0) (0)]
  cbv
theorem lp_ref11_Get_end (os : List AV) :
    lpOf (envV A) 17 bd17 2 { n := 28, k := 0, fr := [(0, .sl 1 [] .imm), (4, .sl 3 os .full)], O := [] } = some (.code (.exit 0) { n := 28, k := 0, fr := [(0, .sl 1 [] .imm), (4, .sl 3 os .full), (9, .s (.bool false))], O := [] }) := by
  rw [lp_step (envV A) 17 (c0 := bd17) (lv := lvF17) rfl rfl]
  have klt := hA.lt; have kle := hA.le; have keq := hA.eq; have knle := hA.nle; have kneq := hA.neq
  generalize lpOf (envV A) 17 bd17 = LP
  generalize evl (envV A) = E
  obtain ⟨aadd, asub, amul, arem, aquo, awr, ashr, aeq, alt, ale, aseq, aslt, acat, acut, asiz, aat, anle, aneq, afit⟩ := A
  simp only at klt kle keq knle kneq
  cbv
  rewrite [klt (0) (Int.ofNat 0)]
  cbv
theorem eq_ref11_Get_ok (xs os : List AV) (k : Nat) (e0 : os.length = k) (e1 : os.take k = os) (h2 : A.nle k k = true) (h1 : lpOf (envV A) 17 bd17 2 { n := 28, k := 0, fr := [(0, .sl 1 xs .imm), (4, .sl 3 [] .full)], O := [] } = some (.code (.exit 0) { n := 28, k := 0, fr := [(0, .sl 1 [] .imm), (4, .sl 3 os .full), (9, .s (.bool false))], O := [] }))
     : evl (envV A) (.call 17 [.sl 1 xs .imm] []) = some (.ret (.tup [.sl 3 os .full, .s (.int .i64 0)]) []) := by
  rw [evl_fn (envV A) 17 _ _ (fn := Try.f17) (c := bd17) (lv := lvF17) rfl rfl rfl rfl rfl rfl]
  rw [lp_split (lpOf (envV A) 17 bd17) 2]
  generalize lpOf (envV A) 17 bd17 2 = L2 at h1 e0 e1 h2 ⊢
  generalize lpOf (envV A) 17 bd17 = LP
  generalize evl (envV A) = E at h1 e0 e1 h2 ⊢
  obtain ⟨aadd, asub, amul, arem, aquo, awr, ashr, aeq, alt, ale, aseq, aslt, acat, acut, asiz, aat, anle, aneq, afit⟩ := A
  try simp only at h1 h2
  conv at e0 => lhs; cbv
  conv at e1 => lhs; cbv
  cbv
  rewrite [h1]
  cbv
  rewrite [e0]
  cbv
  rewrite [e1]
  cbv
  rewrite [h2]
  cbv
theorem eq_ref11_Get_no (xs : List AV) (e : Int) (h1 : lpOf (envV A) 17 bd17 2 { n := 28, k := 0, fr := [(0, .sl 1 xs .imm), (4, .sl 3 [] .full)], O := [] } = some (.code .ret { n := 28, k := 0, fr := [(2, .sl 3 [] .full), (3, .s (.int .i64 e))], O := [] }))
     : evl (envV A) (.call 17 [.sl 1 xs .imm] []) = some (.ret (.tup [.sl 3 [] .full, .s (.int .i64 e)]) []) := by
  rw [evl_fn (envV A) 17 _ _ (fn := Try.f17) (c := bd17) (lv := lvF17) rfl rfl rfl rfl rfl rfl]
  rw [lp_split (lpOf (envV A) 17 bd17) 2]
  generalize lpOf (envV A) 17 bd17 2 = L2 at h1 ⊢
  generalize lpOf (envV A) 17 bd17 = LP
  generalize evl (envV A) = E at h1 ⊢
  obtain ⟨aadd, asub, amul, arem, aquo, awr, ashr, aeq, alt, ale, aseq, aslt, acat, acut, asiz, aat, anle, aneq, afit⟩ := A
  try simp only at h1
  cbv
  rewrite [h1]
  cbv
end
/-! placketref11.one -/
theorem lget_bl {l : List UInt8} {i : Nat} {b : UInt8} (h : l[i]? = some b) : lget (bl l) i = some (.s (.int .u8 (.ofNat b.toNat))) := by
  rw [lget_get, bl, List.getElem?_map, h]
  rfl
/-- a round that takes a text: where it stands, what stands behind -/
theorem round_ok {bs l1 : List UInt8} {at_ : Nat} {s : ByteArray} (ha : at_ < 4611686018427387904) (hb : bs.length ≤ 4611686018427387904) (h : takeT (bs.drop at_) = some (s, l1)) :
    ∃ (c d : Nat) (b1 : List UInt8), lget (bl bs) at_ = some (.s (.int .u8 (.ofNat c))) ∧ bytesOf (lcut (bl bs) (at_ + 1) (d - (at_ + 1))) = some b1 ∧ s = ⟨⟨b1⟩⟩ ∧ realAr.wr .i64 (.ofNat c) = .ofNat c ∧ realAr.add .i64 (.ofNat at_) 1 = .ofNat (Nat.succ at_) ∧
      realAr.add .i64 (.ofNat (Nat.succ at_)) (.ofNat c) = .ofNat d ∧ realAr.le (.ofNat bs.length) (.ofNat at_) = false ∧ realAr.lt (.ofNat bs.length) (.ofNat d) = false ∧ realAr.nle (Nat.succ at_) d = true ∧ realAr.nle d bs.length = true ∧ bs.drop d = l1 ∧ at_ < d ∧ d ≤ bs.length := by
  match hd : bs.drop at_, h with
  | b :: l, h =>
    rw [takeT_cons] at h
    have hb' : b.toNat < 256 := b.toNat_lt
    have hlen : at_ < bs.length := by
      by_cases q : at_ < bs.length
      · exact q
      · rw [List.drop_of_length_le (by omega)] at hd; cases hd
    have hll : l.length + 1 = bs.length - at_ := by
      have := congrArg List.length hd
      simpa using this.symm
    have hl : bs.drop (at_ + 1) = l := by
      rw [← List.drop_drop, hd]
      rfl
    split at h
    · cases h
    · rename_i hn
      cases h
      refine ⟨b.toNat, at_ + 1 + b.toNat, l.take b.toNat, lget_bl ?_, ?_, rfl, wrap_nat (by omega), ?_, ?_, ?_, ?_, ?_, ?_, ?_, by omega, by omega⟩
      · have := congrArg (fun l => l[0]?) hd
        simpa using this
      · rw [bl_cut, hl, bl_bytes]
        congr 2
        omega
      · rw [realAr_ok.add]
        exact wrap_nat (n := at_ + 1) (by omega)
      · rw [realAr_ok.add]
        exact wrap_nat (n := at_ + 1 + b.toNat) (by omega)
      · simp [realAr_ok.le] <;> omega
      · simp [realAr_ok.lt] <;> omega
      · simp [realAr_ok.nle] <;> omega
      · simp [realAr_ok.nle] <;> omega
      · rw [← List.drop_drop, hl]
/-- a round that fails -/
theorem round_no {bs : List UInt8} {at_ : Nat} (ha : at_ < 4611686018427387904) (hb : bs.length ≤ 4611686018427387904) (h : takeT (bs.drop at_) = none) :
    realAr.le (.ofNat bs.length) (.ofNat at_) = true ∨ ∃ c d : Nat, lget (bl bs) at_ = some (.s (.int .u8 (.ofNat c))) ∧ realAr.wr .i64 (.ofNat c) = .ofNat c ∧ realAr.add .i64 (.ofNat at_) 1 = .ofNat (Nat.succ at_) ∧
      realAr.add .i64 (.ofNat (Nat.succ at_)) (.ofNat c) = .ofNat d ∧ realAr.le (.ofNat bs.length) (.ofNat at_) = false ∧ realAr.lt (.ofNat bs.length) (.ofNat d) = true := by
  match hd : bs.drop at_, h with
  | [], h =>
    left
    have := congrArg List.length hd
    simp at this
    simp [realAr_ok.le] <;> omega
  | b :: l, h =>
    right
    rw [takeT_cons] at h
    have hb' : b.toNat < 256 := b.toNat_lt
    have hlen : at_ < bs.length := by
      by_cases q : at_ < bs.length
      · exact q
      · rw [List.drop_of_length_le (by omega)] at hd; cases hd
    have hll : l.length + 1 = bs.length - at_ := by
      have := congrArg List.length hd
      simpa using this.symm
    split at h
    · rename_i hn
      refine ⟨b.toNat, at_ + 1 + b.toNat, lget_bl ?_, wrap_nat (by omega), ?_, ?_, ?_, ?_⟩
      · have := congrArg (fun l => l[0]?) hd
        simpa using this
      · rw [realAr_ok.add]
        exact wrap_nat (n := at_ + 1) (by omega)
      · rw [realAr_ok.add]
        exact wrap_nat (n := at_ + 1 + b.toNat) (by omega)
      · simp [realAr_ok.le] <;> omega
      · simp [realAr_ok.lt] <;> omega
    · cases h
end Go.Va
