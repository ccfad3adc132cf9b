/- The functions that the statement reaches, by equations: no statement of its own. -/
import Derived.Test.YtmklimlepgiffabEq5
set_option linter.unusedVariables false
set_option linter.unusedSimpArgs false
namespace Go.Va
open Go.Proofs
set_option maxRecDepth 100000
set_option maxHeartbeats 4000000
section
variable (A : Ar) (hA : ArOk A)
include hA
theorem eq_code_Get_ok (xs os : List AV) (k : Nat) (e0 : os.length = k) (e1 : os.take k = os) (h2 : A.nle k k = true) (h1 : lpOf (envV A) 16 bd16 2 { n := 32, k := 0, fr := [(0, .sl 1 xs .imm), (4, .sl 3 [] .full)], O := [] } = some (.code (.exit 0) { n := 32, k := 0, fr := [(0, .sl 1 [] .imm), (4, .sl 3 os .full), (10, .s (.bool false))], O := [] }))
     : evl (envV A) (.call 16 [.sl 1 xs .imm] []) = some (.ret (.tup [.sl 3 os .full, .s .nilIface]) []) := by
  rw [evl_fn (envV A) 16 _ _ (fn := Try.f16) (c := bd16) (lv := lvF16) rfl rfl rfl rfl rfl rfl]
  rw [lp_split (lpOf (envV A) 16 bd16) 2]
  generalize lpOf (envV A) 16 bd16 2 = L2 at h1 e0 e1 h2 ⊢
  generalize lpOf (envV A) 16 bd16 = LP
  generalize evl (envV A) = E at h1 e0 e1 h2 ⊢
  obtain ⟨aadd, asub, amul, arem, aquo, awr, ashr, aeq, alt, ale, aseq, aslt, acat, acut, asiz, aat, anle, aneq, afit⟩ := A
  try simp only at h1 h2
  cbv at e0 e1
  cbv
  rewrite [h1]
  cbv
  rewrite [e0]
  cbv
  rewrite [h2]
  cbv
  rewrite [e1]
  cbv
theorem eq_code_Get_no (xs : List AV) (e : Int) (h1 : lpOf (envV A) 16 bd16 2 { n := 32, k := 0, fr := [(0, .sl 1 xs .imm), (4, .sl 3 [] .full)], O := [] } = some (.code .ret { n := 32, k := 0, fr := [(2, .sl 3 [] .full), (3, .s (.iface 39 (.int .i64 e)))], O := [] }))
     : evl (envV A) (.call 16 [.sl 1 xs .imm] []) = some (.ret (.tup [.sl 3 [] .full, .s (.iface 39 (.int .i64 e))]) []) := by
  rw [evl_fn (envV A) 16 _ _ (fn := Try.f16) (c := bd16) (lv := lvF16) rfl rfl rfl rfl rfl rfl]
  rw [lp_split (lpOf (envV A) 16 bd16) 2]
  generalize lpOf (envV A) 16 bd16 2 = L2 at h1 ⊢
  generalize lpOf (envV A) 16 bd16 = LP
  generalize evl (envV A) = E at h1 ⊢
  obtain ⟨aadd, asub, amul, arem, aquo, awr, ashr, aeq, alt, ale, aseq, aslt, acat, acut, asiz, aat, anle, aneq, afit⟩ := A
  try simp only at h1
  cbv
  rewrite [h1]
  cbv
end
def errI : Int → AV := fun e => .s (.iface 39 (.int .i64 e))
def resGet : Except Int (List InsT) → AV
  | .ok is => .tup [.sl 3 (is.map insA) .full, .s .nilIface]
  | .error e => .tup [.sl 3 [] .full, errI e]
theorem s_code_Get (bs : List UInt8) (hs : bs.length ≤ 9223372036854775807) : evl (envV realAr) (.call 16 [.sl 1 (bl bs) .imm] []) = some (.ret (resGet (getR bs.length [] bs)) []) := by
  have h := lp_code_Get bs.length bs [] (Nat.le_refl _) hs (by simp)
  cases hr : getR bs.length [] bs with
  | ok is =>
    rw [hr] at h
    exact eq_code_Get_ok realAr realAr_ok _ _ is.length (by simp) (by rw [List.take_of_length_le (by simp)]) (by simp [realAr_ok.nle]) h
  | error e =>
    rw [hr] at h
    exact eq_code_Get_no realAr realAr_ok _ e h
theorem eq_ref11_texts (A : Ar) (o : Int) : evl (envV A) (.call 94 [.s (.int .i64 o)] []) = some (.ret (.s (.int .i64 (bif A.eq o 1 then 2 else bif A.eq o 3 then 2 else bif A.eq o 5 then 2 else bif A.eq o 6 then 2 else bif A.eq o 4 then 1 else 0))) []) := by
  rw [evl_fn (envV A) 94 _ _ (fn := Try.f94) (c := bd94) (lv := lvF94) rfl rfl rfl rfl rfl rfl]
  generalize lpOf (envV A) 94 bd94 = LP
  generalize evl (envV A) = E
  obtain ⟨aadd, asub, amul, arem, aquo, awr, ashr, aeq, alt, ale, aseq, aslt, acat, acut, asiz, aat, anle, aneq, afit⟩ := A
  cbv
  cases c1 : aeq o 1
  · cbv
    cases c2 : aeq o 3
    · cbv
      cases c3 : aeq o 5
      · cbv
        cases c4 : aeq o 6
        · cbv
          cases c5 : aeq o 4
          · cbv
          · cbv
        · cbv
      · cbv
    · cbv
  · cbv
def stR (xs : List AV) (m at_ k : Nat) (s1 s2 : ByteArray) : St := { n := 63, k := 0, fr := [(0, .sl 1 xs .imm), (2, .ptr 0 0), (4, .ptr 1 0), (5, .s (.int .i64 (.ofNat at_))), (6, .s (.int .i64 (.ofNat k)))], O := [[.s (.int .i64 0), .s (.string ⟨#[]⟩), .s (.string ⟨#[]⟩)], [.s (.int .i64 (.ofNat m)), .s (.string s1), .s (.string s2)]] }
def stRf : St := { n := 63, k := 0, fr := [(2, .ptr 0 0), (3, .s (.int .i64 0))], O := [[.s (.int .i64 0), .s (.string ⟨#[]⟩), .s (.string ⟨#[]⟩)]] }
def stRe (xs : List AV) (m at_ k : Nat) (s1 s2 : ByteArray) : St := { n := 63, k := 0, fr := [(0, .sl 1 xs .imm), (2, .ptr 0 0), (4, .ptr 1 0), (5, .s (.int .i64 (.ofNat at_))), (6, .s (.int .i64 (.ofNat k))), (18, .s (.bool false))], O := [[.s (.int .i64 0), .s (.string ⟨#[]⟩), .s (.string ⟨#[]⟩)], [.s (.int .i64 (.ofNat m)), .s (.string s1), .s (.string s2)]] }
section
variable (A : Ar) (hA : ArOk A)
include hA
theorem lp_ref11_one_0 (xs ys : List AV) (b1 : List UInt8) (n m at_ t c d : Nat) (s1 s2 : ByteArray) {r : Option Res} (e0 : xs.length = n) (e1 : lget xs at_ = some (.s (.int .u8 (.ofNat c)))) (e2 : lcut xs (at_ + 1) (d - (at_ + 1)) = ys) (e3 : bytesOf ys = some b1) (h1 : A.wr .i64 (.ofNat c) = .ofNat c)
   (h2 : A.add .i64 (.ofNat at_) 1 = .ofNat (Nat.succ at_)) (h3 : A.add .i64 (.ofNat (Nat.succ at_)) (.ofNat c) = .ofNat d) (h4 : evl (envV A) (.call 94 [.s (.int .i64 (.ofNat m))] []) = some (.ret (.s (.int .i64 (.ofNat t))) []))
   (h5 : A.lt (.ofNat 0) (.ofNat t) = true) (h6 : A.le (.ofNat n) (.ofNat at_) = false) (h7 : A.lt (.ofNat n) (.ofNat d) = false) (h8 : A.nle (Nat.succ at_) d = true) (h9 : A.nle d n = true) (h10 : A.nle n n = true)
   (hr : lpOf (envV A) 58 bd58 4 (stR xs m d 1 ⟨⟨b1⟩⟩ s2) = r) (ha : A.add .i64 (.ofNat 0) 1 = .ofNat 1) (hq : A.eq (.ofNat 0) 0 = true)
     : lpOf (envV A) 58 bd58 4 (stR xs m at_ 0 s1 s2) = r := by
  unfold stR at hr ⊢
  rw [lp_step (envV A) 58 (c0 := bd58) (lv := lvF58) rfl rfl]
  rw [lp_split (lpOf (envV A) 58 bd58) 4]
  generalize lpOf (envV A) 58 bd58 4 = L4 at e0 e1 e2 e3 h1 h2 h3 h4 h5 h6 h7 h8 h9 h10 hr ha hq ⊢
  generalize lpOf (envV A) 58 bd58 = LP
  generalize evl (envV A) = E at e0 e1 e2 e3 h1 h2 h3 h4 h5 h6 h7 h8 h9 h10 hr ha hq ⊢
  obtain ⟨aadd, asub, amul, arem, aquo, awr, ashr, aeq, alt, ale, aseq, aslt, acat, acut, asiz, aat, anle, aneq, afit⟩ := A
  try simp only at h1 h2 h3 h4 h5 h6 h7 h8 h9 h10 hr ha hq
  cbv at e0 e1 e2 e3
  cbv
  rewrite [h4]
  cbv
  rewrite [h5]
  cbv
  rewrite [e0]
  cbv
  rewrite [h6]
  cbv
  rewrite [h2]
  cbv
  rewrite [e1]
  cbv
  rewrite [h1]
  cbv
  rewrite [h3]
  cbv
  rewrite [e0]
  cbv
  rewrite [h7]
  cbv
  rewrite [hq]
  cbv
  rewrite [h2]
  cbv
  rewrite [h8]
  cbv
  rewrite [e0]
  cbv
  rewrite [h9]
  cbv
  rewrite [e2]
  cbv
  rewrite [e3]
  cbv
  rewrite [ha]
  cbv
  rewrite [hr]
  cbv
theorem lp_ref11_one_1 (xs ys : List AV) (b1 : List UInt8) (n m at_ t c d : Nat) (s1 s2 : ByteArray) {r : Option Res} (e0 : xs.length = n) (e1 : lget xs at_ = some (.s (.int .u8 (.ofNat c)))) (e2 : lcut xs (at_ + 1) (d - (at_ + 1)) = ys) (e3 : bytesOf ys = some b1) (h1 : A.wr .i64 (.ofNat c) = .ofNat c)
   (h2 : A.add .i64 (.ofNat at_) 1 = .ofNat (Nat.succ at_)) (h3 : A.add .i64 (.ofNat (Nat.succ at_)) (.ofNat c) = .ofNat d) (h4 : evl (envV A) (.call 94 [.s (.int .i64 (.ofNat m))] []) = some (.ret (.s (.int .i64 (.ofNat t))) []))
   (h5 : A.lt (.ofNat 1) (.ofNat t) = true) (h6 : A.le (.ofNat n) (.ofNat at_) = false) (h7 : A.lt (.ofNat n) (.ofNat d) = false) (h8 : A.nle (Nat.succ at_) d = true) (h9 : A.nle d n = true) (h10 : A.nle n n = true)
   (hr : lpOf (envV A) 58 bd58 4 (stR xs m d 2 s1 ⟨⟨b1⟩⟩) = r) (ha : A.add .i64 (.ofNat 1) 1 = .ofNat 2) (hq : A.eq (.ofNat 1) 0 = false)
     : lpOf (envV A) 58 bd58 4 (stR xs m at_ 1 s1 s2) = r := by
  unfold stR at hr ⊢
  rw [lp_step (envV A) 58 (c0 := bd58) (lv := lvF58) rfl rfl]
  rw [lp_split (lpOf (envV A) 58 bd58) 4]
  generalize lpOf (envV A) 58 bd58 4 = L4 at e0 e1 e2 e3 h1 h2 h3 h4 h5 h6 h7 h8 h9 h10 hr ha hq ⊢
  generalize lpOf (envV A) 58 bd58 = LP
  generalize evl (envV A) = E at e0 e1 e2 e3 h1 h2 h3 h4 h5 h6 h7 h8 h9 h10 hr ha hq ⊢
  obtain ⟨aadd, asub, amul, arem, aquo, awr, ashr, aeq, alt, ale, aseq, aslt, acat, acut, asiz, aat, anle, aneq, afit⟩ := A
  try simp only at h1 h2 h3 h4 h5 h6 h7 h8 h9 h10 hr ha hq
  cbv at e0 e1 e2 e3
  cbv
  rewrite [h4]
  cbv
  rewrite [h5]
  cbv
  rewrite [e0]
  cbv
  rewrite [h6]
  cbv
  rewrite [h2]
  cbv
  rewrite [e1]
  cbv
  rewrite [h1]
  cbv
  rewrite [h3]
  cbv
  rewrite [e0]
  cbv
  rewrite [h7]
  cbv
  rewrite [hq]
  cbv
  rewrite [h2]
  cbv
  rewrite [h8]
  cbv
  rewrite [e0]
  cbv
  rewrite [h9]
  cbv
  rewrite [e2]
  cbv
  rewrite [e3]
  cbv
  rewrite [ha]
  cbv
  rewrite [hr]
  cbv
theorem lp_ref11_one_f1 (xs : List AV) (n m at_ t k : Nat) (s1 s2 : ByteArray) (e0 : xs.length = n) (h4 : evl (envV A) (.call 94 [.s (.int .i64 (.ofNat m))] []) = some (.ret (.s (.int .i64 (.ofNat t))) []))
   (h5 : A.lt (.ofNat k) (.ofNat t) = true) (h6 : A.le (.ofNat n) (.ofNat at_) = true)
     : lpOf (envV A) 58 bd58 4 (stR xs m at_ k s1 s2) = some (.code .ret stRf) := by
  unfold stR stRf
  rw [lp_step (envV A) 58 (c0 := bd58) (lv := lvF58) rfl rfl]
  generalize lpOf (envV A) 58 bd58 = LP
  generalize evl (envV A) = E at e0 h4 h5 h6 ⊢
  obtain ⟨aadd, asub, amul, arem, aquo, awr, ashr, aeq, alt, ale, aseq, aslt, acat, acut, asiz, aat, anle, aneq, afit⟩ := A
  try simp only at h4 h5 h6
  cbv at e0
  cbv
  rewrite [h4]
  cbv
  rewrite [h5]
  cbv
  rewrite [e0]
  cbv
  rewrite [h6]
  cbv
theorem lp_ref11_one_f2 (xs : List AV) (n m at_ t k c d : Nat) (s1 s2 : ByteArray) (e0 : xs.length = n) (e1 : lget xs at_ = some (.s (.int .u8 (.ofNat c)))) (h1 : A.wr .i64 (.ofNat c) = .ofNat c)
   (h2 : A.add .i64 (.ofNat at_) 1 = .ofNat (Nat.succ at_)) (h3 : A.add .i64 (.ofNat (Nat.succ at_)) (.ofNat c) = .ofNat d) (h4 : evl (envV A) (.call 94 [.s (.int .i64 (.ofNat m))] []) = some (.ret (.s (.int .i64 (.ofNat t))) []))
   (h5 : A.lt (.ofNat k) (.ofNat t) = true) (h6 : A.le (.ofNat n) (.ofNat at_) = false) (h7 : A.lt (.ofNat n) (.ofNat d) = true) 
     : lpOf (envV A) 58 bd58 4 (stR xs m at_ k s1 s2) = some (.code .ret stRf) := by
  unfold stR stRf
  rw [lp_step (envV A) 58 (c0 := bd58) (lv := lvF58) rfl rfl]
  generalize lpOf (envV A) 58 bd58 = LP
  generalize evl (envV A) = E at e0 e1 h1 h2 h3 h4 h5 h6 h7 ⊢
  obtain ⟨aadd, asub, amul, arem, aquo, awr, ashr, aeq, alt, ale, aseq, aslt, acat, acut, asiz, aat, anle, aneq, afit⟩ := A
  try simp only at h1 h2 h3 h4 h5 h6 h7
  cbv at e0 e1
  cbv
  rewrite [h4]
  cbv
  rewrite [h5]
  cbv
  rewrite [e0]
  cbv
  rewrite [h6]
  cbv
  rewrite [h2]
  cbv
  rewrite [e1]
  cbv
  rewrite [h1]
  cbv
  rewrite [h3]
  cbv
  rewrite [e0]
  cbv
  rewrite [h7]
  cbv
theorem lp_ref11_one_end (xs : List AV) (m at_ t k : Nat) (s1 s2 : ByteArray) (h4 : evl (envV A) (.call 94 [.s (.int .i64 (.ofNat m))] []) = some (.ret (.s (.int .i64 (.ofNat t))) []))
   (h5 : A.lt (.ofNat k) (.ofNat t) = false)
     : lpOf (envV A) 58 bd58 4 (stR xs m at_ k s1 s2) = some (.code (.exit 0) (stRe xs m at_ k s1 s2)) := by
  unfold stR stRe
  rw [lp_step (envV A) 58 (c0 := bd58) (lv := lvF58) rfl rfl]
  generalize lpOf (envV A) 58 bd58 = LP
  generalize evl (envV A) = E at h4 h5 ⊢
  obtain ⟨aadd, asub, amul, arem, aquo, awr, ashr, aeq, alt, ale, aseq, aslt, acat, acut, asiz, aat, anle, aneq, afit⟩ := A
  try simp only at h4 h5
  cbv
  rewrite [h4]
  cbv
  rewrite [h5]
  cbv
theorem eq_ref11_one_f (xs : List AV) (n m : Nat) (e0 : xs.length = n) (e1 : lget xs 0 = some (.s (.int .u8 (.ofNat m)))) (h1 : A.wr .i64 (.ofNat m) = .ofNat m)
    (h2 : lpOf (envV A) 58 bd58 4 (stR xs m 1 0 ⟨#[]⟩ ⟨#[]⟩) = some (.code .ret stRf)) :
    evl (envV A) (.call 58 [.sl 1 xs .imm] []) = some (.ret (.tup [insA (0, ⟨#[]⟩, ⟨#[]⟩), .s (.int .i64 0)]) []) := by
  unfold stR stRf at h2
  simp only [show Int.ofNat 0 = 0 from rfl, show Int.ofNat 1 = 1 from rfl] at h2
  unfold insA
  rw [evl_fn (envV A) 58 _ _ (fn := Try.f58) (c := bd58) (lv := lvF58) rfl rfl rfl rfl rfl rfl]
  rw [lp_split (lpOf (envV A) 58 bd58) 4]
  generalize lpOf (envV A) 58 bd58 4 = L4 at e0 e1 h1 h2 ⊢
  generalize lpOf (envV A) 58 bd58 = LP
  generalize evl (envV A) = E at e0 e1 h1 h2 ⊢
  obtain ⟨aadd, asub, amul, arem, aquo, awr, ashr, aeq, alt, ale, aseq, aslt, acat, acut, asiz, aat, anle, aneq, afit⟩ := A
  try simp only at h1 h2
  cbv at e0 e1
  cbv
  rewrite [e1]
  cbv
  rewrite [h1]
  cbv
  rewrite [h2]
  cbv
theorem eq_ref11_one_ok (xs : List AV) (n m at_ k : Nat) (s1 s2 : ByteArray) (may : Bool) (e0 : xs.length = n) (e1 : lget xs 0 = some (.s (.int .u8 (.ofNat m)))) (h1 : A.wr .i64 (.ofNat m) = .ofNat m)
    (h2 : lpOf (envV A) 58 bd58 4 (stR xs m 1 0 ⟨#[]⟩ ⟨#[]⟩) = some (.code (.exit 0) (stRe xs m at_ k s1 s2)))
    (h3 : evl (envV A) (.call 95 [.agg [.s (.int .i64 (.ofNat m)), .s (.string s1), .s (.string s2)]] []) = some (.ret (.s (.bool may)) [])) :
    evl (envV A) (.call 58 [.sl 1 xs .imm] []) = some (.ret (bif may then .tup [insA (m, s1, s2), .s (.int .i64 (.ofNat at_))] else .tup [insA (0, ⟨#[]⟩, ⟨#[]⟩), .s (.int .i64 0)]) []) := by
  unfold stR stRe at h2
  simp only [show Int.ofNat 0 = 0 from rfl, show Int.ofNat 1 = 1 from rfl] at h2
  unfold insA
  rw [evl_fn (envV A) 58 _ _ (fn := Try.f58) (c := bd58) (lv := lvF58) rfl rfl rfl rfl rfl rfl]
  rw [lp_split (lpOf (envV A) 58 bd58) 4]
  generalize lpOf (envV A) 58 bd58 4 = L4 at e0 e1 h1 h2 h3 ⊢
  generalize lpOf (envV A) 58 bd58 = LP
  generalize evl (envV A) = E at e0 e1 h1 h2 h3 ⊢
  obtain ⟨aadd, asub, amul, arem, aquo, awr, ashr, aeq, alt, ale, aseq, aslt, acat, acut, asiz, aat, anle, aneq, afit⟩ := A
  try simp only at h1 h2 h3
  cbv at e0 e1
  cbv
  rewrite [e1]
  cbv
  rewrite [h1]
  cbv
  rewrite [h2]
  cbv
  rewrite [h3]
  cbv
  cases may
  · cbv
  · cbv
end
end Go.Va
