/- The functions that the statement reaches, by equations: no statement of its own. -/
import Derived.Test.YtmklimlepgiffabEq6
set_option linter.unusedVariables false
set_option linter.unusedSimpArgs false
namespace Go.Va
open Go.Proofs
set_option maxRecDepth 100000
set_option maxHeartbeats 4000000
section
variable (A : Ar) (hA : ArOk A)
include hA
theorem lp_ref11_Get_on (xs os os2 ws : List AV) (s1 s2 : ByteArray) (o : Int) (n k at_ : Nat) {r : Option Res} (e0 : xs.length = n) (e1 : os.length = k)
    (e2 : os ++ [.agg [.s (.int .i64 o), .s (.string s1), .s (.string s2)]] = os2) (e3 : lcut xs at_ (n - at_) = ws)
    (h1 : evl (envV A) (.call 58 [.sl 1 xs .imm] []) = some (.ret (.tup [.agg [.s (.int .i64 o), .s (.string s1), .s (.string s2)], .s (.int .i64 (.ofNat at_))]) []))
    (h3 : A.lt 0 (.ofNat n) = true) (h4 : A.eq (.ofNat k) 120 = false) (h5 : A.neq k k = true) (h6 : A.fit (Nat.succ k) 40 = true) (h7 : A.eq (.ofNat at_) 0 = false) (h8 : A.nle at_ n = true) (h9 : A.nle n n = true)
    (h2 : lpOf (envV A) 17 bd17 2 { n := 28, k := 0, fr := [(0, .sl 1 ws .imm), (4, .sl 3 os2 .full)], O := [] } = r) :
    lpOf (envV A) 17 bd17 2 { n := 28, k := 0, fr := [(0, .sl 1 xs .imm), (4, .sl 3 os .full)], O := [] } = r := by
  rw [lp_step (envV A) 17 (c0 := bd17) (lv := lvF17) rfl rfl]
  rw [lp_split (lpOf (envV A) 17 bd17) 2]
  generalize lpOf (envV A) 17 bd17 2 = L2 at e0 e1 e2 e3 h1 h3 h4 h5 h6 h2 h7 h8 h9 ⊢
  generalize lpOf (envV A) 17 bd17 = LP
  generalize evl (envV A) = E at e0 e1 e2 e3 h1 h3 h4 h5 h6 h2 h7 h8 h9 ⊢
  obtain ⟨aadd, asub, amul, arem, aquo, awr, ashr, aeq, alt, ale, aseq, aslt, acat, acut, asiz, aat, anle, aneq, afit⟩ := A
  try simp only at h1 h3 h4 h5 h6 h2 h7 h8 h9
  cbv at e0 e1 e2 e3
  cbv
  rewrite [e0]
  cbv
  rewrite [h3]
  cbv
  rewrite [h1]
  cbv
  rewrite [h7]
  cbv
  rewrite [e1]
  cbv
  rewrite [h4]
  cbv
  rewrite [e1]
  cbv
  rewrite [h5]
  cbv
  rewrite [h6]
  cbv
  rewrite [e0]
  cbv
  rewrite [h8]
  cbv
  rewrite [h9]
  cbv
  rewrite [e2]
  cbv
  rewrite [e3]
  cbv
  rewrite [h2]
  cbv
theorem lp_ref11_Get_large (xs os : List AV) (s1 s2 : ByteArray) (o : Int) (n k at_ : Nat) (e0 : xs.length = n) (e1 : os.length = k)
    (h1 : evl (envV A) (.call 58 [.sl 1 xs .imm] []) = some (.ret (.tup [.agg [.s (.int .i64 o), .s (.string s1), .s (.string s2)], .s (.int .i64 (.ofNat at_))]) []))
    (h3 : A.lt 0 (.ofNat n) = true) (h4 : A.eq (.ofNat k) 120 = true) (h7 : A.eq (.ofNat at_) 0 = false) :
    lpOf (envV A) 17 bd17 2 { n := 28, k := 0, fr := [(0, .sl 1 xs .imm), (4, .sl 3 os .full)], O := [] } = some (.code .ret { n := 28, k := 0, fr := [(2, .sl 3 [] .full), (3, .s (.int .i64 13))], O := [] }) := by
  rw [lp_step (envV A) 17 (c0 := bd17) (lv := lvF17) rfl rfl]
  generalize lpOf (envV A) 17 bd17 = LP
  generalize evl (envV A) = E at e0 e1 h1 h3 h4 h7 ⊢
  obtain ⟨aadd, asub, amul, arem, aquo, awr, ashr, aeq, alt, ale, aseq, aslt, acat, acut, asiz, aat, anle, aneq, afit⟩ := A
  try simp only at h1 h3 h4 h7
  cbv at e0 e1
  cbv
  rewrite [e0]
  cbv
  rewrite [h3]
  cbv
  rewrite [h1]
  cbv
  rewrite [h7]
  cbv
  rewrite [e1]
  cbv
  rewrite [h4]
  cbv
theorem lp_ref11_Get_no (xs os : List AV) (s1 s2 : ByteArray) (o : Int) (n : Nat) (e0 : xs.length = n)
    (h1 : evl (envV A) (.call 58 [.sl 1 xs .imm] []) = some (.ret (.tup [.agg [.s (.int .i64 o), .s (.string s1), .s (.string s2)], .s (.int .i64 0)]) []))
    (h3 : A.lt 0 (.ofNat n) = true) :
    lpOf (envV A) 17 bd17 2 { n := 28, k := 0, fr := [(0, .sl 1 xs .imm), (4, .sl 3 os .full)], O := [] } = some (.code .ret { n := 28, k := 0, fr := [(2, .sl 3 [] .full), (3, .s (.int .i64 7))], O := [] }) := by
  rw [lp_step (envV A) 17 (c0 := bd17) (lv := lvF17) rfl rfl]
  have klt := hA.lt; have kle := hA.le; have keq := hA.eq; have knle := hA.nle; have kneq := hA.neq
  generalize lpOf (envV A) 17 bd17 = LP
  generalize evl (envV A) = E at e0 h1 h3 ⊢
  obtain ⟨aadd, asub, amul, arem, aquo, awr, ashr, aeq, alt, ale, aseq, aslt, acat, acut, asiz, aat, anle, aneq, afit⟩ := A
  simp only at klt kle keq knle kneq
  try simp only at h1 h3
  cbv at e0
  cbv
  rewrite [e0]
  cbv
  rewrite [h3]
  cbv
  rewrite [h1]
  cbv
  rewrite [keq (0) (0)]
  cbv
theorem lp_ref11_Get_end (os : List AV) :
    lpOf (envV A) 17 bd17 2 { n := 28, k := 0, fr := [(0, .sl 1 [] .imm), (4, .sl 3 os .full)], O := [] } = some (.code (.exit 0) { n := 28, k := 0, fr := [(0, .sl 1 [] .imm), (4, .sl 3 os .full), (9, .s (.bool false))], O := [] }) := by
  rw [lp_step (envV A) 17 (c0 := bd17) (lv := lvF17) rfl rfl]
  have klt := hA.lt; have kle := hA.le; have keq := hA.eq; have knle := hA.nle; have kneq := hA.neq
  generalize lpOf (envV A) 17 bd17 = LP
  generalize evl (envV A) = E
  obtain ⟨aadd, asub, amul, arem, aquo, awr, ashr, aeq, alt, ale, aseq, aslt, acat, acut, asiz, aat, anle, aneq, afit⟩ := A
  simp only at klt kle keq knle kneq
  cbv
  rewrite [klt (0) (Int.ofNat 0)]
  cbv
theorem eq_ref11_Get_ok (xs os : List AV) (k : Nat) (e0 : os.length = k) (e1 : os.take k = os) (h2 : A.nle k k = true) (h1 : lpOf (envV A) 17 bd17 2 { n := 28, k := 0, fr := [(0, .sl 1 xs .imm), (4, .sl 3 [] .full)], O := [] } = some (.code (.exit 0) { n := 28, k := 0, fr := [(0, .sl 1 [] .imm), (4, .sl 3 os .full), (9, .s (.bool false))], O := [] }))
     : evl (envV A) (.call 17 [.sl 1 xs .imm] []) = some (.ret (.tup [.sl 3 os .full, .s (.int .i64 0)]) []) := by
  rw [evl_fn (envV A) 17 _ _ (fn := Try.f17) (c := bd17) (lv := lvF17) rfl rfl rfl rfl rfl rfl]
  rw [lp_split (lpOf (envV A) 17 bd17) 2]
  generalize lpOf (envV A) 17 bd17 2 = L2 at h1 e0 e1 h2 ⊢
  generalize lpOf (envV A) 17 bd17 = LP
  generalize evl (envV A) = E at h1 e0 e1 h2 ⊢
  obtain ⟨aadd, asub, amul, arem, aquo, awr, ashr, aeq, alt, ale, aseq, aslt, acat, acut, asiz, aat, anle, aneq, afit⟩ := A
  try simp only at h1 h2
  cbv at e0 e1
  cbv
  rewrite [h1]
  cbv
  rewrite [e0]
  cbv
  rewrite [h2]
  cbv
  rewrite [e1]
  cbv
theorem eq_ref11_Get_no (xs : List AV) (e : Int) (h1 : lpOf (envV A) 17 bd17 2 { n := 28, k := 0, fr := [(0, .sl 1 xs .imm), (4, .sl 3 [] .full)], O := [] } = some (.code .ret { n := 28, k := 0, fr := [(2, .sl 3 [] .full), (3, .s (.int .i64 e))], O := [] }))
     : evl (envV A) (.call 17 [.sl 1 xs .imm] []) = some (.ret (.tup [.sl 3 [] .full, .s (.int .i64 e)]) []) := by
  rw [evl_fn (envV A) 17 _ _ (fn := Try.f17) (c := bd17) (lv := lvF17) rfl rfl rfl rfl rfl rfl]
  rw [lp_split (lpOf (envV A) 17 bd17) 2]
  generalize lpOf (envV A) 17 bd17 2 = L2 at h1 ⊢
  generalize lpOf (envV A) 17 bd17 = LP
  generalize evl (envV A) = E at h1 ⊢
  obtain ⟨aadd, asub, amul, arem, aquo, awr, ashr, aeq, alt, ale, aseq, aslt, acat, acut, asiz, aat, anle, aneq, afit⟩ := A
  try simp only at h1
  cbv
  rewrite [h1]
  cbv
end
/-! placketref11.one -/
theorem lget_bl {l : List UInt8} {i : Nat} {b : UInt8} (h : l[i]? = some b) : lget (bl l) i = some (.s (.int .u8 (.ofNat b.toNat))) := by
  rw [lget_get, bl, List.getElem?_map, h]
  rfl
/-- a round that takes a text: where it stands, what stands behind -/
theorem round_ok {bs l1 : List UInt8} {at_ : Nat} {s : ByteArray} (ha : at_ < 4611686018427387904) (hb : bs.length ≤ 4611686018427387904) (h : takeT (bs.drop at_) = some (s, l1)) :
    ∃ (c d : Nat) (b1 : List UInt8), lget (bl bs) at_ = some (.s (.int .u8 (.ofNat c))) ∧ bytesOf (lcut (bl bs) (at_ + 1) (d - (at_ + 1))) = some b1 ∧ s = ⟨⟨b1⟩⟩ ∧ realAr.wr .i64 (.ofNat c) = .ofNat c ∧ realAr.add .i64 (.ofNat at_) 1 = .ofNat (Nat.succ at_) ∧
      realAr.add .i64 (.ofNat (Nat.succ at_)) (.ofNat c) = .ofNat d ∧ realAr.le (.ofNat bs.length) (.ofNat at_) = false ∧ realAr.lt (.ofNat bs.length) (.ofNat d) = false ∧ realAr.nle (Nat.succ at_) d = true ∧ realAr.nle d bs.length = true ∧ bs.drop d = l1 ∧ at_ < d ∧ d ≤ bs.length := by
  match hd : bs.drop at_, h with
  | b :: l, h =>
    rw [takeT_cons] at h
    have hb' : b.toNat < 256 := b.toNat_lt
    have hlen : at_ < bs.length := by
      by_cases q : at_ < bs.length
      · exact q
      · rw [List.drop_of_length_le (by omega)] at hd; cases hd
    have hll : l.length + 1 = bs.length - at_ := by
      have := congrArg List.length hd
      simpa using this.symm
    have hl : bs.drop (at_ + 1) = l := by
      rw [← List.drop_drop, hd]
      rfl
    split at h
    · cases h
    · rename_i hn
      cases h
      refine ⟨b.toNat, at_ + 1 + b.toNat, l.take b.toNat, lget_bl ?_, ?_, rfl, wrap_nat (by omega), ?_, ?_, ?_, ?_, ?_, ?_, ?_, by omega, by omega⟩
      · have := congrArg (fun l => l[0]?) hd
        simpa using this
      · rw [bl_cut, hl, bl_bytes]
        congr 2
        omega
      · rw [realAr_ok.add]
        exact wrap_nat (n := at_ + 1) (by omega)
      · rw [realAr_ok.add]
        exact wrap_nat (n := at_ + 1 + b.toNat) (by omega)
      · simp [realAr_ok.le] <;> omega
      · simp [realAr_ok.lt] <;> omega
      · simp [realAr_ok.nle] <;> omega
      · simp [realAr_ok.nle] <;> omega
      · rw [← List.drop_drop, hl]
/-- a round that fails -/
theorem round_no {bs : List UInt8} {at_ : Nat} (ha : at_ < 4611686018427387904) (hb : bs.length ≤ 4611686018427387904) (h : takeT (bs.drop at_) = none) :
    realAr.le (.ofNat bs.length) (.ofNat at_) = true ∨ ∃ c d : Nat, lget (bl bs) at_ = some (.s (.int .u8 (.ofNat c))) ∧ realAr.wr .i64 (.ofNat c) = .ofNat c ∧ realAr.add .i64 (.ofNat at_) 1 = .ofNat (Nat.succ at_) ∧
      realAr.add .i64 (.ofNat (Nat.succ at_)) (.ofNat c) = .ofNat d ∧ realAr.le (.ofNat bs.length) (.ofNat at_) = false ∧ realAr.lt (.ofNat bs.length) (.ofNat d) = true := by
  match hd : bs.drop at_, h with
  | [], h =>
    left
    have := congrArg List.length hd
    simp at this
    simp [realAr_ok.le] <;> omega
  | b :: l, h =>
    right
    rw [takeT_cons] at h
    have hb' : b.toNat < 256 := b.toNat_lt
    have hlen : at_ < bs.length := by
      by_cases q : at_ < bs.length
      · exact q
      · rw [List.drop_of_length_le (by omega)] at hd; cases hd
    have hll : l.length + 1 = bs.length - at_ := by
      have := congrArg List.length hd
      simpa using this.symm
    split at h
    · rename_i hn
      refine ⟨b.toNat, at_ + 1 + b.toNat, lget_bl ?_, wrap_nat (by omega), ?_, ?_, ?_, ?_⟩
      · have := congrArg (fun l => l[0]?) hd
        simpa using this
      · rw [realAr_ok.add]
        exact wrap_nat (n := at_ + 1) (by omega)
      · rw [realAr_ok.add]
        exact wrap_nat (n := at_ + 1 + b.toNat) (by omega)
      · simp [realAr_ok.le] <;> omega
      · simp [realAr_ok.lt] <;> omega
    · cases h
end Go.Va
