/- The functions that the statement reaches, by equations: no statement of its own. -/
import Derived.Test.YtmklimlepgiffabEq9
set_option linter.unusedVariables false
set_option linter.unusedSimpArgs false
set_option linter.unusedSectionVars false
namespace Go.Va
open Go.Proofs
set_option maxRecDepth 100000
set_option maxHeartbeats 4000000
theorem wrap_u8 (z : Int) : realAr.wr .u8 z = .ofNat (z % 256).toNat := by
  show IntKind.wrap .u8 z = _
  simp [IntKind.wrap, IntKind.bits, IntKind.signed]
  omega
theorem ofNat_mod (z : Int) : (UInt8.ofNat (z % 256).toNat).toNat = (z % 256).toNat := by
  simp
  omega
def byteZ (z : Int) : UInt8 := UInt8.ofNat (z % 256).toNat
def putT (s : ByteArray) : List UInt8 := byteZ s.size :: s.data.toList
def textsZ (o : Int) : Nat := if o = 4 then 1 else if o = 1 ∨ o = 3 ∨ o = 5 ∨ o = 6 then 2 else 0
theorem textsA_z (o : Int) : textsA realAr o = (textsZ o : Int) := by
  unfold textsA textsZ
  simp only [realAr_eq]
  by_cases h4 : o = 4
  · simp [h4]
  · by_cases h1 : o = 1
    · simp [h1]
    · by_cases h3 : o = 3
      · simp [h3]
      · by_cases h5 : o = 5
        · simp [h5]
        · by_cases h6 : o = 6
          · simp [h6]
          · simp [h1, h3, h4, h5, h6]
def putI (i : InsT) : List UInt8 := byteZ i.1 :: match textsZ i.1 with
  | 0 => []
  | 1 => putT i.2.1
  | _ => putT i.2.1 ++ putT i.2.2
def putR : List InsT → List UInt8 → Option (List UInt8)
  | [], out => some out
  | i :: is, out => if insP i then putR is (out ++ putI i) else none
theorem data_len (s : ByteArray) : s.data.toList.length = s.size := by rw [Array.length_toList]; rfl
theorem putT_len (s : ByteArray) : (putT s).length = s.size + 1 := by simp [putT, data_len]
theorem bl_snoc (l : List UInt8) (z : Int) : bl l ++ [.s (.int .u8 (.ofNat (z % 256).toNat))] = bl (l ++ [byteZ z]) := by
  simp only [bl, List.map_append, List.map_cons, List.map_nil, byteZ, ofNat_mod]
theorem bl_app (l l2 : List UInt8) : bl l ++ bl l2 = bl (l ++ l2) := by simp [bl]
theorem ofBytes_bl (s : ByteArray) : ofBytes s = bl s.data.toList := rfl
theorem nat_lt_t {i j : Nat} (h : i < j) : realAr.lt (.ofNat i) (.ofNat j) = true := by simp [realAr_ok.lt] <;> omega
theorem nat_lt_f {i j : Nat} (h : j ≤ i) : realAr.lt (.ofNat i) (.ofNat j) = false := by simp [realAr_ok.lt] <;> omega
theorem nat_add {i j : Nat} (h : i + j ≤ 9223372036854775807) : realAr.add .i64 (.ofNat i) (.ofNat j) = .ofNat (i + j) := by
  rw [realAr_ok.add]
  exact wrap_nat (n := i + j) h
theorem nat_inc {i : Nat} (h : i + 1 ≤ 9223372036854775807) : realAr.add .i64 (.ofNat i) 1 = .ofNat (Nat.succ i) := nat_add (j := 1) h
theorem nat_fit {n b : Nat} (h : n * b ≤ 70368744177664) : realAr.fit n b = true := by rw [realAr_ok.fit]; exact decide_eq_true h
theorem beq_self (n : Nat) : Nat.beq n n = true := Nat.beq_refl n
theorem ble_of {a b : Nat} (h : a ≤ b) : Nat.ble a b = true := Nat.ble_eq_true_of_le h
theorem s_put_step (xs ss : List AV) (p : Perm) (hp : p = .ro ∨ p = .imm) (s : ByteArray) (n i t k : Nat) (out : List UInt8) {r : Option Res} (hk : lget ss k = some (.s (.string s))) (hs : ss.length = t) (hkt : k < t) (ht : t ≤ 2) (ho : out.length ≤ 1000000000) (hz : s.size ≤ 300)
    (h : lpOf (envV realAr) 21 bd21 9 (stI xs p n i ss t (k + 1) (bl (out ++ putT s))) = r) : lpOf (envV realAr) 21 bd21 9 (stI xs p n i ss t k (bl out)) = r := by
  refine lp_put_in realAr realAr_ok xs ss (bl out) (bl (out ++ [byteZ s.size])) (bl (out ++ putT s)) (bl s.data.toList) p hp s n i t k ((s.size : Int) % 256).toNat s.size out.length (out.length + 1) s.size (out.length + 1 + s.size)
    hk (bl_len _) (bl_snoc _ _) ?_ rfl ?_ ?_ (beq_self _) (beq_self _) rfl hs (ble_of hkt) (nat_lt_t hkt) (wrap_u8 _) (nat_inc (by omega)) (nat_fit (by omega)) (nat_fit (by omega)) rfl h
  · rw [bl_len]; simp
  · rw [bl_app, putT, List.append_assoc]; rfl
  · rw [bl_len, data_len]
theorem s_put_in0 (xs : List AV) (p : Perm) (hp : p = .ro ∨ p = .imm) (n i : Nat) (out : List UInt8) :
    lpOf (envV realAr) 21 bd21 9 (stI xs p n i [] 0 0 (bl out)) = some (.code (.exit 2) (stIe xs p n i [] 0 0 (bl out))) :=
  lp_put_in_end realAr realAr_ok xs [] (bl out) p hp n i 0 0 out.length (bl_len _) (nat_lt_f (Nat.le_refl _))
theorem s_put_in1 (xs : List AV) (p : Perm) (hp : p = .ro ∨ p = .imm) (a : ByteArray) (n i : Nat) (out : List UInt8) (ho : out.length ≤ 1000000000) (ha : a.size ≤ 300) :
    lpOf (envV realAr) 21 bd21 9 (stI xs p n i [.s (.string a)] 1 0 (bl out)) = some (.code (.exit 2) (stIe xs p n i [.s (.string a)] 1 1 (bl (out ++ putT a)))) :=
  s_put_step xs _ p hp a n i 1 0 out rfl rfl (by omega) (by omega) ho ha
    (lp_put_in_end realAr realAr_ok xs _ _ p hp n i 1 1 _ (bl_len _) (nat_lt_f (Nat.le_refl _)))
theorem s_put_in2 (xs : List AV) (p : Perm) (hp : p = .ro ∨ p = .imm) (a b : ByteArray) (n i : Nat) (out : List UInt8) (ho : out.length ≤ 900000000) (ha : a.size ≤ 300) (hb : b.size ≤ 300) :
    lpOf (envV realAr) 21 bd21 9 (stI xs p n i [.s (.string a), .s (.string b)] 2 0 (bl out)) = some (.code (.exit 2) (stIe xs p n i [.s (.string a), .s (.string b)] 2 2 (bl (out ++ putT a ++ putT b)))) :=
  s_put_step xs _ p hp a n i 2 0 out rfl rfl (by omega) (by omega) (by omega) ha
    (s_put_step xs _ p hp b n i 2 1 (out ++ putT a) rfl rfl (by omega) (by omega) (by rw [List.length_append, putT_len]; omega) hb
      (lp_put_in_end realAr realAr_ok xs _ _ p hp n i 2 2 _ (bl_len _) (nat_lt_f (Nat.le_refl _))))
theorem putI_len (i : InsT) (ha : i.2.1.size ≤ 300) (hb : i.2.2.size ≤ 300) : (putI i).length ≤ 603 := by
  unfold putI
  split <;> simp [putT_len] <;> omega
def resP (xs : List AV) (p : Perm) (n : Nat) : Option (List UInt8) → Res
  | some out => .code (.exit 0) { n := 55, k := 0, fr := [(0, .sl 3 xs p), (4, .sl 1 (bl out) .full), (9, .sl 3 xs p), (10, .s (.int .i64 (.ofNat n))), (11, .s (.int .i64 (.ofNat n))), (12, .s (.bool false))], O := [] }
  | none => .code .ret { n := 55, k := 0, fr := [(2, .sl 1 [] .full), (3, .s (.iface 39 (.int .i64 1)))], O := [] }
theorem lp_put (is : List InsT) (p : Perm) (hp : p = .ro ∨ p = .imm) (hf : fewOk is) (hl : is.length ≤ 1000) : ∀ (m i : Nat) (out : List UInt8), m + i = is.length → out.length ≤ i * 603 →
    lpOf (envV realAr) 21 bd21 3 (stP (is.map insA) p is.length i (bl out)) = some (resP (is.map insA) p is.length (putR (is.drop i) out))
  | 0, i, out, h, _ => by
    have : i = is.length := by omega
    subst this
    rw [List.drop_length]
    exact lp_put_end realAr realAr_ok _ (bl out) p hp _ _ out.length (bl_len _) (nat_lt_f (Nat.le_refl _))
  | m + 1, i, out, h, ho => by
    have hi : i < is.length := by omega
    have hg : lget (is.map insA) i = some (insA is[i]) := by rw [lget_get]; simp [hi]
    obtain ⟨ha, hb⟩ := hf is[i] (List.getElem_mem hi)
    rw [List.drop_eq_getElem_cons hi, putR]
    have hm := s_ins_May is[i] (by omega) (by omega)
    cases hv : insP is[i] with
    | false =>
      rw [hv] at hm
      exact lp_put_no realAr realAr_ok _ (bl out) p hp _ _ _ _ _ hg (by simp) (ble_of hi) (nat_lt_t hi) hm
    | true =>
      rw [hv] at hm
      have ht := eq_code_texts realAr is[i].1
      rw [textsA_z] at ht
      have hlen := putI_len is[i] ha hb
      have hnext := lp_put is p hp hf hl m (i + 1) (out ++ putI is[i]) (by omega) (by rw [List.length_append, Nat.add_mul]; omega)
      have hn : textsZ is[i].1 = 0 ∨ textsZ is[i].1 = 1 ∨ textsZ is[i].1 = 2 := by unfold textsZ; split <;> (try split) <;> simp
      have hofit : realAr.fit (Nat.succ out.length) 1 = true := nat_fit (by show (out.length + 1) * 1 ≤ _; omega)
      have hi1 : realAr.add .i64 (.ofNat i) 1 = .ofNat (Nat.succ i) := nat_inc (by omega)
      have e1 : (out ++ [byteZ is[i].1]).length ≤ 900000000 := by simp; omega
      rcases hn with hn | hn | hn
      · rw [hn] at ht
        have e : out ++ putI is[i] = out ++ [byteZ is[i].1] := by unfold putI; simp only [hn]
        rw [e] at hnext
        rw [e]
        exact lp_put_0 realAr realAr_ok _ _ _ p hp _ _ _ _ i _ out.length hg (bl_len _) (bl_snoc _ _) (by simp) (beq_self _) (ble_of hi) (nat_lt_t hi) hm (wrap_u8 _) ht hofit hi1 (s_put_in0 _ p hp _ i _) hnext
      · rw [hn] at ht
        have e : out ++ putI is[i] = out ++ [byteZ is[i].1] ++ putT is[i].2.1 := by unfold putI; simp only [hn]; simp
        rw [e] at hnext
        rw [e]
        exact lp_put_1 realAr realAr_ok _ _ _ _ p hp _ _ _ _ i _ out.length hg (bl_len _) (bl_snoc _ _) (by simp) (beq_self _) (ble_of hi) (nat_lt_t hi) hm (wrap_u8 _) ht hofit hi1 (s_put_in1 _ p hp _ _ i _ (by omega) ha) hnext
      · rw [hn] at ht
        have e : out ++ putI is[i] = out ++ [byteZ is[i].1] ++ putT is[i].2.1 ++ putT is[i].2.2 := by unfold putI; simp only [hn]; simp
        rw [e] at hnext
        rw [e]
        exact lp_put_2 realAr realAr_ok _ _ _ _ p hp _ _ _ _ i _ out.length hg (bl_len _) (bl_snoc _ _) (by simp) (beq_self _) (ble_of hi) (nat_lt_t hi) hm (wrap_u8 _) ht hofit hi1 (s_put_in2 _ p hp _ _ _ i _ e1 ha hb) hnext
def resPut (n : Nat) : Option (List UInt8) → AV
  | none => .tup [.sl 1 [] .full, errI 1]
  | some out => bif decide (120 < n) then .tup [.sl 1 [] .full, errI 13] else .tup [.sl 1 (bl out) .full, .s .nilIface]
theorem s_code_Put (is : List InsT) (p : Perm) (hp : p = .ro ∨ p = .imm) (hf : fewOk is) (hl : is.length ≤ 1000) :
    evl (envV realAr) (.call 21 [.sl 3 (is.map insA) p] []) = some (.ret (resPut is.length (putR is [])) []) := by
  have h := lp_put is p hp hf hl is.length 0 [] (by omega) (by simp)
  rw [List.drop_zero] at h
  cases hr : putR is [] with
  | none =>
    rw [hr] at h
    exact eq_code_Put_no realAr realAr_ok _ p hp is.length (by simp) h
  | some out =>
    rw [hr] at h
    have := eq_code_Put realAr realAr_ok _ (bl out) p hp is.length out.length (by simp) (bl_len _) (ble_of (Nat.le_refl _)) (by rw [List.take_of_length_le (by rw [bl_len]; exact Nat.le_refl _)]) h
    rw [this]
    have e : realAr.lt 120 (.ofNat is.length) = decide (120 < is.length) := by
      rw [realAr_lt]
      congr 1
      simp only [Int.ofNat_eq_natCast, eq_iff_iff]
      omega
    rw [e]
    rfl
end Go.Va
