/- The functions that the statement reaches, by equations: no statement of its own. -/
import Derived.Test.YtmklimlepgiffaaEq7
set_option linter.unusedVariables false
set_option linter.unusedSimpArgs false
namespace Go.Va
open Go.Proofs
set_option maxRecDepth 100000
set_option maxHeartbeats 4000000
def stQ (xs : List AV) (i : Nat) (out : List AV) : St := { n := 51, k := 0, fr := [(0, .sl 3 xs .imm), (3, .sl 1 out .full), (4, .s (.int .i64 (.ofNat i)))], O := [] }
def stQe (xs : List AV) (i : Nat) (out : List AV) : St := { n := 51, k := 0, fr := [(0, .sl 3 xs .imm), (3, .sl 1 out .full), (4, .s (.int .i64 (.ofNat i))), (8, .s (.bool false))], O := [] }
theorem eq_ref11_texts' (A : Ar) (o : Int) : evl (envV A) (.call 95 [.s (.int .i64 o)] []) = some (.ret (.s (.int .i64 (bif A.eq o 1 then 2 else bif A.eq o 3 then 2 else bif A.eq o 5 then 2 else bif A.eq o 6 then 2 else bif A.eq o 4 then 1 else 0))) []) := by
  rw [evl_fn (envV A) 95 _ _ (fn := Try.f95) (c := bd95) (lv := lvF95) rfl rfl rfl rfl rfl rfl]
  generalize lpOf (envV A) 95 bd95 = LP
  generalize evl (envV A) = E
  obtain ⟨aadd, asub, amul, arem, aquo, awr, ashr, aeq, alt, ale, aseq, aslt, acat, acut, asiz, aat, anle, aneq, afit⟩ := A
  cbv
  cases c1 : aeq o 1
  · cbv
    cases c2 : aeq o 3
    · cbv
      cases c3 : aeq o 5
      · cbv
        cases c4 : aeq o 6
        · cbv
          cases c5 : aeq o 4
          · cbv
          · cbv
        · cbv
      · cbv
    · cbv
  · cbv
theorem eq_ref11_text (A : Ar) (hA : ArOk A) (s : ByteArray) (xs ys : List AV) (m z c : Nat) (e0 : ofBytes s = xs) (e1 : xs.length = m) (e2 : 1 + m = Nat.succ m) (h1 : A.siz s = z) (h2 : A.wr .u8 (.ofNat z) = .ofNat c) (h3 : A.fit (Nat.succ m) 1 = true) :
    evl (envV A) (.call 96 [.s (.string s)] []) = some (.ret (.sl 1 (.s (.int .u8 (.ofNat c)) :: xs) .full) []) := by
  rw [evl_fn (envV A) 96 _ _ (fn := Try.f96) (c := bd96) (lv := lvF96) rfl rfl rfl rfl rfl rfl]
  have hnle := hA.nleE; have hneq := hA.neqE
  generalize lpOf (envV A) 96 bd96 = LP
  generalize evl (envV A) = E at e0 e1 e2 h1 h2 h3 ⊢
  obtain ⟨aadd, asub, amul, arem, aquo, awr, ashr, aeq, alt, ale, aseq, aslt, acat, acut, asiz, aat, anle, aneq, afit⟩ := A
  simp only at hnle hneq
  subst hnle hneq
  try simp only at h1 h2 h3
  conv at e0 => lhs; cbv
  conv at e1 => lhs; cbv
  conv at e2 => lhs; cbv
  cbv
  rewrite [e0]
  cbv
  rewrite [e1]
  cbv
  rewrite [e2]
  cbv
  rewrite [h1]
  cbv
  rewrite [h2]
  cbv
  rewrite [h3]
  cbv
section
variable (A : Ar) (hA : ArOk A) (xs out out2 out3 out4 vs bs : List AV) (n i m m2 m3 m4 m5 m6 c : Nat) (o : Int) (a b : ByteArray)
include hA
theorem lp_rp_2 {r : Option Res} (e0 : lget xs i = some (.agg [.s (.int .i64 o), .s (.string a), .s (.string b)])) (e1 : xs.length = n) (e2 : out.length = m) (e3 : out ++ [.s (.int .u8 (.ofNat c))] = out2) (e4 : out2.length = m2) (e5 : vs.length = m3) (e6 : out2 ++ vs = out3) (e7 : out3.length = m4)
    (e8 : bs.length = m5) (e9 : out3 ++ bs = out4) (ea : m2 + m3 = m4) (eb : m4 + m5 = m6) (ec : Nat.beq m m = true) (ed : Nat.beq m2 m2 = true) (ee : Nat.beq m4 m4 = true) (ef : Nat.ble (Nat.succ i) n = true)
    (h1 : A.lt (.ofNat i) (.ofNat n) = true) (h2 : A.wr .u8 o = .ofNat c) (h3 : A.fit (Nat.succ m) 1 = true) (h4 : A.fit m4 1 = true) (h5 : A.fit m6 1 = true) (h6 : A.add .i64 (.ofNat i) 1 = .ofNat (Nat.succ i))
    (h7 : evl (envV A) (.call 95 [.s (.int .i64 o)] []) = some (.ret (.s (.int .i64 2)) [])) (h8 : evl (envV A) (.call 96 [.s (.string a)] []) = some (.ret (.sl 1 vs .full) []))
    (h9 : evl (envV A) (.call 96 [.s (.string b)] []) = some (.ret (.sl 1 bs .full) [])) (hr : lpOf (envV A) 74 bd74 3 (stQ xs (Nat.succ i) out4) = r) :
    lpOf (envV A) 74 bd74 3 (stQ xs i out) = r := by
  unfold stQ at hr ⊢
  rw [lp_step (envV A) 74 (c0 := bd74) (lv := lvF74) rfl rfl]
  have hnle := hA.nleE; have hneq := hA.neqE
  have klt := hA.lt; have kle := hA.le; have keq := hA.eq; have knle := hA.nle; have kneq := hA.neq
  rw [lp_split (lpOf (envV A) 74 bd74) 3]
  generalize lpOf (envV A) 74 bd74 3 = L3 at e0 e1 e2 e3 e4 e5 e6 e7 e8 e9 ea eb ec ed ee ef h1 h2 h3 h4 h5 h6 h7 h8 h9 hr ⊢
  generalize lpOf (envV A) 74 bd74 = LP
  generalize evl (envV A) = E at e0 e1 e2 e3 e4 e5 e6 e7 e8 e9 ea eb ec ed ee ef h1 h2 h3 h4 h5 h6 h7 h8 h9 hr ⊢
  obtain ⟨aadd, asub, amul, arem, aquo, awr, ashr, aeq, alt, ale, aseq, aslt, acat, acut, asiz, aat, anle, aneq, afit⟩ := A
  simp only at hnle hneq
  subst hnle hneq
  simp only at klt kle keq knle kneq
  try simp only at h1 h2 h3 h4 h5 h6 h7 h8 h9 hr
  conv at e0 => lhs; cbv
  conv at e1 => lhs; cbv
  conv at e2 => lhs; cbv
  conv at e3 => lhs; cbv
  conv at e4 => lhs; cbv
  conv at e5 => lhs; cbv
  conv at e6 => lhs; cbv
  conv at e7 => lhs; cbv
  conv at e8 => lhs; cbv
  conv at e9 => lhs; cbv
  conv at ea => lhs; cbv
  conv at eb => lhs; cbv
  conv at ec => lhs; cbv
  conv at ed => lhs; cbv
  conv at ee => lhs; cbv
  conv at ef => lhs; cbv
  cbv
  rewrite [e1]
  cbv
  rewrite [h1]
  cbv
  rewrite [e0]
  cbv
  rewrite [e2]
  cbv
  rewrite [ec]
  cbv
  rewrite [h2]
  cbv
  rewrite [e3]
  cbv
  rewrite [h3]
  cbv
  rewrite [e0]
  cbv
  rewrite [h7]
  cbv
  rewrite [klt (0) (2)]
  cbv
  rewrite [e0]
  cbv
  rewrite [e4]
  cbv
  rewrite [h8]
  cbv
  rewrite [e4]
  cbv
  rewrite [e5]
  cbv
  rewrite [e6]
  cbv
  rewrite [ea]
  cbv
  rewrite [ed]
  cbv
  rewrite [h4]
  cbv
  rewrite [e0]
  cbv
  rewrite [h7]
  cbv
  rewrite [klt (1) (2)]
  cbv
  rewrite [e0]
  cbv
  rewrite [e7]
  cbv
  rewrite [h9]
  cbv
  rewrite [e7]
  cbv
  rewrite [e8]
  cbv
  rewrite [e9]
  cbv
  rewrite [eb]
  cbv
  rewrite [ee]
  cbv
  rewrite [h5]
  cbv
  rewrite [h6]
  cbv
  rewrite [hr]
  cbv
theorem lp_rp_1 {r : Option Res} (e0 : lget xs i = some (.agg [.s (.int .i64 o), .s (.string a), .s (.string b)])) (e1 : xs.length = n) (e2 : out.length = m) (e3 : out ++ [.s (.int .u8 (.ofNat c))] = out2) (e4 : out2.length = m2) (e5 : vs.length = m3) (e6 : out2 ++ vs = out3) 
    (ea : m2 + m3 = m4) (ec : Nat.beq m m = true) (ed : Nat.beq m2 m2 = true) (ef : Nat.ble (Nat.succ i) n = true)
    (h1 : A.lt (.ofNat i) (.ofNat n) = true) (h2 : A.wr .u8 o = .ofNat c) (h3 : A.fit (Nat.succ m) 1 = true) (h4 : A.fit m4 1 = true) (h6 : A.add .i64 (.ofNat i) 1 = .ofNat (Nat.succ i))
    (h7 : evl (envV A) (.call 95 [.s (.int .i64 o)] []) = some (.ret (.s (.int .i64 1)) [])) (h8 : evl (envV A) (.call 96 [.s (.string a)] []) = some (.ret (.sl 1 vs .full) []))
    (hr : lpOf (envV A) 74 bd74 3 (stQ xs (Nat.succ i) out3) = r) :
    lpOf (envV A) 74 bd74 3 (stQ xs i out) = r := by
  unfold stQ at hr ⊢
  rw [lp_step (envV A) 74 (c0 := bd74) (lv := lvF74) rfl rfl]
  have hnle := hA.nleE; have hneq := hA.neqE
  have klt := hA.lt; have kle := hA.le; have keq := hA.eq; have knle := hA.nle; have kneq := hA.neq
  rw [lp_split (lpOf (envV A) 74 bd74) 3]
  generalize lpOf (envV A) 74 bd74 3 = L3 at e0 e1 e2 e3 e4 e5 e6 ea ec ed ef h1 h2 h3 h4 h6 h7 h8 hr ⊢
  generalize lpOf (envV A) 74 bd74 = LP
  generalize evl (envV A) = E at e0 e1 e2 e3 e4 e5 e6 ea ec ed ef h1 h2 h3 h4 h6 h7 h8 hr ⊢
  obtain ⟨aadd, asub, amul, arem, aquo, awr, ashr, aeq, alt, ale, aseq, aslt, acat, acut, asiz, aat, anle, aneq, afit⟩ := A
  simp only at hnle hneq
  subst hnle hneq
  simp only at klt kle keq knle kneq
  try simp only at h1 h2 h3 h4 h6 h7 h8 hr
  conv at e0 => lhs; cbv
  conv at e1 => lhs; cbv
  conv at e2 => lhs; cbv
  conv at e3 => lhs; cbv
  conv at e4 => lhs; cbv
  conv at e5 => lhs; cbv
  conv at e6 => lhs; cbv
  conv at ea => lhs; cbv
  conv at ec => lhs; cbv
  conv at ed => lhs; cbv
  conv at ef => lhs; cbv
  cbv
  rewrite [e1]
  cbv
  rewrite [h1]
  cbv
  rewrite [e0]
  cbv
  rewrite [e2]
  cbv
  rewrite [ec]
  cbv
  rewrite [h2]
  cbv
  rewrite [e3]
  cbv
  rewrite [h3]
  cbv
  rewrite [e0]
  cbv
  rewrite [h7]
  cbv
  rewrite [klt (0) (1)]
  cbv
  rewrite [e0]
  cbv
  rewrite [e4]
  cbv
  rewrite [h8]
  cbv
  rewrite [e4]
  cbv
  rewrite [e5]
  cbv
  rewrite [e6]
  cbv
  rewrite [ea]
  cbv
  rewrite [ed]
  cbv
  rewrite [h4]
  cbv
  rewrite [e0]
  cbv
  rewrite [h7]
  cbv
  rewrite [klt (1) (1)]
  cbv
  rewrite [h6]
  cbv
  rewrite [hr]
  cbv
theorem lp_rp_0 {r : Option Res} (e0 : lget xs i = some (.agg [.s (.int .i64 o), .s (.string a), .s (.string b)])) (e1 : xs.length = n) (e2 : out.length = m) (e3 : out ++ [.s (.int .u8 (.ofNat c))] = out2)
    (ec : Nat.beq m m = true) (ef : Nat.ble (Nat.succ i) n = true)
    (h1 : A.lt (.ofNat i) (.ofNat n) = true) (h2 : A.wr .u8 o = .ofNat c) (h3 : A.fit (Nat.succ m) 1 = true) (h6 : A.add .i64 (.ofNat i) 1 = .ofNat (Nat.succ i))
    (h7 : evl (envV A) (.call 95 [.s (.int .i64 o)] []) = some (.ret (.s (.int .i64 0)) []))
    (hr : lpOf (envV A) 74 bd74 3 (stQ xs (Nat.succ i) out2) = r) :
    lpOf (envV A) 74 bd74 3 (stQ xs i out) = r := by
  unfold stQ at hr ⊢
  rw [lp_step (envV A) 74 (c0 := bd74) (lv := lvF74) rfl rfl]
  have hnle := hA.nleE; have hneq := hA.neqE
  have klt := hA.lt; have kle := hA.le; have keq := hA.eq; have knle := hA.nle; have kneq := hA.neq
  rw [lp_split (lpOf (envV A) 74 bd74) 3]
  generalize lpOf (envV A) 74 bd74 3 = L3 at e0 e1 e2 e3 ec ef h1 h2 h3 h6 h7 hr ⊢
  generalize lpOf (envV A) 74 bd74 = LP
  generalize evl (envV A) = E at e0 e1 e2 e3 ec ef h1 h2 h3 h6 h7 hr ⊢
  obtain ⟨aadd, asub, amul, arem, aquo, awr, ashr, aeq, alt, ale, aseq, aslt, acat, acut, asiz, aat, anle, aneq, afit⟩ := A
  simp only at hnle hneq
  subst hnle hneq
  simp only at klt kle keq knle kneq
  try simp only at h1 h2 h3 h6 h7 hr
  conv at e0 => lhs; cbv
  conv at e1 => lhs; cbv
  conv at e2 => lhs; cbv
  conv at e3 => lhs; cbv
  conv at ec => lhs; cbv
  conv at ef => lhs; cbv
  cbv
  rewrite [e1]
  cbv
  rewrite [h1]
  cbv
  rewrite [e0]
  cbv
  rewrite [e2]
  cbv
  rewrite [ec]
  cbv
  rewrite [h2]
  cbv
  rewrite [e3]
  cbv
  rewrite [h3]
  cbv
  rewrite [e0]
  cbv
  rewrite [h7]
  cbv
  rewrite [klt (0) (0)]
  cbv
  rewrite [e0]
  cbv
  rewrite [h7]
  cbv
  rewrite [klt (1) (0)]
  cbv
  rewrite [h6]
  cbv
  rewrite [hr]
  cbv
theorem lp_rp_end (e1 : xs.length = n) (h1 : A.lt (.ofNat i) (.ofNat n) = false) : lpOf (envV A) 74 bd74 3 (stQ xs i out) = some (.code (.exit 0) (stQe xs i out)) := by
  unfold stQ stQe
  rw [lp_step (envV A) 74 (c0 := bd74) (lv := lvF74) rfl rfl]
  have hnle := hA.nleE; have hneq := hA.neqE
  generalize lpOf (envV A) 74 bd74 = LP
  generalize evl (envV A) = E at e1 h1 ⊢
  obtain ⟨aadd, asub, amul, arem, aquo, awr, ashr, aeq, alt, ale, aseq, aslt, acat, acut, asiz, aat, anle, aneq, afit⟩ := A
  simp only at hnle hneq
  subst hnle hneq
  try simp only at h1
  conv at e1 => lhs; cbv
  cbv
  rewrite [e1]
  cbv
  rewrite [h1]
  cbv
theorem eq_ref11_Put (e1 : out.length = m) (e2 : Nat.ble m m = true) (e3 : out.take m = out) (h1 : lpOf (envV A) 74 bd74 3 (stQ xs 0 []) = some (.code (.exit 0) (stQe xs i out))) :
    evl (envV A) (.call 74 [.sl 3 xs .imm] []) = some (.ret (.sl 1 out .full) []) := by
  unfold stQ stQe at h1
  simp only [show Int.ofNat 0 = 0 from rfl] at h1
  rw [evl_fn (envV A) 74 _ _ (fn := Try.f74) (c := bd74) (lv := lvF74) rfl rfl rfl rfl rfl rfl]
  have hnle := hA.nleE; have hneq := hA.neqE
  rw [lp_split (lpOf (envV A) 74 bd74) 3]
  generalize lpOf (envV A) 74 bd74 3 = L3 at e1 e2 e3 h1 ⊢
  generalize lpOf (envV A) 74 bd74 = LP
  generalize evl (envV A) = E at e1 e2 e3 h1 ⊢
  obtain ⟨aadd, asub, amul, arem, aquo, awr, ashr, aeq, alt, ale, aseq, aslt, acat, acut, asiz, aat, anle, aneq, afit⟩ := A
  simp only at hnle hneq
  subst hnle hneq
  try simp only at h1
  conv at e1 => lhs; cbv
  conv at e2 => lhs; cbv
  conv at e3 => lhs; cbv
  cbv
  rewrite [h1]
  cbv
  rewrite [e1]
  cbv
  rewrite [e2]
  cbv
  rewrite [e3]
  cbv
end
theorem textsB_z (o : Int) : evl (envV realAr) (.call 95 [.s (.int .i64 o)] []) = some (.ret (.s (.int .i64 (textsZ o : Int))) []) := by
  rw [eq_ref11_texts']
  unfold textsZ
  simp only [realAr_eq]
  by_cases h4 : o = 4
  · simp [h4]
  · by_cases h1 : o = 1
    · simp [h1]
    · by_cases h3 : o = 3
      · simp [h3]
      · by_cases h5 : o = 5
        · simp [h5]
        · by_cases h6 : o = 6
          · simp [h6]
          · simp [h1, h3, h4, h5, h6]
theorem s_ref11_text (s : ByteArray) (hz : s.size ≤ 300) : evl (envV realAr) (.call 96 [.s (.string s)] []) = some (.ret (.sl 1 (bl (putT s)) .full) []) := by
  have := eq_ref11_text realAr realAr_ok s (bl s.data.toList) [] s.size s.size ((s.size : Int) % 256).toNat rfl (by rw [bl_len, data_len]) (Nat.add_comm _ _) rfl (wrap_u8 _) (nat_fit (by show (s.size + 1) * 1 ≤ _; omega))
  rw [this]
  simp only [bl, putT, List.map_cons, byteZ, ofNat_mod]
theorem lp_ref11_Put (is : List InsT) (hf : fewOk is) (hl : is.length ≤ 1000) : ∀ (m i : Nat) (out : List UInt8), m + i = is.length → out.length ≤ i * 603 →
    lpOf (envV realAr) 74 bd74 3 (stQ (is.map insA) i (bl out)) = some (.code (.exit 0) (stQe (is.map insA) is.length (bl (out ++ (is.drop i).flatMap putI))))
  | 0, i, out, h, _ => by
    have : i = is.length := by omega
    subst this
    rw [List.drop_length, List.flatMap_nil, List.append_nil]
    exact lp_rp_end realAr realAr_ok _ (bl out) is.length _ (by simp) (nat_lt_f (Nat.le_refl _))
  | m + 1, i, out, h, ho => by
    have hi : i < is.length := by omega
    have hg : lget (is.map insA) i = some (insA is[i]) := by rw [lget_get]; simp [hi]
    obtain ⟨ha, hb⟩ := hf is[i] (List.getElem_mem hi)
    rw [List.drop_eq_getElem_cons hi, List.flatMap_cons, ← List.append_assoc]
    have ht := textsB_z is[i].1
    have hlen := putI_len is[i] ha hb
    have hnext := lp_ref11_Put is hf hl m (i + 1) (out ++ putI is[i]) (by omega) (by rw [List.length_append, Nat.add_mul]; omega)
    have hn : textsZ is[i].1 = 0 ∨ textsZ is[i].1 = 1 ∨ textsZ is[i].1 = 2 := by unfold textsZ; split <;> (try split) <;> simp
    have hofit : realAr.fit (Nat.succ out.length) 1 = true := nat_fit (by show (out.length + 1) * 1 ≤ _; omega)
    have hi1 : realAr.add .i64 (.ofNat i) 1 = .ofNat (Nat.succ i) := nat_inc (by omega)
    have e1 : (out ++ [byteZ is[i].1]).length = out.length + 1 := by simp
    have hta := s_ref11_text is[i].2.1 ha
    have htb := s_ref11_text is[i].2.2 hb
    rcases hn with hn | hn | hn
    · rw [hn] at ht
      have e : out ++ putI is[i] = out ++ [byteZ is[i].1] := by unfold putI; simp only [hn]
      rw [e] at hnext
      rw [e]
      exact lp_rp_0 realAr realAr_ok _ (bl out) _ is.length i out.length _ _ _ _ hg (by simp) (bl_len _) (bl_snoc _ _) (beq_self _) (ble_of hi) (nat_lt_t hi) (wrap_u8 _) hofit hi1 ht hnext
    · rw [hn] at ht
      have e : out ++ putI is[i] = out ++ [byteZ is[i].1] ++ putT is[i].2.1 := by unfold putI; simp only [hn]; simp
      rw [e] at hnext
      rw [e]
      refine lp_rp_1 realAr realAr_ok _ (bl out) _ _ _ is.length i out.length _ _ _ _ _ _ _ hg (by simp) (bl_len _) (bl_snoc _ _) (bl_len _) (bl_len _) (bl_app _ _) rfl (beq_self _) (beq_self _) (ble_of hi) (nat_lt_t hi) (wrap_u8 _) hofit (nat_fit ?_) hi1 ht hta hnext
      rw [e1, putT_len]; omega
    · rw [hn] at ht
      have e : out ++ putI is[i] = out ++ [byteZ is[i].1] ++ putT is[i].2.1 ++ putT is[i].2.2 := by unfold putI; simp only [hn]; simp
      rw [e] at hnext
      rw [e]
      refine lp_rp_2 realAr realAr_ok _ (bl out) _ _ _ _ _ is.length i out.length _ _ _ _ _ _ _ _ _ hg (by simp) (bl_len _) (bl_snoc _ _) (bl_len _) (bl_len _) (bl_app _ _) (bl_len _) (bl_len _) (bl_app _ _) List.length_append.symm rfl (beq_self _) (beq_self _) (beq_self _) (ble_of hi) (nat_lt_t hi) (wrap_u8 _) hofit (nat_fit ?_) (nat_fit ?_) hi1 ht hta htb hnext
      · rw [List.length_append, e1, putT_len]; omega
      · rw [List.length_append, e1, putT_len, putT_len]; omega
theorem s_ref11_Put (is : List InsT) (hf : fewOk is) (hl : is.length ≤ 1000) : evl (envV realAr) (.call 74 [.sl 3 (is.map insA) .imm] []) = some (.ret (.sl 1 (bl (is.flatMap putI)) .full) []) := by
  have h := lp_ref11_Put is hf hl is.length 0 [] (by omega) (by simp)
  rw [List.drop_zero, List.nil_append] at h
  exact eq_ref11_Put realAr realAr_ok _ _ is.length (is.flatMap putI).length (bl_len _) (ble_of (Nat.le_refl _)) (by rw [List.take_of_length_le (by rw [bl_len]; exact Nat.le_refl _)]) h
theorem putR_all : ∀ (is : List InsT) (out : List UInt8), (∀ i ∈ is, insP i = true) → putR is out = some (out ++ is.flatMap putI)
  | [], out, _ => by simp [putR]
  | i :: is, out, h => by
    rw [putR, if_pos (h i (by simp)), putR_all is _ (fun j hj => h j (by simp [hj]))]
    simp
theorem putR_no : ∀ (is : List InsT) (out : List UInt8), (∃ i ∈ is, insP i = false) → putR is out = none
  | [], out, h => by obtain ⟨i, h, _⟩ := h; cases h
  | i :: is, out, h => by
    rw [putR]
    cases hi : insP i with
    | false => rfl
    | true =>
      simp only [if_true]
      obtain ⟨j, hj, e⟩ := h
      rcases List.mem_cons.1 hj with rfl | hj
      · rw [hi] at e; cases e
      · exact putR_no is _ ⟨j, hj, e⟩
end Go.Va
