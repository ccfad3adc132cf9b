/- The functions that the statement reaches, by equations: no statement of its own. -/
import Derived.Test.YtmklimlepgiffabEq5
set_option linter.unusedVariables false
set_option linter.unusedSimpArgs false
set_option linter.unusedSectionVars false
namespace Go.Va
open Go.Proofs
set_option maxRecDepth 100000
set_option maxHeartbeats 4000000
theorem ref11_texts_n (o : Nat) : evl (envV realAr) (.call 94 [.s (.int .i64 (.ofNat o))] []) = some (.ret (.s (.int .i64 (.ofNat (textsN o)))) []) := by
  rw [eq_ref11_texts]
  have e : ∀ k : Nat, realAr.eq (Int.ofNat o) (k : Int) = decide (o = k) := fun k => by
    rw [realAr_eq]
    congr 1
    simp only [Int.ofNat_eq_natCast, eq_iff_iff]
    omega
  unfold textsN
  rw [show (4 : Int) = ((4 : Nat) : Int) from rfl, show (1 : Int) = ((1 : Nat) : Int) from rfl, show (3 : Int) = ((3 : Nat) : Int) from rfl, show (5 : Int) = ((5 : Nat) : Int) from rfl, show (6 : Int) = ((6 : Nat) : Int) from rfl]
  simp only [e]
  by_cases h4 : o = 4
  · simp [h4]
  · by_cases h1 : o = 1
    · simp [h1]
    · by_cases h3 : o = 3
      · simp [h3]
      · by_cases h5 : o = 5
        · simp [h5]
        · by_cases h6 : o = 6
          · simp [h6]
          · simp [h1, h3, h4, h5, h6]
def OneW (b : UInt8) (l : List UInt8) (v : AV) : Prop := match oneR b l with
  | some (i, l1) => ∃ d, v = .tup [insA i, .s (.int .i64 (.ofNat d))] ∧ (b :: l).drop d = l1 ∧ 0 < d ∧ d ≤ l.length + 1
  | none => ∃ i, v = .tup [insA i, .s (.int .i64 0)]
theorem OneW.may {b : UInt8} {l : List UInt8} (i : InsT) (l1 : List UInt8) (d : Nat) (h : oneR b l = if insP i then some (i, l1) else none) (h1 : (b :: l).drop d = l1) (h2 : 0 < d) (h3 : d ≤ l.length + 1) :
    OneW b l (bif insP i then .tup [insA i, .s (.int .i64 (.ofNat d))] else .tup [insA (0, ⟨#[]⟩, ⟨#[]⟩), .s (.int .i64 0)]) := by
  unfold OneW
  rw [h]
  cases insP i with
  | true => exact ⟨d, rfl, h1, h2, h3⟩
  | false => exact ⟨_, rfl⟩
theorem s_ref11_one (b : UInt8) (l : List UInt8) (hs : l.length < 4611686018427387903) : ∃ v, evl (envV realAr) (.call 58 [.sl 1 (bl (b :: l)) .imm] []) = some (.ret v []) ∧ OneW b l v := by
  have hb : b.toNat < 256 := b.toNat_lt
  have e0 : (bl (b :: l)).length = l.length + 1 := by simp [bl_len]
  have hw : realAr.wr .i64 (.ofNat b.toNat) = .ofNat b.toNat := wrap_nat (by omega)
  have ht := ref11_texts_n b.toNat
  have hn : textsN b.toNat = 0 ∨ textsN b.toNat = 1 ∨ textsN b.toNat = 2 := by unfold textsN; split <;> (try split) <;> simp
  have hlen : (b :: l).length ≤ 4611686018427387904 := by simp; omega
  have hd1 : (b :: l).drop 1 = l := rfl
  have hlt : ∀ i j : Nat, i < j → realAr.lt (.ofNat i) (.ofNat j) = true := fun i j h => by simp [realAr_ok.lt] <;> omega
  have hge : ∀ i j : Nat, j ≤ i → realAr.lt (.ofNat i) (.ofNat j) = false := fun i j h => by simp [realAr_ok.lt] <;> omega
  have hnn : ∀ n : Nat, realAr.nle n n = true := fun n => by simp [realAr_ok.nle]
  have hf : ∀ (at_ k t : Nat) (s1 s2 : ByteArray), textsN b.toNat = t → k < t → at_ < 4611686018427387904 → takeT ((b :: l).drop at_) = none →
      lpOf (envV realAr) 58 bd58 4 (stR (bl (b :: l)) b.toNat at_ k s1 s2) = some (.code .ret stRf) := by
    intro at_ k t s1 s2 e1 e2 e3 e4
    rw [e1] at ht
    rcases round_no e3 hlen e4 with q | ⟨c, d, q1, q2, q3, q4, q5, q6⟩
    · exact lp_ref11_one_f1 realAr realAr_ok _ (l.length + 1) _ _ t _ _ _ e0 ht (hlt _ _ e2) q
    · exact lp_ref11_one_f2 realAr realAr_ok _ (l.length + 1) _ _ t _ c d _ _ e0 q1 q2 q3 q4 ht (hlt _ _ e2) q5 q6
  rcases hn with hn | hn | hn
  · have ht' := ht
    rw [hn] at ht'
    have h := lp_ref11_one_end realAr realAr_ok (bl (b :: l)) b.toNat 1 0 0 ⟨#[]⟩ ⟨#[]⟩ ht' (hge _ _ (Nat.le_refl _))
    refine ⟨_, eq_ref11_one_ok realAr realAr_ok _ _ _ _ _ _ _ _ e0 rfl hw h (s_ref11_May (b.toNat, ⟨#[]⟩, ⟨#[]⟩) (Nat.zero_le _) (Nat.zero_le _)), ?_⟩
    refine OneW.may (b.toNat, ⟨#[]⟩, ⟨#[]⟩) l 1 ?_ rfl (by omega) (by omega)
    unfold oneR
    simp only [hn]
  · have ht' := ht
    rw [hn] at ht'
    cases h : takeT l with
    | none =>
      refine ⟨_, eq_ref11_one_f realAr realAr_ok _ _ _ e0 rfl hw (hf 1 0 1 _ _ hn (by omega) (by omega) h), ?_⟩
      unfold OneW oneR
      simp only [hn, h]
      exact ⟨_, rfl⟩
    | some q =>
      obtain ⟨s, l1⟩ := q
      have hsz := takeT_size h
      obtain ⟨c, d, b1, q1, q2, rfl, q3, q4, q5, q6, q7, q8, q9, q10, q11, q12⟩ := round_ok (bs := b :: l) (at_ := 1) (by omega) hlen h
      have h2 := lp_ref11_one_end realAr realAr_ok (bl (b :: l)) b.toNat d 1 1 ⟨⟨b1⟩⟩ ⟨#[]⟩ ht' (hge _ _ (Nat.le_refl _))
      have h1 := lp_ref11_one_0 realAr realAr_ok (bl (b :: l)) _ b1 (l.length + 1) b.toNat 1 1 c d ⟨#[]⟩ ⟨#[]⟩ e0 q1 rfl q2 q3 q4 q5 ht' (hlt _ _ (by omega)) q6 q7 q8 q9 (hnn _) h2 rfl rfl
      refine ⟨_, eq_ref11_one_ok realAr realAr_ok _ _ _ _ _ _ _ _ e0 rfl hw h1 (s_ref11_May (b.toNat, _, ⟨#[]⟩) (by simp only; omega) (Nat.zero_le _)), ?_⟩
      refine OneW.may (b.toNat, _, ⟨#[]⟩) l1 d ?_ q10 (by omega) q12
      unfold oneR
      simp only [hn, h]
  · have ht' := ht
    rw [hn] at ht'
    cases h : takeT l with
    | none =>
      refine ⟨_, eq_ref11_one_f realAr realAr_ok _ _ _ e0 rfl hw (hf 1 0 2 _ _ hn (by omega) (by omega) h), ?_⟩
      unfold OneW oneR
      simp only [hn, h]
      exact ⟨_, rfl⟩
    | some q =>
      obtain ⟨s, l1⟩ := q
      have hsz := takeT_size h
      obtain ⟨c, d, b1, q1, q2, rfl, q3, q4, q5, q6, q7, q8, q9, q10, q11, q12⟩ := round_ok (bs := b :: l) (at_ := 1) (by omega) hlen h
      simp only [List.length_cons] at q12
      cases h' : takeT l1 with
      | none =>
        have h2 := hf d 1 2 ⟨⟨b1⟩⟩ ⟨#[]⟩ hn (by omega) (by omega) (by rw [q10]; exact h')
        have h1 := lp_ref11_one_0 realAr realAr_ok (bl (b :: l)) _ b1 (l.length + 1) b.toNat 1 2 c d ⟨#[]⟩ ⟨#[]⟩ e0 q1 rfl q2 q3 q4 q5 ht' (hlt _ _ (by omega)) q6 q7 q8 q9 (hnn _) h2 rfl rfl
        refine ⟨_, eq_ref11_one_f realAr realAr_ok _ _ _ e0 rfl hw h1, ?_⟩
        unfold OneW oneR
        simp only [hn, h, h']
        exact ⟨_, rfl⟩
      | some q =>
        obtain ⟨t, l2⟩ := q
        have hsz2 := takeT_size h'
        rw [← q10] at h'
        obtain ⟨c', d', b2, w1, w2, rfl, w3, w4, w5, w6, w7, w8, w9, w10, w11, w12⟩ := round_ok (bs := b :: l) (at_ := d) (by omega) hlen h'
        have h3 := lp_ref11_one_end realAr realAr_ok (bl (b :: l)) b.toNat d' 2 2 ⟨⟨b1⟩⟩ ⟨⟨b2⟩⟩ ht' (hge _ _ (Nat.le_refl _))
        have h2 := lp_ref11_one_1 realAr realAr_ok (bl (b :: l)) _ b2 (l.length + 1) b.toNat d 2 c' d' ⟨⟨b1⟩⟩ ⟨#[]⟩ e0 w1 rfl w2 w3 w4 w5 ht' (hlt _ _ (by omega)) w6 w7 w8 w9 (hnn _) h3 rfl rfl
        have h1 := lp_ref11_one_0 realAr realAr_ok (bl (b :: l)) _ b1 (l.length + 1) b.toNat 1 2 c d ⟨#[]⟩ ⟨#[]⟩ e0 q1 rfl q2 q3 q4 q5 ht' (hlt _ _ (by omega)) q6 q7 q8 q9 (hnn _) h2 rfl rfl
        refine ⟨_, eq_ref11_one_ok realAr realAr_ok _ _ _ _ _ _ _ _ e0 rfl hw h1 (s_ref11_May (b.toNat, _, _) (by simp only; omega) (by simp only; omega)), ?_⟩
        refine OneW.may (b.toNat, _, _) l2 d' ?_ w10 (by omega) w12
        rw [q10] at h'
        unfold oneR
        simp only [hn, h, h']
def stH (bs : List UInt8) (is : List InsT) : St := { n := 28, k := 0, fr := [(0, .sl 1 (bl bs) .imm), (4, .sl 3 (is.map insA) .full)], O := [] }
def resH : Except Int (List InsT) → Res
  | .ok is => .code (.exit 0) { n := 28, k := 0, fr := [(0, .sl 1 [] .imm), (4, .sl 3 (is.map insA) .full), (9, .s (.bool false))], O := [] }
  | .error e => .code .ret { n := 28, k := 0, fr := [(2, .sl 3 [] .full), (3, .s (.int .i64 e))], O := [] }
theorem lp_ref11_Get : ∀ (f : Nat) (bs : List UInt8) (is : List InsT), bs.length ≤ f → bs.length ≤ 4611686018427387903 → is.length ≤ 120 →
    lpOf (envV realAr) 17 bd17 2 (stH bs is) = some (resH (getR f is bs))
  | f, [], is, _, _, _ => by
    have : getR f is [] = .ok is := by cases f <;> rfl
    rw [this]
    exact lp_ref11_Get_end realAr realAr_ok _
  | 0, b :: l, is, h, _, _ => by simp at h
  | f + 1, b :: l, is, h, hs, hi => by
    simp only [List.length_cons] at h hs
    obtain ⟨v, k1, k2⟩ := s_ref11_one b l (by omega)
    have e0 : (bl (b :: l)).length = l.length + 1 := by simp [bl_len]
    have h3 : realAr.lt 0 (.ofNat (l.length + 1)) = true := by simp [realAr_lt] <;> omega
    unfold getR
    unfold OneW at k2
    cases hn : oneR b l with
    | none =>
      rw [hn] at k2
      obtain ⟨i, rfl⟩ := k2
      exact lp_ref11_Get_no realAr realAr_ok _ _ i.2.1 i.2.2 i.1 _ e0 k1 h3
    | some q =>
      obtain ⟨i, l1⟩ := q
      rw [hn] at k2
      obtain ⟨d, rfl, m1, m2, m3⟩ := k2
      simp only
      have := oneR_len hn
      have hl : (is.map insA).length = is.length := by simp
      have h7 : realAr.eq (.ofNat d) 0 = false := by simp [realAr_eq] <;> omega
      by_cases hk : is.length = 120
      · rw [if_pos hk]
        exact lp_ref11_Get_large realAr realAr_ok _ _ i.2.1 i.2.2 i.1 _ is.length d e0 hl k1 h3 (by simp [realAr_eq, hk]) h7
      · rw [if_neg hk]
        refine lp_ref11_Get_on realAr realAr_ok _ _ ((is ++ [i]).map insA) (bl l1) i.2.1 i.2.2 i.1 _ is.length d e0 hl (by simp [insA]) ?_ k1 h3 (by simp [realAr_eq] <;> omega) (by simp [realAr_ok.neq]) (by simp [realAr_ok.fit] <;> omega) h7
          (by simp [realAr_ok.nle] <;> omega) (by simp [realAr_ok.nle]) (lp_ref11_Get f l1 (is ++ [i]) (by omega) (by omega) (by simp <;> omega))
        rw [bl_cut, m1, List.take_of_length_le]
        rw [← m1]
        simp
def resGetR : Except Int (List InsT) → AV
  | .ok is => .tup [.sl 3 (is.map insA) .full, .s (.int .i64 0)]
  | .error e => .tup [.sl 3 [] .full, .s (.int .i64 e)]
theorem s_ref11_Get (bs : List UInt8) (hs : bs.length ≤ 4611686018427387903) : evl (envV realAr) (.call 17 [.sl 1 (bl bs) .imm] []) = some (.ret (resGetR (getR bs.length [] bs)) []) := by
  have h := lp_ref11_Get bs.length bs [] (Nat.le_refl _) hs (by simp)
  cases hr : getR bs.length [] bs with
  | ok is =>
    rw [hr] at h
    exact eq_ref11_Get_ok realAr realAr_ok _ _ is.length (by simp) (by rw [List.take_of_length_le (by simp)]) (by simp [realAr_ok.nle]) h
  | error e =>
    rw [hr] at h
    exact eq_ref11_Get_no realAr realAr_ok _ e h
end Go.Va
