/- The functions that the statement reaches, by equations: no statement of its own. -/
import Derived.Test.YtmklimlepgiffabEq11
set_option linter.unusedVariables false
set_option linter.unusedSimpArgs false
set_option linter.unusedSectionVars false
namespace Go.Va
open Go.Proofs
set_option maxRecDepth 100000
set_option maxHeartbeats 4000000
theorem nameP_size {s : ByteArray} (h : nameP s = true) : s.size ≤ 12 := by
  unfold nameP at h
  cases h1 : realAr.lt (.ofNat (realAr.siz s)) 1 with
  | true => rw [h1] at h; cases h
  | false =>
    cases h2 : realAr.lt 12 (.ofNat (realAr.siz s)) with
    | true => rw [h1, h2] at h; cases h
    | false =>
      have h2 : ¬ ((12 : Int) < (s.size : Int)) := of_decide_eq_false h2
      omega
theorem textP_size {s : ByteArray} (h : textP s = true) : s.size ≤ 60 := by
  unfold textP at h
  cases h1 : allT realAr s (realAr.siz s) 0 with
  | false => rw [h1] at h; cases h
  | true =>
    rw [h1] at h
    have h2 : ((s.size : Int) ≤ 60) := of_decide_eq_true h
    omega
theorem seq_size {s : ByteArray} {l : List UInt8} (h : realAr.seq s ⟨⟨l⟩⟩ = true) : s.size = l.length := by
  have h : (s.data.toList == l) = true := h
  rw [← data_len, eq_of_beq h]
theorem voidP_size {s : ByteArray} (h : voidP s = true) : s.size ≤ 5 := by
  unfold voidP at h
  simp only [Bool.or_eq_true] at h
  rcases h with ((h | h) | h) | h <;> (have := seq_size h; simp at this; omega)
theorem size0 {s : ByteArray} (h : s.size = 0) : s = ⟨#[]⟩ := by
  obtain ⟨⟨l⟩⟩ := s
  have : l = [] := List.eq_nil_of_length_eq_zero h
  rw [this]
theorem seq_nil {s : ByteArray} (h : realAr.seq s ⟨#[]⟩ = true) : s = ⟨#[]⟩ := size0 (seq_size (l := []) h)
structure InsFacts (i : InsT) : Prop where
  a : i.2.1.size ≤ 60
  b : i.2.2.size ≤ 60
  o : 1 ≤ i.1 ∧ i.1 ≤ 8
  t0 : textsZ i.1 = 0 → i.2.1 = ⟨#[]⟩ ∧ i.2.2 = ⟨#[]⟩
  t1 : textsZ i.1 = 1 → i.2.2 = ⟨#[]⟩
theorem insP_facts {i : InsT} (h : insP i = true) : InsFacts i := by
  obtain ⟨o, a, b⟩ := i
  unfold insP mayA at h
  simp only [realAr_eq] at h
  by_cases h1 : o = 1
  · subst h1
    simp only [decide_true, cond_true] at h
    cases ha : nameP a with
    | false => rw [ha] at h; cases h
    | true =>
      rw [ha] at h
      cases hv : voidP a with
      | true => rw [hv] at h; cases h
      | false =>
        rw [hv] at h
        have := nameP_size ha
        have := textP_size h
        exact ⟨by simp only; omega, this, by simp, by simp [textsZ], by simp [textsZ]⟩
  · simp only [h1, decide_false, cond_false] at h
    by_cases h3 : o = 3
    · subst h3
      simp only [decide_true, cond_true] at h
      cases ha : voidP a with
      | false => rw [ha] at h; cases h
      | true =>
        rw [ha] at h
        have := voidP_size ha
        have := textP_size h
        exact ⟨by simp only; omega, this, by simp, by simp [textsZ], by simp [textsZ]⟩
    · simp only [h3, decide_false, cond_false] at h
      by_cases h4 : o = 4
      · subst h4
        simp only [decide_true, cond_true] at h
        cases ha : textP a with
        | false => rw [ha] at h; cases h
        | true =>
          rw [ha] at h
          have := textP_size ha
          have e := seq_nil h
          subst e
          exact ⟨this, Nat.zero_le _, by simp, by simp [textsZ], fun _ => rfl⟩
      · simp only [h4, decide_false, cond_false] at h
        by_cases h56 : o = 5 ∨ o = 6
        · have h : (bif nameP a then textP b else false) = true := by
            rcases h56 with rfl | rfl <;> simpa using h
          cases ha : nameP a with
          | false => rw [ha] at h; cases h
          | true =>
            rw [ha] at h
            have := nameP_size ha
            have := textP_size h
            refine ⟨by simp only; omega, this, by simp only; omega, ?_, ?_⟩ <;> rcases h56 with rfl | rfl <;> simp [textsZ]
        · have h5 : o ≠ 5 := fun e => h56 (.inl e)
          have h6 : o ≠ 6 := fun e => h56 (.inr e)
          simp only [h5, h6, decide_false, cond_false] at h
          have h278 : o = 2 ∨ o = 7 ∨ o = 8 := by
            by_cases q : o = 2 ∨ o = 7 ∨ o = 8
            · exact q
            · have q2 : o ≠ 2 := fun e => q (.inl e)
              have q7 : o ≠ 7 := fun e => q (.inr (.inl e))
              have q8 : o ≠ 8 := fun e => q (.inr (.inr e))
              simp [q2, q7, q8] at h
          have h : (bif realAr.seq a ⟨#[]⟩ then realAr.seq b ⟨#[]⟩ else false) = true := by
            rcases h278 with rfl | rfl | rfl <;> simpa using h
          cases ha : realAr.seq a ⟨#[]⟩ with
          | false => rw [ha] at h; cases h
          | true =>
            rw [ha] at h
            have e1 := seq_nil ha
            have e2 := seq_nil h
            subst e1 e2
            refine ⟨Nat.zero_le _, Nat.zero_le _, by simp only; omega, fun _ => ⟨rfl, rfl⟩, fun _ => rfl⟩
theorem byteZ_nat {n : Nat} (h : n < 256) : (byteZ n).toNat = n := by
  unfold byteZ
  rw [ofNat_mod]
  omega
theorem byteZ_of (b : UInt8) : byteZ (b.toNat : Int) = b := by
  have h : b.toNat < 256 := b.toNat_lt
  apply UInt8.toNat_inj.1
  exact byteZ_nat h
theorem takeT_putT (s : ByteArray) (l : List UInt8) (h : s.size ≤ 255) : takeT (putT s ++ l) = some (s, l) := by
  unfold putT
  rw [List.cons_append, takeT_cons, byteZ_nat (by omega)]
  have hd := data_len s
  rw [if_neg (by simp [hd]), ← hd, List.take_left, List.drop_left]
theorem putT_takeT {l l1 : List UInt8} {s : ByteArray} (h : takeT l = some (s, l1)) : putT s ++ l1 = l := by
  match l, h with
  | b :: l, h =>
    rw [takeT_cons] at h
    split at h
    · cases h
    · rename_i hn
      cases h
      unfold putT
      have hs : ByteArray.size ⟨⟨List.take b.toNat l⟩⟩ = b.toNat := by
        rw [← data_len]
        simp
        omega
      rw [hs, byteZ_of, List.cons_append]
      simp
theorem textsN_z {n : Nat} : textsN n = textsZ (n : Int) := by
  unfold textsN textsZ
  by_cases h4 : n = 4
  · subst h4; rfl
  · rw [if_neg h4, if_neg (show ¬ ((n : Int) = 4) by omega)]
    by_cases h : n = 1 ∨ n = 3 ∨ n = 5 ∨ n = 6
    · rw [if_pos h, if_pos (by omega)]
    · rw [if_neg h, if_neg (by omega)]
theorem oneR_put {i : InsT} (l : List UInt8) (h : insP i = true) : ∃ b k, putI i ++ l = b :: k ∧ oneR b k = some (i, l) := by
  have f := insP_facts h
  obtain ⟨o, a, b⟩ := i
  have ho := f.o
  simp only at ho
  have hb : ((byteZ o).toNat : Int) = o := by
    unfold byteZ
    rw [ofNat_mod]
    omega
  have hn : textsZ o = 0 ∨ textsZ o = 1 ∨ textsZ o = 2 := by unfold textsZ; split <;> (try split) <;> simp
  refine ⟨byteZ o, _, rfl, ?_⟩
  unfold oneR
  rw [textsN_z, hb]
  rcases hn with hn | hn | hn
  · obtain ⟨e1, e2⟩ := f.t0 hn
    simp only at e1 e2
    subst e1 e2
    simp only [hn, List.nil_append, List.append_eq]
    rw [if_pos h]
  · have e2 := f.t1 hn
    simp only at e2
    subst e2
    have ha := f.a
    simp only at ha
    simp only [hn, List.append_eq]
    rw [takeT_putT a l (by omega)]
    simp only
    rw [if_pos h]
  · have ha := f.a
    have hb' := f.b
    simp only at ha hb'
    simp only [hn, List.append_eq]
    rw [List.append_assoc, takeT_putT a _ (by omega)]
    simp only
    rw [takeT_putT b l (by omega)]
    simp only
    rw [if_pos h]
theorem oneR_back {b : UInt8} {l l1 : List UInt8} {i : InsT} (h : oneR b l = some (i, l1)) : putI i ++ l1 = b :: l ∧ insP i = true := by
  unfold oneR at h
  have hn : textsN b.toNat = 0 ∨ textsN b.toNat = 1 ∨ textsN b.toNat = 2 := by unfold textsN; split <;> (try split) <;> simp
  rcases hn with hn | hn | hn
  · simp only [hn] at h
    split at h
    · rename_i hp
      cases h
      rw [textsN_z] at hn
      refine ⟨?_, hp⟩
      unfold putI
      simp only [hn, byteZ_of]
      rfl
    · cases h
  · simp only [hn] at h
    cases ht : takeT l with
    | none => rw [ht] at h; cases h
    | some q =>
      obtain ⟨s, l2⟩ := q
      rw [ht] at h
      simp only at h
      split at h
      · rename_i hp
        cases h
        rw [textsN_z] at hn
        refine ⟨?_, hp⟩
        unfold putI
        simp only [hn, byteZ_of]
        rw [List.cons_append, putT_takeT ht]
      · cases h
  · simp only [hn] at h
    cases ht : takeT l with
    | none => rw [ht] at h; cases h
    | some q =>
      obtain ⟨s, l2⟩ := q
      rw [ht] at h
      simp only at h
      cases ht2 : takeT l2 with
      | none => rw [ht2] at h; cases h
      | some q =>
        obtain ⟨t, l3⟩ := q
        rw [ht2] at h
        simp only at h
        split at h
        · rename_i hp
          cases h
          rw [textsN_z] at hn
          refine ⟨?_, hp⟩
          unfold putI
          simp only [hn, byteZ_of]
          rw [List.cons_append, List.append_assoc, putT_takeT ht2, putT_takeT ht]
        · cases h
theorem getR_put : ∀ (f : Nat) (is acc : List InsT), (∀ i ∈ is, insP i = true) → (is.flatMap putI).length ≤ f → acc.length + is.length ≤ 120 → getR f acc (is.flatMap putI) = .ok (acc ++ is)
  | f, [], acc, _, _, _ => by cases f <;> simp [getR]
  | 0, i :: is, acc, h, hf, _ => by
    obtain ⟨b, k, e, _⟩ := oneR_put (is.flatMap putI) (h i (by simp))
    rw [List.flatMap_cons, e] at hf
    simp at hf
  | f + 1, i :: is, acc, h, hf, hl => by
    obtain ⟨b, k, e, e2⟩ := oneR_put (is.flatMap putI) (h i (by simp))
    rw [List.flatMap_cons, e] at hf ⊢
    simp only [getR, e2]
    simp only [List.length_cons] at hl hf
    have := oneR_len e2
    rw [if_neg (by omega), getR_put f is (acc ++ [i]) (fun j hj => h j (by simp [hj])) (by omega) (by simp; omega)]
    simp
theorem getR_back : ∀ (f : Nat) (bs : List UInt8) (acc js : List InsT), getR f acc bs = .ok js → ∃ t, js = acc ++ t ∧ t.flatMap putI = bs ∧ ∀ i ∈ t, insP i = true
  | f, [], acc, js, h => by
    have : getR f acc [] = .ok acc := by cases f <;> rfl
    rw [this] at h
    cases h
    exact ⟨[], by simp, rfl, by simp⟩
  | 0, b :: l, acc, js, h => by cases h
  | f + 1, b :: l, acc, js, h => by
    unfold getR at h
    cases ho : oneR b l with
    | none => rw [ho] at h; cases h
    | some q =>
      obtain ⟨i, l1⟩ := q
      rw [ho] at h
      simp only at h
      split at h
      · cases h
      · obtain ⟨t, e1, e2, e3⟩ := getR_back f l1 (acc ++ [i]) js h
        obtain ⟨k1, k2⟩ := oneR_back ho
        refine ⟨i :: t, by rw [e1]; simp, ?_, ?_⟩
        · rw [List.flatMap_cons, e2, k1]
        · intro j hj
          rcases List.mem_cons.1 hj with rfl | hj
          · exact k2
          · exact e3 j hj
theorem putR_all' : ∀ (is : List InsT) (out : List UInt8), (∀ i ∈ is, insP i = true) → putR is out = some (out ++ is.flatMap putI)
  | [], out, _ => by simp [putR]
  | i :: is, out, h => by
    rw [putR, if_pos (h i (by simp)), putR_all' is _ (fun j hj => h j (by simp [hj]))]
    simp
theorem putR_no' : ∀ (is : List InsT) (out : List UInt8), (∃ i ∈ is, insP i = false) → putR is out = none
  | [], out, h => by obtain ⟨i, h, _⟩ := h; cases h
  | i :: is, out, h => by
    rw [putR]
    cases hi : insP i with
    | false => rfl
    | true =>
      simp only [if_true]
      obtain ⟨j, hj, e⟩ := h
      rcases List.mem_cons.1 hj with rfl | hj
      · rw [hi] at e; cases e
      · exact putR_no' is _ ⟨j, hj, e⟩
theorem getR_len' : ∀ (f : Nat) (is : List InsT) (bs : List UInt8) (js : List InsT), is.length ≤ 120 → getR f is bs = .ok js → js.length ≤ 120
  | f, is, [], js, hi, h => by cases f <;> (cases h; exact hi)
  | 0, is, b :: l, js, hi, h => by cases h
  | f + 1, is, b :: l, js, hi, h => by
    unfold getR at h
    split at h
    · cases h
    · split at h
      · cases h
      · exact getR_len' f _ _ js (by simp; omega) h
theorem flat_len : ∀ (is : List InsT), fewOk is → (is.flatMap putI).length ≤ is.length * 603
  | [], _ => by simp
  | i :: is, h => by
    have h1 := h i (by simp)
    have h2 := flat_len is (fun j hj => h j (by simp [hj]))
    have h3 := putI_len i h1.1 h1.2
    rw [List.flatMap_cons, List.length_append, List.length_cons, Nat.add_mul]
    omega
end Go.Va
namespace Go.Va
open Go.Proofs
set_option maxRecDepth 100000
set_option maxHeartbeats 4000000
def skI : InsT := (7, ⟨#[]⟩, ⟨#[]⟩)
theorem insA_sk : insA skI = skA 7 := rfl
theorem lp_cb (nn : Nat) (hn : nn ≤ 1000) : ∀ (m i : Nat), m + i = nn →
    lpOf (envV realAr) 4 bd4 17 (stK (List.replicate i (skA 7) ++ List.replicate m (skA 0)) (bl (List.replicate i 7)) i) = some (.code (.exit 0) (stKe (List.replicate nn (skA 7)) (bl (List.replicate nn 7)) nn))
  | 0, i, h => by
    have : i = nn := by omega
    subst this
    rw [List.replicate_zero, List.append_nil]
    exact lp_cb_end realAr realAr_ok _ _ i i _ (by simp) (by simp [bl_len]) (nat_lt_f (Nat.le_refl _))
  | m + 1, i, h => by
    refine lp_cb_on realAr realAr_ok _ (List.replicate (i + 1) (skA 7) ++ List.replicate m (skA 0)) _ (bl (List.replicate (i + 1) 7)) nn i i (by simp; omega) (by simp [bl_len]) ?_ ?_ ?_ (ble_of (by omega)) (beq_self _) (Nat.zero_add _) (nat_lt_t (by omega)) (nat_fit (by show (i + 1) * 1 ≤ _; omega)) (nat_inc (by omega))
      (lp_cb nn hn m (i + 1) (by omega))
    · rw [lset_eq, List.set_append_right _ _ (by simp)]
      simp only [List.length_replicate, Nat.sub_self, List.replicate_succ, List.set_cons_zero]
      rw [← List.replicate_succ, List.replicate_succ', List.append_assoc]
      rfl
    · rw [show ([AV.s (Value.int .u8 7)] : List AV) = bl [7] from rfl, bl_app, List.replicate_succ']
    · rw [lget_get, List.getElem?_append_right (by simp)]
      simp
theorem big_put (nn : Nat) (h1 : 120 < nn) (h2 : nn ≤ 140) : evl (envV realAr) (.call 21 [.sl 3 (List.replicate nn (skA 7)) .ro] []) = some (.ret (.tup [.sl 1 [] .full, errI 13]) []) := by
  have hall : ∀ i ∈ List.replicate nn skI, insP i = true := by
    intro i hi
    rw [(List.mem_replicate.1 hi).2]
    rfl
  have h := s_code_Put (List.replicate nn skI) .ro (.inl rfl) (fun i hi => by rw [(List.mem_replicate.1 hi).2]; exact ⟨by decide, by decide⟩) (by simp; omega)
  rw [putR_all' _ [] hall, List.map_replicate, insA_sk] at h
  rw [h]
  simp only [resPut, List.length_replicate, decide_eq_true h1, cond_true]
theorem getR_sk : ∀ (f k : Nat) (acc : List InsT), k ≤ f → acc.length ≤ 120 → 120 < acc.length + k → getR f acc (List.replicate k 7) = .error 13
  | f, 0, acc, _, h1, h2 => by omega
  | 0, k + 1, acc, h, _, _ => by omega
  | f + 1, k + 1, acc, h, h1, h2 => by
    rw [List.replicate_succ]
    have ho : oneR 7 (List.replicate k 7) = some (skI, List.replicate k 7) := rfl
    simp only [getR, ho]
    by_cases q : acc.length = 120
    · rw [if_pos q]
    · rw [if_neg q]
      exact getR_sk f k _ (by omega) (by simp; omega) (by simp; omega)
theorem big_get (nn : Nat) (h1 : 120 < nn) (h2 : nn ≤ 140) : evl (envV realAr) (.call 16 [.sl 1 (bl (List.replicate nn 7)) .imm] []) = some (.ret (.tup [.sl 3 [] .full, errI 13]) []) := by
  have h := s_code_Get (List.replicate nn 7) (by simp; omega)
  rw [List.length_replicate, getR_sk nn nn [] (Nat.le_refl _) (by simp) (by simpa using h1)] at h
  exact h
theorem cut_bl (l : List UInt8) : lcut (bl l) 0 l.length = bl l := by rw [bl_cut, List.drop_zero, List.take_of_length_le (Nat.le_refl _)]
theorem cut_all (l : List AV) (n : Nat) (h : l.length = n) : lcut l 0 n = l := by simp [lcut, ← h]
theorem codeBack_law (is : List InsT) (bs : List UInt8) (k : Int) (hl : is.length ≤ 9223372036854775807) (hb : bs.length ≤ 9223372036854775807) :
    evl (envV realAr) (.call 4 [.sl 3 (is.map insA) .imm, .sl 1 (bl bs) .imm, .s (.int .i64 k)] []) = some (.ret (.s (.bool true)) []) := by
  rcases s_few is hl with h2 | ⟨h2, hf, h150⟩
  · exact eq_cb_few realAr realAr_ok _ _ k s_law12_up h2
  · have ei : (is.map insA).length = is.length := by simp
    cases h3 : (realAr.lt 3000 (.ofNat bs.length) || (realAr.lt k 1 || realAr.lt 20 k)) with
    | true => exact eq_cb_let realAr realAr_ok _ _ is.length bs.length k ei (bl_len _) s_law12_up h2 h3
    | false =>
      simp only [Bool.or_eq_false_iff] at h3
      obtain ⟨h3, h4, h5⟩ := h3
      have b3 : bs.length ≤ 3000 := by
        have : ¬ ((3000 : Int) < (bs.length : Int)) := of_decide_eq_false h3
        omega
      have b4 : 1 ≤ k ∧ k ≤ 20 := by
        have q1 : ¬ (k < 1) := of_decide_eq_false h4
        have q2 : ¬ (20 < k) := of_decide_eq_false h5
        omega
      obtain ⟨j, rfl⟩ : ∃ j : Nat, k = (j : Int) := ⟨k.toNat, by omega⟩
      have hnn : 120 < 120 + j ∧ 120 + j ≤ 140 := by omega
      have h8 : realAr.add .i64 120 (j : Int) = .ofNat (120 + j) := nat_add (i := 120) (j := j) (by omega)
      have h10 := lp_cb (120 + j) (by omega) (120 + j) 0 (by omega)
      rw [List.replicate_zero, List.nil_append] at h10
      have h11 := big_put (120 + j) hnn.1 hnn.2
      have h12 := big_get (120 + j) hnn.1 hnn.2
      have hfit : realAr.fit (120 + j) 40 = true := nat_fit (by omega)
      have l1 : (List.replicate (120 + j) (skA 7)).length = 120 + j := by simp
      have l2 : (bl (List.replicate (120 + j) 7)).length = 120 + j := by simp [bl_len]
      have hP := s_code_Put is .imm (.inr rfl) hf (by omega)
      have hG := s_code_Get bs (by omega)
      have put : (∃ a, evl (envV realAr) (.call 21 [.sl 3 (is.map insA) .imm] []) = some (.ret (.tup [.sl 1 [] .full, errI a]) [])) ∨
          ∃ os : List UInt8, evl (envV realAr) (.call 21 [.sl 3 (is.map insA) .imm] []) = some (.ret (.tup [.sl 1 (bl os) .full, .s .nilIface]) []) ∧ evl (envV realAr) (.call 16 [.sl 1 (bl os) .imm] []) = some (.ret (.tup [.sl 3 (is.map insA) .full, .s .nilIface]) []) := by
        by_cases ha : ∀ i ∈ is, insP i = true
        · rw [putR_all' is [] ha, List.nil_append] at hP
          by_cases hk : 120 < is.length
          · simp only [resPut, decide_eq_true hk, cond_true] at hP
            exact .inl ⟨13, hP⟩
          · simp only [resPut, decide_eq_false hk, cond_false] at hP
            refine .inr ⟨_, hP, ?_⟩
            have hlen : (is.flatMap putI).length ≤ is.length * 603 := flat_len is hf
            have hg := s_code_Get (is.flatMap putI) (by omega)
            rw [getR_put _ is [] ha (Nat.le_refl _) (by simp; omega)] at hg
            exact hg
        · have hx : ∃ i ∈ is, insP i = false := by simpa using ha
          rw [putR_no' is [] hx] at hP
          exact .inl ⟨1, hP⟩
      have get : (∃ c, evl (envV realAr) (.call 16 [.sl 1 (bl bs) .imm] []) = some (.ret (.tup [.sl 3 [] .full, errI c]) [])) ∨
          ∃ js : List InsT, evl (envV realAr) (.call 16 [.sl 1 (bl bs) .imm] []) = some (.ret (.tup [.sl 3 (js.map insA) .full, .s .nilIface]) []) ∧ evl (envV realAr) (.call 21 [.sl 3 (js.map insA) .ro] []) = some (.ret (.tup [.sl 1 (bl bs) .full, .s .nilIface]) []) := by
        cases hr : getR bs.length [] bs with
        | error c => rw [hr] at hG; exact .inl ⟨c, hG⟩
        | ok js =>
          rw [hr] at hG
          refine .inr ⟨js, hG, ?_⟩
          obtain ⟨t, e1, e2, e3⟩ := getR_back _ _ _ _ hr
          rw [List.nil_append] at e1
          subst e1
          have hj := getR_len' _ _ _ _ (by simp) hr
          have hfj : fewOk js := fun i hi => by
            have f := insP_facts (e3 i hi)
            exact ⟨by have := f.a; omega, by have := f.b; omega⟩
          have hp := s_code_Put js .ro (.inl rfl) hfj (by omega)
          rw [putR_all' js [] e3, List.nil_append, e2] at hp
          simp only [resPut, decide_eq_false (show ¬ 120 < js.length by omega), cond_false] at hp
          exact hp
      rcases put with ⟨a, hp⟩ | ⟨os, hp, hpg⟩ <;> rcases get with ⟨c, hg⟩ | ⟨js, hg, hgp⟩
      · exact eq_cb_no_no realAr realAr_ok _ _ is.length bs.length j ei (bl_len _) s_law12_up _ _ _ (120 + j) _ h2 h3 h4 h5 rfl (beq_self _) l1 (Nat.zero_add _) (cut_all _ _ l1) (ble_of (Nat.le_refl _)) (cut_all _ _ l2) l2 h8 hfit h10 h11 h12 a c hp hg
      · exact eq_cb_no_ok realAr realAr_ok _ _ is.length bs.length j ei (bl_len _) s_law12_up _ _ _ (120 + j) _ h2 h3 h4 h5 rfl (beq_self _) l1 (Nat.zero_add _) (cut_all _ _ l1) (ble_of (Nat.le_refl _)) (cut_all _ _ l2) l2 h8 hfit h10 h11 h12 a _ _ js.length (by simp) (Nat.zero_add _) (cut_all _ _ (by simp)) (ble_of (Nat.le_refl _)) (bl_bytes _) (Nat.zero_add _) (ble_of (Nat.le_refl _)) (cut_bl _) (seq_refl _) hp hg hgp
      · exact eq_cb_ok_no realAr realAr_ok _ _ is.length bs.length j ei (bl_len _) s_law12_up _ _ _ (120 + j) _ h2 h3 h4 h5 rfl (beq_self _) l1 (Nat.zero_add _) (cut_all _ _ l1) (ble_of (Nat.le_refl _)) (cut_all _ _ l2) l2 h8 hfit h10 h11 h12 c _ os.length (bl_len _) (Nat.zero_add _) (cut_bl _) (ble_of (Nat.le_refl _)) (Nat.zero_add _) (cut_all _ _ ei) (ble_of (Nat.le_refl _)) hp hpg (s_ref11_Same is .ro .imm (.inl rfl) (.inr rfl) hl) hg
      · exact eq_cb_ok_ok realAr realAr_ok _ _ is.length bs.length j ei (bl_len _) s_law12_up _ _ _ (120 + j) _ h2 h3 h4 h5 rfl (beq_self _) l1 (Nat.zero_add _) (cut_all _ _ l1) (ble_of (Nat.le_refl _)) (cut_all _ _ l2) l2 h8 hfit h10 h11 h12 _ os.length (bl_len _) (Nat.zero_add _) (cut_bl _) (ble_of (Nat.le_refl _)) (Nat.zero_add _) (cut_all _ _ ei) (ble_of (Nat.le_refl _)) hp hpg (s_ref11_Same is .ro .imm (.inl rfl) (.inr rfl) hl) _ _ js.length (by simp) (Nat.zero_add _) (cut_all _ _ (by simp)) (ble_of (Nat.le_refl _)) (bl_bytes _) (Nat.zero_add _) (ble_of (Nat.le_refl _)) (cut_bl _) (seq_refl _) hg hgp
end Go.Va
