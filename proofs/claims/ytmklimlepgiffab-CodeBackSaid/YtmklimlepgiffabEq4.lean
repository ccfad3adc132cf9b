/- The functions that the statement reaches, by equations: no statement of its own. -/
import Derived.Test.YtmklimlepgiffabEq3
set_option linter.unusedVariables false
set_option linter.unusedSimpArgs false
set_option linter.unusedSectionVars false
namespace Go.Va
open Go.Proofs
set_option maxRecDepth 100000
set_option maxHeartbeats 4000000
def errI : Int → AV := fun e => .s (.iface 39 (.int .i64 e))
theorem realAr_lt (a b : Int) : realAr.lt a b = decide (a < b) := rfl
theorem realAr_eq (a b : Int) : realAr.eq a b = decide (a = b) := realAr_ok.eq a b
theorem seq_refl (s : ByteArray) : realAr.seq s s = true := by
  show (s.data.toList == s.data.toList) = true
  exact beq_self_eq_true _
theorem eq_refl' (o : Int) : realAr.eq o o = true := by rw [realAr_eq]; simp
/-- an instruction, by the texts -/
def insP (i : InsT) : Bool := mayA realAr nameP textP voidP i.1 i.2.1 i.2.2
theorem s_ins_May (i : InsT) (ha : i.2.1.size ≤ 9223372036854775807) (hb : i.2.2.size ≤ 9223372036854775807) : evl (envV realAr) (.call 59 [insA i] []) = some (.ret (.s (.bool (insP i))) []) :=
  eq_ins_May realAr i.1 i.2.1 i.2.2 (name16 _ ha) (eq_name_Text realAr realAr_ok _ hb) (eq_name_Text realAr realAr_ok _ ha) (eq_name_Void realAr _)
theorem s_ref11_May (i : InsT) (ha : i.2.1.size ≤ 9223372036854775807) (hb : i.2.2.size ≤ 9223372036854775807) : evl (envV realAr) (.call 95 [insA i] []) = some (.ret (.s (.bool (insP i))) []) :=
  eq_placketref11_May realAr i.1 i.2.1 i.2.2 (eq_placketref01_Name realAr realAr_ok _ ha) (eq_placketref01_Text realAr realAr_ok _ hb) (eq_placketref01_Text realAr realAr_ok _ ha) (eq_placketref01_Void realAr _)
def textsN (o : Nat) : Nat := if o = 4 then 1 else if o = 1 ∨ o = 3 ∨ o = 5 ∨ o = 6 then 2 else 0
theorem textsA_n (o : Nat) : textsA realAr (.ofNat o) = (textsN o : Int) := by
  have e : ∀ k : Nat, realAr.eq (Int.ofNat o) (k : Int) = decide (o = k) := fun k => by
    rw [realAr_eq]
    congr 1
    simp only [Int.ofNat_eq_natCast, eq_iff_iff]
    omega
  unfold textsA textsN
  rw [show (4 : Int) = ((4 : Nat) : Int) from rfl, show (1 : Int) = ((1 : Nat) : Int) from rfl, show (3 : Int) = ((3 : Nat) : Int) from rfl, show (5 : Int) = ((5 : Nat) : Int) from rfl, show (6 : Int) = ((6 : Nat) : Int) from rfl]
  simp only [e]
  by_cases h4 : o = 4
  · simp [h4]
  · by_cases h1 : o = 1
    · simp [h1]
    · by_cases h3 : o = 3
      · simp [h3]
      · by_cases h5 : o = 5
        · simp [h5]
        · by_cases h6 : o = 6
          · simp [h6]
          · simp [h1, h3, h4, h5, h6]
/-- the instruction that bytes begin with, and what stands behind it -/
def oneR (b : UInt8) (l : List UInt8) : Option (InsT × List UInt8) :=
  match textsN b.toNat with
  | 0 => if insP (b.toNat, ⟨#[]⟩, ⟨#[]⟩) then some ((b.toNat, ⟨#[]⟩, ⟨#[]⟩), l) else none
  | 1 => (match takeT l with
    | none => none
    | some (s, l1) => if insP (b.toNat, s, ⟨#[]⟩) then some ((b.toNat, s, ⟨#[]⟩), l1) else none)
  | _ => (match takeT l with
    | none => none
    | some (s, l1) => match takeT l1 with
      | none => none
      | some (t, l2) => if insP (b.toNat, s, t) then some ((b.toNat, s, t), l2) else none)
theorem takeT_size {l l1 : List UInt8} {s : ByteArray} (h : takeT l = some (s, l1)) : s.size ≤ 255 ∧ l1.length < l.length := by
  match l, h with
  | b :: l, h =>
    rw [takeT_cons] at h
    split at h
    · cases h
    · cases h
      have hb : b.toNat < 256 := b.toNat_lt
      refine ⟨?_, by simp <;> omega⟩
      show (List.take b.toNat l).toArray.size ≤ 255
      simp
      omega
/-- what code.one comes to -/
inductive OneV (b : UInt8) (l : List UInt8) : AV → Prop where
  | ok (i : InsT) (l1 : List UInt8) (h : oneR b l = some (i, l1)) : OneV b l (.tup [insA i, .sl 1 (bl l1) .imm, .s (.bool true)])
  | no (i : InsT) (ws : List AV) (h : oneR b l = none) : OneV b l (.tup [insA i, .sl 1 ws .imm, .s (.bool false)])
  | nil (i : InsT) (h : oneR b l = none) : OneV b l (.tup [insA i, .sl 1 [] .full, .s (.bool false)])
theorem OneV.may {b : UInt8} {l : List UInt8} (i : InsT) (l1 : List UInt8) (h : oneR b l = if insP i then some (i, l1) else none) : OneV b l (.tup [insA i, .sl 1 (bl l1) .imm, .s (.bool (insP i))]) := by
  cases hm : insP i with
  | true => rw [hm] at h; exact .ok i l1 h
  | false => rw [hm] at h; exact .no i _ h
theorem s_code_one (b : UInt8) (l : List UInt8) (hs : l.length < 9223372036854775807) : ∃ v, evl (envV realAr) (.call 57 [.sl 1 (bl (b :: l)) .imm] []) = some (.ret v []) ∧ OneV b l v := by
  have hb : b.toNat < 256 := b.toNat_lt
  have e0 : (bl (b :: l)).length = l.length + 1 := by simp [bl_len]
  have e2 : lcut (bl (b :: l)) 1 (l.length + 1 - 1) = bl l := by rw [bl_cut]; simp
  have hw : realAr.wr .i64 (.ofNat b.toNat) = .ofNat b.toNat := wrap_nat (by omega)
  have h5 : realAr.nle 1 (l.length + 1) = true := by simp [realAr_ok.nle]
  have h8 : realAr.nle (l.length + 1) (l.length + 1) = true := by simp [realAr_ok.nle]
  have ht := eq_code_texts realAr (.ofNat b.toNat)
  rw [textsA_n] at ht
  have hT := s_code_text l (by omega)
  have hn : textsN b.toNat = 0 ∨ textsN b.toNat = 1 ∨ textsN b.toNat = 2 := by unfold textsN; split <;> (try split) <;> simp
  rcases hn with hn | hn | hn
  · rw [hn] at ht
    refine ⟨_, eq_code_one0 realAr realAr_ok _ _ _ _ _ e0 rfl e2 hw h5 h8 ht (s_ins_May (b.toNat, ⟨#[]⟩, ⟨#[]⟩) (Nat.zero_le _) (Nat.zero_le _)), ?_⟩
    refine OneV.may (b.toNat, ⟨#[]⟩, ⟨#[]⟩) l ?_
    unfold oneR
    simp only [hn]
  · rw [hn] at ht
    cases h : takeT l with
    | none =>
      rw [h] at hT
      refine ⟨_, eq_code_one1a realAr realAr_ok _ _ _ _ _ e0 rfl e2 hw h5 h8 ht hT, ?_⟩
      refine OneV.nil (b.toNat, ⟨#[]⟩, ⟨#[]⟩) ?_
      unfold oneR
      simp only [hn, h]
    | some q =>
      obtain ⟨s, l1⟩ := q
      rw [h] at hT
      have := takeT_size h
      refine ⟨_, eq_code_one1 realAr realAr_ok _ _ _ _ _ _ _ e0 rfl e2 hw h5 h8 ht hT (s_ins_May (b.toNat, s, ⟨#[]⟩) (by simp only; omega) (Nat.zero_le _)), ?_⟩
      refine OneV.may (b.toNat, s, ⟨#[]⟩) l1 ?_
      unfold oneR
      simp only [hn, h]
  · rw [hn] at ht
    cases h : takeT l with
    | none =>
      rw [h] at hT
      refine ⟨_, eq_code_one2a realAr realAr_ok _ _ _ _ _ e0 rfl e2 hw h5 h8 ht hT, ?_⟩
      refine OneV.nil (b.toNat, ⟨#[]⟩, ⟨#[]⟩) ?_
      unfold oneR
      simp only [hn, h]
    | some q =>
      obtain ⟨s, l1⟩ := q
      rw [h] at hT
      have := takeT_size h
      have hT1 := s_code_text l1 (by omega)
      cases h1 : takeT l1 with
      | none =>
        rw [h1] at hT1
        refine ⟨_, eq_code_one2b realAr realAr_ok _ _ _ _ _ _ _ e0 rfl e2 hw h5 h8 ht hT hT1, ?_⟩
        refine OneV.nil (b.toNat, s, ⟨#[]⟩) ?_
        unfold oneR
        simp only [hn, h, h1]
      | some q =>
        obtain ⟨t, l2⟩ := q
        rw [h1] at hT1
        have := takeT_size h1
        refine ⟨_, eq_code_one2 realAr realAr_ok _ _ _ _ _ _ _ _ _ e0 rfl e2 hw h5 h8 ht hT hT1 (s_ins_May (b.toNat, s, t) (by simp only; omega) (by simp only; omega)), ?_⟩
        refine OneV.may (b.toNat, s, t) l2 ?_
        unfold oneR
        simp only [hn, h, h1]
theorem oneR_len {b : UInt8} {l l1 : List UInt8} {i : InsT} (h : oneR b l = some (i, l1)) : l1.length ≤ l.length := by
  unfold oneR at h
  split at h
  · split at h <;> cases h
    exact Nat.le_refl _
  · split at h
    · cases h
    · rename_i h1
      split at h <;> cases h
      exact Nat.le_of_lt (takeT_size h1).2
  · split at h
    · cases h
    · rename_i h1
      split at h
      · cases h
      · rename_i h2
        split at h <;> cases h
        have := (takeT_size h1).2
        have := (takeT_size h2).2
        omega
/-- the program of bytes, or an error's number -/
def getR : Nat → List InsT → List UInt8 → Except Int (List InsT)
  | _, is, [] => .ok is
  | 0, _, _ :: _ => .error 7
  | f + 1, is, b :: l => match oneR b l with
    | none => .error 7
    | some (i, l1) => if is.length = 120 then .error 13 else getR f (is ++ [i]) l1
def stG (bs : List UInt8) (is : List InsT) : St := { n := 32, k := 0, fr := [(0, .sl 1 (bl bs) .imm), (4, .sl 3 (is.map insA) .full)], O := [] }
def resG : Except Int (List InsT) → Res
  | .ok is => .code (.exit 0) { n := 32, k := 0, fr := [(0, .sl 1 [] .imm), (4, .sl 3 (is.map insA) .full), (10, .s (.bool false))], O := [] }
  | .error e => .code .ret { n := 32, k := 0, fr := [(2, .sl 3 [] .full), (3, .s (.iface 39 (.int .i64 e)))], O := [] }
theorem lp_code_Get : ∀ (f : Nat) (bs : List UInt8) (is : List InsT), bs.length ≤ f → bs.length ≤ 9223372036854775807 → is.length ≤ 120 →
    lpOf (envV realAr) 16 bd16 2 (stG bs is) = some (resG (getR f is bs))
  | f, [], is, _, _, _ => by
    have : getR f is [] = .ok is := by cases f <;> rfl
    rw [this]
    exact lp_code_Get_end realAr realAr_ok _
  | 0, b :: l, is, h, _, _ => by simp at h
  | f + 1, b :: l, is, h, hs, hi => by
    simp only [List.length_cons] at h hs
    obtain ⟨v, k1, k2⟩ := s_code_one b l (by omega)
    have e0 : (bl (b :: l)).length = l.length + 1 := by simp [bl_len]
    have h3 : realAr.lt 0 (.ofNat (l.length + 1)) = true := by simp [realAr_lt] <;> omega
    unfold getR
    cases k2 with
    | no i ws hn => rw [hn]; exact lp_code_Get_no realAr realAr_ok _ _ ws i.2.1 i.2.2 i.1 _ e0 k1 h3
    | nil i hn => rw [hn]; exact lp_code_Get_no2 realAr realAr_ok _ _ i.2.1 i.2.2 i.1 _ e0 k1 h3
    | ok i l1 hn =>
      rw [hn]
      simp only
      have := oneR_len hn
      have hl : (is.map insA).length = is.length := by simp
      by_cases hk : is.length = 120
      · rw [if_pos hk]
        exact lp_code_Get_large realAr realAr_ok _ _ _ i.2.1 i.2.2 i.1 _ is.length e0 hl k1 h3 (by simp [realAr_eq, hk])
      · rw [if_neg hk]
        refine lp_code_Get_on realAr realAr_ok _ _ ((is ++ [i]).map insA) (bl l1) i.2.1 i.2.2 i.1 _ is.length e0 hl (by simp [insA]) k1 h3 (by simp [realAr_eq] <;> omega) (by simp [realAr_ok.neq]) (by simp [realAr_ok.fit] <;> omega)
          (lp_code_Get f l1 (is ++ [i]) (by omega) (by omega) (by simp <;> omega))
end Go.Va
namespace Go.Va
open Go.Proofs
set_option maxRecDepth 100000
set_option maxHeartbeats 4000000
theorem s_law12_up : evl (envV realAr) (.call 15 [] []) = some (.ret (.s (.bool true)) []) := evl_of (n := 60) (by kernel_rfl)
end Go.Va
