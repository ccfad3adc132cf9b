/- The functions that the statement reaches, by equations: no statement of its own. -/
import Derived.Test.YtmklimlepgiffaaEq4
set_option linter.unusedVariables false
set_option linter.unusedSimpArgs false
set_option linter.unusedSectionVars false
namespace Go.Va.Es
open Go.Va
open Go.Proofs
set_option maxRecDepth 100000
set_option maxHeartbeats 4000000
abbrev u8A (c : UInt8) : AV := .s (.int .u8 (c.toNat : Int))
theorem u8_eq (c : UInt8) (n : Nat) (hn : n < 256) : ((c.toNat : Int) = (n : Int)) ↔ c = UInt8.ofNat n := by
  constructor
  · intro h
    have : c.toNat = n := by omega
    rw [← this]
    simp
  · intro h
    rw [h, UInt8.toNat_ofNat']
    omega
theorem s_plain (c : UInt8) : evl (envV realAr) (.call 86 [u8A c] []) = some (.ret (.s (.bool (plainB c))) []) := by
  have h1 : evl (envV realAr) (.call 113 [.s (.string sgn), u8A c] []) = some (.ret (.s (.int .i64 (idxByte signsL c))) []) := by
    rw [evl_ext (envV realAr) _ _ _ (e := xIndexByteString) rfl]
    show (okR (.s (.int .i64 (idxByte _ (UInt8.ofNat ((c.toNat : Int)).toNat)))) []).run _ = _
    rw [Int.toNat_natCast, UInt8.ofNat_toNat]
    rfl
  refine eq_plain realAr realAr_ok (plainB c) _ _ (eq_Index2 realAr realAr_ok _ _ (eq_Index realAr realAr_ok _ _ h1)) ?_
  rw [hlt]
  unfold idxByte signsL plainB
  simp only [List.findIdx?_cons, List.findIdx?_nil]
  rw [show (c == 38) = ((38 : UInt8) == c) from Bool.beq_comm, show (c == 60) = ((60 : UInt8) == c) from Bool.beq_comm, show (c == 62) = ((62 : UInt8) == c) from Bool.beq_comm, show (c == 34) = ((34 : UInt8) == c) from Bool.beq_comm]
  cases (38 : UInt8) == c
  · cases (60 : UInt8) == c
    · cases (62 : UInt8) == c
      · cases (34 : UInt8) == c <;> rfl
      · rfl
    · rfl
  · rfl
theorem s_word (c : UInt8) : evl (envV realAr) (.call 88 [u8A c] []) = some (.ret (.s (.string (baOf (wordL c)))) []) := by
  rw [eq_word realAr realAr_ok, heq, heq, heq]
  have e1 : decide ((c.toNat : Int) = 38) = decide (c = 38) := decide_eq_decide.2 (u8_eq c 38 (by omega))
  have e2 : decide ((c.toNat : Int) = 60) = decide (c = 60) := decide_eq_decide.2 (u8_eq c 60 (by omega))
  have e3 : decide ((c.toNat : Int) = 62) = decide (c = 62) := decide_eq_decide.2 (u8_eq c 62 (by omega))
  rw [e1, e2, e3]
  unfold wordL
  by_cases h1 : c = 38
  · rw [decide_eq_true h1, if_pos h1]; rfl
  · rw [decide_eq_false h1, if_neg h1]
    by_cases h2 : c = 60
    · rw [decide_eq_true h2, if_pos h2]; rfl
    · rw [decide_eq_false h2, if_neg h2]
      by_cases h3 : c = 62
      · rw [decide_eq_true h3, if_pos h3]; rfl
      · rw [decide_eq_false h3, if_neg h3]; rfl
theorem cut_list (s : ByteArray) (m : Nat) : (s.extract 0 m).data.toList = s.data.toList.take m := by
  simp [List.extract_eq_take_drop]
theorem s_HasPrefix (s w : ByteArray) : evl (envV realAr) (.call 100 [.s (.string s), .s (.string w)] []) = some (.ret (.s (.bool (w.data.toList.isPrefixOf s.data.toList))) []) := by
  refine eq_HasPrefix2 realAr realAr_ok _ _ _ (eq_HasPrefix realAr realAr_ok s w s.size w.size _ rfl rfl ?_ ?_)
  · rw [hle]
    show (bif decide (((w.size : Nat) : Int) ≤ ((s.size : Nat) : Int)) then ((s.extract 0 w.size).data.toList == w.data.toList) else false) = _
    rw [cut_list]
    have e : w.size = w.data.toList.length := (Array.length_toList (xs := w.data)).symm
    have e2 : s.size = s.data.toList.length := (Array.length_toList (xs := s.data)).symm
    rw [Bool.eq_iff_iff, List.isPrefixOf_iff_prefix, List.prefix_iff_eq_take, ← e]
    by_cases h : w.size ≤ s.size
    · rw [decide_eq_true (by omega)]
      simp only [cond_true, beq_iff_eq]
      exact eq_comm
    · rw [decide_eq_false (by omega)]
      simp only [cond_false, Bool.false_eq_true, false_iff]
      intro k
      have := congrArg List.length k
      rw [List.length_take, ← e, ← e2] at this
      omega
  · rw [hle]
    by_cases h : w.size ≤ s.size
    · rw [hble h, decide_eq_true (by simp; exact h)]
    · rw [decide_eq_false (by simp; omega)]
      cases q : Nat.ble w.size s.size with
      | false => rfl
      | true => exact (h (Nat.le_of_ble_eq_true q)).elim
theorem s_first (s : ByteArray) (c : UInt8) (t : List UInt8) (hs : s.data.toList = c :: t) : evl (envV realAr) (.call 82 [.s (.string s)] []) = some (.ret (.tup [u8A (escFirst (c :: t)).1, .s (.int .i64 (.ofNat (escFirst (c :: t)).2))]) []) := by
  have h0 : realAr.at_ s 0 = some (c.toNat : Int) := by
    have hsz : 0 < s.size := by
      have : s.data.toList.length = t.length + 1 := by rw [hs]; rfl
      rw [Array.length_toList] at this
      show 0 < s.data.size
      omega
    show (match s[0]? with | some b => some (Int.ofNat b.toNat) | none => none) = _
    have e : s[0]? = some c := by
      rw [getElem?_pos s 0 hsz]
      have : s.data.toList[0]? = some c := by rw [hs]; rfl
      rw [Array.getElem?_toList, Array.getElem?_eq_getElem hsz] at this
      exact this
    rw [e]
    rfl
  have hp := s_plain c
  rw [show escFirst (c :: t) = (if plainB c then (c, 1) else if (wordL 38).isPrefixOf (c :: t) then (38, 5) else if (wordL 60).isPrefixOf (c :: t) then (60, 4) else if (wordL 62).isPrefixOf (c :: t) then (62, 4) else if (wordL 34).isPrefixOf (c :: t) then (34, 6) else (0, 0)) from rfl]
  cases hq : plainB c with
  | true =>
    rw [hq] at hp
    exact eq_first_plain realAr realAr_ok s _ h0 hp
  | false =>
    rw [hq] at hp
    have pf := fun w => s_HasPrefix s (baOf w)
    have e34 : lpOf (envV realAr) 82 bd82 4 (stF s 4) = some (.code (.exit 0) { n := 25, k := 0, fr := [(0, .s (.string s)), (11, .s (.int .i64 (.ofNat 4))), (12, .s (.bool false))], O := [] }) := lp_first_end realAr realAr_ok s 4 rfl
    have e3 := lp_first realAr realAr_ok s (baOf (wordL 34)) 34 3 6 _ rfl rfl (s_word 34) (pf _) rfl rfl e34
    have e2 := lp_first realAr realAr_ok s (baOf (wordL 62)) 62 2 4 _ rfl rfl (s_word 62) (pf _) rfl rfl e3
    have e1 := lp_first realAr realAr_ok s (baOf (wordL 60)) 60 1 4 _ rfl rfl (s_word 60) (pf _) rfl rfl e2
    have e0 := lp_first realAr realAr_ok s (baOf (wordL 38)) 38 0 5 _ rfl rfl (s_word 38) (pf _) rfl rfl e1
    have el : ∀ w, (baOf w).data.toList = w := fun w => rfl
    simp only [el, hs] at e0
    simp only [Bool.false_eq_true, if_false]
    cases q0 : (wordL 38).isPrefixOf (c :: t) with
    | true =>
      rw [q0] at e0
      exact eq_first_ret realAr realAr_ok s _ 5 38 h0 hp e0
    | false =>
      rw [q0] at e0
      simp only [cond_false, Bool.false_eq_true, if_false] at e0 ⊢
      cases q1 : (wordL 60).isPrefixOf (c :: t) with
      | true =>
        rw [q1] at e0
        exact eq_first_ret realAr realAr_ok s _ 4 60 h0 hp e0
      | false =>
        rw [q1] at e0
        simp only [cond_false, Bool.false_eq_true, if_false] at e0 ⊢
        cases q2 : (wordL 62).isPrefixOf (c :: t) with
        | true =>
          rw [q2] at e0
          exact eq_first_ret realAr realAr_ok s _ 4 62 h0 hp e0
        | false =>
          rw [q2] at e0
          simp only [cond_false, Bool.false_eq_true, if_false] at e0 ⊢
          cases q3 : (wordL 34).isPrefixOf (c :: t) with
          | true =>
            rw [q3] at e0
            exact eq_first_ret realAr realAr_ok s _ 6 34 h0 hp e0
          | false =>
            rw [q3] at e0
            exact eq_first_none realAr realAr_ok s _ h0 hp e0
theorem fn_all : fnT.Forall (fun f fn => Try.prog.funcs[f]? = some fn ∧ (fn.name == "runtime.NumGoroutine") = false) := by
  unfold fnT
  simp only [Tr.Forall]
  and_intros <;> first | trivial | kernel_rfl
theorem env_ok : EnvOk Try.prog (envV realAr) where
  A := rfl
  fn f fn h := Tr.get_of fn_all h
  ty t ty h := Tr.all_get (p := fun t ty => tyChk Try.prog t ty) (by kernel_rfl) h
  mixed := by kernel_rfl
theorem ext_ok (W : World) : ExtOk { P := Try.prog, w0 := W } (envV realAr) := by
  intro f e he E hE ys O r h
  have key : extT.Forall (fun f e => ∀ (E : Task → Option Res) ys O r, (e ys O).run E = some r → TaskOk { P := Try.prog, w0 := W } (.call f ys O) r) := by
    unfold extT
    simp only [Tr.Forall]
    refine ⟨fun E ys O r h => ?_, trivial, trivial⟩
    exact idx_ok (fn := Try.f113) Try.func113 (by kernel_rfl) (by kernel_rfl) (by kernel_rfl) (by rfl) h
  exact Tr.get_of key he E ys O r h
end Go.Va.Es
