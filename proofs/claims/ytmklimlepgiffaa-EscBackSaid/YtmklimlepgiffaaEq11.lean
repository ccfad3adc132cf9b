/- The functions that the statement reaches, by equations: no statement of its own. -/
import Derived.Test.YtmklimlepgiffaaEq10
set_option linter.unusedVariables false
set_option linter.unusedSimpArgs false
set_option linter.unusedSectionVars false
namespace Go.Va
open Go.Proofs
set_option maxRecDepth 100000
set_option maxHeartbeats 4000000
def signL (c : UInt8) : List UInt8 := if plainB c then [c] else wordL c
theorem putL_cons (c : UInt8) (l : List UInt8) : escPutL (c :: l) = signL c ++ escPutL l := rfl
theorem putL_app : ∀ (a b : List UInt8), escPutL (a ++ b) = escPutL a ++ escPutL b
  | [], b => rfl
  | c :: a, b => by simp [escPutL, putL_app a b]
theorem sign_len (c : UInt8) : 1 ≤ (signL c).length ∧ (signL c).length ≤ 6 := by
  unfold signL wordL
  split
  · simp
  · split
    · simp
    · split
      · simp
      · split <;> simp
theorem putL_le : ∀ (a : List UInt8), (escPutL a).length ≤ 6 * a.length
  | [] => by simp [escPutL]
  | c :: a => by
    have := putL_le a
    have := (sign_len c).2
    rw [putL_cons, List.length_append, List.length_cons]
    omega
theorem s_sign (c : UInt8) : evl (envV realAr) (.call 85 [Es.u8A c] []) = some (.ret (.s (.string (baOf (signL c)))) []) := by
  rw [eq_sign realAr realAr_ok, heq, heq, heq, heq]
  have e1 : decide ((c.toNat : Int) = 38) = decide (c = 38) := decide_eq_decide.2 (Es.u8_eq c 38 (by omega))
  have e2 : decide ((c.toNat : Int) = 60) = decide (c = 60) := decide_eq_decide.2 (Es.u8_eq c 60 (by omega))
  have e3 : decide ((c.toNat : Int) = 62) = decide (c = 62) := decide_eq_decide.2 (Es.u8_eq c 62 (by omega))
  have e4 : decide ((c.toNat : Int) = 34) = decide (c = 34) := decide_eq_decide.2 (Es.u8_eq c 34 (by omega))
  rw [e1, e2, e3, e4]
  by_cases h1 : c = 38
  · subst h1; rfl
  · rw [decide_eq_false h1]
    by_cases h2 : c = 60
    · subst h2; rfl
    · rw [decide_eq_false h2]
      by_cases h3 : c = 62
      · subst h3; rfl
      · rw [decide_eq_false h3]
        by_cases h4 : c = 34
        · subst h4; rfl
        · rw [decide_eq_false h4]
          have hp : plainB c = true := by simp [plainB, h1, h2, h3, h4]
          simp only [cond_false, signL, hp, if_true]
          rw [Int.toNat_natCast, UInt8.ofNat_toNat]
          rfl
theorem put_loop (l : List UInt8) (hl : l.length ≤ 100000) : ∀ (m i : Nat), m + i = l.length →
    lpOf (envV realAr) 49 bd49 3 (stP (baOf l) (baOf (escPutL (l.take i))) i) = some (.code (.exit 0) (stPe (baOf l) (baOf (escPutL l)) l.length))
  | 0, i, h => by
    have : i = l.length := by omega
    subst this
    rw [List.take_length]
    exact lp_pute realAr realAr_ok _ _ _ l.length (ba_siz l) (nlt_f (Nat.le_refl _))
  | m + 1, i, h => by
    have hi : i < l.length := by omega
    have h1 := putL_le (l.take i)
    rw [List.length_take] at h1
    have h2 := (sign_len l[i]).2
    refine lp_put realAr realAr_ok _ (baOf (signL l[i])) _ (baOf (escPutL (l.take (i + 1)))) _ i l.length (ba_siz l) (nlt_t hi) (ba_at hi) (s_sign l[i]) ?_ ?_ (ninc (by omega)) (put_loop l hl m (i + 1) (by omega))
    · rw [ba_siz, ba_siz, realAr_ok.nle]
      exact decide_eq_true (by omega)
    · rw [ba_cat, List.take_succ_eq_append_getElem hi, putL_app]
      rw [show escPutL [l[i]] = signL l[i] ++ [] from rfl, List.append_nil]
theorem s_ref_put (l : List UInt8) (hl : l.length ≤ 100000) : evl (envV realAr) (.call 49 [.s (.string (baOf l))] []) = some (.ret (.s (.string (baOf (escPutL l)))) []) :=
  eq_put realAr realAr_ok _ _ l.length (put_loop l hl l.length 0 (by omega))
/-! which sign a text begins with -/
theorem wl_take (c : UInt8) : (wordL c).head? = some 38 := by
  unfold wordL
  split
  · rfl
  · split
    · rfl
    · split <;> rfl
theorem pre_take {w l : List UInt8} (h : w.isPrefixOf l = true) (n : Nat) (hn : n ≤ w.length) : l.take n = w.take n := by
  obtain ⟨t, rfl⟩ := List.isPrefixOf_iff_prefix.1 h
  rw [List.take_append_of_le_length hn]
theorem cand_iff (c0 : UInt8) (t : List UInt8) (c : UInt8) : (signL c).isPrefixOf (c0 :: t) = true ↔ escFirst (c0 :: t) = (c, (signL c).length) := by
  rw [show escFirst (c0 :: t) = (if plainB c0 then (c0, 1) else if (wordL 38).isPrefixOf (c0 :: t) then (38, 5) else if (wordL 60).isPrefixOf (c0 :: t) then (60, 4) else if (wordL 62).isPrefixOf (c0 :: t) then (62, 4) else if (wordL 34).isPrefixOf (c0 :: t) then (34, 6) else (0, 0)) from rfl]
  cases hp : plainB c with
  | true =>
    have es : signL c = [c] := by simp [signL, hp]
    rw [es]
    have e1 : [c].isPrefixOf (c0 :: t) = (c == c0) := by simp [List.isPrefixOf]
    rw [e1]
    constructor
    · intro h
      have : c = c0 := by simpa using h
      subst this
      rw [hp]
      rfl
    · intro h
      cases h0 : plainB c0 with
      | true =>
        rw [h0] at h
        simp at h
        simp [h]
      | false =>
        rw [h0] at h
        exfalso
        simp only [Bool.false_eq_true, if_false, List.length_cons, List.length_nil] at h
        split at h
        · simp at h
        · split at h
          · simp at h
          · split at h
            · simp at h
            · split at h <;> simp at h
  | false =>
    have es : signL c = wordL c := by simp [signL, hp]
    rw [es]
    have hc : c = 38 ∨ c = 60 ∨ c = 62 ∨ c = 34 := by
      simp [plainB] at hp
      by_cases h1 : c = 38
      · exact .inl h1
      · by_cases h2 : c = 60
        · exact .inr (.inl h2)
        · by_cases h3 : c = 62
          · exact .inr (.inr (.inl h3))
          · exact .inr (.inr (.inr (by simpa [h1, h2, h3] using hp)))
    cases h0 : plainB c0 with
    | true =>
      have hne : c0 ≠ 38 := by
        rintro rfl
        cases h0
      constructor
      · intro h
        have := pre_take h 1 (by rcases hc with rfl | rfl | rfl | rfl <;> decide)
        exfalso
        rcases hc with rfl | rfl | rfl | rfl <;> exact hne (by simpa [wordL] using this)
      · intro h
        exfalso
        simp only [if_true, Prod.mk.injEq] at h
        rw [h.1] at h0
        rw [h0] at hp
        cases hp
    | false =>
      simp only [Bool.false_eq_true, if_false]
      have two : ∀ a : UInt8, (a = 38 ∨ a = 60 ∨ a = 62 ∨ a = 34) → (wordL a).isPrefixOf (c0 :: t) = true → (c0 :: t).take 2 = (wordL a).take 2 := fun a ha h => pre_take h 2 (by rcases ha with rfl | rfl | rfl | rfl <;> decide)
      have uniq : ∀ a b : UInt8, (a = 38 ∨ a = 60 ∨ a = 62 ∨ a = 34) → (b = 38 ∨ b = 60 ∨ b = 62 ∨ b = 34) → (wordL a).isPrefixOf (c0 :: t) = true → (wordL b).isPrefixOf (c0 :: t) = true → a = b := by
        intro a b ha hb h1 h2
        have e := (two a ha h1).symm.trans (two b hb h2)
        rcases ha with rfl | rfl | rfl | rfl <;> rcases hb with rfl | rfl | rfl | rfl <;> first | rfl | (exfalso; revert e; decide)
      constructor
      · intro h
        split
        · rename_i k; rw [uniq c 38 hc (by decide) h k]; rfl
        · split
          · rename_i k; rw [uniq c 60 hc (by decide) h k]; rfl
          · split
            · rename_i k; rw [uniq c 62 hc (by decide) h k]; rfl
            · split
              · rename_i k; rw [uniq c 34 hc (by decide) h k]; rfl
              · rename_i k1 k2 k3 k4
                exfalso
                rcases hc with rfl | rfl | rfl | rfl
                · exact k1 h
                · exact k2 h
                · exact k3 h
                · exact k4 h
      · intro h
        split at h
        · rename_i k
          simp only [Prod.mk.injEq] at h
          rw [← h.1]; exact k
        · split at h
          · rename_i k
            simp only [Prod.mk.injEq] at h
            rw [← h.1]; exact k
          · split at h
            · rename_i k
              simp only [Prod.mk.injEq] at h
              rw [← h.1]; exact k
            · split at h
              · rename_i k
                simp only [Prod.mk.injEq] at h
                rw [← h.1]; exact k
              · simp only [Prod.mk.injEq] at h
                exfalso
                rcases hc with rfl | rfl | rfl | rfl
                · exact absurd h.1 (by decide)
                · exact absurd h.1 (by decide)
                · exact absurd h.1 (by decide)
                · exact absurd h.1 (by decide)
end Go.Va
namespace Go.Va
open Go.Proofs
set_option maxRecDepth 100000
set_option maxHeartbeats 4000000
theorem first_some (c0 : UInt8) (t : List UInt8) (d : UInt8) (k : Nat) (h : escFirst (c0 :: t) = (d, k + 1)) : k + 1 = (signL d).length := by
  rw [show escFirst (c0 :: t) = (if plainB c0 then (c0, 1) else if (wordL 38).isPrefixOf (c0 :: t) then (38, 5) else if (wordL 60).isPrefixOf (c0 :: t) then (60, 4) else if (wordL 62).isPrefixOf (c0 :: t) then (62, 4) else if (wordL 34).isPrefixOf (c0 :: t) then (34, 6) else (0, 0)) from rfl] at h
  cases h0 : plainB c0 with
  | true =>
    rw [h0] at h
    simp only [if_true, Prod.mk.injEq] at h
    rw [← h.1, ← h.2]
    simp [signL, h0]
  | false =>
    rw [h0] at h
    simp only [Bool.false_eq_true, if_false] at h
    split at h
    · simp only [Prod.mk.injEq] at h; rw [← h.1, ← h.2]; rfl
    · split at h
      · simp only [Prod.mk.injEq] at h; rw [← h.1, ← h.2]; rfl
      · split at h
        · simp only [Prod.mk.injEq] at h; rw [← h.1, ← h.2]; rfl
        · split at h
          · simp only [Prod.mk.injEq] at h; rw [← h.1, ← h.2]; rfl
          · simp at h
theorem wr_u8 (c : Nat) (h : c < 256) : realAr.wr .u8 (.ofNat c) = ((UInt8.ofNat c).toNat : Int) := by
  rw [realAr_ok.wr]
  have e : (UInt8.ofNat c).toNat = c := by
    rw [UInt8.toNat_ofNat']
    omega
  rw [e]
  show IntKind.wrap .u8 (c : Int) = c
  rw [IntKind.wrap_u8]
  omega
theorem in_step (l out : List UInt8) (c : Nat) (hc : c < 256) (hl : l.length ≤ 100000) (ho : out.length ≤ 100000) {r : Option Res}
    (hr : lpOf (envV realAr) 47 bd47 5 (bif (signL (UInt8.ofNat c)).isPrefixOf l then stI (baOf l) (baOf (out ++ [UInt8.ofNat c])) (.ofNat (signL (UInt8.ofNat c)).length) (Nat.succ c) else stI (baOf l) (baOf out) 0 (Nat.succ c)) = r) :
    lpOf (envV realAr) 47 bd47 5 (stI (baOf l) (baOf out) 0 c) = r := by
  by_cases h : l.length < (signL (UInt8.ofNat c)).length
  · have hq : (signL (UInt8.ofNat c)).isPrefixOf l = false := by
      cases q : (signL (UInt8.ofNat c)).isPrefixOf l with
      | false => rfl
      | true =>
        have := (List.isPrefixOf_iff_prefix.1 q).length_le
        omega
    rw [hq] at hr
    exact lp_in_short realAr realAr_ok (baOf l) _ (baOf out) _ l.length _ c (nlt_t (j := 256) hc) (wr_u8 c hc) (s_sign _) (ba_siz l) (ba_siz _) (hle_f (Int.ofNat_lt.2 h)) (ninc (by omega)) hr
  · refine lp_in realAr realAr_ok (baOf l) _ (baOf out) (baOf (out ++ [UInt8.ofNat c])) _ l.length _ c ((signL (UInt8.ofNat c)).isPrefixOf l) (nlt_t (j := 256) hc) (wr_u8 c hc) (s_sign _) (ba_siz l) (ba_siz _) (hle_t (Int.ofNat_le.2 (by omega))) (hble (by omega)) (ninc (by omega)) ?_ ?_ ?_ hr
    · rw [ba_cut, List.drop_zero, ba_seq]
      rw [Bool.eq_iff_iff, List.isPrefixOf_iff_prefix, List.prefix_iff_eq_take]
      simp only [beq_iff_eq]
      exact eq_comm
    · rw [Int.toNat_natCast, UInt8.ofNat_toNat]
      show Nat.ble (realAr.siz (baOf out) + realAr.siz (baOf [_])) _ = true
      rw [ba_siz, ba_siz]
      exact hble (by simp; omega)
    · rw [Int.toNat_natCast, UInt8.ofNat_toNat]
      exact ba_cat _ _
theorem in_none (l out : List UInt8) (hl : l.length ≤ 100000) (ho : out.length ≤ 100000) (hn : ∀ c, (signL c).isPrefixOf l = false) : ∀ (m c : Nat), m + c = 256 →
    lpOf (envV realAr) 47 bd47 5 (stI (baOf l) (baOf out) 0 c) = some (.code (.exit 2) (stIe (baOf l) (baOf out) 0 256))
  | 0, c, h => by
    have : c = 256 := by omega
    subst this
    exact lp_in_end realAr realAr_ok _ _ 256 rfl
  | m + 1, c, h => by
    refine in_step l out c (by omega) hl ho ?_
    rw [hn]
    exact in_none l out hl ho hn m (c + 1) (by omega)
theorem in_met (l out : List UInt8) (hl : l.length ≤ 100000) (ho : out.length ≤ 100000) (d : UInt8) (hd : (signL d).isPrefixOf l = true) (hu : ∀ c, (signL c).isPrefixOf l = true → c = d) : ∀ (m c : Nat), m + c = d.toNat →
    lpOf (envV realAr) 47 bd47 5 (stI (baOf l) (baOf out) 0 c) = some (.code (.exit 2) (stIe (baOf l) (baOf (out ++ [d])) (.ofNat (signL d).length) (d.toNat + 1)))
  | 0, c, h => by
    have : c = d.toNat := by omega
    subst this
    have hlt := d.toNat_lt
    refine in_step l out d.toNat (by omega) hl ho ?_
    rw [UInt8.ofNat_toNat, hd]
    have := (sign_len d).1
    exact lp_in_met realAr realAr_ok _ _ _ _ _ rfl (heq_f (by show ((signL d).length : Int) ≠ 0; omega))
  | m + 1, c, h => by
    have hlt := d.toNat_lt
    refine in_step l out c (by omega) hl ho ?_
    have hne : (signL (UInt8.ofNat c)).isPrefixOf l = false := by
      cases q : (signL (UInt8.ofNat c)).isPrefixOf l with
      | false => rfl
      | true =>
        have e := hu _ q
        have : (UInt8.ofNat c).toNat = d.toNat := by rw [e]
        rw [UInt8.toNat_ofNat'] at this
        omega
    rw [hne]
    exact in_met l out hl ho d hd hu m (c + 1) (by omega)
theorem get_loop : ∀ (m : Nat) (l out : List UInt8), l.length ≤ m → l.length + out.length ≤ 100000 → lpOf (envV realAr) 47 bd47 2 (stG (baOf l) (baOf out)) = (match escGetL m l with
    | some r => some (.code (.exit 0) (stGe (baOf []) (baOf (out ++ r))))
    | none => some (.code .ret stGr)) := by
  have nil : ∀ (m : Nat) (out : List UInt8), lpOf (envV realAr) 47 bd47 2 (stG (baOf []) (baOf out)) = (match escGetL m [] with
      | some r => some (.code (.exit 0) (stGe (baOf []) (baOf (out ++ r))))
      | none => some (.code .ret stGr)) := by
    intro m out
    have e : escGetL m [] = some [] := by cases m <;> rfl
    rw [e]
    simp only [List.append_nil]
    exact lp_get_end realAr realAr_ok _ _ 0 (ba_siz []) rfl
  intro m
  induction m with
  | zero =>
    intro l out hl ho
    have : l = [] := by cases l with | nil => rfl | cons a l => simp at hl
    subst this
    exact nil 0 out
  | succ m ih =>
    intro l out hl ho
    cases l with
    | nil => exact nil (m + 1) out
    | cons c0 t =>
      have hst : escGetL (m + 1) (c0 :: t) = (match escFirst (c0 :: t) with
        | (_, 0) => none
        | (d, k + 1) => match escGetL m ((c0 :: t).drop (k + 1)) with
          | some r => some (d :: r)
          | none => none) := rfl
      have hpos : realAr.lt 0 (.ofNat (c0 :: t).length) = true := hlt_t (by show (0 : Int) < ((c0 :: t).length : Int); simp only [List.length_cons]; omega)
      rw [hst]
      cases hf : escFirst (c0 :: t) with
      | mk d k =>
        cases k with
        | zero =>
          have hn : ∀ c, (signL c).isPrefixOf (c0 :: t) = false := by
            intro c
            cases q : (signL c).isPrefixOf (c0 :: t) with
            | false => rfl
            | true =>
              have := (cand_iff c0 t c).1 q
              rw [hf] at this
              simp only [Prod.mk.injEq] at this
              have := (sign_len c).1
              omega
          exact lp_get_no realAr realAr_ok _ _ (c0 :: t).length 256 (ba_siz _) hpos (in_none (c0 :: t) out (by omega) (by omega) hn 256 0 (by omega))
        | succ k =>
          have hk := first_some c0 t d k hf
          rw [hk] at hf
          have hd : (signL d).isPrefixOf (c0 :: t) = true := (cand_iff c0 t d).2 hf
          have hu : ∀ c, (signL c).isPrefixOf (c0 :: t) = true → c = d := by
            intro c q
            have := (cand_iff c0 t c).1 q
            rw [hf] at this
            simp only [Prod.mk.injEq] at this
            exact this.1.symm
          have hle2 := (List.isPrefixOf_iff_prefix.1 hd).length_le
          have hin := in_met (c0 :: t) out (by omega) (by omega) d hd hu d.toNat 0 (by omega)
          have hdl : ((c0 :: t).drop (k + 1)).length = (c0 :: t).length - (k + 1) := by rw [List.length_drop]
          have hr := ih ((c0 :: t).drop (k + 1)) (out ++ [d]) (by omega) (by rw [hdl, List.length_append]; simp only [List.length_cons, List.length_nil] at *; omega)
          have hg := lp_get realAr realAr_ok (baOf (c0 :: t)) (baOf out) (baOf (out ++ [d])) (baOf ((c0 :: t).drop (k + 1))) (c0 :: t).length (signL d).length _ (ba_siz _) hpos hin (heq_f (by have := (sign_len d).1; show ((signL d).length : Int) ≠ 0; omega)) (hble hle2) (hble (Nat.le_refl _)) (by rw [ba_cut, List.take_length, hk]) hr
          rw [hg]
          dsimp only
          cases escGetL m ((c0 :: t).drop (k + 1)) with
          | none => rfl
          | some z => simp
theorem s_ref_get (l : List UInt8) (hl : l.length ≤ 100000) : evl (envV realAr) (.call 47 [.s (.string (baOf l))] []) = some (.ret (match escGetL l.length l with
    | some r => .tup [.s (.string (baOf r)), .s (.bool true)]
    | none => .tup [.s (.string (baOf [])), .s (.bool false)]) []) := by
  have h := get_loop l.length l [] (Nat.le_refl _) (by simp; omega)
  cases hg : escGetL l.length l with
  | none =>
    rw [hg] at h
    exact eq_get_no realAr realAr_ok _ h
  | some r =>
    rw [hg] at h
    exact eq_get realAr realAr_ok _ _ _ h
theorem s_esc_put (l : List UInt8) (hl : l.length ≤ 100000) : evl (envV realAr) (.call 48 [.s (.string (baOf l))] []) = some (.ret (.s (.string (baOf (escPutL l)))) []) := by
  rw [evl_ext (envV realAr) _ _ _ (e := yEscPut) rfl]
  show (bif Nat.ble (baOf l).size 100000 then okR (.s (.string (baOf (escPutL l)))) [] else noR).run _ = _
  rw [show (baOf l).size = l.length from ba_siz l, hble hl]
  rfl
theorem s_esc_get (l : List UInt8) (hl : l.length ≤ 1000000) : evl (envV realAr) (.call 46 [.s (.string (baOf l))] []) = some (.ret (match escGetL l.length l with
    | some r => .tup [.s (.string (baOf r)), .s (.bool true)]
    | none => .tup [.s (.string (baOf [])), .s (.bool false)]) []) := by
  rw [evl_ext (envV realAr) _ _ _ (e := yEscGet) rfl]
  show (bif Nat.ble (baOf l).size 1000000 then (match escGetL (baOf l).size l with
    | some l => okR (.tup [.s (.string (baOf l)), .s (.bool true)]) []
    | none => okR (.tup [.s (.string (baOf [])), .s (.bool false)]) []) else noR).run _ = _
  rw [show (baOf l).size = l.length from ba_siz l, hble hl]
  cases escGetL l.length l <;> rfl
theorem s_law02_up : evl (envV realAr) (.call 45 [] []) = some (.ret (.s (.bool true)) []) := evl_of (n := 60) (by kernel_rfl)
theorem escTells_law (s : ByteArray) : evl (envV realAr) (.call 8 [.s (.string s)] []) = some (.ret (.s (.bool true)) []) := by
  rw [ba_of s]
  generalize s.data.toList = l
  by_cases h : 300 < l.length
  · exact eq_et_long realAr realAr_ok _ l.length s_law02_up (ba_siz l) (hlt_t (by simp; omega))
  · have h1 := s_esc_get l (by omega)
    have h2 := s_ref_get l (by omega)
    have h3 := s_esc_put l (by omega)
    have h4 := s_ref_put l (by omega)
    cases hg : escGetL l.length l with
    | none =>
      rw [hg] at h1 h2
      exact eq_et realAr realAr_ok _ _ _ l.length false s_law02_up (ba_siz l) (hlt_f (by simp; omega)) h1 h2 h3 h4 (hseqr _) (hseqr _)
    | some r =>
      rw [hg] at h1 h2
      exact eq_et realAr realAr_ok _ _ _ l.length true s_law02_up (ba_siz l) (hlt_f (by simp; omega)) h1 h2 h3 h4 (hseqr _) (hseqr _)
/-! back -/
theorem get_put : ∀ (l : List UInt8) (m : Nat), (escPutL l).length ≤ m → escGetL m (escPutL l) = some l
  | [], m, _ => by cases m <;> rfl
  | c :: l, m, h => by
    rw [putL_cons] at h ⊢
    have hs := (sign_len c).1
    rw [List.length_append] at h
    obtain ⟨c0, t, ht⟩ : ∃ c0 t, signL c ++ escPutL l = c0 :: t := by
      cases hq : signL c with
      | nil => rw [hq] at hs; simp at hs
      | cons a b => exact ⟨a, b ++ escPutL l, rfl⟩
    obtain ⟨m', rfl⟩ : ∃ m', m = m' + 1 := ⟨m - 1, by omega⟩
    have hf : escFirst (c0 :: t) = (c, (signL c).length) := by
      refine (cand_iff c0 t c).1 ?_
      rw [← ht, List.isPrefixOf_iff_prefix]
      exact List.prefix_append _ _
    rw [ht]
    show (match escFirst (c0 :: t) with
        | (_, 0) => none
        | (d, k + 1) => match escGetL m' ((c0 :: t).drop (k + 1)) with
          | some r => some (d :: r)
          | none => none) = _
    rw [hf]
    obtain ⟨k, hk⟩ : ∃ k, (signL c).length = k + 1 := ⟨(signL c).length - 1, by omega⟩
    rw [hk]
    simp only
    rw [← ht, ← hk, List.drop_left, get_put l m' (by omega)]
theorem put_no (l : List UInt8) : ∀ b ∈ escPutL l, b ≠ 60 ∧ b ≠ 62 ∧ b ≠ 34 := by
  induction l with
  | nil => intro b hb; simp [escPutL] at hb
  | cons c l ih =>
    intro b hb
    rw [putL_cons] at hb
    rcases List.mem_append.1 hb with h | h
    · unfold signL at h
      split at h
      · rename_i hp
        simp at h
        subst h
        refine ⟨?_, ?_, ?_⟩ <;> (rintro rfl; cases hp)
      · unfold wordL at h
        split at h
        · clear hb; revert b; decide
        · split at h
          · clear hb; revert b; decide
          · split at h
            · clear hb; revert b; decide
            · clear hb; revert b; decide
    · exact ih b h
theorem back_loop (s t : ByteArray) (a : List UInt8) (hl : a.length ≤ 100000) (hn : ∀ b ∈ a, b ≠ 60 ∧ b ≠ 62 ∧ b ≠ 34) : ∀ (m i : Nat), m + i = a.length →
    lpOf (envV realAr) 9 bd9 9 (stB s t (baOf a) i) = some (.code (.exit 0) (stBe s t (baOf a) a.length))
  | 0, i, h => by
    have : i = a.length := by omega
    subst this
    exact lp_ebe realAr realAr_ok s t _ _ a.length (ba_siz a) (nlt_f (Nat.le_refl _))
  | m + 1, i, h => by
    have hi : i < a.length := by omega
    obtain ⟨n1, n2, n3⟩ := hn a[i] (List.getElem_mem hi)
    exact lp_eb realAr realAr_ok s t _ _ i a.length (ba_siz a) (nlt_t hi) (ba_at hi) (heq_f (fun e => n1 ((Es.u8_eq _ 60 (by omega)).1 e))) (heq_f (fun e => n2 ((Es.u8_eq _ 62 (by omega)).1 e))) (heq_f (fun e => n3 ((Es.u8_eq _ 34 (by omega)).1 e))) (ninc (by omega)) (back_loop s t a hl hn m (i + 1) (by omega))
theorem escBack_law (s t : ByteArray) : evl (envV realAr) (.call 9 [.s (.string s), .s (.string t)] []) = some (.ret (.s (.bool true)) []) := by
  rw [ba_of s, ba_of t]
  generalize s.data.toList = l
  generalize t.data.toList = r
  by_cases h : 300 < l.length ∨ 300 < r.length
  · refine eq_eb_long realAr realAr_ok _ _ l.length r.length s_law02_up (ba_siz l) (ba_siz r) ?_
    rw [hlt, hlt]
    rcases h with h | h
    · rw [decide_eq_true (by simp; omega)]
      rfl
    · rw [decide_eq_true (show (300 : Int) < Int.ofNat r.length by simp; omega)]
      cases decide ((300 : Int) < Int.ofNat l.length) <;> rfl
  · have p1 := putL_le l
    have p2 := putL_le r
    have h1 := s_esc_put l (by omega)
    have h2 := s_esc_get (escPutL l) (by omega)
    rw [get_put l _ (Nat.le_refl _)] at h2
    have h3 := s_esc_put r (by omega)
    have h4 := s_esc_put (l ++ r) (by rw [List.length_append]; omega)
    rw [putL_app] at h4
    refine eq_eb realAr realAr_ok _ _ _ _ _ _ l.length r.length _ _ _ s_law02_up (ba_siz l) (ba_siz r) (hlt_f (by simp; omega)) (hlt_f (by simp; omega)) h1 h2 (hseqr _) (hble (by omega)) (ba_cat l r) h4 h3 ?_ (ba_cat _ _) (hseqr _) (back_loop _ _ (escPutL l) (by omega) (put_no l) _ 0 (Nat.add_zero _))
    rw [ba_siz, ba_siz]
    exact hble (by omega)
end Go.Va
