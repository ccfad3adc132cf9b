/- The functions that the statement reaches, by equations: no statement of its own. -/
import Derived.Test.YtmklimlepgiffabEq13
set_option linter.unusedVariables false
set_option linter.unusedSimpArgs false
set_option linter.unusedSectionVars false
namespace Go.Va
open Go.Proofs
set_option maxRecDepth 100000
theorem lp_wrI (y0 : List InsT) (hl : y0.length ≤ 1000) (oT : Int) (aT bT : ByteArray) (dd : Int) : ∀ (m i : Nat) (key : Bool), m + i = y0.length →
    (lpOf (envV realAr) 62 bd62 15 (stWr (y0.map insA) oT aT bT dd key i) = some (.code .ret stWr11) ∧ ((y0.drop i).any fun j => decide (j.1 = 7)) = true) ∨
    (lpOf (envV realAr) 62 bd62 15 (stWr (y0.map insA) oT aT bT dd key i) = some (.code (.exit 0) (stWre (y0.map insA) oT aT bT dd (key || (y0.drop i).any fun j => elemB j.1 && (j.2.2.data.toList == bT.data.toList)) y0.length)) ∧ ((y0.drop i).any fun j => decide (j.1 = 7)) = false)
  | 0, i, key, h => by
    have : i = y0.length := by omega
    subst this
    rw [List.drop_length, List.any_nil, List.any_nil, Bool.or_false]
    exact .inr ⟨lp_wr_end realAr realAr_ok _ _ _ _ _ _ _ _ (mlen insA y0) (nlt_f (Nat.le_refl _)), rfl⟩
  | m + 1, i, key, h => by
    have hi : i < y0.length := by omega
    have hg := mget insA y0 hi
    rw [List.drop_eq_getElem_cons hi, List.any_cons, List.any_cons]
    have hadd : realAr.add .i64 (.ofNat i) 1 = .ofNat (Nat.succ i) := ninc (by omega)
    have hlt : realAr.lt (.ofNat i) (.ofNat y0.length) = true := nlt_t (by omega)
    have hb : Nat.ble (Nat.succ i) y0.length = true := hble (by omega)
    by_cases h7 : y0[i].1 = 7
    · left
      exact ⟨lp_wr_11 realAr realAr_ok (bs := y0.map insA) (n := y0.length) (i := i) (dd := dd) (o := y0[i].1) (oT := oT) (a := y0[i].2.1) (b := y0[i].2.2) (aT := aT) (bT := bT) (key := key) hg (mlen insA y0) hb (Nat.zero_add _) hlt (heq_t h7), by simp [h7]⟩
    · rw [show decide (y0[i].1 = 7) = false from decide_eq_false h7, Bool.false_or]
      cases he : elemB y0[i].1 with
      | true =>
        have he3 : (bif realAr.eq y0[i].1 1 then true else realAr.eq y0[i].1 3) = true := by
          rw [heq, heq, ← he]
          unfold elemB
          cases decide (y0[i].1 = 1) <;> rfl
        have hbe : (bif key then true else (y0[i].2.2.data.toList == bT.data.toList)) = (key || (y0[i].2.2.data.toList == bT.data.toList)) := by cases key <;> rfl
        have on := fun r => lp_wr_e realAr realAr_ok (bs := y0.map insA) (n := y0.length) (i := i) (dd := dd) (o := y0[i].1) (oT := oT) (a := y0[i].2.1) (b := y0[i].2.2) (aT := aT) (bT := bT) (key := key) (q := (y0[i].2.2.data.toList == bT.data.toList)) (r := r) hg (mlen insA y0) hb (Nat.zero_add _) hlt (heq_f h7) he3 rfl hadd
        rw [hbe] at on
        rw [Bool.true_and, ← Bool.or_assoc]
        rcases lp_wrI y0 hl oT aT bT dd m (i + 1) (key || (y0[i].2.2.data.toList == bT.data.toList)) (by omega) with ⟨e1, e2⟩ | ⟨e1, e2⟩
        · exact .inl ⟨on _ e1, e2⟩
        · exact .inr ⟨on _ e1, e2⟩
      | false =>
        have h13 : y0[i].1 ≠ 1 ∧ y0[i].1 ≠ 3 := by
          unfold elemB at he
          rw [Bool.or_eq_false_iff, decide_eq_false_iff_not, decide_eq_false_iff_not] at he
          exact he
        have on := fun r => lp_wr_o realAr realAr_ok (bs := y0.map insA) (n := y0.length) (i := i) (dd := dd) (o := y0[i].1) (oT := oT) (a := y0[i].2.1) (b := y0[i].2.2) (aT := aT) (bT := bT) (key := key) (r := r) hg (mlen insA y0) hb (Nat.zero_add _) hlt (heq_f h7) (heq_f h13.1) (heq_f h13.2) hadd
        rw [Bool.false_and, Bool.false_or]
        rcases lp_wrI y0 hl oT aT bT dd m (i + 1) key (by omega) with ⟨e1, e2⟩ | ⟨e1, e2⟩
        · exact .inl ⟨on _ e1, e2⟩
        · exact .inr ⟨on _ e1, e2⟩
theorem atF_run (a : ByteArray) (e : InsT) (rest : List InsT) (he : elemB e.1 = true) (hne : tellsB e.1 = false) : ∀ (run : List InsT) (c : Nat), (∀ y ∈ run, tellsB y.1 = true) →
    atF a (run ++ e :: rest) c = if (run.any fun y => seqB y.2.1 a) then 9 else if 8 ≤ c + run.length then 9 else 0
  | [], c, _ => by simp [atF, he, hne]
  | y :: run, c, h => by
    rw [List.cons_append]
    unfold atF
    rw [if_pos (h y (by simp)), List.any_cons]
    cases q : seqB y.2.1 a with
    | true => simp
    | false =>
      rw [atF_run a e rest he hne run (c + 1) (fun z hz => h z (by simp [hz]))]
      simp only [Bool.false_eq_true, if_false, Bool.false_or, List.length_cons]
      rw [show c + 1 + run.length = c + (run.length + 1) by omega]
section
variable {p : List InsT} {c : CkS} {Sr : List Nat} {L : List (List InsT)}
theorem VInv.attr (h : VInv p c Sr L) (a : ByteArray) : atF a p.reverse 0 = (ckAttr c a).1 := by
  unfold ckAttr
  cases q : (elemB c.ahead || tellsB c.ahead) with
  | true =>
    obtain ⟨run, e, rest, e1, e2, e3, e4⟩ := h.hn q
    have hne : tellsB e.1 = false := by
      unfold elemB at e3
      simp only [Bool.or_eq_true, decide_eq_true_eq] at e3
      rcases e3 with q | q <;> rw [q] <;> rfl
    rw [e1, atF_run a e rest e3 hne run 0 e2]
    have hk : hasK a c.names = run.any fun y => seqB y.2.1 a := by
      rw [e4]
      unfold hasK
      rw [List.any_reverse, List.any_map]
      rfl
    have hlen : c.names.length = run.length := by rw [e4]; simp
    rw [hk, hlen, Nat.zero_add]
    simp only [Bool.not_true, Bool.false_eq_true, if_false]
    split
    · rfl
    · split <;> rfl
  | false =>
    rw [Bool.or_eq_false_iff] at q
    rw [h.hah] at q
    simp only [Bool.not_false, if_true]
    cases hr : p.reverse with
    | nil => rfl
    | cons y r =>
      rw [hr] at q
      simp only [List.head?_cons, Option.map_some, Option.getD_some] at q
      simp [atF, q]
end
section
variable (l : List InsT) (t : Nat)
theorem s_wrong (ht : t < l.length) (hl : l.length ≤ 1000) (hz : l[t].2.1.size ≤ 9223372036854775807 ∧ l[t].2.2.size ≤ 9223372036854775807) {c : CkS} {Sr : List Nat} {L : List (List InsT)} (h : VInv (l.take t) c Sr L) (hr : Sr.length ≤ 1000) (hL : ∀ y ∈ L, y.length ≤ 1000) :
    evl (envV realAr) (.call 62 [.sl 3 (l.map insA) .imm, .s (.int .i64 (.ofNat t))] []) = some (.ret (natA (ckOne c (insP l[t]) l[t]).1) []) := by
  have hg := mget insA l ht
  have hlen := mlen insA l
  have hb : Nat.ble (Nat.succ t) l.length = true := hble (by omega)
  have hmay := s_ref11_May l[t] hz.1 hz.2
  cases hm : insP l[t] with
  | false =>
    rw [hm] at hmay
    exact eq_wrong7 realAr realAr_ok _ _ _ _ _ _ hg hlen hb hmay
  | true =>
    rw [hm] at hmay
    have hT := s_tells l[t].1
    unfold ckOne
    rw [Bool.not_true, if_neg (by simp)]
    cases h5 : tellsB l[t].1 with
    | true =>
      rw [h5] at hT
      rw [if_pos rfl, ← h.attr]
      exact eq_wrong_at realAr realAr_ok _ _ _ _ _ _ _ hg hlen hb hmay hT (s_attr l t ht hl)
    | false =>
      rw [h5] at hT
      rw [if_neg (by simp)]
      obtain ⟨y0, Lt, pl0, lt, hL0, hcl, hp0, hl1, hl2⟩ := h.two
      have hbeg := s_begin l t (by omega) hl h.hS hr
      by_cases h2 : l[t].1 = 2
      · rw [if_pos h2]
        refine (eq_wrong_c realAr realAr_ok _ _ _ _ _ _ _ _ hg hlen hb hmay hT hbeg (heq_t h2)).trans ?_
        unfold ckEnds
        rw [hcl, heq]
        match lt, hl2 with
        | [], hl2 => rw [← hl2]; rfl
        | q :: lt, hl2 => rw [← hl2]; rfl
      · rw [if_neg h2]
        have hah : evl (envV realAr) (.call 102 [.sl 3 (l.map insA) .imm, .s (.int .i64 (.ofNat t))] []) = some (.ret (.sl 3 (y0.map insA) .full) []) := by
          have hle := h.hle 0
          simp only [List.length_take] at hle
          have e := lp_ahI l t (by omega) hl (t - Sr.getD 0 0) (Sr.getD 0 0) [] 0 (by omega) (by simp) (by omega) (by omega)
          have e2 := h.hsc 0 y0 (by rw [hL0]; rfl)
          unfold scF at e2
          rw [e2] at e
          exact eq_ahead realAr realAr_ok _ _ _ _ _ _ _ _ rfl (hble (Nat.le_refl _)) (List.take_of_length_le (Nat.le_refl _)) hbeg e
        have hy0 : y0.length ≤ 1000 := hL y0 (by rw [hL0]; simp)
        obtain ⟨ks, al⟩ := pl0
        have hall := hp0.all
        have hkeys := hp0.keys l[t].2.2
        simp only at hall hkeys
        unfold ckStands
        rw [hcl]
        simp only
        rcases lp_wrI y0 hy0 l[t].1 l[t].2.1 l[t].2.2 (.ofNat Sr.length) y0.length 0 false rfl with ⟨e1, e2⟩ | ⟨e1, e2⟩
        · rw [List.drop_zero, ← hall] at e2
          rw [e2, if_pos rfl]
          exact eq_wrong_11 realAr realAr_ok _ _ _ _ _ _ _ _ _ hg hlen hb hmay hT hbeg (heq_f h2) hah e1
        · rw [List.drop_zero, ← hall] at e2
          rw [List.drop_zero, ← hkeys] at e1
          rw [e2, if_neg (by simp)]
          refine (eq_wrong realAr realAr_ok _ _ _ _ _ _ _ _ _ _ _ hg hlen hb hmay hT hbeg (heq_f h2) hah e1).trans ?_
          rw [heq, heq, hle, Bool.false_or, ← hl2]
          have hseq : realAr.seq l[t].2.2 ⟨#[]⟩ = (l[t].2.2.data.toList == []) := rfl
          rw [hseq]
          have h8 : decide ((8 : Int) ≤ .ofNat lt.length) = decide (8 < lt.length + 1) := by
            apply Bool.eq_iff_iff.2
            rw [decide_eq_true_eq, decide_eq_true_eq]
            show (8 : Int) ≤ (lt.length : Int) ↔ _
            omega
          rw [h8]
          unfold elemB
          cases q1 : decide (l[t].1 = 1) <;> cases q3 : decide (l[t].1 = 3) <;> cases q4 : hasK l[t].2.2 ks <;> cases q5 : (l[t].2.2.data.toList == []) <;> cases q6 : decide (8 < lt.length + 1) <;> simp only [q1, q3, q4, q5, q6, Bool.or_true, Bool.or_false, Bool.true_or, Bool.and_true, Bool.and_false, Bool.true_and, Bool.false_and, Bool.not_true, Bool.not_false, cond_true, cond_false, if_true, if_false, Bool.false_eq_true] <;> rfl
end
end Go.Va
namespace Go.Va
open Go.Proofs
set_option maxRecDepth 100000
theorem scF_len : ∀ (l : List InsT) (s : List InsT × Int), (l.foldl scX s).1.length ≤ s.1.length + l.length
  | [], s => Nat.le_refl _
  | x :: l, s => by
    have := scF_len l (scX s x)
    have h2 : (scX s x).1.length ≤ s.1.length + 1 := by
      unfold scX
      simp only
      split
      · simp
      · omega
    rw [List.foldl_cons, List.length_cons]
    omega
theorem bgF_len : ∀ (l : List InsT) (i : Nat) (S : List Nat), (bgF l i S).length ≤ S.length + l.length
  | [], i, S => Nat.le_refl _
  | x :: l, i, S => by
    have := bgF_len l (i + 1) (bgX x i S)
    have h2 : (bgX x i S).length ≤ S.length + 1 := by
      unfold bgX
      split
      · simp
      · split
        · simp; omega
        · omega
    simp only [bgF, List.length_cons]
    omega
theorem VInv.few {p : List InsT} {c : CkS} {Sr : List Nat} {L : List (List InsT)} (h : VInv p c Sr L) (hp : p.length ≤ 1000) : Sr.length ≤ 1000 ∧ ∀ y ∈ L, y.length ≤ 1000 := by
  constructor
  · have := bgF_len p 0 []
    rw [h.hS] at this
    simp at this
    omega
  · intro y hy
    obtain ⟨d, hd, rfl⟩ := List.getElem_of_mem hy
    have e := h.hsc d _ (List.getElem?_eq_getElem hd)
    have e2 := scF_len (p.drop (Sr.getD d 0)) ([], 0)
    unfold scF at e
    rw [e] at e2
    simp at e2
    omega
theorem ckOne_le (c : CkS) (b : Bool) (x : InsT) : (ckOne c b x).1 ≤ 13 := by
  unfold ckOne
  split
  · simp
  · split
    · unfold ckAttr
      split
      · simp
      · split
        · simp
        · split <;> simp
    · split
      · unfold ckEnds
        split <;> simp
      · unfold ckStands
        split
        · simp
        · split
          · simp
          · split
            · simp
            · split
              · simp
              · split <;> simp
theorem insL_map : ∀ (l : List InsT), insL (l.map insA) = some l
  | [] => rfl
  | x :: l => by
    rw [List.map_cons, insL, insL_map l]
    rfl
section
variable (l : List InsT) (hl : l.length ≤ 1000) (hz : fewOk l)
include hl hz
theorem ck_run : ∀ (m t : Nat) (c : CkS) (Sr : List Nat) (L : List (List InsT)), m + t = l.length → VInv (l.take t) c Sr L →
    ∃ e, e ≤ 13 ∧ (ckProg 39 59 (l.drop t) c).run (evl (envV realAr)) = some (.ret (codeN 39 e) []) ∧
      (lpOf (envV realAr) 24 bd24 4 (stCk (l.map insA) t) = some (.code .ret (stCkr e)) ∨
       lpOf (envV realAr) 24 bd24 4 (stCk (l.map insA) t) = some (.code (.exit 0) (stCke (l.map insA) l.length)) ∧
        ∃ (ff k : Nat), evl (envV realAr) (.call 63 [.sl 3 (l.map insA) .imm, .s (.int .i64 (.ofNat l.length))] []) = some (.ret (.tup [natA ff, natA k]) []) ∧ e = if 0 < k then 8 else 0)
  | 0, t, c, Sr, L, h, hv => by
    have : t = l.length := by omega
    subst this
    obtain ⟨hr, -⟩ := hv.few (by simp; omega)
    have hlen := hv.hc
    have hL := hv.hL
    refine ⟨if 1 < c.l.length then 8 else 0, by split <;> omega, ?_, .inr ⟨?_, Sr.getD 0 0, Sr.length, s_begin l _ (Nat.le_refl _) hl hv.hS hr, ?_⟩⟩
    · rw [List.drop_length]
      unfold ckProg okR
      rw [Prog.run_done]
    · exact lp_ck_end realAr realAr_ok _ _ _ (mlen insA l) (nlt_f (Nat.le_refl _))
    · rw [hlen, hL]
      simp
  | m + 1, t, c, Sr, L, h, hv => by
    have ht : t < l.length := by omega
    obtain ⟨ha, hb⟩ := hz l[t] (List.getElem_mem ht)
    obtain ⟨hr, hLs⟩ := hv.few (by simp; omega)
    have hw := s_wrong l t ht hl ⟨by omega, by omega⟩ hv hr hLs
    rw [List.drop_eq_getElem_cons ht]
    unfold ckProg
    rw [Prog.run_ask, show Task.call 59 [insAV l[t]] [] = Task.call 59 [insA l[t]] [] from rfl, s_ins_May l[t] (by omega) (by omega)]
    simp only
    have hle := ckOne_le c (insP l[t]) l[t]
    have hadd : realAr.add .i64 (.ofNat t) 1 = .ofNat (Nat.succ t) := ninc (by omega)
    have hlt : realAr.lt (.ofNat t) (.ofNat l.length) = true := nlt_t (by omega)
    rcases hx : ckOne c (insP l[t]) l[t] with ⟨e, c2⟩
    rw [hx] at hw hle
    match e, hx, hw, hle with
    | 0, hx, hw, _ =>
      have hm : insP l[t] = true := by
        cases q : insP l[t] with
        | true => rfl
        | false => rw [q] at hx; simp [ckOne] at hx
      rw [hm] at hx
      obtain ⟨Sr', L', hv'⟩ := hv.step l[t] hx
      rw [← List.take_succ_eq_append_getElem ht] at hv'
      obtain ⟨e, he, h1, h2⟩ := ck_run m (t + 1) _ Sr' L' (by omega) hv'
      refine ⟨e, he, h1, ?_⟩
      have on := fun r => lp_ck_on realAr realAr_ok (l.map insA) l.length t (r := r) (mlen insA l) hlt hw (heq_t rfl) hadd
      rcases h2 with h2 | ⟨h2, h3⟩
      · exact .inl (on _ h2)
      · exact .inr ⟨on _ h2, h3⟩
    | e + 1, hx, hw, hle =>
      refine ⟨e + 1, hle, ?_, .inl ?_⟩
      · unfold okR
        simp only
        rw [Prog.run_done]
      · exact lp_ck_e realAr realAr_ok _ _ _ _ (mlen insA l) hlt hw (heq_f (by show ((e + 1 : Nat) : Int) ≠ 0; omega))
theorem s_checks : ∃ e, e ≤ 13 ∧ evl (envV realAr) (.call 23 [.sl 3 (l.map insA) .imm] []) = some (.ret (codeN 39 e) []) ∧ evl (envV realAr) (.call 24 [.sl 3 (l.map insA) .imm] []) = some (.ret (natA e) []) := by
  rw [evl_ext (envV realAr) _ _ _ (e := yCheck 39 59) rfl]
  show ∃ e, e ≤ 13 ∧ (ckAll 39 59 (l.map insA)).run _ = _ ∧ _
  unfold ckAll
  rw [insL_map]
  simp only
  by_cases h : 120 < l.length
  · refine ⟨13, Nat.le_refl _, ?_, eq_Check13 realAr realAr_ok _ _ (mlen insA l) (hlt_t (by show (120 : Int) < (l.length : Int); omega))⟩
    rw [show Nat.blt 120 l.length = true from hble (by omega)]
    unfold okR
    rw [cond_true, Prog.run_done]
  · have h120 : realAr.lt 120 (.ofNat l.length) = false := hlt_f (by show (l.length : Int) ≤ 120; omega)
    have hb : Nat.blt 120 l.length = false := by
      cases q : Nat.blt 120 l.length with
      | false => rfl
      | true => exact (h (Nat.le_of_ble_eq_true q)).elim
    rw [hb, cond_false]
    obtain ⟨e, he, h1, h2⟩ := ck_run l hl hz l.length 0 ck0 [] [[]] (by omega) vinv0
    refine ⟨e, he, h1, ?_⟩
    rcases h2 with h2 | ⟨h2, ff, k, h3, h4⟩
    · exact eq_Check_e realAr realAr_ok _ _ _ (mlen insA l) h120 h2
    · refine (eq_Check_end realAr realAr_ok _ _ _ _ (mlen insA l) h120 h2 h3).trans ?_
      rw [h4, hlt]
      by_cases hk : 0 < k
      · rw [if_pos hk, show decide ((0 : Int) < .ofNat k) = true from decide_eq_true (by show (0 : Int) < (k : Int); omega)]
        rfl
      · rw [if_neg hk, show decide ((0 : Int) < .ofNat k) = false from decide_eq_false (by show ¬ (0 : Int) < (k : Int); omega)]
        rfl
end
theorem validTells_law (l : List InsT) (hl : l.length ≤ 9223372036854775807) : evl (envV realAr) (.call 5 [.sl 3 (l.map insA) .imm] []) = some (.ret (.s (.bool true)) []) := by
  rcases s_few l hl with h | ⟨h, hf, h150⟩
  · exact eq_ValidTells0 realAr realAr_ok _ s_law13_up h (heq_t rfl)
  · obtain ⟨e, he, h1, h2⟩ := s_checks l (by omega) hf
    refine eq_ValidTells realAr realAr_ok _ _ (codeN 39 e) ?_ s_law13_up h (heq_f (by decide)) h1 (s_law00_Code e he) h2 (heq_t rfl)
    cases e with
    | zero => exact .inl rfl
    | succ n => exact .inr ⟨_, rfl⟩
end Go.Va
