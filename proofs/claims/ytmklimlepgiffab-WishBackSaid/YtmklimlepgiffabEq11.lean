/- The functions that the statement reaches, by equations: no statement of its own. -/
import Derived.Test.YtmklimlepgiffabEq10
set_option linter.unusedVariables false
set_option linter.unusedSimpArgs false
set_option linter.unusedSectionVars false
namespace Go.Va
open Go.Proofs
set_option maxRecDepth 100000
/-! plain: a checked program is what its wants are put as -/
def ckL : List InsT → CkS → Nat
  | [], c => if 1 < c.l.length then 8 else 0
  | i :: is, c => match ckOne c (insP i) i with
    | (0, c2) => ckL is { c2 with ahead := i.1 }
    | (n + 1, _) => n + 1
theorem ckProg_run (T : Nat) : ∀ (l : List InsT) (c : CkS), fewOk l → (ckProg T 59 l c).run (evl (envV realAr)) = some (.ret (codeN T (ckL l c)) [])
  | [], c, _ => by
    unfold ckProg ckL okR
    rw [Prog.run_done]
  | x :: l, c, hz => by
    obtain ⟨ha, hb⟩ := hz x (by simp)
    have ih := fun c2 => ckProg_run T l c2 (fun i hi => hz i (by simp [hi]))
    unfold ckProg
    rw [Prog.run_ask, show Task.call 59 [insAV x] [] = Task.call 59 [insA x] [] from rfl, s_ins_May x (by omega) (by omega)]
    unfold ckL
    simp only
    rcases hx : ckOne c (insP x) x with ⟨e, c2⟩
    cases e with
    | zero => exact ih _
    | succ e =>
      unfold okR
      simp only
      rw [Prog.run_done]
theorem s_ckL (l : List InsT) (hz : fewOk l) (h : evl (envV realAr) (.call 23 [.sl 3 (l.map insA) .imm] []) = some (.ret (codeN 39 0) [])) : l.length ≤ 120 ∧ ckL l ck0 = 0 := by
  rw [evl_ext (envV realAr) _ _ _ (e := yCheck 39 59) rfl] at h
  have h : (ckAll 39 59 (l.map insA)).run (evl (envV realAr)) = some (.ret (codeN 39 0) []) := h
  unfold ckAll at h
  rw [insL_map] at h
  simp only at h
  by_cases hl : 120 < l.length
  · rw [show Nat.blt 120 l.length = true from hble (by omega)] at h
    unfold okR at h
    rw [cond_true, Prog.run_done] at h
    injection h with h
    injection h with h
    injection h with h
    cases h
  · have hb : Nat.blt 120 l.length = false := by
      cases q : Nat.blt 120 l.length with
      | false => rfl
      | true => exact (hl (Nat.le_of_ble_eq_true q)).elim
    rw [hb, cond_false, ckProg_run _ l ck0 hz] at h
    refine ⟨by omega, ?_⟩
    cases hk : ckL l ck0 with
    | zero => rfl
    | succ n =>
      rw [hk] at h
      injection h with h
      injection h with h
      injection h with h
      cases h
theorem eqE {o k : Int} (h : o ≠ k) : realAr.eq o k = false := by rw [realAr_eq]; exact decide_eq_false h
theorem eqT (k : Int) : realAr.eq k k = true := by rw [realAr_eq]; exact decide_eq_true rfl
theorem seq_nil {a : ByteArray} (h : realAr.seq a ⟨#[]⟩ = true) : a = ⟨#[]⟩ := by
  have h : (a.data.toList == ([] : List UInt8)) = true := h
  rw [beq_iff_eq] at h
  rcases a with ⟨⟨l⟩⟩
  cases h
  rfl
theorem insP_1 {a b : ByteArray} (h : insP (1, a, b) = true) : nameP a = true ∧ voidP a = false ∧ textP b = true := by
  unfold insP mayA at h
  simp only [realAr_eq] at h
  cases h1 : nameP a <;> cases h2 : voidP a <;> simp_all
theorem insP_3 {a b : ByteArray} (h : insP (3, a, b) = true) : voidP a = true ∧ textP b = true := by
  unfold insP mayA at h
  simp only [realAr_eq] at h
  cases h2 : voidP a <;> simp_all
theorem insP_4 {a b : ByteArray} (h : insP (4, a, b) = true) : textP a = true ∧ b = ⟨#[]⟩ := by
  unfold insP mayA at h
  simp only [realAr_eq] at h
  cases h2 : textP a
  · simp [h2] at h
  · simp [h2] at h
    exact ⟨rfl, seq_nil h⟩
theorem insP_at {o : Int} {a b : ByteArray} (ho : o = 5 ∨ o = 6) (h : insP (o, a, b) = true) : nameP a = true ∧ textP b = true := by
  unfold insP mayA at h
  simp only [realAr_eq] at h
  rcases ho with rfl | rfl <;> cases h1 : nameP a <;> simp_all
theorem insP_e {o : Int} {a b : ByteArray} (ho : o = 2 ∨ o = 7 ∨ o = 8) (h : insP (o, a, b) = true) : a = ⟨#[]⟩ ∧ b = ⟨#[]⟩ := by
  unfold insP mayA at h
  simp only [realAr_eq] at h
  rcases ho with rfl | rfl | rfl <;> cases h1 : realAr.seq a ⟨#[]⟩ <;> simp [h1] at h <;> exact ⟨seq_nil h1, seq_nil h⟩
theorem insP_ops {o : Int} {a b : ByteArray} (h : insP (o, a, b) = true) : o = 1 ∨ o = 2 ∨ o = 3 ∨ o = 4 ∨ o = 5 ∨ o = 6 ∨ o = 7 ∨ o = 8 := by
  unfold insP mayA at h
  simp only [realAr_eq] at h
  by_cases h1 : o = 1
  · omega
  by_cases h3 : o = 3
  · omega
  by_cases h4 : o = 4
  · omega
  by_cases h5 : o = 5
  · omega
  by_cases h6 : o = 6
  · omega
  by_cases h2 : o = 2
  · omega
  by_cases h7 : o = 7
  · omega
  by_cases h8 : o = 8
  · omega
  simp [h1, h2, h3, h4, h5, h6, h7, h8] at h
def atI (a : AtT) : InsT := (if a.2.2 then 6 else 5, a.1, a.2.1)
mutual
def flW : WT → List InsT
  | .node k tag key text ats ks => if k = 2 then [(4, text, ⟨#[]⟩)] else if k = 3 then [(8, ⟨#[]⟩, ⟨#[]⟩)] else if k = 4 then [(7, ⟨#[]⟩, ⟨#[]⟩)] else
    if voidP tag then (3, tag, key) :: ats.map atI else (1, tag, key) :: (ats.map atI ++ (flWs ks ++ [(2, ⟨#[]⟩, ⟨#[]⟩)]))
def flWs : List WT → List InsT
  | [] => []
  | t :: ts => flW t ++ flWs ts
end
mutual
def okW : WT → Prop
  | .node k tag key text ats ks => (k = 1 ∧ text = ⟨#[]⟩ ∧ (voidP tag = true → ks = []) ∧ okWs ks) ∨ (k = 2 ∧ tag = ⟨#[]⟩ ∧ key = ⟨#[]⟩ ∧ ats = [] ∧ ks = []) ∨ ((k = 3 ∨ k = 4) ∧ tag = ⟨#[]⟩ ∧ key = ⟨#[]⟩ ∧ text = ⟨#[]⟩ ∧ ats = [] ∧ ks = [])
def okWs : List WT → Prop
  | [] => True
  | t :: ts => okW t ∧ okWs ts
end
theorem ckL_cons {x : InsT} {l : List InsT} {c : CkS} (h : ckL (x :: l) c = 0) : ∃ c2, ckOne c (insP x) x = (0, c2) ∧ ckL l { c2 with ahead := x.1 } = 0 := by
  unfold ckL at h
  rcases hx : ckOne c (insP x) x with ⟨e, c2⟩
  rw [hx] at h
  cases e with
  | zero => exact ⟨c2, rfl, h⟩
  | succ e => simp at h
theorem ckOne_may {c c2 : CkS} {b : Bool} {x : InsT} (h : ckOne c b x = (0, c2)) : b = true := by
  cases b with
  | true => rfl
  | false => simp [ckOne] at h
theorem ckAttr_l {c c2 : CkS} {a : ByteArray} (h : ckAttr c a = (0, c2)) : c2.l = c.l ∧ (elemB c.ahead || tellsB c.ahead) = true := by
  unfold ckAttr at h
  split at h
  · simp at h
  · rename_i q
    split at h
    · simp at h
    · split at h
      · simp at h
      · simp only [Prod.mk.injEq, true_and] at h
        subst h
        refine ⟨rfl, ?_⟩
        cases q2 : (elemB c.ahead || tellsB c.ahead) with
        | true => rfl
        | false => rw [q2] at q; simp at q
theorem ckStands_l {c c2 : CkS} {x : InsT} (h : ckStands c x = (0, c2)) : c2.l.length = (if x.1 = 1 then c.l.length + 1 else c.l.length) := by
  unfold ckStands at h
  split at h
  · simp at h
  · rename_i keys al l hc
    rw [hc]
    split at h
    · simp at h
    · split at h
      · simp at h
      · split at h
        · simp at h
        · split at h
          · simp only [Prod.mk.injEq, true_and] at h
            subst h
            split <;> simp
          · rename_i he
            simp only [Prod.mk.injEq, true_and] at h
            subst h
            have h1 : x.1 ≠ 1 := by
              intro q
              rw [q] at he
              exact he (by decide)
            rw [if_neg h1]
            simp
theorem atI_of {x : InsT} (h : tellsB x.1 = true) : atI (atOf x) = x := by
  rcases x with ⟨o, a, b⟩
  unfold atI atOf
  simp only [tellsB, Bool.or_eq_true, decide_eq_true_eq] at h
  simp only [realAr_eq, decide_eq_true_eq]
  rcases h with rfl | rfl <;> rfl
theorem take_at : ∀ l : List InsT, l = ((l.takeWhile fun i => tellsB i.1).map atOf).map atI ++ l.dropWhile fun i => tellsB i.1
  | [] => rfl
  | x :: l => by
    rw [List.takeWhile_cons, List.dropWhile_cons]
    cases h : tellsB x.1 with
    | false => rfl
    | true =>
      simp only [if_true, List.map_cons, List.cons_append, atI_of h]
      rw [← take_at l]
theorem ckL_at : ∀ (l : List InsT) (c : CkS), ckL l c = 0 → ∃ c2, c2.l = c.l ∧ ckL (l.dropWhile fun i => tellsB i.1) c2 = 0
  | [], c, h => ⟨c, rfl, h⟩
  | x :: l, c, h => by
    rw [List.dropWhile_cons]
    cases hx : tellsB x.1 with
    | false => exact ⟨c, rfl, h⟩
    | true =>
      obtain ⟨c2, h1, h2⟩ := ckL_cons h
      have hm := ckOne_may h1
      unfold ckOne at h1
      rw [hm, hx] at h1
      simp only [Bool.not_true, Bool.false_eq_true, if_false, if_true] at h1
      obtain ⟨h3, -⟩ := ckAttr_l h1
      obtain ⟨c3, h4, h5⟩ := ckL_at l _ h2
      exact ⟨c3, h4.trans h3, h5⟩
theorem dropW_head (p : InsT → Bool) : ∀ l : List InsT, ∀ x ∈ (l.dropWhile p).head?, p x = false
  | [], x, h => by simp at h
  | y :: l, x, h => by
    rw [List.dropWhile_cons] at h
    split at h
    · exact dropW_head p l x h
    · rename_i q
      simp at h
      subst h
      simpa using q
theorem loopW_ok : ∀ (f : Nat) (l : List InsT) (c : CkS), l.length < f → ckL l c = 0 → 1 ≤ c.l.length → ((elemB c.ahead || tellsB c.ahead) = false ∨ ∀ x ∈ l.head?, tellsB x.1 = false) →
    l = flWs (loopW f l).1 ++ (loopW f l).2 ∧ okWs (loopW f l).1 ∧
    (((loopW f l).2 = [] ∧ c.l.length = 1) ∨ ∃ r c2, (loopW f l).2 = (2, ⟨#[]⟩, ⟨#[]⟩) :: r ∧ ckL r c2 = 0 ∧ c2.l.length + 1 = c.l.length ∧ 1 ≤ c2.l.length ∧ c2.ahead = 2)
  | 0, l, c, h, _, _, _ => absurd h (by omega)
  | f + 1, [], c, _, h, hc, _ => by
    unfold loopW
    refine ⟨rfl, by simp [okWs], .inl ⟨rfl, ?_⟩⟩
    unfold ckL at h
    split at h
    · simp at h
    · omega
  | f + 1, x :: l, c, hf, h, hc, ha => by
    obtain ⟨c2, h1, h2⟩ := ckL_cons h
    have hm := ckOne_may h1
    have hops := insP_ops hm
    have hm1 := hm
    unfold ckOne at h1
    rw [hm] at h1
    simp only [Bool.not_true, Bool.false_eq_true, if_false] at h1
    simp only [List.length_cons] at hf
    unfold loopW
    by_cases x2 : x.1 = 2
    · rw [if_pos x2]
      have ht : tellsB x.1 = false := by rw [x2]; rfl
      rw [ht, if_neg (by simp), if_pos x2] at h1
      obtain ⟨o, a, b⟩ := x
      simp only at x2 h2
      subst x2
      obtain ⟨rfl, rfl⟩ := insP_e (.inl rfl) hm1
      refine ⟨rfl, by simp [okWs], .inr ⟨l, _, rfl, h2, ?_, ?_, rfl⟩⟩ <;>
      · unfold ckEnds at h1
        split at h1
        · rename_i hcl
          simp only [Prod.mk.injEq, true_and] at h1
          subst h1
          rw [hcl] at *
          simp
        · simp at h1
    · rw [if_neg x2]
      cases ht : tellsB x.1 with
      | true =>
        exfalso
        rw [ht, if_pos rfl] at h1
        obtain ⟨-, h4⟩ := ckAttr_l h1
        rcases ha with ha | ha
        · rw [ha] at h4; simp at h4
        · have := ha x (by simp)
          rw [ht] at this
          simp at this
      | false =>
        rw [ht, if_neg (by simp), if_neg x2] at h1
        have hlen := ckStands_l h1
        obtain ⟨o, a, b⟩ := x
        simp only at x2 ht h2 hlen hops ⊢
        -- one that has nothing in it
        have leaf : ∀ w : WT, oneW (fun r => ((loopW f r).1, (loopW f r).2.drop 1)) (o, a, b) l = (w, l) → flW w = [(o, a, b)] → okW w → (elemB o = false) → o ≠ 1 →
            (o, a, b) :: l = flWs ((oneW (fun r => ((loopW f r).1, (loopW f r).2.drop 1)) (o, a, b) l).1 :: (loopW f (oneW (fun r => ((loopW f r).1, (loopW f r).2.drop 1)) (o, a, b) l).2).1) ++ (loopW f (oneW (fun r => ((loopW f r).1, (loopW f r).2.drop 1)) (o, a, b) l).2).2 ∧
            okWs ((oneW (fun r => ((loopW f r).1, (loopW f r).2.drop 1)) (o, a, b) l).1 :: (loopW f (oneW (fun r => ((loopW f r).1, (loopW f r).2.drop 1)) (o, a, b) l).2).1) ∧
            (((loopW f (oneW (fun r => ((loopW f r).1, (loopW f r).2.drop 1)) (o, a, b) l).2).2 = [] ∧ c.l.length = 1) ∨ ∃ r c2, (loopW f (oneW (fun r => ((loopW f r).1, (loopW f r).2.drop 1)) (o, a, b) l).2).2 = (2, ⟨#[]⟩, ⟨#[]⟩) :: r ∧ ckL r c2 = 0 ∧ c2.l.length + 1 = c.l.length ∧ 1 ≤ c2.l.length ∧ c2.ahead = 2) := by
          intro w hw hfl hok he ho1
          rw [hw]
          rw [if_neg ho1] at hlen
          obtain ⟨i1, i2, i3⟩ := loopW_ok f l _ (by omega) h2 (by simp only; omega) (.inl (by simp only; rw [he, ht]; rfl))
          refine ⟨?_, ?_, ?_⟩
          · simp only [flWs, hfl, List.singleton_append, List.cons_append, List.nil_append]
            rw [← i1]
          · simp only [okWs]
            exact ⟨hok, i2⟩
          · simpa [hlen] using i3
        rcases hops with rfl | rfl | rfl | rfl | rfl | rfl | rfl | rfl
        · -- an element that opens
          obtain ⟨-, hv, -⟩ := insP_1 hm1
          rw [if_pos rfl] at hlen
          obtain ⟨c3, h3, h4⟩ := ckL_at l _ h2
          have hd := dropW_len (fun i => tellsB i.1) l
          obtain ⟨i1, i2, i3⟩ := loopW_ok f (l.dropWhile fun i => tellsB i.1) c3 (by omega) h4 (by rw [h3]; simp only; omega) (.inr (dropW_head _ l))
          have hta := take_at l
          rcases i3 with ⟨-, i4⟩ | ⟨r, c4, j1, j2, j3, j4, j5⟩
          · exfalso
            rw [h3] at i4
            simp only at i4
            omega
          · rw [h3] at j3
            simp only at j3
            have hone : oneW (fun r => ((loopW f r).1, (loopW f r).2.drop 1)) (1, a, b) l = (.node 1 a b ⟨#[]⟩ ((l.takeWhile fun i => tellsB i.1).map atOf) (loopW f (l.dropWhile fun i => tellsB i.1)).1, r) := by
              unfold oneW
              simp [j1]
            have hll := loopW_len f (l.dropWhile fun i => tellsB i.1)
            rw [j1] at hll i1
            simp only [List.length_cons] at hll
            obtain ⟨k1, k2, k3⟩ := loopW_ok f r c4 (by omega) j2 j4 (.inl (by rw [j5]; rfl))
            rw [hone]
            refine ⟨?_, ?_, ?_⟩
            · simp only [flWs, flW, hv, Bool.false_eq_true, if_false, show ¬ (1 : Int) = 2 by omega, show ¬ (1 : Int) = 3 by omega, show ¬ (1 : Int) = 4 by omega, List.cons_append, List.append_assoc, List.nil_append]
              rw [← k1, ← i1, ← hta]
            · simp only [okWs, okW]
              exact ⟨.inl ⟨trivial, trivial, by rw [hv]; simp, i2⟩, k2⟩
            · have : c4.l.length = c.l.length := by omega
              simpa [this] using k3
        · exact absurd rfl x2
        · -- a void one
          obtain ⟨hv, -⟩ := insP_3 hm1
          rw [if_neg (by omega)] at hlen
          obtain ⟨c3, h3, h4⟩ := ckL_at l _ h2
          have hd := dropW_len (fun i => tellsB i.1) l
          obtain ⟨i1, i2, i3⟩ := loopW_ok f (l.dropWhile fun i => tellsB i.1) c3 (by omega) h4 (by rw [h3]; simp only; omega) (.inr (dropW_head _ l))
          have hta := take_at l
          have hone : oneW (fun r => ((loopW f r).1, (loopW f r).2.drop 1)) (3, a, b) l = (.node 1 a b ⟨#[]⟩ ((l.takeWhile fun i => tellsB i.1).map atOf) [], l.dropWhile fun i => tellsB i.1) := by
            unfold oneW
            simp
          rw [hone]
          refine ⟨?_, ?_, ?_⟩
          · simp only [flWs, flW, hv, if_true, if_false, show ¬ (1 : Int) = 2 by omega, show ¬ (1 : Int) = 3 by omega, show ¬ (1 : Int) = 4 by omega, List.cons_append, List.append_assoc]
            rw [← i1, ← hta]
          · simp only [okWs, okW]
            exact ⟨.inl ⟨trivial, trivial, fun _ => trivial, trivial⟩, i2⟩
          · rw [h3] at i3
            simp only at i3
            simpa [hlen] using i3
        · obtain ⟨-, rfl⟩ := insP_4 hm1
          exact leaf (.node 2 ⟨#[]⟩ ⟨#[]⟩ a [] []) (by simp [oneW]) (by simp [flW]) (by simp [okW]) rfl (by omega)
        · exact absurd ht (by decide)
        · exact absurd ht (by decide)
        · obtain ⟨rfl, rfl⟩ := insP_e (.inr (.inl rfl)) hm1
          exact leaf (.node 4 ⟨#[]⟩ ⟨#[]⟩ ⟨#[]⟩ [] []) (by simp [oneW]) (by simp [flW]) (by simp [okW]) rfl (by omega)
        · obtain ⟨rfl, rfl⟩ := insP_e (.inr (.inr rfl)) hm1
          exact leaf (.node 3 ⟨#[]⟩ ⟨#[]⟩ ⟨#[]⟩ [] []) (by simp [oneW]) (by simp [flW]) (by simp [okW]) rfl (by omega)
/-- a program that may be is its wants', put -/
theorem fl_of_check (l : List InsT) (h : ckL l ck0 = 0) : l = flWs (someW (l.length + 1) l).1 ∧ okWs (someW (l.length + 1) l).1 := by
  obtain ⟨h1, h2, h3⟩ := loopW_ok (l.length + 1) l ck0 (by omega) h (by decide) (.inl (by decide))
  rcases h3 with ⟨h3, -⟩ | ⟨r, c2, -, -, h4, h5, -⟩
  · rw [h3, List.append_nil] at h1
    exact ⟨h1, h2⟩
  · exfalso
    have : ck0.l.length = 1 := rfl
    omega
end Go.Va
namespace Go.Va
open Go.Proofs
set_option maxRecDepth 100000
set_option maxHeartbeats 4000000
def stE (xs ys : List AV) (n i : Nat) : St := { n := 26, k := 0, fr := [(0, .sl 3 xs .imm), (1, .sl 3 ys .imm), (12, .s (.int .i64 (.ofNat n))), (13, .s (.int .i64 (.ofNat i)))], O := [] }
def stEe (xs ys : List AV) (n i : Nat) : St := { n := 26, k := 0, fr := [(0, .sl 3 xs .imm), (1, .sl 3 ys .imm), (12, .s (.int .i64 (.ofNat n))), (13, .s (.int .i64 (.ofNat i))), (14, .s (.bool false))], O := [] }
def stD (xs ys : List AV) (i : Nat) : St := { n := 26, k := 0, fr := [(0, .sl 3 xs .imm), (1, .sl 3 ys .imm), (5, .s (.int .i64 (.ofNat i)))], O := [] }
def stDe (xs ys : List AV) (i : Nat) : St := { n := 26, k := 0, fr := [(0, .sl 3 xs .imm), (1, .sl 3 ys .imm), (5, .s (.int .i64 (.ofNat i))), (14, .s (.bool false))], O := [] }
def stE0 : St := { n := 26, k := 0, fr := [(4, .s (.bool false))], O := [] }
section
variable (A : Ar) (hA : ArOk A) (xs ys : List AV) (n i m : Nat) (a b c d : ByteArray) (st su : Bool) 
include hA
theorem lp_attr_Equal {r : Option Res} (e1 : lget xs i = some (.agg [.s (.string a), .s (.string b), .s (.bool st)])) (e2 : Nat.ble (Nat.succ i) n = true) (e3 : xs.length = n) (e4 : lget ys i = some (.agg [.s (.string c), .s (.string d), .s (.bool su)])) (e5 : ys.length = n) (h2 : A.lt (.ofNat i) (.ofNat n) = true) (h3 : A.add .i64 (.ofNat i) 1 = .ofNat (Nat.succ i))
    (hr : lpOf (envV A) 108 bd108 4 (stE xs ys n (Nat.succ i)) = r) :
    lpOf (envV A) 108 bd108 4 (stE xs ys n i) = (bif A.seq a c && (A.seq b d && (st == su)) then r else some (.code .ret stE0)) := by
  unfold stE at hr ⊢
  unfold stE0
  cases st <;> cases su
  ·
    rw [lp_step (envV A) 108 (c0 := bd108) (lv := lvF108) rfl rfl]
    have hnle := hA.nleE; have hneq := hA.neqE
    have klt := hA.lt; have kle := hA.le; have keq := hA.eq; have knle := hA.nle; have kneq := hA.neq
    rw [lp_split (lpOf (envV A) 108 bd108) 4]
    generalize lpOf (envV A) 108 bd108 4 = L4 at e1 e2 e3 e4 e5 h2 h3 hr ⊢
    generalize lpOf (envV A) 108 bd108 = LP
    generalize evl (envV A) = E at e1 e2 e3 e4 e5 h2 h3 hr ⊢
    obtain ⟨aadd, asub, amul, arem, aquo, awr, ashr, aeq, alt, ale, aseq, aslt, acat, acut, asiz, aat, anle, aneq, afit⟩ := A
    simp only at hnle hneq
    subst hnle hneq
    simp only at klt kle keq knle kneq
    try simp only at h2 h3 hr
    conv at e1 => lhs; cbv
    conv at e2 => lhs; cbv
    conv at e3 => lhs; cbv
    conv at e4 => lhs; cbv
    conv at e5 => lhs; cbv
    cbv
    rewrite [h2]
    cbv
    rewrite [e1]
    cbv
    rewrite [e4]
    cbv
    cases c1 : aseq a c
    · cbv
    · cbv
      cases c2 : aseq b d
      · cbv
      · cbv
        rewrite [h3]
        cbv
        rewrite [hr]
        cbv
  ·
    rw [lp_step (envV A) 108 (c0 := bd108) (lv := lvF108) rfl rfl]
    have hnle := hA.nleE; have hneq := hA.neqE
    have klt := hA.lt; have kle := hA.le; have keq := hA.eq; have knle := hA.nle; have kneq := hA.neq
    rw [lp_split (lpOf (envV A) 108 bd108) 4]
    generalize lpOf (envV A) 108 bd108 4 = L4 at e1 e2 e3 e4 e5 h2 h3 hr ⊢
    generalize lpOf (envV A) 108 bd108 = LP
    generalize evl (envV A) = E at e1 e2 e3 e4 e5 h2 h3 hr ⊢
    obtain ⟨aadd, asub, amul, arem, aquo, awr, ashr, aeq, alt, ale, aseq, aslt, acat, acut, asiz, aat, anle, aneq, afit⟩ := A
    simp only at hnle hneq
    subst hnle hneq
    simp only at klt kle keq knle kneq
    try simp only at h2 h3 hr
    conv at e1 => lhs; cbv
    conv at e2 => lhs; cbv
    conv at e3 => lhs; cbv
    conv at e4 => lhs; cbv
    conv at e5 => lhs; cbv
    cbv
    rewrite [h2]
    cbv
    rewrite [e1]
    cbv
    rewrite [e4]
    cbv
    cases c1 : aseq a c
    · cbv
    · cbv
      cases c2 : aseq b d
      · cbv
      · cbv
  ·
    rw [lp_step (envV A) 108 (c0 := bd108) (lv := lvF108) rfl rfl]
    have hnle := hA.nleE; have hneq := hA.neqE
    have klt := hA.lt; have kle := hA.le; have keq := hA.eq; have knle := hA.nle; have kneq := hA.neq
    rw [lp_split (lpOf (envV A) 108 bd108) 4]
    generalize lpOf (envV A) 108 bd108 4 = L4 at e1 e2 e3 e4 e5 h2 h3 hr ⊢
    generalize lpOf (envV A) 108 bd108 = LP
    generalize evl (envV A) = E at e1 e2 e3 e4 e5 h2 h3 hr ⊢
    obtain ⟨aadd, asub, amul, arem, aquo, awr, ashr, aeq, alt, ale, aseq, aslt, acat, acut, asiz, aat, anle, aneq, afit⟩ := A
    simp only at hnle hneq
    subst hnle hneq
    simp only at klt kle keq knle kneq
    try simp only at h2 h3 hr
    conv at e1 => lhs; cbv
    conv at e2 => lhs; cbv
    conv at e3 => lhs; cbv
    conv at e4 => lhs; cbv
    conv at e5 => lhs; cbv
    cbv
    rewrite [h2]
    cbv
    rewrite [e1]
    cbv
    rewrite [e4]
    cbv
    cases c1 : aseq a c
    · cbv
    · cbv
      cases c2 : aseq b d
      · cbv
      · cbv
  ·
    rw [lp_step (envV A) 108 (c0 := bd108) (lv := lvF108) rfl rfl]
    have hnle := hA.nleE; have hneq := hA.neqE
    have klt := hA.lt; have kle := hA.le; have keq := hA.eq; have knle := hA.nle; have kneq := hA.neq
    rw [lp_split (lpOf (envV A) 108 bd108) 4]
    generalize lpOf (envV A) 108 bd108 4 = L4 at e1 e2 e3 e4 e5 h2 h3 hr ⊢
    generalize lpOf (envV A) 108 bd108 = LP
    generalize evl (envV A) = E at e1 e2 e3 e4 e5 h2 h3 hr ⊢
    obtain ⟨aadd, asub, amul, arem, aquo, awr, ashr, aeq, alt, ale, aseq, aslt, acat, acut, asiz, aat, anle, aneq, afit⟩ := A
    simp only at hnle hneq
    subst hnle hneq
    simp only at klt kle keq knle kneq
    try simp only at h2 h3 hr
    conv at e1 => lhs; cbv
    conv at e2 => lhs; cbv
    conv at e3 => lhs; cbv
    conv at e4 => lhs; cbv
    conv at e5 => lhs; cbv
    cbv
    rewrite [h2]
    cbv
    rewrite [e1]
    cbv
    rewrite [e4]
    cbv
    cases c1 : aseq a c
    · cbv
    · cbv
      cases c2 : aseq b d
      · cbv
      · cbv
        rewrite [h3]
        cbv
        rewrite [hr]
        cbv
theorem lp_attr_Equal_end (h2 : A.lt (.ofNat i) (.ofNat n) = false) :
    lpOf (envV A) 108 bd108 4 (stE xs ys n i) = some (.code (.exit 0) (stEe xs ys n i)) := by
  unfold stE stEe
  rw [lp_step (envV A) 108 (c0 := bd108) (lv := lvF108) rfl rfl]
  have hnle := hA.nleE; have hneq := hA.neqE
  have klt := hA.lt; have kle := hA.le; have keq := hA.eq; have knle := hA.nle; have kneq := hA.neq
  generalize lpOf (envV A) 108 bd108 = LP
  generalize evl (envV A) = E at h2 ⊢
  obtain ⟨aadd, asub, amul, arem, aquo, awr, ashr, aeq, alt, ale, aseq, aslt, acat, acut, asiz, aat, anle, aneq, afit⟩ := A
  simp only at hnle hneq
  subst hnle hneq
  simp only at klt kle keq knle kneq
  try simp only at h2
  cbv
  rewrite [h2]
  cbv
theorem eq_attr_Equal (s : Bool) (e3 : xs.length = n) (e5 : ys.length = m) (h1 : A.eq (.ofNat n) (.ofNat m) = true → lpOf (envV A) 108 bd108 4 (stE xs ys n 0) = bif s then some (.code (.exit 0) (stEe xs ys n n)) else some (.code .ret stE0)) :
    evl (envV A) (.call 108 [.sl 3 xs .imm, .sl 3 ys .imm] []) = some (.ret (.s (.bool (A.eq (.ofNat n) (.ofNat m) && s))) []) := by
  unfold stE stEe stE0 at h1
  simp only [show Int.ofNat 0 = 0 from rfl] at h1
  cases h0 : A.eq (.ofNat n) (.ofNat m) with
  | false =>
    clear h1
    rw [evl_fn (envV A) 108 _ _ (fn := Try.f108) (c := bd108) (lv := lvF108) rfl rfl rfl rfl rfl rfl]
    have hnle := hA.nleE; have hneq := hA.neqE
    have klt := hA.lt; have kle := hA.le; have keq := hA.eq; have knle := hA.nle; have kneq := hA.neq
    generalize lpOf (envV A) 108 bd108 = LP
    generalize evl (envV A) = E at e3 e5 h0 ⊢
    obtain ⟨aadd, asub, amul, arem, aquo, awr, ashr, aeq, alt, ale, aseq, aslt, acat, acut, asiz, aat, anle, aneq, afit⟩ := A
    simp only at hnle hneq
    subst hnle hneq
    simp only at klt kle keq knle kneq
    try simp only at h0
    conv at e3 => lhs; cbv
    conv at e5 => lhs; cbv
    cbv
    rewrite [e3]
    cbv
    rewrite [e5]
    cbv
    rewrite [h0]
    cbv
  | true =>
    have h2 := h1 h0
    clear h1
    cases s <;> simp only [cond_true, cond_false] at h2
    ·
      rw [evl_fn (envV A) 108 _ _ (fn := Try.f108) (c := bd108) (lv := lvF108) rfl rfl rfl rfl rfl rfl]
      have hnle := hA.nleE; have hneq := hA.neqE
      have klt := hA.lt; have kle := hA.le; have keq := hA.eq; have knle := hA.nle; have kneq := hA.neq
      rw [lp_split (lpOf (envV A) 108 bd108) 4]
      generalize lpOf (envV A) 108 bd108 4 = L4 at e3 e5 h0 h2 ⊢
      generalize lpOf (envV A) 108 bd108 = LP
      generalize evl (envV A) = E at e3 e5 h0 h2 ⊢
      obtain ⟨aadd, asub, amul, arem, aquo, awr, ashr, aeq, alt, ale, aseq, aslt, acat, acut, asiz, aat, anle, aneq, afit⟩ := A
      simp only at hnle hneq
      subst hnle hneq
      simp only at klt kle keq knle kneq
      try simp only at h0 h2
      conv at e3 => lhs; cbv
      conv at e5 => lhs; cbv
      cbv
      rewrite [e3]
      cbv
      rewrite [e5]
      cbv
      rewrite [h0]
      cbv
      rewrite [e3]
      cbv
      rewrite [h2]
      cbv
    ·
      rw [evl_fn (envV A) 108 _ _ (fn := Try.f108) (c := bd108) (lv := lvF108) rfl rfl rfl rfl rfl rfl]
      have hnle := hA.nleE; have hneq := hA.neqE
      have klt := hA.lt; have kle := hA.le; have keq := hA.eq; have knle := hA.nle; have kneq := hA.neq
      rw [lp_split (lpOf (envV A) 108 bd108) 4]
      generalize lpOf (envV A) 108 bd108 4 = L4 at e3 e5 h0 h2 ⊢
      generalize lpOf (envV A) 108 bd108 = LP
      generalize evl (envV A) = E at e3 e5 h0 h2 ⊢
      obtain ⟨aadd, asub, amul, arem, aquo, awr, ashr, aeq, alt, ale, aseq, aslt, acat, acut, asiz, aat, anle, aneq, afit⟩ := A
      simp only at hnle hneq
      subst hnle hneq
      simp only at klt kle keq knle kneq
      try simp only at h0 h2
      conv at e3 => lhs; cbv
      conv at e5 => lhs; cbv
      cbv
      rewrite [e3]
      cbv
      rewrite [e5]
      cbv
      rewrite [h0]
      cbv
      rewrite [e3]
      cbv
      rewrite [h2]
      cbv
theorem lp_ref01_Same {r : Option Res} (e1 : lget xs i = some (.agg [.s (.string a), .s (.string b), .s (.bool st)])) (e2 : Nat.ble (Nat.succ i) n = true) (e3 : xs.length = n) (e4 : lget ys i = some (.agg [.s (.string c), .s (.string d), .s (.bool su)])) (e5 : ys.length = n) (h2 : A.lt (.ofNat i) (.ofNat n) = true) (h3 : A.add .i64 (.ofNat i) 1 = .ofNat (Nat.succ i))
    (hr : lpOf (envV A) 78 bd78 4 (stD xs ys (Nat.succ i)) = r) :
    lpOf (envV A) 78 bd78 4 (stD xs ys i) = (bif A.seq a c && (A.seq b d && (st == su)) then r else some (.code .ret stE0)) := by
  unfold stD at hr ⊢
  unfold stE0
  cases st <;> cases su
  ·
    rw [lp_step (envV A) 78 (c0 := bd78) (lv := lvF78) rfl rfl]
    have hnle := hA.nleE; have hneq := hA.neqE
    have klt := hA.lt; have kle := hA.le; have keq := hA.eq; have knle := hA.nle; have kneq := hA.neq
    rw [lp_split (lpOf (envV A) 78 bd78) 4]
    generalize lpOf (envV A) 78 bd78 4 = L4 at e1 e2 e3 e4 e5 h2 h3 hr ⊢
    generalize lpOf (envV A) 78 bd78 = LP
    generalize evl (envV A) = E at e1 e2 e3 e4 e5 h2 h3 hr ⊢
    obtain ⟨aadd, asub, amul, arem, aquo, awr, ashr, aeq, alt, ale, aseq, aslt, acat, acut, asiz, aat, anle, aneq, afit⟩ := A
    simp only at hnle hneq
    subst hnle hneq
    simp only at klt kle keq knle kneq
    try simp only at h2 h3 hr
    conv at e1 => lhs; cbv
    conv at e2 => lhs; cbv
    conv at e3 => lhs; cbv
    conv at e4 => lhs; cbv
    conv at e5 => lhs; cbv
    cbv
    rewrite [e3]
    cbv
    rewrite [h2]
    cbv
    rewrite [e1]
    cbv
    rewrite [e4]
    cbv
    cases c1 : aseq a c
    · cbv
    · cbv
      cases c2 : aseq b d
      · cbv
      · cbv
        rewrite [h3]
        cbv
        rewrite [hr]
        cbv
  ·
    rw [lp_step (envV A) 78 (c0 := bd78) (lv := lvF78) rfl rfl]
    have hnle := hA.nleE; have hneq := hA.neqE
    have klt := hA.lt; have kle := hA.le; have keq := hA.eq; have knle := hA.nle; have kneq := hA.neq
    rw [lp_split (lpOf (envV A) 78 bd78) 4]
    generalize lpOf (envV A) 78 bd78 4 = L4 at e1 e2 e3 e4 e5 h2 h3 hr ⊢
    generalize lpOf (envV A) 78 bd78 = LP
    generalize evl (envV A) = E at e1 e2 e3 e4 e5 h2 h3 hr ⊢
    obtain ⟨aadd, asub, amul, arem, aquo, awr, ashr, aeq, alt, ale, aseq, aslt, acat, acut, asiz, aat, anle, aneq, afit⟩ := A
    simp only at hnle hneq
    subst hnle hneq
    simp only at klt kle keq knle kneq
    try simp only at h2 h3 hr
    conv at e1 => lhs; cbv
    conv at e2 => lhs; cbv
    conv at e3 => lhs; cbv
    conv at e4 => lhs; cbv
    conv at e5 => lhs; cbv
    cbv
    rewrite [e3]
    cbv
    rewrite [h2]
    cbv
    rewrite [e1]
    cbv
    rewrite [e4]
    cbv
    cases c1 : aseq a c
    · cbv
    · cbv
      cases c2 : aseq b d
      · cbv
      · cbv
  ·
    rw [lp_step (envV A) 78 (c0 := bd78) (lv := lvF78) rfl rfl]
    have hnle := hA.nleE; have hneq := hA.neqE
    have klt := hA.lt; have kle := hA.le; have keq := hA.eq; have knle := hA.nle; have kneq := hA.neq
    rw [lp_split (lpOf (envV A) 78 bd78) 4]
    generalize lpOf (envV A) 78 bd78 4 = L4 at e1 e2 e3 e4 e5 h2 h3 hr ⊢
    generalize lpOf (envV A) 78 bd78 = LP
    generalize evl (envV A) = E at e1 e2 e3 e4 e5 h2 h3 hr ⊢
    obtain ⟨aadd, asub, amul, arem, aquo, awr, ashr, aeq, alt, ale, aseq, aslt, acat, acut, asiz, aat, anle, aneq, afit⟩ := A
    simp only at hnle hneq
    subst hnle hneq
    simp only at klt kle keq knle kneq
    try simp only at h2 h3 hr
    conv at e1 => lhs; cbv
    conv at e2 => lhs; cbv
    conv at e3 => lhs; cbv
    conv at e4 => lhs; cbv
    conv at e5 => lhs; cbv
    cbv
    rewrite [e3]
    cbv
    rewrite [h2]
    cbv
    rewrite [e1]
    cbv
    rewrite [e4]
    cbv
    cases c1 : aseq a c
    · cbv
    · cbv
      cases c2 : aseq b d
      · cbv
      · cbv
  ·
    rw [lp_step (envV A) 78 (c0 := bd78) (lv := lvF78) rfl rfl]
    have hnle := hA.nleE; have hneq := hA.neqE
    have klt := hA.lt; have kle := hA.le; have keq := hA.eq; have knle := hA.nle; have kneq := hA.neq
    rw [lp_split (lpOf (envV A) 78 bd78) 4]
    generalize lpOf (envV A) 78 bd78 4 = L4 at e1 e2 e3 e4 e5 h2 h3 hr ⊢
    generalize lpOf (envV A) 78 bd78 = LP
    generalize evl (envV A) = E at e1 e2 e3 e4 e5 h2 h3 hr ⊢
    obtain ⟨aadd, asub, amul, arem, aquo, awr, ashr, aeq, alt, ale, aseq, aslt, acat, acut, asiz, aat, anle, aneq, afit⟩ := A
    simp only at hnle hneq
    subst hnle hneq
    simp only at klt kle keq knle kneq
    try simp only at h2 h3 hr
    conv at e1 => lhs; cbv
    conv at e2 => lhs; cbv
    conv at e3 => lhs; cbv
    conv at e4 => lhs; cbv
    conv at e5 => lhs; cbv
    cbv
    rewrite [e3]
    cbv
    rewrite [h2]
    cbv
    rewrite [e1]
    cbv
    rewrite [e4]
    cbv
    cases c1 : aseq a c
    · cbv
    · cbv
      cases c2 : aseq b d
      · cbv
      · cbv
        rewrite [h3]
        cbv
        rewrite [hr]
        cbv
theorem lp_ref01_Same_end (e3 : xs.length = n) (h2 : A.lt (.ofNat i) (.ofNat n) = false) :
    lpOf (envV A) 78 bd78 4 (stD xs ys i) = some (.code (.exit 0) (stDe xs ys i)) := by
  unfold stD stDe
  rw [lp_step (envV A) 78 (c0 := bd78) (lv := lvF78) rfl rfl]
  have hnle := hA.nleE; have hneq := hA.neqE
  have klt := hA.lt; have kle := hA.le; have keq := hA.eq; have knle := hA.nle; have kneq := hA.neq
  generalize lpOf (envV A) 78 bd78 = LP
  generalize evl (envV A) = E at e3 h2 ⊢
  obtain ⟨aadd, asub, amul, arem, aquo, awr, ashr, aeq, alt, ale, aseq, aslt, acat, acut, asiz, aat, anle, aneq, afit⟩ := A
  simp only at hnle hneq
  subst hnle hneq
  simp only at klt kle keq knle kneq
  try simp only at h2
  conv at e3 => lhs; cbv
  cbv
  rewrite [e3]
  cbv
  rewrite [h2]
  cbv
theorem eq_ref01_Same (s : Bool) (e3 : xs.length = n) (e5 : ys.length = m) (h1 : A.eq (.ofNat n) (.ofNat m) = true → lpOf (envV A) 78 bd78 4 (stD xs ys 0) = bif s then some (.code (.exit 0) (stDe xs ys n)) else some (.code .ret stE0)) :
    evl (envV A) (.call 78 [.sl 3 xs .imm, .sl 3 ys .imm] []) = some (.ret (.s (.bool (A.eq (.ofNat n) (.ofNat m) && s))) []) := by
  unfold stD stDe stE0 at h1
  simp only [show Int.ofNat 0 = 0 from rfl] at h1
  cases h0 : A.eq (.ofNat n) (.ofNat m) with
  | false =>
    clear h1
    rw [evl_fn (envV A) 78 _ _ (fn := Try.f78) (c := bd78) (lv := lvF78) rfl rfl rfl rfl rfl rfl]
    have hnle := hA.nleE; have hneq := hA.neqE
    have klt := hA.lt; have kle := hA.le; have keq := hA.eq; have knle := hA.nle; have kneq := hA.neq
    generalize lpOf (envV A) 78 bd78 = LP
    generalize evl (envV A) = E at e3 e5 h0 ⊢
    obtain ⟨aadd, asub, amul, arem, aquo, awr, ashr, aeq, alt, ale, aseq, aslt, acat, acut, asiz, aat, anle, aneq, afit⟩ := A
    simp only at hnle hneq
    subst hnle hneq
    simp only at klt kle keq knle kneq
    try simp only at h0
    conv at e3 => lhs; cbv
    conv at e5 => lhs; cbv
    cbv
    rewrite [e3]
    cbv
    rewrite [e5]
    cbv
    rewrite [h0]
    cbv
  | true =>
    have h2 := h1 h0
    clear h1
    cases s <;> simp only [cond_true, cond_false] at h2
    ·
      rw [evl_fn (envV A) 78 _ _ (fn := Try.f78) (c := bd78) (lv := lvF78) rfl rfl rfl rfl rfl rfl]
      have hnle := hA.nleE; have hneq := hA.neqE
      have klt := hA.lt; have kle := hA.le; have keq := hA.eq; have knle := hA.nle; have kneq := hA.neq
      rw [lp_split (lpOf (envV A) 78 bd78) 4]
      generalize lpOf (envV A) 78 bd78 4 = L4 at e3 e5 h0 h2 ⊢
      generalize lpOf (envV A) 78 bd78 = LP
      generalize evl (envV A) = E at e3 e5 h0 h2 ⊢
      obtain ⟨aadd, asub, amul, arem, aquo, awr, ashr, aeq, alt, ale, aseq, aslt, acat, acut, asiz, aat, anle, aneq, afit⟩ := A
      simp only at hnle hneq
      subst hnle hneq
      simp only at klt kle keq knle kneq
      try simp only at h0 h2
      conv at e3 => lhs; cbv
      conv at e5 => lhs; cbv
      cbv
      rewrite [e3]
      cbv
      rewrite [e5]
      cbv
      rewrite [h0]
      cbv
      rewrite [h2]
      cbv
    ·
      rw [evl_fn (envV A) 78 _ _ (fn := Try.f78) (c := bd78) (lv := lvF78) rfl rfl rfl rfl rfl rfl]
      have hnle := hA.nleE; have hneq := hA.neqE
      have klt := hA.lt; have kle := hA.le; have keq := hA.eq; have knle := hA.nle; have kneq := hA.neq
      rw [lp_split (lpOf (envV A) 78 bd78) 4]
      generalize lpOf (envV A) 78 bd78 4 = L4 at e3 e5 h0 h2 ⊢
      generalize lpOf (envV A) 78 bd78 = LP
      generalize evl (envV A) = E at e3 e5 h0 h2 ⊢
      obtain ⟨aadd, asub, amul, arem, aquo, awr, ashr, aeq, alt, ale, aseq, aslt, acat, acut, asiz, aat, anle, aneq, afit⟩ := A
      simp only at hnle hneq
      subst hnle hneq
      simp only at klt kle keq knle kneq
      try simp only at h0 h2
      conv at e3 => lhs; cbv
      conv at e5 => lhs; cbv
      cbv
      rewrite [e3]
      cbv
      rewrite [e5]
      cbv
      rewrite [h0]
      cbv
      rewrite [h2]
      cbv
end
/-- whether lists of attributes are the same -/
def same1 (a b : AtT) : Bool := realAr.seq a.1 b.1 && (realAr.seq a.2.1 b.2.1 && (a.2.2 == b.2.2))
def sameR : List AtT → List AtT → Bool
  | a :: l, b :: m => same1 a b && sameR l m
  | _, _ => true
def sameL (l m : List AtT) : Bool := decide (l.length = m.length) && sameR l m
theorem len_eq (a b : Nat) : realAr.eq (.ofNat a) (.ofNat b) = decide (a = b) := by
  rw [realAr_eq]
  congr 1
  simp only [Int.ofNat_eq_natCast, eq_iff_iff]
  omega
theorem lp_sameA (l m : List AtT) (hl : l.length ≤ 1000) (hlm : l.length = m.length) : ∀ (f i : Nat), f + i = l.length →
    lpOf (envV realAr) 108 bd108 4 (stE (l.map atA) (m.map atA) l.length i) = bif sameR (l.drop i) (m.drop i) then some (.code (.exit 0) (stEe (l.map atA) (m.map atA) l.length l.length)) else some (.code .ret stE0)
  | 0, i, h => by
    have : i = l.length := by omega
    subst this
    rw [List.drop_length]
    exact lp_attr_Equal_end realAr realAr_ok _ _ _ _ (nlt_f (Nat.le_refl _))
  | f + 1, i, h => by
    have hi : i < l.length := by omega
    have hj : i < m.length := by omega
    have := lp_attr_Equal realAr realAr_ok _ _ l.length i l[i].1 l[i].2.1 m[i].1 m[i].2.1 l[i].2.2 m[i].2.2 (mget atA l hi) (hble hi) (mlen atA l) (mget atA m hj) (by rw [mlen atA m, hlm]) (nlt_t hi) (ninc (by omega)) (lp_sameA l m hl hlm f (i + 1) (by omega))
    rw [this, List.drop_eq_getElem_cons hi, List.drop_eq_getElem_cons hj, sameR]
    change (bif same1 l[i] m[i] then _ else _) = _
    cases same1 l[i] m[i] <;> simp
theorem s_slices_Equal (l m : List AtT) (hl : l.length ≤ 1000) :
    evl (envV realAr) (.call 108 [.sl 3 (l.map atA) .imm, .sl 3 (m.map atA) .imm] []) = some (.ret (.s (.bool (sameL l m))) []) := by
  rw [eq_attr_Equal realAr realAr_ok _ _ l.length m.length (sameR l m) (mlen atA l) (mlen atA m) (fun e => ?_), len_eq]
  · rfl
  · rw [len_eq] at e
    have h := lp_sameA l m hl (of_decide_eq_true e) l.length 0 (by omega)
    rwa [List.drop_zero, List.drop_zero] at h
theorem lp_sameB (l m : List AtT) (hl : l.length ≤ 1000) (hlm : l.length = m.length) : ∀ (f i : Nat), f + i = l.length →
    lpOf (envV realAr) 78 bd78 4 (stD (l.map atA) (m.map atA) i) = bif sameR (l.drop i) (m.drop i) then some (.code (.exit 0) (stDe (l.map atA) (m.map atA) l.length)) else some (.code .ret stE0)
  | 0, i, h => by
    have : i = l.length := by omega
    subst this
    rw [List.drop_length]
    exact lp_ref01_Same_end realAr realAr_ok _ _ _ _ (mlen atA l) (nlt_f (Nat.le_refl _))
  | f + 1, i, h => by
    have hi : i < l.length := by omega
    have hj : i < m.length := by omega
    have := lp_ref01_Same realAr realAr_ok _ _ l.length i l[i].1 l[i].2.1 m[i].1 m[i].2.1 l[i].2.2 m[i].2.2 (mget atA l hi) (hble hi) (mlen atA l) (mget atA m hj) (by rw [mlen atA m, hlm]) (nlt_t hi) (ninc (by omega)) (lp_sameB l m hl hlm f (i + 1) (by omega))
    rw [this, List.drop_eq_getElem_cons hi, List.drop_eq_getElem_cons hj, sameR]
    change (bif same1 l[i] m[i] then _ else _) = _
    cases same1 l[i] m[i] <;> simp
theorem s_ref01_Same (l m : List AtT) (hl : l.length ≤ 1000) :
    evl (envV realAr) (.call 78 [.sl 3 (l.map atA) .imm, .sl 3 (m.map atA) .imm] []) = some (.ret (.s (.bool (sameL l m))) []) := by
  rw [eq_ref01_Same realAr realAr_ok _ _ l.length m.length (sameR l m) (mlen atA l) (mlen atA m) (fun e => ?_), len_eq]
  · rfl
  · rw [len_eq] at e
    have h := lp_sameB l m hl (of_decide_eq_true e) l.length 0 (by omega)
    rwa [List.drop_zero, List.drop_zero] at h
end Go.Va
namespace Go.Va
open Go.Proofs
set_option maxRecDepth 100000
set_option maxHeartbeats 4000000
def stQ (p : Perm) (ks ks2 : List AV) (n i : Nat) : St := { n := 32, k := 0, fr := [(1, .sl 6 ks2 p), (2, .fn 83 [] []), (15, .sl 6 ks p), (16, .s (.int .i64 (.ofNat n))), (17, .s (.int .i64 (.ofNat i)))], O := [] }
def stQe (p : Perm) (ks ks2 : List AV) (n i : Nat) : St := { n := 32, k := 0, fr := [(1, .sl 6 ks2 p), (2, .fn 83 [] []), (15, .sl 6 ks p), (16, .s (.int .i64 (.ofNat n))), (17, .s (.int .i64 (.ofNat i))), (18, .s (.bool false))], O := [] }
def stQ0 : St := { n := 32, k := 0, fr := [(6, .s (.bool false))], O := [] }
def stK (p q : Perm) (ws us : List AV) (i : Nat) : St := { n := 99, k := 0, fr := [(0, .sl 6 ws p), (1, .sl 6 us q), (5, .s (.int .i64 (.ofNat i)))], O := [] }
def stKe (p q : Perm) (ws us : List AV) (i : Nat) : St := { n := 99, k := 0, fr := [(0, .sl 6 ws p), (1, .sl 6 us q), (5, .s (.int .i64 (.ofNat i))), (16, .s (.bool false))], O := [] }
def stK0 : St := { n := 99, k := 0, fr := [(4, .s (.bool false))], O := [] }
section
variable (A : Ar) (hA : ArOk A) (p q : Perm) (hp : p = .ro ∨ p = .imm) (hpq : p = .imm ∧ q = .imm ∨ p = .full ∧ q = .ro ∨ p = .ro ∧ q = .full) (ws us : List AV) (n m i : Nat) (kd kd2 : Int) (tag key text tag2 key2 text2 : ByteArray) (ats ats2 ks ks2 : List AV) (ma mk s : Bool)
include hA
theorem eq_wish_same (h1 : evl (envV A) (.call 108 [.sl 3 ats .imm, .sl 3 ats2 .imm] []) = some (.ret (.s (.bool ma)) []))
    (h2 : evl (envV A) (.call 43 [.sl 6 ks .imm, .sl 6 ks2 .imm] []) = some (.ret (.s (.bool mk)) [])) :
    evl (envV A) (.call 83 [.agg (wC .imm kd tag key text ats ks), .agg (wC .imm kd2 tag2 key2 text2 ats2 ks2)] []) = some (.ret (.s (.bool (bif A.eq kd kd2 then (bif A.seq tag tag2 then (bif A.seq key key2 then (bif A.seq text text2 then (bif ma then mk else false) else false) else false) else false) else false))) []) := by
  unfold wC
  rw [evl_fn (envV A) 83 _ _ (fn := Try.f83) (c := bd83) (lv := lvF83) rfl rfl rfl rfl rfl rfl]
  have hnle := hA.nleE; have hneq := hA.neqE
  have klt := hA.lt; have kle := hA.le; have keq := hA.eq; have knle := hA.nle; have kneq := hA.neq
  generalize lpOf (envV A) 83 bd83 = LP
  generalize evl (envV A) = E at h1 h2 ⊢
  obtain ⟨aadd, asub, amul, arem, aquo, awr, ashr, aeq, alt, ale, aseq, aslt, acat, acut, asiz, aat, anle, aneq, afit⟩ := A
  simp only at hnle hneq
  subst hnle hneq
  simp only at klt kle keq knle kneq
  try simp only at h1 h2
  cbv
  cases c1 : aeq kd kd2
  · cbv
  · cbv
    cases c2 : aseq tag tag2
    · cbv
    · cbv
      cases c3 : aseq key key2
      · cbv
      · cbv
        cases c4 : aseq text text2
        · cbv
        · cbv
          rewrite [h1]
          cbv
          cases ma
          · cbv
          · cbv
            rewrite [h2]
            cbv
include hp in
theorem eq_wish_Same (h1 : evl (envV A) (.call 82 [.sl 6 ws p, .sl 6 us p, .fn 83 [] []] []) = some (.ret (.s (.bool s)) [])) :
    evl (envV A) (.call 43 [.sl 6 ws p, .sl 6 us p] []) = some (.ret (.s (.bool s)) []) := by
  rcases hp with rfl | rfl
  ·
    rw [evl_fn (envV A) 43 _ _ (fn := Try.f43) (c := bd43) (lv := lvF43) rfl rfl rfl rfl rfl rfl]
    have hnle := hA.nleE; have hneq := hA.neqE
    have klt := hA.lt; have kle := hA.le; have keq := hA.eq; have knle := hA.nle; have kneq := hA.neq
    generalize lpOf (envV A) 43 bd43 = LP
    generalize evl (envV A) = E at h1 ⊢
    obtain ⟨aadd, asub, amul, arem, aquo, awr, ashr, aeq, alt, ale, aseq, aslt, acat, acut, asiz, aat, anle, aneq, afit⟩ := A
    simp only at hnle hneq
    subst hnle hneq
    simp only at klt kle keq knle kneq
    try simp only at h1
    cbv
    rewrite [h1]
    cbv
  ·
    rw [evl_fn (envV A) 43 _ _ (fn := Try.f43) (c := bd43) (lv := lvF43) rfl rfl rfl rfl rfl rfl]
    have hnle := hA.nleE; have hneq := hA.neqE
    have klt := hA.lt; have kle := hA.le; have keq := hA.eq; have knle := hA.nle; have kneq := hA.neq
    generalize lpOf (envV A) 43 bd43 = LP
    generalize evl (envV A) = E at h1 ⊢
    obtain ⟨aadd, asub, amul, arem, aquo, awr, ashr, aeq, alt, ale, aseq, aslt, acat, acut, asiz, aat, anle, aneq, afit⟩ := A
    simp only at hnle hneq
    subst hnle hneq
    simp only at klt kle keq knle kneq
    try simp only at h1
    cbv
    rewrite [h1]
    cbv
include hp in
theorem lp_eqf {r : Option Res} (e0 : ws.length = n) (e1 : lget ws i = some (.agg (wC .imm kd tag key text ats ks))) (e2 : Nat.ble (Nat.succ i) n = true) (e3 : lget us i = some (.agg (wC .imm kd2 tag2 key2 text2 ats2 ks2))) (e4 : us.length = n) (h1 : A.lt (.ofNat i) (.ofNat n) = true) (h2 : A.add .i64 (.ofNat i) 1 = .ofNat (Nat.succ i))
    (h3 : evl (envV A) (.call 83 [.agg (wC .imm kd tag key text ats ks), .agg (wC .imm kd2 tag2 key2 text2 ats2 ks2)] []) = some (.ret (.s (.bool s)) []))
    (hr : lpOf (envV A) 82 bd82 4 (stQ p ws us n (Nat.succ i)) = r) :
    lpOf (envV A) 82 bd82 4 (stQ p ws us n i) = bif s then r else some (.code .ret stQ0) := by
  unfold wC at e1 e3 h3
  unfold stQ at hr ⊢
  unfold stQ0
  rcases hp with rfl | rfl
  ·
    rw [lp_step (envV A) 82 (c0 := bd82) (lv := lvF82) rfl rfl]
    have hnle := hA.nleE; have hneq := hA.neqE
    have klt := hA.lt; have kle := hA.le; have keq := hA.eq; have knle := hA.nle; have kneq := hA.neq
    rw [lp_split (lpOf (envV A) 82 bd82) 4]
    generalize lpOf (envV A) 82 bd82 4 = L4 at e0 e1 e2 e3 e4 h1 h2 h3 hr ⊢
    generalize lpOf (envV A) 82 bd82 = LP
    generalize evl (envV A) = E at e0 e1 e2 e3 e4 h1 h2 h3 hr ⊢
    obtain ⟨aadd, asub, amul, arem, aquo, awr, ashr, aeq, alt, ale, aseq, aslt, acat, acut, asiz, aat, anle, aneq, afit⟩ := A
    simp only at hnle hneq
    subst hnle hneq
    simp only at klt kle keq knle kneq
    try simp only at h1 h2 h3 hr
    conv at e0 => lhs; cbv
    conv at e1 => lhs; cbv
    conv at e2 => lhs; cbv
    conv at e3 => lhs; cbv
    conv at e4 => lhs; cbv
    cbv
    rewrite [h1]
    cbv
    rewrite [e1]
    cbv
    rewrite [e3]
    cbv
    rewrite [h3]
    cbv
    cases s
    · cbv
    · cbv
      rewrite [h2]
      cbv
      rewrite [hr]
      cbv
  ·
    rw [lp_step (envV A) 82 (c0 := bd82) (lv := lvF82) rfl rfl]
    have hnle := hA.nleE; have hneq := hA.neqE
    have klt := hA.lt; have kle := hA.le; have keq := hA.eq; have knle := hA.nle; have kneq := hA.neq
    rw [lp_split (lpOf (envV A) 82 bd82) 4]
    generalize lpOf (envV A) 82 bd82 4 = L4 at e0 e1 e2 e3 e4 h1 h2 h3 hr ⊢
    generalize lpOf (envV A) 82 bd82 = LP
    generalize evl (envV A) = E at e0 e1 e2 e3 e4 h1 h2 h3 hr ⊢
    obtain ⟨aadd, asub, amul, arem, aquo, awr, ashr, aeq, alt, ale, aseq, aslt, acat, acut, asiz, aat, anle, aneq, afit⟩ := A
    simp only at hnle hneq
    subst hnle hneq
    simp only at klt kle keq knle kneq
    try simp only at h1 h2 h3 hr
    conv at e0 => lhs; cbv
    conv at e1 => lhs; cbv
    conv at e2 => lhs; cbv
    conv at e3 => lhs; cbv
    conv at e4 => lhs; cbv
    cbv
    rewrite [h1]
    cbv
    rewrite [e1]
    cbv
    rewrite [e3]
    cbv
    rewrite [h3]
    cbv
    cases s
    · cbv
    · cbv
      rewrite [h2]
      cbv
      rewrite [hr]
      cbv
include hp in
theorem lp_eqf_end (h1 : A.lt (.ofNat i) (.ofNat n) = false) :
    lpOf (envV A) 82 bd82 4 (stQ p ws us n i) = some (.code (.exit 0) (stQe p ws us n i)) := by
  unfold stQ stQe
  rcases hp with rfl | rfl
  ·
    rw [lp_step (envV A) 82 (c0 := bd82) (lv := lvF82) rfl rfl]
    have hnle := hA.nleE; have hneq := hA.neqE
    have klt := hA.lt; have kle := hA.le; have keq := hA.eq; have knle := hA.nle; have kneq := hA.neq
    generalize lpOf (envV A) 82 bd82 = LP
    generalize evl (envV A) = E at h1 ⊢
    obtain ⟨aadd, asub, amul, arem, aquo, awr, ashr, aeq, alt, ale, aseq, aslt, acat, acut, asiz, aat, anle, aneq, afit⟩ := A
    simp only at hnle hneq
    subst hnle hneq
    simp only at klt kle keq knle kneq
    try simp only at h1
    cbv
    rewrite [h1]
    cbv
  ·
    rw [lp_step (envV A) 82 (c0 := bd82) (lv := lvF82) rfl rfl]
    have hnle := hA.nleE; have hneq := hA.neqE
    have klt := hA.lt; have kle := hA.le; have keq := hA.eq; have knle := hA.nle; have kneq := hA.neq
    generalize lpOf (envV A) 82 bd82 = LP
    generalize evl (envV A) = E at h1 ⊢
    obtain ⟨aadd, asub, amul, arem, aquo, awr, ashr, aeq, alt, ale, aseq, aslt, acat, acut, asiz, aat, anle, aneq, afit⟩ := A
    simp only at hnle hneq
    subst hnle hneq
    simp only at klt kle keq knle kneq
    try simp only at h1
    cbv
    rewrite [h1]
    cbv
include hp in
theorem eq_eqf_ne (e0 : ws.length = n) (e1 : us.length = m) (h1 : A.eq (.ofNat n) (.ofNat m) = false) :
    evl (envV A) (.call 82 [.sl 6 ws p, .sl 6 us p, .fn 83 [] []] []) = some (.ret (.s (.bool false)) []) := by
  rcases hp with rfl | rfl
  ·
    rw [evl_fn (envV A) 82 _ _ (fn := Try.f82) (c := bd82) (lv := lvF82) rfl rfl rfl rfl rfl rfl]
    have hnle := hA.nleE; have hneq := hA.neqE
    have klt := hA.lt; have kle := hA.le; have keq := hA.eq; have knle := hA.nle; have kneq := hA.neq
    generalize lpOf (envV A) 82 bd82 = LP
    generalize evl (envV A) = E at e0 e1 h1 ⊢
    obtain ⟨aadd, asub, amul, arem, aquo, awr, ashr, aeq, alt, ale, aseq, aslt, acat, acut, asiz, aat, anle, aneq, afit⟩ := A
    simp only at hnle hneq
    subst hnle hneq
    simp only at klt kle keq knle kneq
    try simp only at h1
    conv at e0 => lhs; cbv
    conv at e1 => lhs; cbv
    cbv
    rewrite [e0]
    cbv
    rewrite [e1]
    cbv
    rewrite [h1]
    cbv
  ·
    rw [evl_fn (envV A) 82 _ _ (fn := Try.f82) (c := bd82) (lv := lvF82) rfl rfl rfl rfl rfl rfl]
    have hnle := hA.nleE; have hneq := hA.neqE
    have klt := hA.lt; have kle := hA.le; have keq := hA.eq; have knle := hA.nle; have kneq := hA.neq
    generalize lpOf (envV A) 82 bd82 = LP
    generalize evl (envV A) = E at e0 e1 h1 ⊢
    obtain ⟨aadd, asub, amul, arem, aquo, awr, ashr, aeq, alt, ale, aseq, aslt, acat, acut, asiz, aat, anle, aneq, afit⟩ := A
    simp only at hnle hneq
    subst hnle hneq
    simp only at klt kle keq knle kneq
    try simp only at h1
    conv at e0 => lhs; cbv
    conv at e1 => lhs; cbv
    cbv
    rewrite [e0]
    cbv
    rewrite [e1]
    cbv
    rewrite [h1]
    cbv
include hp in
theorem eq_eqf (e0 : ws.length = n) (e1 : us.length = m) (h1 : A.eq (.ofNat n) (.ofNat m) = true)
    (h2 : lpOf (envV A) 82 bd82 4 (stQ p ws us n 0) = bif s then some (.code (.exit 0) (stQe p ws us n i)) else some (.code .ret stQ0)) :
    evl (envV A) (.call 82 [.sl 6 ws p, .sl 6 us p, .fn 83 [] []] []) = some (.ret (.s (.bool s)) []) := by
  unfold stQ stQe stQ0 at h2
  simp only [show Int.ofNat 0 = 0 from rfl] at h2
  rcases hp with rfl | rfl <;> cases s <;> simp only [cond_true, cond_false] at h2
  ·
    rw [evl_fn (envV A) 82 _ _ (fn := Try.f82) (c := bd82) (lv := lvF82) rfl rfl rfl rfl rfl rfl]
    have hnle := hA.nleE; have hneq := hA.neqE
    have klt := hA.lt; have kle := hA.le; have keq := hA.eq; have knle := hA.nle; have kneq := hA.neq
    rw [lp_split (lpOf (envV A) 82 bd82) 4]
    generalize lpOf (envV A) 82 bd82 4 = L4 at e0 e1 h1 h2 ⊢
    generalize lpOf (envV A) 82 bd82 = LP
    generalize evl (envV A) = E at e0 e1 h1 h2 ⊢
    obtain ⟨aadd, asub, amul, arem, aquo, awr, ashr, aeq, alt, ale, aseq, aslt, acat, acut, asiz, aat, anle, aneq, afit⟩ := A
    simp only at hnle hneq
    subst hnle hneq
    simp only at klt kle keq knle kneq
    try simp only at h1 h2
    conv at e0 => lhs; cbv
    conv at e1 => lhs; cbv
    cbv
    rewrite [e0]
    cbv
    rewrite [e1]
    cbv
    rewrite [h1]
    cbv
    rewrite [e0]
    cbv
    rewrite [h2]
    cbv
  ·
    rw [evl_fn (envV A) 82 _ _ (fn := Try.f82) (c := bd82) (lv := lvF82) rfl rfl rfl rfl rfl rfl]
    have hnle := hA.nleE; have hneq := hA.neqE
    have klt := hA.lt; have kle := hA.le; have keq := hA.eq; have knle := hA.nle; have kneq := hA.neq
    rw [lp_split (lpOf (envV A) 82 bd82) 4]
    generalize lpOf (envV A) 82 bd82 4 = L4 at e0 e1 h1 h2 ⊢
    generalize lpOf (envV A) 82 bd82 = LP
    generalize evl (envV A) = E at e0 e1 h1 h2 ⊢
    obtain ⟨aadd, asub, amul, arem, aquo, awr, ashr, aeq, alt, ale, aseq, aslt, acat, acut, asiz, aat, anle, aneq, afit⟩ := A
    simp only at hnle hneq
    subst hnle hneq
    simp only at klt kle keq knle kneq
    try simp only at h1 h2
    conv at e0 => lhs; cbv
    conv at e1 => lhs; cbv
    cbv
    rewrite [e0]
    cbv
    rewrite [e1]
    cbv
    rewrite [h1]
    cbv
    rewrite [e0]
    cbv
    rewrite [h2]
    cbv
  ·
    rw [evl_fn (envV A) 82 _ _ (fn := Try.f82) (c := bd82) (lv := lvF82) rfl rfl rfl rfl rfl rfl]
    have hnle := hA.nleE; have hneq := hA.neqE
    have klt := hA.lt; have kle := hA.le; have keq := hA.eq; have knle := hA.nle; have kneq := hA.neq
    rw [lp_split (lpOf (envV A) 82 bd82) 4]
    generalize lpOf (envV A) 82 bd82 4 = L4 at e0 e1 h1 h2 ⊢
    generalize lpOf (envV A) 82 bd82 = LP
    generalize evl (envV A) = E at e0 e1 h1 h2 ⊢
    obtain ⟨aadd, asub, amul, arem, aquo, awr, ashr, aeq, alt, ale, aseq, aslt, acat, acut, asiz, aat, anle, aneq, afit⟩ := A
    simp only at hnle hneq
    subst hnle hneq
    simp only at klt kle keq knle kneq
    try simp only at h1 h2
    conv at e0 => lhs; cbv
    conv at e1 => lhs; cbv
    cbv
    rewrite [e0]
    cbv
    rewrite [e1]
    cbv
    rewrite [h1]
    cbv
    rewrite [e0]
    cbv
    rewrite [h2]
    cbv
  ·
    rw [evl_fn (envV A) 82 _ _ (fn := Try.f82) (c := bd82) (lv := lvF82) rfl rfl rfl rfl rfl rfl]
    have hnle := hA.nleE; have hneq := hA.neqE
    have klt := hA.lt; have kle := hA.le; have keq := hA.eq; have knle := hA.nle; have kneq := hA.neq
    rw [lp_split (lpOf (envV A) 82 bd82) 4]
    generalize lpOf (envV A) 82 bd82 4 = L4 at e0 e1 h1 h2 ⊢
    generalize lpOf (envV A) 82 bd82 = LP
    generalize evl (envV A) = E at e0 e1 h1 h2 ⊢
    obtain ⟨aadd, asub, amul, arem, aquo, awr, ashr, aeq, alt, ale, aseq, aslt, acat, acut, asiz, aat, anle, aneq, afit⟩ := A
    simp only at hnle hneq
    subst hnle hneq
    simp only at klt kle keq knle kneq
    try simp only at h1 h2
    conv at e0 => lhs; cbv
    conv at e1 => lhs; cbv
    cbv
    rewrite [e0]
    cbv
    rewrite [e1]
    cbv
    rewrite [h1]
    cbv
    rewrite [e0]
    cbv
    rewrite [h2]
    cbv
end
end Go.Va
