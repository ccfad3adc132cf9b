/- The functions that the statement reaches, by equations: no statement of its own. -/
import Derived.Test.YtmklimlepgiffabEq13
set_option linter.unusedVariables false
set_option linter.unusedSimpArgs false
set_option linter.unusedSectionVars false
namespace Go.Va
open Go.Proofs
set_option maxRecDepth 100000
/-! what is wanted, plainly -/
abbrev AtT := ByteArray × ByteArray × Bool
def atA (a : AtT) : AV := .agg [.s (.string a.1), .s (.string a.2.1), .s (.bool a.2.2)]
inductive WT where
  | node (k : Int) (tag key text : ByteArray) (ats : List AtT) (kids : List WT)
mutual
def wtA : WT → AV
  | .node k tag key text ats ks => .agg (wC .imm k tag key text (ats.map atA) (wtsA ks))
def wtsA : List WT → List AV
  | [] => []
  | t :: ts => wtA t :: wtsA ts
end
theorem wtsA_map : ∀ ks : List WT, wtsA ks = ks.map wtA
  | [] => rfl
  | t :: ts => by rw [wtsA, wtsA_map ts]; rfl
mutual
theorem WT.ind {P : WT → Prop} (h : ∀ k tag key text ats ks, (∀ t ∈ ks, P t) → P (.node k tag key text ats ks)) : ∀ t, P t
  | .node k tag key text ats ks => h k tag key text ats ks (WT.indL h ks)
theorem WT.indL {P : WT → Prop} (h : ∀ k tag key text ats ks, (∀ t ∈ ks, P t) → P (.node k tag key text ats ks)) : ∀ ks : List WT, ∀ t ∈ ks, P t
  | [] => fun _ ht => by cases ht
  | k :: ks => List.forall_mem_cons.2 ⟨WT.ind h k, WT.indL h ks⟩
end
mutual
def cntW : WT → Nat
  | .node k _ _ _ _ ks => if k = 1 then cntWs ks + 1 else if k = 2 then 1 else 0
def cntWs : List WT → Nat
  | [] => 0
  | t :: ts => cntW t + cntWs ts
end
def atOf (x : InsT) : AtT := (x.2.1, x.2.2, realAr.eq x.1 6)
def oneW (rc : List InsT → List WT × List InsT) (x : InsT) (l : List InsT) : WT × List InsT :=
  if x.1 = 4 then (.node 2 ⟨#[]⟩ ⟨#[]⟩ x.2.1 [] [], l)
  else if x.1 = 8 then (.node 3 ⟨#[]⟩ ⟨#[]⟩ ⟨#[]⟩ [] [], l)
  else if x.1 = 7 then (.node 4 ⟨#[]⟩ ⟨#[]⟩ ⟨#[]⟩ [] [], l)
  else if x.1 = 1 then (.node 1 x.2.1 x.2.2 ⟨#[]⟩ ((l.takeWhile fun i => tellsB i.1).map atOf) (rc (l.dropWhile fun i => tellsB i.1)).1, (rc (l.dropWhile fun i => tellsB i.1)).2)
  else (.node 1 x.2.1 x.2.2 ⟨#[]⟩ ((l.takeWhile fun i => tellsB i.1).map atOf) [], l.dropWhile fun i => tellsB i.1)
def loopW : Nat → List InsT → List WT × List InsT
  | 0, l => ([], l)
  | _ + 1, [] => ([], [])
  | f + 1, x :: l => if x.1 = 2 then ([], x :: l) else
    ((oneW (fun r => ((loopW f r).1, (loopW f r).2.drop 1)) x l).1 :: (loopW f (oneW (fun r => ((loopW f r).1, (loopW f r).2.drop 1)) x l).2).1,
     (loopW f (oneW (fun r => ((loopW f r).1, (loopW f r).2.drop 1)) x l).2).2)
def someW (f : Nat) (l : List InsT) : List WT × List InsT := ((loopW f l).1, (loopW f l).2.drop 1)
theorem dropW_len (p : InsT → Bool) : ∀ l : List InsT, (l.dropWhile p).length ≤ l.length
  | [] => Nat.le_refl _
  | x :: l => by
    rw [List.dropWhile_cons]
    split
    · have := dropW_len p l
      simp only [List.length_cons]
      omega
    · exact Nat.le_refl _
theorem takeW_len (p : InsT → Bool) : ∀ l : List InsT, (l.takeWhile p).length ≤ l.length
  | [] => Nat.le_refl _
  | x :: l => by
    rw [List.takeWhile_cons]
    split
    · have := takeW_len p l
      simp only [List.length_cons]
      omega
    · simp
theorem oneW_len (rc : List InsT → List WT × List InsT) (h : ∀ r, (rc r).2.length ≤ r.length) (x : InsT) (l : List InsT) : (oneW rc x l).2.length ≤ l.length := by
  have := dropW_len (fun i => tellsB i.1) l
  unfold oneW
  split
  · exact Nat.le_refl _
  · split
    · exact Nat.le_refl _
    · split
      · exact Nat.le_refl _
      · split
        · exact Nat.le_trans (h _) this
        · exact this
theorem loopW_len : ∀ (f : Nat) (l : List InsT), (loopW f l).1.length + (loopW f l).2.length ≤ l.length
  | 0, l => by simp [loopW]
  | f + 1, [] => Nat.le_refl _
  | f + 1, x :: l => by
    unfold loopW
    split
    · simp
    · have h1 := oneW_len (fun r => ((loopW f r).1, (loopW f r).2.drop 1)) (fun r => by have := loopW_len f r; simp; omega) x l
      have h2 := loopW_len f (oneW (fun r => ((loopW f r).1, (loopW f r).2.drop 1)) x l).2
      simp only [List.length_cons]
      omega
/-- a list's end, by its length -/
theorem lcut1 {x : InsT} {l : List InsT} : lcut ((x :: l).map insA) 1 l.length = l.map insA := by
  rw [mcut]
  simp
theorem eq_ins_TellsW (A : Ar) (o : Int) : evl (envV A) (.call 97 [.s (.int .i64 o)] []) = some (.ret (.s (.bool (bif A.eq o 5 then true else A.eq o 6))) []) := by
  rw [evl_fn (envV A) 97 _ _ (fn := Try.f97) (c := bd97) (lv := lvF97) rfl rfl rfl rfl rfl rfl]
  generalize lpOf (envV A) 97 bd97 = LP
  generalize evl (envV A) = E
  obtain ⟨aadd, asub, amul, arem, aquo, awr, ashr, aeq, alt, ale, aseq, aslt, acat, acut, asiz, aat, anle, aneq, afit⟩ := A
  cbv
  cases c1 : aeq o 5
  · cbv
  · cbv
theorem s_tellsW (o : Int) : evl (envV realAr) (.call 97 [.s (.int .i64 o)] []) = some (.ret (.s (.bool (tellsB o))) []) := by
  rw [eq_ins_TellsW, tells_B]
theorem lp_oneI (o : Int) (a b : ByteArray) : ∀ (r : List InsT) (ats : List AtT), ats.length + r.length ≤ 1000 →
    lpOf (envV realAr) 109 bd109 10 (stOn (r.map insA) (ats.map atA) o a b) = some (.code (.exit 1) (stOne ((r.dropWhile fun i => tellsB i.1).map insA) ((ats ++ (r.takeWhile fun i => tellsB i.1).map atOf).map atA) o a b))
  | [], ats, _ => by
    simp only [List.dropWhile_nil, List.takeWhile_nil, List.map_nil, List.append_nil]
    exact lp_one_nil realAr realAr_ok _ _ _ _ (hlt_f (by omega))
  | y :: r, ats, h => by
    have hT := s_tellsW y.1
    simp only [List.length_cons] at h
    have h0 : realAr.lt 0 (.ofNat (Nat.succ r.length)) = true := nlt_t (i := 0) (by omega)
    have hlen : ((y :: r).map insA).length = Nat.succ r.length := by simp
    rw [List.dropWhile_cons, List.takeWhile_cons]
    cases hb : tellsB y.1 with
    | false =>
      rw [hb] at hT
      simp only [Bool.false_eq_true, if_false, List.map_nil, List.append_nil]
      exact lp_one_end realAr realAr_ok (xs := (y :: r).map insA) (n := r.length) (o2 := y.1) (a2 := y.2.1) (b2 := y.2.2) (ats := ats.map atA) (o := o) (a := a) (b := b) rfl hlen (hble (Nat.le_refl _)) h0 hT
    | true =>
      rw [hb] at hT
      simp only [if_true, List.map_cons (f := atOf)]
      have e := lp_oneI o a b r (ats ++ [atOf y]) (by simp; omega)
      rw [List.append_assoc, List.singleton_append] at e
      exact lp_one_on realAr realAr_ok (xs := (y :: r).map insA) (xs2 := r.map insA) (ats2 := (ats ++ [atOf y]).map atA) (n := r.length) (m := ats.length) (o2 := y.1) (a2 := y.2.1) (b2 := y.2.2) (ats := ats.map atA) (o := o) (a := a) (b := b) rfl hlen lcut1 (hble (Nat.le_refl _)) (mlen atA ats) (msnoc atA ats (atOf y)) (hbeq _) h0 hT (hfit (by omega)) e
theorem wts_snoc (out : List WT) (w : WT) : wtsA out ++ [wtA w] = wtsA (out ++ [w]) := by simp [wtsA_map]
theorem wts_len (out : List WT) : (wtsA out).length = out.length := by simp [wtsA_map]
end Go.Va
namespace Go.Va
open Go.Proofs
set_option maxRecDepth 100000
theorem some_of_lp (l : List InsT) (f : Nat) (h : lpOf (envV realAr) 79 bd79 2 (stSm (l.map insA) []) = some (.code (.exit 0) (stSme ((loopW f l).2.map insA) (wtsA (loopW f l).1)))) :
    evl (envV realAr) (.call 79 [.sl 3 (l.map insA) .imm] []) = some (.ret (.tup [.sl 6 (wtsA (someW f l).1) .full, .sl 3 ((someW f l).2.map insA) .imm]) []) := by
  have hlen := loopW_len f l
  unfold someW
  simp only
  generalize (loopW f l).1 = ws at h hlen ⊢
  generalize (loopW f l).2 = rem at h hlen ⊢
  have hb : Nat.ble (wtsA ws).length (wtsA ws).length = true := hble (Nat.le_refl _)
  have ht : (wtsA ws).take (wtsA ws).length = wtsA ws := List.take_length
  match rem, hlen with
  | [], _ => exact eq_some_nil realAr realAr_ok _ _ _ rfl hb ht (hlt_f (by omega)) h
  | [x], _ => exact eq_some_one realAr realAr_ok _ _ _ (insA x) rfl hb ht (hlt_f (by omega)) h
  | x :: y :: r, hlen =>
    refine eq_some_two realAr realAr_ok (xs := (x :: y :: r).map insA) (xs2 := (y :: r).map insA) (xs3 := l.map insA) (out := wtsA ws) (n := (y :: r).length) (m := (wtsA ws).length) (by simp) rfl lcut1 (hble (Nat.le_refl _)) hb ht (nlt_t (i := 1) ?_) h
    simp
theorem s_some : ∀ (f : Nat) (l : List InsT), l.length < f → l.length ≤ 1000 →
    (∀ out : List WT, out.length + l.length ≤ 1000 → lpOf (envV realAr) 79 bd79 2 (stSm (l.map insA) (wtsA out)) = some (.code (.exit 0) (stSme ((loopW f l).2.map insA) (wtsA (out ++ (loopW f l).1)))))
  | 0, l, h, _ => absurd h (by omega)
  | f + 1, [], _, _ => fun out ho => by
    simp only [loopW, List.append_nil]
    exact lp_some_nil realAr realAr_ok _ (hlt_f (by omega))
  | f + 1, x :: l, h, hl => fun out ho => by
    simp only [List.length_cons] at h hl ho
    have hlen : ((x :: l).map insA).length = Nat.succ l.length := by simp
    have h0 : realAr.lt 0 (.ofNat (Nat.succ l.length)) = true := nlt_t (i := 0) (by omega)
    have hg : lget ((x :: l).map insA) 0 = some (.agg [.s (.int .i64 x.1), .s (.string x.2.1), .s (.string x.2.2)]) := rfl
    have hb : Nat.ble (Nat.succ l.length) (Nat.succ l.length) = true := hble (Nat.le_refl _)
    unfold loopW
    by_cases h2 : x.1 = 2
    · rw [if_pos h2, List.append_nil]
      exact lp_some_end realAr realAr_ok (xs := (x :: l).map insA) (out := wtsA out) (n := l.length) (o := x.1) (a := x.2.1) (b := x.2.2) hg hlen hb (heq_t h2) h0
    · rw [if_neg h2]
      have hone : ∃ k tag key text ats ks, (oneW (fun r => ((loopW f r).1, (loopW f r).2.drop 1)) x l).1 = .node k tag key text ats ks ∧
          evl (envV realAr) (.call 109 [.sl 3 ((x :: l).map insA) .imm] []) = some (.ret (.tup [.agg (wC .imm k tag key text (ats.map atA) (wtsA ks)), .sl 3 ((oneW (fun r => ((loopW f r).1, (loopW f r).2.drop 1)) x l).2.map insA) .imm]) []) := by
        unfold oneW
        by_cases h4 : x.1 = 4
        · rw [if_pos h4]
          exact ⟨_, _, _, _, _, _, rfl, eq_one_text realAr realAr_ok (xs := (x :: l).map insA) (xs2 := l.map insA) (n := l.length) (o := x.1) (a := x.2.1) (b := x.2.2) hg hlen lcut1 hb (heq_t h4)⟩
        · rw [if_neg h4]
          by_cases h8 : x.1 = 8
          · rw [if_pos h8]
            exact ⟨_, _, _, _, _, _, rfl, eq_one_node realAr realAr_ok (xs := (x :: l).map insA) (xs2 := l.map insA) (n := l.length) (o := x.1) (a := x.2.1) (b := x.2.2) hg hlen lcut1 hb (heq_f h4) (heq_t h8)⟩
          · rw [if_neg h8]
            by_cases h7 : x.1 = 7
            · rw [if_pos h7]
              exact ⟨_, _, _, _, _, _, rfl, eq_one_all realAr realAr_ok (xs := (x :: l).map insA) (xs2 := l.map insA) (n := l.length) (o := x.1) (a := x.2.1) (b := x.2.2) hg hlen lcut1 hb (heq_f h4) (heq_f h8) (heq_t h7)⟩
            · rw [if_neg h7]
              have hat := lp_oneI x.1 x.2.1 x.2.2 l [] (by simp; omega)
              rw [List.nil_append, List.map_nil] at hat
              have hd := dropW_len (fun i => tellsB i.1) l
              by_cases h1 : x.1 = 1
              · rw [if_pos h1]
                have hs := some_of_lp _ f (s_some f (l.dropWhile fun i => tellsB i.1) (by omega) (by omega) [] (by simp; omega))
                exact ⟨_, _, _, _, _, _, rfl, eq_one_open realAr realAr_ok (xs := (x :: l).map insA) (xs2 := l.map insA) (n := l.length) (o := x.1) (a := x.2.1) (b := x.2.2) (e0 := hg) (e1 := hlen) (e2 := lcut1) (e3 := hb) (e4 := rfl) (e5 := hble (Nat.le_refl _)) (e6 := List.take_length) (e7 := rfl) (e8 := hble (Nat.le_refl _)) (e9 := List.take_length) (h1 := heq_f h4) (h2 := heq_f h8) (h3 := heq_f h7) (h4 := heq_t h1) (h5 := hat) (h6 := hs)⟩
              · rw [if_neg h1]
                exact ⟨_, _, _, _, _, _, rfl, eq_one_void realAr realAr_ok (xs := (x :: l).map insA) (xs2 := l.map insA) (n := l.length) (o := x.1) (a := x.2.1) (b := x.2.2) (e0 := hg) (e1 := hlen) (e2 := lcut1) (e3 := hb) (e4 := rfl) (e5 := hble (Nat.le_refl _)) (e6 := List.take_length) (h1 := heq_f h4) (h2 := heq_f h8) (h3 := heq_f h7) (h4 := heq_f h1) (h5 := hat)⟩
      have h3 := oneW_len (fun r => ((loopW f r).1, (loopW f r).2.drop 1)) (fun r => by have := loopW_len f r; simp; omega) x l
      obtain ⟨k, tag, key, text, ats, ks, e1, e2⟩ := hone
      have next := s_some f (oneW (fun r => ((loopW f r).1, (loopW f r).2.drop 1)) x l).2 (by omega) (by omega) (out ++ [(oneW (fun r => ((loopW f r).1, (loopW f r).2.drop 1)) x l).1]) (by rw [List.length_append, List.length_singleton]; omega)
      rw [List.append_assoc, List.singleton_append] at next
      refine lp_some_on realAr realAr_ok (xs := (x :: l).map insA) (xs2 := _) (out := wtsA out) (out2 := wtsA (out ++ [(oneW (fun r => ((loopW f r).1, (loopW f r).2.drop 1)) x l).1])) (ats := ats.map atA) (ks := wtsA ks) (n := l.length) (m := out.length) (o := x.1) (a := x.2.1) (b := x.2.2) (tag := tag) (key := key) (text := text) (kd := k) (e0 := hg) (e1 := hlen) (e2 := wts_len out) (e3 := hbeq _) (e4 := hb) (e5 := ?_) (h1 := heq_f h2) (h0 := h0) (h4 := hfit (by omega)) (h5 := e2) (hr := next)
      rw [← wts_snoc, e1]
      rfl
end Go.Va
namespace Go.Va
open Go.Proofs
set_option maxRecDepth 100000
mutual
def szW : WT → Nat
  | .node _ _ _ _ _ ks => szWs ks + 1
def szWs : List WT → Nat
  | [] => 0
  | t :: ts => szW t + szWs ts
end
theorem szW_pos (t : WT) : 1 ≤ szW t := by cases t; simp [szW]
theorem szWs_len : ∀ l : List WT, l.length ≤ szWs l
  | [] => Nat.le_refl _
  | t :: ts => by
    have := szWs_len ts
    have := szW_pos t
    simp only [szWs, List.length_cons]
    omega
theorem szWs_mem : ∀ {l : List WT} {t : WT}, t ∈ l → szW t ≤ szWs l
  | a :: l, t, h => by
    rcases List.mem_cons.1 h with rfl | h
    · simp only [szWs]; omega
    · have := szWs_mem h
      simp only [szWs]; omega
mutual
theorem cnt_sz : ∀ t : WT, cntW t ≤ szW t
  | .node k tag key text ats ks => by
    have := cnts_sz ks
    simp only [cntW, szW]
    split
    · omega
    · split <;> omega
theorem cnts_sz : ∀ l : List WT, cntWs l ≤ szWs l
  | [] => Nat.le_refl _
  | t :: ts => by
    have := cnts_sz ts
    have := cnt_sz t
    simp only [cntWs, szWs]
    omega
end
theorem loopW_sz : ∀ (f : Nat) (l : List InsT), szWs (loopW f l).1 + (loopW f l).2.length ≤ l.length
  | 0, l => by simp [loopW, szWs]
  | f + 1, [] => Nat.le_refl _
  | f + 1, x :: l => by
    unfold loopW
    split
    · simp [szWs]
    · have h1 : szW (oneW (fun r => ((loopW f r).1, (loopW f r).2.drop 1)) x l).1 + (oneW (fun r => ((loopW f r).1, (loopW f r).2.drop 1)) x l).2.length ≤ l.length + 1 := by
        have hd := dropW_len (fun i => tellsB i.1) l
        have hk := loopW_sz f (l.dropWhile fun i => tellsB i.1)
        unfold oneW
        split
        · simp [szW, szWs]; omega
        · split
          · simp [szW, szWs]; omega
          · split
            · simp [szW, szWs]; omega
            · split
              · simp only [szW, List.length_drop]; omega
              · simp only [szW, szWs]; omega
      have h2 := loopW_sz f (oneW (fun r => ((loopW f r).1, (loopW f r).2.drop 1)) x l).2
      simp only [szWs, List.length_cons]
      omega
end Go.Va
namespace Go.Va
open Go.Proofs
set_option maxRecDepth 100000
def kidsW : WT → List WT
  | .node _ _ _ _ _ ks => ks
theorem wts_get {ws : List WT} {i : Nat} (h : i < ws.length) : lget (wtsA ws) i = some (wtA ws[i]) := by rw [wtsA_map]; exact mget wtA ws h
theorem lp_wcI (p : Perm) (hp : p = .ro ∨ p = .imm) (ws : List WT) (hs : szWs ws ≤ 100000) (hk : ∀ t ∈ ws, evl (envV realAr) (.call 42 [.sl 6 (wtsA (kidsW t)) .imm] []) = some (.ret (.s (.int .i64 (.ofNat (cntWs (kidsW t))))) [])) :
    ∀ (m i c : Nat), m + i = ws.length → c + cntWs (ws.drop i) ≤ 100000 →
    lpOf (envV realAr) 42 bd42 3 { n := 32, k := 0, fr := [(3, .s (.int .i64 (.ofNat c))), (6, .sl 6 (wtsA ws) p), (7, .s (.int .i64 (.ofNat ws.length))), (8, .s (.int .i64 (.ofNat i)))], O := [] } = some (.code (.exit 0) { n := 32, k := 0, fr := [(3, .s (.int .i64 (.ofNat (c + cntWs (ws.drop i))))), (6, .sl 6 (wtsA ws) p), (7, .s (.int .i64 (.ofNat ws.length))), (8, .s (.int .i64 (.ofNat ws.length))), (9, .s (.bool false))], O := [] })
  | 0, i, c, h, _ => by
    have : i = ws.length := by omega
    subst this
    rw [List.drop_length]
    exact lp_wc_end realAr realAr_ok p hp (ws := wtsA ws) (n := ws.length) (i := ws.length) (c := c) (h1 := nlt_f (Nat.le_refl _))
  | m + 1, i, c, h, hc => by
    have hi : i < ws.length := by omega
    have hlen := szWs_len ws
    have hg := wts_get hi
    have hki := hk ws[i] (List.getElem_mem hi)
    rw [List.drop_eq_getElem_cons hi] at hc ⊢
    have hlt : realAr.lt (.ofNat i) (.ofNat ws.length) = true := nlt_t hi
    have hadd : realAr.add .i64 (.ofNat i) 1 = .ofNat (Nat.succ i) := ninc (by omega)
    have hb : Nat.ble (Nat.succ i) ws.length = true := hble (by omega)
    rcases hw : ws[i] with ⟨k, tag, key, text, ats, ks⟩
    rw [hw] at hg hki hc
    simp only [cntWs, cntW] at hc ⊢
    unfold wtA at hg
    by_cases h1 : k = 1
    · rw [if_pos h1] at hc ⊢
      have next := lp_wcI p hp ws hs hk m (i + 1) (c + 1 + cntWs ks) (by omega) (by omega)
      rw [show c + (cntWs ks + 1 + cntWs (ws.drop (i + 1))) = c + 1 + cntWs ks + cntWs (ws.drop (i + 1)) by omega]
      exact lp_wc_1 realAr realAr_ok p hp (ws := wtsA ws) (ats := ats.map atA) (ks := wtsA ks) (n := ws.length) (i := i) (c := c) (d := cntWs ks) (e := c + 1 + cntWs ks) (kd := k) (tag := tag) (key := key) (text := text) (e0 := wts_len ws) (e1 := hg) (e2 := hb) (h1 := hlt) (h2 := hadd) (h3 := heq_t h1) (h4 := ninc (by omega)) (h5 := hki) (h6 := nadd (by omega)) (hr := next)
    · rw [if_neg h1] at hc ⊢
      by_cases h2 : k = 2
      · rw [if_pos h2] at hc ⊢
        have next := lp_wcI p hp ws hs hk m (i + 1) (c + 1) (by omega) (by omega)
        rw [show c + (1 + cntWs (ws.drop (i + 1))) = c + 1 + cntWs (ws.drop (i + 1)) by omega]
        exact lp_wc_2 realAr realAr_ok p hp (ws := wtsA ws) (ats := ats.map atA) (ks := wtsA ks) (n := ws.length) (i := i) (c := c) (kd := k) (tag := tag) (key := key) (text := text) (e0 := wts_len ws) (e1 := hg) (e2 := hb) (h1 := hlt) (h2 := hadd) (h3 := heq_f h1) (h5 := heq_t h2) (h4 := ninc (by omega)) (hr := next)
      · rw [if_neg h2] at hc ⊢
        have next := lp_wcI p hp ws hs hk m (i + 1) c (by omega) (by omega)
        rw [Nat.zero_add]
        exact lp_wc_3 realAr realAr_ok p hp (ws := wtsA ws) (ats := ats.map atA) (ks := wtsA ks) (n := ws.length) (i := i) (c := c) (kd := k) (tag := tag) (key := key) (text := text) (e0 := wts_len ws) (e1 := hg) (e2 := hb) (h1 := hlt) (h2 := hadd) (h3 := heq_f h1) (h5 := heq_f h2) (hr := next)
theorem s_wcL (p : Perm) (hp : p = .ro ∨ p = .imm) (ws : List WT) (hs : szWs ws ≤ 100000) (hk : ∀ t ∈ ws, evl (envV realAr) (.call 42 [.sl 6 (wtsA (kidsW t)) .imm] []) = some (.ret (.s (.int .i64 (.ofNat (cntWs (kidsW t))))) [])) :
    evl (envV realAr) (.call 42 [.sl 6 (wtsA ws) p] []) = some (.ret (.s (.int .i64 (.ofNat (cntWs ws)))) []) := by
  have hc := cnts_sz ws
  have e := lp_wcI p hp ws hs hk ws.length 0 0 (by omega) (by rw [List.drop_zero]; omega)
  rw [List.drop_zero, Nat.zero_add] at e
  exact eq_wc realAr realAr_ok p hp (ws := wtsA ws) (n := ws.length) (c := cntWs ws) (i := ws.length) (e0 := wts_len ws) (h1 := e)
theorem s_wcK : ∀ t : WT, szWs (kidsW t) ≤ 100000 → evl (envV realAr) (.call 42 [.sl 6 (wtsA (kidsW t)) .imm] []) = some (.ret (.s (.int .i64 (.ofNat (cntWs (kidsW t))))) []) := by
  intro t
  induction t using WT.ind with
  | h k tag key text ats ks ih =>
    intro hs
    refine s_wcL .imm (.inr rfl) ks hs (fun t ht => ih t ht ?_)
    have h1 := szWs_mem ht
    cases t
    simp only [szW] at h1
    simp only [kidsW] at hs ⊢
    omega
theorem s_Count (p : Perm) (hp : p = .ro ∨ p = .imm) (ws : List WT) (hs : szWs ws ≤ 100000) : evl (envV realAr) (.call 42 [.sl 6 (wtsA ws) p] []) = some (.ret (.s (.int .i64 (.ofNat (cntWs ws)))) []) := by
  refine s_wcL p hp ws hs (fun t ht => s_wcK t ?_)
  have h1 := szWs_mem ht
  cases t
  simp only [szW] at h1
  simp only [kidsW]
  omega
end Go.Va
namespace Go.Va
open Go.Proofs
set_option maxRecDepth 100000
theorem lp_rcI (p : Perm) (hp : p = .ro ∨ p = .imm ∨ p = .full) (ws : List WT) (hs : szWs ws ≤ 100000) (hk : ∀ t ∈ ws, evl (envV realAr) (.call 35 [.sl 6 (wtsA (kidsW t)) .imm] []) = some (.ret (.s (.int .i64 (.ofNat (cntWs (kidsW t))))) [])) :
    ∀ (m i c : Nat), m + i = ws.length → c + cntWs (ws.drop i) ≤ 100000 →
    lpOf (envV realAr) 35 bd35 3 (stRc p (wtsA ws) c i) = some (.code (.exit 0) (stRce p (wtsA ws) (c + cntWs (ws.drop i)) ws.length))
  | 0, i, c, h, _ => by
    have : i = ws.length := by omega
    subst this
    rw [List.drop_length]
    exact lp_rc_end realAr realAr_ok p hp (ws := wtsA ws) (n := ws.length) (i := ws.length) (c := c) (e0 := wts_len ws) (h1 := nlt_f (Nat.le_refl _))
  | m + 1, i, c, h, hc => by
    have hi : i < ws.length := by omega
    have hlen := szWs_len ws
    have hg := wts_get hi
    have hki := hk ws[i] (List.getElem_mem hi)
    rw [List.drop_eq_getElem_cons hi] at hc ⊢
    have hlt : realAr.lt (.ofNat i) (.ofNat ws.length) = true := nlt_t hi
    have hadd : realAr.add .i64 (.ofNat i) 1 = .ofNat (Nat.succ i) := ninc (by omega)
    have hb : Nat.ble (Nat.succ i) ws.length = true := hble (by omega)
    rcases hw : ws[i] with ⟨k, tag, key, text, ats, ks⟩
    rw [hw] at hg hki hc
    simp only [cntWs, cntW] at hc ⊢
    unfold wtA at hg
    by_cases h1 : k = 1
    · rw [if_pos h1] at hc ⊢
      have next := lp_rcI p hp ws hs hk m (i + 1) (c + 1 + cntWs ks) (by omega) (by omega)
      rw [show c + (cntWs ks + 1 + cntWs (ws.drop (i + 1))) = c + 1 + cntWs ks + cntWs (ws.drop (i + 1)) by omega]
      exact lp_rc_1 realAr realAr_ok p hp (ws := wtsA ws) (ats := ats.map atA) (ks := wtsA ks) (n := ws.length) (i := i) (c := c) (d := cntWs ks) (e := c + 1 + cntWs ks) (kd := k) (tag := tag) (key := key) (text := text) (e0 := wts_len ws) (e1 := hg) (e2 := hb) (e3 := Nat.zero_add _) (h1 := hlt) (h2 := hadd) (h3 := heq_t h1) (h7 := heq_f (by omega)) (h4 := ninc (by omega)) (h5 := hki) (h6 := nadd (by omega)) (hr := next)
    · rw [if_neg h1] at hc ⊢
      by_cases h2 : k = 2
      · rw [if_pos h2] at hc ⊢
        have next := lp_rcI p hp ws hs hk m (i + 1) (c + 1) (by omega) (by omega)
        rw [show c + (1 + cntWs (ws.drop (i + 1))) = c + 1 + cntWs (ws.drop (i + 1)) by omega]
        exact lp_rc_2 realAr realAr_ok p hp (ws := wtsA ws) (ats := ats.map atA) (ks := wtsA ks) (n := ws.length) (i := i) (c := c) (kd := k) (tag := tag) (key := key) (text := text) (e0 := wts_len ws) (e1 := hg) (e2 := hb) (e3 := Nat.zero_add _) (h1 := hlt) (h2 := hadd) (h3 := heq_f h1) (h5 := heq_t h2) (h4 := ninc (by omega)) (hr := next)
      · rw [if_neg h2] at hc ⊢
        have next := lp_rcI p hp ws hs hk m (i + 1) c (by omega) (by omega)
        rw [Nat.zero_add]
        exact lp_rc_3 realAr realAr_ok p hp (ws := wtsA ws) (ats := ats.map atA) (ks := wtsA ks) (n := ws.length) (i := i) (c := c) (kd := k) (tag := tag) (key := key) (text := text) (e0 := wts_len ws) (e1 := hg) (e2 := hb) (e3 := Nat.zero_add _) (h1 := hlt) (h2 := hadd) (h3 := heq_f h1) (h5 := heq_f h2) (hr := next)
theorem s_rcL (p : Perm) (hp : p = .ro ∨ p = .imm ∨ p = .full) (ws : List WT) (hs : szWs ws ≤ 100000) (hk : ∀ t ∈ ws, evl (envV realAr) (.call 35 [.sl 6 (wtsA (kidsW t)) .imm] []) = some (.ret (.s (.int .i64 (.ofNat (cntWs (kidsW t))))) [])) :
    evl (envV realAr) (.call 35 [.sl 6 (wtsA ws) p] []) = some (.ret (.s (.int .i64 (.ofNat (cntWs ws)))) []) := by
  have hc := cnts_sz ws
  have e := lp_rcI p hp ws hs hk ws.length 0 0 (by omega) (by rw [List.drop_zero]; omega)
  rw [List.drop_zero, Nat.zero_add] at e
  exact eq_rc realAr realAr_ok p hp (ws := wtsA ws) (c := cntWs ws) (i := ws.length) (h1 := e)
theorem s_rcK : ∀ t : WT, szWs (kidsW t) ≤ 100000 → evl (envV realAr) (.call 35 [.sl 6 (wtsA (kidsW t)) .imm] []) = some (.ret (.s (.int .i64 (.ofNat (cntWs (kidsW t))))) []) := by
  intro t
  induction t using WT.ind with
  | h k tag key text ats ks ih =>
    intro hs
    refine s_rcL .imm (.inr (.inl rfl)) ks hs (fun t ht => ih t ht ?_)
    have h1 := szWs_mem ht
    cases t
    simp only [szW] at h1
    simp only [kidsW] at hs ⊢
    omega
theorem s_refCount (p : Perm) (hp : p = .ro ∨ p = .imm ∨ p = .full) (ws : List WT) (hs : szWs ws ≤ 100000) : evl (envV realAr) (.call 35 [.sl 6 (wtsA ws) p] []) = some (.ret (.s (.int .i64 (.ofNat (cntWs ws)))) []) := by
  refine s_rcL p hp ws hs (fun t ht => s_rcK t ?_)
  have h1 := szWs_mem ht
  cases t
  simp only [szW] at h1
  simp only [kidsW]
  omega
end Go.Va
namespace Go.Va
open Go.Proofs
set_option maxRecDepth 100000
theorem lp_asI (p : Perm) (hp : p = .ro ∨ p = .imm) (ws : List WT) (hs : szWs ws ≤ 100000) (hk : ∀ t ∈ ws, evl (envV realAr) (.call 36 [.sl 6 (wtsA (kidsW t)) .imm] []) = some (.ret (.sl 6 (wtsA (kidsW t)) .full) [])) :
    ∀ (m i : Nat) (out : List WT), m + i = ws.length → out.length = i →
    lpOf (envV realAr) 36 bd36 3 (stAs p (wtsA ws) (wtsA out) i) = some (.code (.exit 0) (stAse p (wtsA ws) (wtsA (out ++ ws.drop i)) ws.length))
  | 0, i, out, h, _ => by
    have : i = ws.length := by omega
    subst this
    rw [List.drop_length, List.append_nil]
    exact lp_as_end realAr realAr_ok p hp (ws := wtsA ws) (out := wtsA out) (n := ws.length) (i := ws.length) (e0 := wts_len ws) (h1 := nlt_f (Nat.le_refl _))
  | m + 1, i, out, h, ho => by
    have hi : i < ws.length := by omega
    have hlen := szWs_len ws
    have hg := wts_get hi
    have hki := hk ws[i] (List.getElem_mem hi)
    have next := lp_asI p hp ws hs hk m (i + 1) (out ++ [ws[i]]) (by omega) (by simp; omega)
    rw [List.append_assoc, List.singleton_append] at next
    rw [List.drop_eq_getElem_cons hi]
    have hlt : realAr.lt (.ofNat i) (.ofNat ws.length) = true := nlt_t hi
    have hadd : realAr.add .i64 (.ofNat i) 1 = .ofNat (Nat.succ i) := ninc (by omega)
    have hb : Nat.ble (Nat.succ i) ws.length = true := hble (by omega)
    have hsn := wts_snoc out ws[i]
    rcases hw : ws[i] with ⟨k, tag, key, text, ats, ks⟩
    rw [hw] at hg hki next hsn
    unfold wtA at hg
    exact lp_as realAr realAr_ok p hp (ws := wtsA ws) (out := wtsA out) (out2 := wtsA (out ++ [WT.node k tag key text ats ks])) (ats := ats.map atA) (ks := wtsA ks) (ks2 := wtsA ks) (n := ws.length) (m := out.length) (i := i) (kd := k) (tag := tag) (key := key) (text := text) (kz := ks.length) (e0 := wts_len ws) (e1 := hg) (e2 := hb) (e3 := wts_len out) (e4 := hsn) (e5 := hbeq _) (e7 := wts_len ks) (e8 := hble (Nat.le_refl _)) (e9 := List.take_of_length_le (by rw [wts_len]; exact Nat.le_refl _)) (h1 := hlt) (h2 := hadd) (h4 := hfit (by omega)) (h5 := hki) (hr := next)
theorem s_asL (p : Perm) (hp : p = .ro ∨ p = .imm) (ws : List WT) (hs : szWs ws ≤ 100000) (hk : ∀ t ∈ ws, evl (envV realAr) (.call 36 [.sl 6 (wtsA (kidsW t)) .imm] []) = some (.ret (.sl 6 (wtsA (kidsW t)) .full) [])) :
    evl (envV realAr) (.call 36 [.sl 6 (wtsA ws) p] []) = some (.ret (.sl 6 (wtsA ws) .full) []) := by
  have e := lp_asI p hp ws hs hk ws.length 0 [] (by omega) rfl
  rw [List.drop_zero, List.nil_append] at e
  exact eq_as realAr realAr_ok p hp (ws := wtsA ws) (out := wtsA ws) (m := ws.length) (i := ws.length) (e3 := wts_len ws) (e4 := hble (Nat.le_refl _)) (e5 := List.take_of_length_le (by rw [wts_len]; exact Nat.le_refl _)) (h1 := e)
theorem s_asK : ∀ t : WT, szWs (kidsW t) ≤ 100000 → evl (envV realAr) (.call 36 [.sl 6 (wtsA (kidsW t)) .imm] []) = some (.ret (.sl 6 (wtsA (kidsW t)) .full) []) := by
  intro t
  induction t using WT.ind with
  | h k tag key text ats ks ih =>
    intro hs
    refine s_asL .imm (.inr rfl) ks hs (fun t ht => ih t ht ?_)
    have h1 := szWs_mem ht
    cases t
    simp only [szW] at h1
    simp only [kidsW] at hs ⊢
    omega
theorem s_As (p : Perm) (hp : p = .ro ∨ p = .imm) (ws : List WT) (hs : szWs ws ≤ 100000) : evl (envV realAr) (.call 36 [.sl 6 (wtsA ws) p] []) = some (.ret (.sl 6 (wtsA ws) .full) []) := by
  refine s_asL p hp ws hs (fun t ht => s_asK t ?_)
  have h1 := szWs_mem ht
  cases t
  simp only [szW] at h1
  simp only [kidsW]
  omega
end Go.Va
namespace Go.Va
open Go.Proofs
set_option maxRecDepth 100000
/-- what a program wants: nothing, with an error; or what its parse tells -/
theorem s_Of (l : List InsT) (hl : l.length ≤ 150) (hz : fewOk l) :
    (∃ e : Nat, evl (envV realAr) (.call 23 [.sl 3 (l.map insA) .imm] []) = some (.ret (codeN 39 (e + 1)) []) ∧ e + 1 ≤ 13 ∧ evl (envV realAr) (.call 24 [.sl 3 (l.map insA) .imm] []) = some (.ret (natA (e + 1)) []) ∧
      evl (envV realAr) (.call 34 [.sl 3 (l.map insA) .imm] []) = some (.ret (.tup [.sl 6 [] .full, codeN 39 (e + 1)]) [])) ∨
    (evl (envV realAr) (.call 23 [.sl 3 (l.map insA) .imm] []) = some (.ret (codeN 39 0) []) ∧ evl (envV realAr) (.call 24 [.sl 3 (l.map insA) .imm] []) = some (.ret (natA 0) []) ∧
      evl (envV realAr) (.call 34 [.sl 3 (l.map insA) .imm] []) = some (.ret (.tup [.sl 6 (wtsA (someW (l.length + 1) l).1) .full, .s .nilIface]) []) ∧ szWs (someW (l.length + 1) l).1 ≤ l.length) := by
  obtain ⟨e, he, h1, h2⟩ := s_checks l (by omega) hz
  cases e with
  | zero =>
    right
    have hs := some_of_lp l (l.length + 1) (s_some (l.length + 1) l (by omega) (by omega) [] (by simp; omega))
    have hsz := loopW_sz (l.length + 1) l
    refine ⟨h1, h2, eq_Of_ok realAr realAr_ok (xs := l.map insA) (ws := wtsA (someW (l.length + 1) l).1) (m := (someW (l.length + 1) l).1.length) (e1 := wts_len _) (e4 := hble (Nat.le_refl _)) (e5 := List.take_of_length_le (by rw [wts_len]; exact Nat.le_refl _)) (h1 := h1) (h2 := hs), ?_⟩
    show szWs (loopW (l.length + 1) l).1 ≤ _
    omega
  | succ e =>
    left
    exact ⟨e, h1, he, h2, eq_Of_no realAr realAr_ok (xs := l.map insA) (h1 := h1)⟩
end Go.Va
namespace Go.Va
open Go.Proofs
set_option maxRecDepth 100000
set_option maxHeartbeats 4000000
section
variable (A : Ar) (hA : ArOk A) (xs ws : List AV) (n c : Nat) (z : Int)
include hA
theorem eq_BT_few (h0 : evl (envV A) (.call 33 [] []) = some (.ret (.s (.bool true)) [])) (h1 : evl (envV A) (.call 20 [.sl 3 xs .imm] []) = some (.ret (.s (.int .i64 0)) [])) (h2 : A.eq 0 0 = true) :
    evl (envV A) (.call 7 [.sl 3 xs .imm, .s (.int .i64 z)] []) = some (.ret (.s (.bool true)) []) := by
  rw [evl_fn (envV A) 7 _ _ (fn := Try.f7) (c := bd7) (lv := lvF7) rfl rfl rfl rfl rfl rfl]
  have hnle := hA.nleE; have hneq := hA.neqE
  generalize lpOf (envV A) 7 bd7 = LP
  generalize evl (envV A) = E at h0 h1 h2 ⊢
  obtain ⟨aadd, asub, amul, arem, aquo, awr, ashr, aeq, alt, ale, aseq, aslt, acat, acut, asiz, aat, anle, aneq, afit⟩ := A
  simp only at hnle hneq
  subst hnle hneq
  try simp only at h0 h1 h2
  cbv
  rewrite [h0]
  cbv
  rewrite [h1]
  cbv
  rewrite [h2]
  cbv
theorem eq_BT_old (h0 : evl (envV A) (.call 33 [] []) = some (.ret (.s (.bool true)) [])) (h1 : evl (envV A) (.call 20 [.sl 3 xs .imm] []) = some (.ret (.s (.int .i64 1)) [])) (h2 : A.eq 1 0 = false) (h3 : A.lt 1000000 z = true) :
    evl (envV A) (.call 7 [.sl 3 xs .imm, .s (.int .i64 z)] []) = some (.ret (.s (.bool true)) []) := by
  rw [evl_fn (envV A) 7 _ _ (fn := Try.f7) (c := bd7) (lv := lvF7) rfl rfl rfl rfl rfl rfl]
  have hnle := hA.nleE; have hneq := hA.neqE
  generalize lpOf (envV A) 7 bd7 = LP
  generalize evl (envV A) = E at h0 h1 h2 h3 ⊢
  obtain ⟨aadd, asub, amul, arem, aquo, awr, ashr, aeq, alt, ale, aseq, aslt, acat, acut, asiz, aat, anle, aneq, afit⟩ := A
  simp only at hnle hneq
  subst hnle hneq
  try simp only at h0 h1 h2 h3
  cbv
  rewrite [h0]
  cbv
  rewrite [h1]
  cbv
  rewrite [h2]
  cbv
  rewrite [h3]
  cbv
theorem eq_BT_no (e : Int) (h0 : evl (envV A) (.call 33 [] []) = some (.ret (.s (.bool true)) [])) (h1 : evl (envV A) (.call 20 [.sl 3 xs .imm] []) = some (.ret (.s (.int .i64 1)) [])) (h2 : A.eq 1 0 = false) (h3 : A.lt 1000000 z = false)
    (h4 : evl (envV A) (.call 34 [.sl 3 xs .imm] []) = some (.ret (.tup [.sl 6 [] .full, .s (.iface 39 (.int .i64 e))]) [])) :
    evl (envV A) (.call 7 [.sl 3 xs .imm, .s (.int .i64 z)] []) = some (.ret (.s (.bool true)) []) := by
  rw [evl_fn (envV A) 7 _ _ (fn := Try.f7) (c := bd7) (lv := lvF7) rfl rfl rfl rfl rfl rfl]
  have hnle := hA.nleE; have hneq := hA.neqE
  generalize lpOf (envV A) 7 bd7 = LP
  generalize evl (envV A) = E at h0 h1 h2 h3 h4 ⊢
  obtain ⟨aadd, asub, amul, arem, aquo, awr, ashr, aeq, alt, ale, aseq, aslt, acat, acut, asiz, aat, anle, aneq, afit⟩ := A
  simp only at hnle hneq
  subst hnle hneq
  try simp only at h0 h1 h2 h3 h4
  cbv
  rewrite [h0]
  cbv
  rewrite [h1]
  cbv
  rewrite [h2]
  cbv
  rewrite [h3]
  cbv
  rewrite [h4]
  cbv
theorem eq_BT (m z1 z2 z3 z4 : Int) (q : Bool) (e1 : ws.length = n) (e2 : Nat.ble n n = true) (e3 : ws.take n = ws) (e4 : 0 + n = n) (e5 : lcut ws 0 n = ws) (h0 : evl (envV A) (.call 33 [] []) = some (.ret (.s (.bool true)) [])) (h1 : evl (envV A) (.call 20 [.sl 3 xs .imm] []) = some (.ret (.s (.int .i64 1)) [])) (h2 : A.eq 1 0 = false) (h3 : A.lt 1000000 z = false)
    (h4 : evl (envV A) (.call 34 [.sl 3 xs .imm] []) = some (.ret (.tup [.sl 6 ws .full, .s .nilIface]) []))
    (h5 : evl (envV A) (.call 36 [.sl 6 ws .ro] []) = some (.ret (.sl 6 ws .full) [])) (h6 : evl (envV A) (.call 35 [.sl 6 ws .full] []) = some (.ret (.s (.int .i64 (.ofNat c))) []))
    (h7 : evl (envV A) (.call 37 [.sl 6 ws .ro] []) = some (.ret (.s (.int .i64 (.ofNat c))) [])) (h8 : A.lt z 0 = q) (hm : (bif q then 0 else z) = m) (h9 : evl (envV A) (.call 38 [.sl 6 ws .ro, .s (.int .i64 z)] []) = some (.ret (.s (.int .i64 z4)) []))
    (ha : A.eq (.ofNat c) (.ofNat c) = true) (hb : A.mul .i64 4 (.ofNat c) = z1) (hc : A.mul .i64 2 m = z2) (hd : A.add .i64 z1 z2 = z3) (he : A.add .i64 z3 1 = z4) (hf : A.eq z4 z4 = true) :
    evl (envV A) (.call 7 [.sl 3 xs .imm, .s (.int .i64 z)] []) = some (.ret (.s (.bool true)) []) := by
  subst hm
  cases q <;> simp only [cond_true, cond_false] at hc
  ·
    rw [evl_fn (envV A) 7 _ _ (fn := Try.f7) (c := bd7) (lv := lvF7) rfl rfl rfl rfl rfl rfl]
    have hnle := hA.nleE; have hneq := hA.neqE
    generalize lpOf (envV A) 7 bd7 = LP
    generalize evl (envV A) = E at e1 e2 e3 e4 e5 h0 h1 h2 h3 h4 h5 h6 h7 h8 h9 ha hb hc hd he hf ⊢
    obtain ⟨aadd, asub, amul, arem, aquo, awr, ashr, aeq, alt, ale, aseq, aslt, acat, acut, asiz, aat, anle, aneq, afit⟩ := A
    simp only at hnle hneq
    subst hnle hneq
    try simp only at h0 h1 h2 h3 h4 h5 h6 h7 h8 h9 ha hb hc hd he hf
    conv at e1 => lhs; cbv
    conv at e2 => lhs; cbv
    conv at e3 => lhs; cbv
    conv at e4 => lhs; cbv
    conv at e5 => lhs; cbv
    cbv
    rewrite [h0]
    cbv
    rewrite [h1]
    cbv
    rewrite [h2]
    cbv
    rewrite [h3]
    cbv
    rewrite [h4]
    cbv
    rewrite [e1]
    cbv
    rewrite [e3]
    cbv
    rewrite [e4]
    cbv
    rewrite [e2]
    cbv
    rewrite [h5]
    cbv
    rewrite [h6]
    cbv
    rewrite [h8]
    cbv
    rewrite [e1]
    cbv
    rewrite [e3]
    cbv
    rewrite [e4]
    cbv
    rewrite [e2]
    cbv
    rewrite [h7]
    cbv
    rewrite [ha]
    cbv
    rewrite [e1]
    cbv
    rewrite [e3]
    cbv
    rewrite [e4]
    cbv
    rewrite [e2]
    cbv
    rewrite [h9]
    cbv
    rewrite [hb]
    cbv
    rewrite [hc]
    cbv
    rewrite [hd]
    cbv
    rewrite [he]
    cbv
    rewrite [hf]
    cbv
  ·
    rw [evl_fn (envV A) 7 _ _ (fn := Try.f7) (c := bd7) (lv := lvF7) rfl rfl rfl rfl rfl rfl]
    have hnle := hA.nleE; have hneq := hA.neqE
    generalize lpOf (envV A) 7 bd7 = LP
    generalize evl (envV A) = E at e1 e2 e3 e4 e5 h0 h1 h2 h3 h4 h5 h6 h7 h8 h9 ha hb hc hd he hf ⊢
    obtain ⟨aadd, asub, amul, arem, aquo, awr, ashr, aeq, alt, ale, aseq, aslt, acat, acut, asiz, aat, anle, aneq, afit⟩ := A
    simp only at hnle hneq
    subst hnle hneq
    try simp only at h0 h1 h2 h3 h4 h5 h6 h7 h8 h9 ha hb hc hd he hf
    conv at e1 => lhs; cbv
    conv at e2 => lhs; cbv
    conv at e3 => lhs; cbv
    conv at e4 => lhs; cbv
    conv at e5 => lhs; cbv
    cbv
    rewrite [h0]
    cbv
    rewrite [h1]
    cbv
    rewrite [h2]
    cbv
    rewrite [h3]
    cbv
    rewrite [h4]
    cbv
    rewrite [e1]
    cbv
    rewrite [e3]
    cbv
    rewrite [e4]
    cbv
    rewrite [e2]
    cbv
    rewrite [h5]
    cbv
    rewrite [h6]
    cbv
    rewrite [h8]
    cbv
    rewrite [e1]
    cbv
    rewrite [e3]
    cbv
    rewrite [e4]
    cbv
    rewrite [e2]
    cbv
    rewrite [h7]
    cbv
    rewrite [ha]
    cbv
    rewrite [e1]
    cbv
    rewrite [e3]
    cbv
    rewrite [e4]
    cbv
    rewrite [e2]
    cbv
    rewrite [h9]
    cbv
    rewrite [hb]
    cbv
    rewrite [hc]
    cbv
    rewrite [hd]
    cbv
    rewrite [he]
    cbv
    rewrite [hf]
    cbv
end
end Go.Va
namespace Go.Va
open Go.Proofs
set_option maxRecDepth 100000
theorem boundTells_law (l : List InsT) (z : Int) (hl : l.length ≤ 9223372036854775807) (hz1 : -9223372036854775808 ≤ z) : evl (envV realAr) (.call 7 [.sl 3 (l.map insA) .imm, .s (.int .i64 z)] []) = some (.ret (.s (.bool true)) []) := by
  rcases s_few l hl with h | ⟨h, hf, h150⟩
  · exact eq_BT_few realAr realAr_ok (xs := l.map insA) (z := z) (h0 := s_law18_up) (h1 := h) (h2 := heq_t rfl)
  · by_cases ho : 1000000 < z
    · exact eq_BT_old realAr realAr_ok (xs := l.map insA) (z := z) (h0 := s_law18_up) (h1 := h) (h2 := heq_f (by decide)) (h3 := hlt_t ho)
    · rcases s_Of l h150 hf with ⟨e, -, -, -, h4⟩ | ⟨-, -, h4, hsz⟩
      · exact eq_BT_no realAr realAr_ok (xs := l.map insA) (z := z) (h0 := s_law18_up) (h1 := h) (h2 := heq_f (by decide)) (h3 := hlt_f (by omega)) (h4 := h4)
      · generalize (someW (l.length + 1) l).1 = ws at h4 hsz
        have hs : szWs ws ≤ 100000 := by omega
        have hc := cnts_sz ws
        have hcn := eq_Nodes realAr realAr_ok .ro (.inl rfl) (ws := wtsA ws) (c := cntWs ws) (h1 := s_Count .ro (.inl rfl) ws hs)
        have hmul : ∀ a b : Int, -9223372036854775808 ≤ a * b → a * b ≤ 9223372036854775807 → realAr.mul .i64 a b = a * b := fun a b h1 h2 => by
          show IntKind.wrap .i64 (a * b) = a * b
          exact hwrap h1 h2
        have hq : ∃ m : Int, (bif realAr.lt z 0 then 0 else z) = m ∧ 0 ≤ m ∧ m ≤ 1000000 := by
          refine ⟨_, rfl, ?_⟩
          rw [hlt]
          by_cases h0 : z < 0
          · rw [decide_eq_true h0]; simp
          · rw [decide_eq_false h0]; simp; omega
        obtain ⟨m, hm, hm1, hm2⟩ := hq
        have hb : realAr.mul .i64 4 (.ofNat (cntWs ws)) = 4 * (cntWs ws : Int) := hmul 4 (cntWs ws : Int) (by omega) (by omega)
        have hcc : realAr.mul .i64 2 m = 2 * m := hmul 2 m (by omega) (by omega)
        have hd : realAr.add .i64 (4 * (cntWs ws : Int)) (2 * m) = 4 * (cntWs ws : Int) + 2 * m := Go.Va.hadd (by omega) (by omega)
        have he : realAr.add .i64 (4 * (cntWs ws : Int) + 2 * m) 1 = 4 * (cntWs ws : Int) + 2 * m + 1 := Go.Va.hadd (by omega) (by omega)
        have hch := eq_Changes realAr realAr_ok .ro (.inl rfl) (ws := wtsA ws) (c := cntWs ws) (z := z) (z1 := 4 * (cntWs ws : Int)) (z2 := 2 * m) (z3 := 4 * (cntWs ws : Int) + 2 * m) (z4 := 4 * (cntWs ws : Int) + 2 * m + 1) (q := realAr.lt z 0) (h1 := hcn) (h2 := rfl) (h3 := hb) (h4 := by rw [hm]; exact hcc) (h5 := hd) (h6 := he)
        exact eq_BT realAr realAr_ok (xs := l.map insA) (ws := wtsA ws) (n := ws.length) (c := cntWs ws) (z := z) (m := m) (z1 := 4 * (cntWs ws : Int)) (z2 := 2 * m) (z3 := 4 * (cntWs ws : Int) + 2 * m) (z4 := 4 * (cntWs ws : Int) + 2 * m + 1) (q := realAr.lt z 0)
          (e1 := wts_len ws) (e2 := hble (Nat.le_refl _)) (e3 := List.take_of_length_le (by rw [wts_len]; exact Nat.le_refl _)) (e4 := Nat.zero_add _) (e5 := by rw [wtsA_map]; exact mcut0 wtA ws rfl)
          (h0 := s_law18_up) (h1 := h) (h2 := heq_f (by decide)) (h3 := hlt_f (by omega)) (h4 := h4) (h5 := s_As .ro (.inl rfl) ws hs) (h6 := s_refCount .full (.inr (.inr rfl)) ws hs) (h7 := hcn) (h8 := rfl) (hm := hm) (h9 := hch)
          (ha := heq_t rfl) (hb := hb) (hc := hcc) (hd := hd) (he := he) (hf := heq_t rfl)
end Go.Va
namespace Go.Va
open Go.Proofs
set_option maxRecDepth 100000
set_option maxHeartbeats 4000000
section
variable (A : Ar) (hA : ArOk A) (xs ys ws us vs : List AV) (n k m c d e : Nat) (z : Int)
include hA
theorem eq_BM_few1 (h0 : evl (envV A) (.call 33 [] []) = some (.ret (.s (.bool true)) [])) (h1 : evl (envV A) (.call 20 [.sl 3 xs .imm] []) = some (.ret (.s (.int .i64 0)) [])) (h2 : A.eq 0 0 = true) :
    evl (envV A) (.call 8 [.sl 3 xs .imm, .sl 3 ys .imm, .s (.int .i64 z)] []) = some (.ret (.s (.bool true)) []) := by
  rw [evl_fn (envV A) 8 _ _ (fn := Try.f8) (c := bd8) (lv := lvF8) rfl rfl rfl rfl rfl rfl]
  have hnle := hA.nleE; have hneq := hA.neqE
  generalize lpOf (envV A) 8 bd8 = LP
  generalize evl (envV A) = E at h0 h1 h2 ⊢
  obtain ⟨aadd, asub, amul, arem, aquo, awr, ashr, aeq, alt, ale, aseq, aslt, acat, acut, asiz, aat, anle, aneq, afit⟩ := A
  simp only at hnle hneq
  subst hnle hneq
  try simp only at h0 h1 h2
  cbv
  rewrite [h0]
  cbv
  rewrite [h1]
  cbv
  rewrite [h2]
  cbv
theorem eq_BM_few2 (h0 : evl (envV A) (.call 33 [] []) = some (.ret (.s (.bool true)) [])) (h1 : evl (envV A) (.call 20 [.sl 3 xs .imm] []) = some (.ret (.s (.int .i64 1)) [])) (h5 : evl (envV A) (.call 20 [.sl 3 ys .imm] []) = some (.ret (.s (.int .i64 0)) [])) (h2 : A.eq 0 0 = true) (h3 : A.eq 1 0 = false) :
    evl (envV A) (.call 8 [.sl 3 xs .imm, .sl 3 ys .imm, .s (.int .i64 z)] []) = some (.ret (.s (.bool true)) []) := by
  rw [evl_fn (envV A) 8 _ _ (fn := Try.f8) (c := bd8) (lv := lvF8) rfl rfl rfl rfl rfl rfl]
  have hnle := hA.nleE; have hneq := hA.neqE
  generalize lpOf (envV A) 8 bd8 = LP
  generalize evl (envV A) = E at h0 h1 h5 h2 h3 ⊢
  obtain ⟨aadd, asub, amul, arem, aquo, awr, ashr, aeq, alt, ale, aseq, aslt, acat, acut, asiz, aat, anle, aneq, afit⟩ := A
  simp only at hnle hneq
  subst hnle hneq
  try simp only at h0 h1 h5 h2 h3
  cbv
  rewrite [h0]
  cbv
  rewrite [h1]
  cbv
  rewrite [h3]
  cbv
  rewrite [h5]
  cbv
  rewrite [h2]
  cbv
section
variable (h0 : evl (envV A) (.call 33 [] []) = some (.ret (.s (.bool true)) [])) (h1 : evl (envV A) (.call 20 [.sl 3 xs .imm] []) = some (.ret (.s (.int .i64 1)) [])) (h5 : evl (envV A) (.call 20 [.sl 3 ys .imm] []) = some (.ret (.s (.int .i64 1)) [])) (h2 : A.eq 1 0 = false)
include h0 h1 h5 h2
theorem eq_BM_old1 (h3 : A.lt 1000000 z = true) :
    evl (envV A) (.call 8 [.sl 3 xs .imm, .sl 3 ys .imm, .s (.int .i64 z)] []) = some (.ret (.s (.bool true)) []) := by
  rw [evl_fn (envV A) 8 _ _ (fn := Try.f8) (c := bd8) (lv := lvF8) rfl rfl rfl rfl rfl rfl]
  have hnle := hA.nleE; have hneq := hA.neqE
  generalize lpOf (envV A) 8 bd8 = LP
  generalize evl (envV A) = E at h0 h1 h5 h2 h3 ⊢
  obtain ⟨aadd, asub, amul, arem, aquo, awr, ashr, aeq, alt, ale, aseq, aslt, acat, acut, asiz, aat, anle, aneq, afit⟩ := A
  simp only at hnle hneq
  subst hnle hneq
  try simp only at h0 h1 h5 h2 h3
  cbv
  rewrite [h0]
  cbv
  rewrite [h1]
  cbv
  rewrite [h2]
  cbv
  rewrite [h5]
  cbv
  rewrite [h2]
  cbv
  rewrite [h3]
  cbv
theorem eq_BM_old2 (h3 : A.lt 1000000 z = false) (h4 : A.lt z 0 = true) :
    evl (envV A) (.call 8 [.sl 3 xs .imm, .sl 3 ys .imm, .s (.int .i64 z)] []) = some (.ret (.s (.bool true)) []) := by
  rw [evl_fn (envV A) 8 _ _ (fn := Try.f8) (c := bd8) (lv := lvF8) rfl rfl rfl rfl rfl rfl]
  have hnle := hA.nleE; have hneq := hA.neqE
  generalize lpOf (envV A) 8 bd8 = LP
  generalize evl (envV A) = E at h0 h1 h5 h2 h3 h4 ⊢
  obtain ⟨aadd, asub, amul, arem, aquo, awr, ashr, aeq, alt, ale, aseq, aslt, acat, acut, asiz, aat, anle, aneq, afit⟩ := A
  simp only at hnle hneq
  subst hnle hneq
  try simp only at h0 h1 h5 h2 h3 h4
  cbv
  rewrite [h0]
  cbv
  rewrite [h1]
  cbv
  rewrite [h2]
  cbv
  rewrite [h5]
  cbv
  rewrite [h2]
  cbv
  rewrite [h3]
  cbv
  rewrite [h4]
  cbv
variable (h3 : A.lt 1000000 z = false) (h4 : A.lt z 0 = false)
include h3 h4
theorem eq_BM_no1 (q : Int) (ev : AV) (hev : ev = .s .nilIface ∨ ∃ q2 : Int, ev = .s (.iface 39 (.int .i64 q2))) (h6 : evl (envV A) (.call 34 [.sl 3 xs .imm] []) = some (.ret (.tup [.sl 6 [] .full, .s (.iface 39 (.int .i64 q))]) [])) (h7 : evl (envV A) (.call 34 [.sl 3 ys .imm] []) = some (.ret (.tup [.sl 6 us .full, ev]) [])) :
    evl (envV A) (.call 8 [.sl 3 xs .imm, .sl 3 ys .imm, .s (.int .i64 z)] []) = some (.ret (.s (.bool true)) []) := by
  rcases hev with rfl | ⟨q2, rfl⟩
  ·
    rw [evl_fn (envV A) 8 _ _ (fn := Try.f8) (c := bd8) (lv := lvF8) rfl rfl rfl rfl rfl rfl]
    have hnle := hA.nleE; have hneq := hA.neqE
    generalize lpOf (envV A) 8 bd8 = LP
    generalize evl (envV A) = E at h0 h1 h5 h2 h3 h4 h6 h7 ⊢
    obtain ⟨aadd, asub, amul, arem, aquo, awr, ashr, aeq, alt, ale, aseq, aslt, acat, acut, asiz, aat, anle, aneq, afit⟩ := A
    simp only at hnle hneq
    subst hnle hneq
    try simp only at h0 h1 h5 h2 h3 h4 h6 h7
    cbv
    rewrite [h0]
    cbv
    rewrite [h1]
    cbv
    rewrite [h2]
    cbv
    rewrite [h5]
    cbv
    rewrite [h2]
    cbv
    rewrite [h3]
    cbv
    rewrite [h4]
    cbv
    rewrite [h6]
    cbv
    rewrite [h7]
    cbv
  ·
    rw [evl_fn (envV A) 8 _ _ (fn := Try.f8) (c := bd8) (lv := lvF8) rfl rfl rfl rfl rfl rfl]
    have hnle := hA.nleE; have hneq := hA.neqE
    generalize lpOf (envV A) 8 bd8 = LP
    generalize evl (envV A) = E at h0 h1 h5 h2 h3 h4 h6 h7 ⊢
    obtain ⟨aadd, asub, amul, arem, aquo, awr, ashr, aeq, alt, ale, aseq, aslt, acat, acut, asiz, aat, anle, aneq, afit⟩ := A
    simp only at hnle hneq
    subst hnle hneq
    try simp only at h0 h1 h5 h2 h3 h4 h6 h7
    cbv
    rewrite [h0]
    cbv
    rewrite [h1]
    cbv
    rewrite [h2]
    cbv
    rewrite [h5]
    cbv
    rewrite [h2]
    cbv
    rewrite [h3]
    cbv
    rewrite [h4]
    cbv
    rewrite [h6]
    cbv
    rewrite [h7]
    cbv
theorem eq_BM_no2 (q : Int) (h6 : evl (envV A) (.call 34 [.sl 3 xs .imm] []) = some (.ret (.tup [.sl 6 ws .full, .s .nilIface]) [])) (h7 : evl (envV A) (.call 34 [.sl 3 ys .imm] []) = some (.ret (.tup [.sl 6 [] .full, .s (.iface 39 (.int .i64 q))]) [])) :
    evl (envV A) (.call 8 [.sl 3 xs .imm, .sl 3 ys .imm, .s (.int .i64 z)] []) = some (.ret (.s (.bool true)) []) := by
  rw [evl_fn (envV A) 8 _ _ (fn := Try.f8) (c := bd8) (lv := lvF8) rfl rfl rfl rfl rfl rfl]
  have hnle := hA.nleE; have hneq := hA.neqE
  generalize lpOf (envV A) 8 bd8 = LP
  generalize evl (envV A) = E at h0 h1 h5 h2 h3 h4 h6 h7 ⊢
  obtain ⟨aadd, asub, amul, arem, aquo, awr, ashr, aeq, alt, ale, aseq, aslt, acat, acut, asiz, aat, anle, aneq, afit⟩ := A
  simp only at hnle hneq
  subst hnle hneq
  try simp only at h0 h1 h5 h2 h3 h4 h6 h7
  cbv
  rewrite [h0]
  cbv
  rewrite [h1]
  cbv
  rewrite [h2]
  cbv
  rewrite [h5]
  cbv
  rewrite [h2]
  cbv
  rewrite [h3]
  cbv
  rewrite [h4]
  cbv
  rewrite [h6]
  cbv
  rewrite [h7]
  cbv
theorem eq_BM (z1 za zb zc : Int) (e1 : ws.length = n) (e2 : us.length = k) (e3 : vs.length = m) (e4 : 0 + n = n) (e5 : n + k = m) (e6 : ws ++ us = vs) (e7 : lcut ws 0 n = ws) (e8 : lcut us 0 k = us) (e9 : Nat.ble n n = true) (ea : Nat.ble k k = true) (eb : ws.take n = ws) (ec : us.take k = us) (ed : 0 + k = k) (ee : 0 + m = m) (ef : lcut vs 0 m = vs) (eg : Nat.ble m m = true) (eh : vs.take m = vs)
    (h6 : evl (envV A) (.call 34 [.sl 3 xs .imm] []) = some (.ret (.tup [.sl 6 ws .full, .s .nilIface]) [])) (h7 : evl (envV A) (.call 34 [.sl 3 ys .imm] []) = some (.ret (.tup [.sl 6 us .full, .s .nilIface]) []))
    (h8 : A.fit n 104 = true) (h9 : A.fit m 104 = true)
    (ha : evl (envV A) (.call 37 [.sl 6 vs .ro] []) = some (.ret (.s (.int .i64 (.ofNat e))) [])) (hb : evl (envV A) (.call 37 [.sl 6 ws .ro] []) = some (.ret (.s (.int .i64 (.ofNat c))) [])) (hc : evl (envV A) (.call 37 [.sl 6 us .ro] []) = some (.ret (.s (.int .i64 (.ofNat d))) []))
    (hd : A.add .i64 (.ofNat c) (.ofNat d) = .ofNat e) (he : A.eq (.ofNat e) (.ofNat e) = true)
    (hf : evl (envV A) (.call 38 [.sl 6 vs .ro, .s (.int .i64 z)] []) = some (.ret (.s (.int .i64 zb)) [])) (hg : evl (envV A) (.call 38 [.sl 6 ws .ro, .s (.int .i64 z)] []) = some (.ret (.s (.int .i64 za)) []))
    (hh : A.le za zb = true) (hi : A.add .i64 z 1 = z1) (hj : evl (envV A) (.call 38 [.sl 6 ws .ro, .s (.int .i64 z1)] []) = some (.ret (.s (.int .i64 zc)) [])) (hk : A.lt za zc = true) :
    evl (envV A) (.call 8 [.sl 3 xs .imm, .sl 3 ys .imm, .s (.int .i64 z)] []) = some (.ret (.s (.bool true)) []) := by
  rw [evl_fn (envV A) 8 _ _ (fn := Try.f8) (c := bd8) (lv := lvF8) rfl rfl rfl rfl rfl rfl]
  have hnle := hA.nleE; have hneq := hA.neqE
  generalize lpOf (envV A) 8 bd8 = LP
  generalize evl (envV A) = E at e1 e2 e3 e4 e5 e6 e7 e8 e9 ea eb ec ed ee ef eg eh h0 h1 h5 h2 h3 h4 h6 h7 h8 h9 ha hb hc hd he hf hg hh hi hj hk ⊢
  obtain ⟨aadd, asub, amul, arem, aquo, awr, ashr, aeq, alt, ale, aseq, aslt, acat, acut, asiz, aat, anle, aneq, afit⟩ := A
  simp only at hnle hneq
  subst hnle hneq
  try simp only at h0 h1 h5 h2 h3 h4 h6 h7 h8 h9 ha hb hc hd he hf hg hh hi hj hk
  conv at e1 => lhs; cbv
  conv at e2 => lhs; cbv
  conv at e3 => lhs; cbv
  conv at e4 => lhs; cbv
  conv at e5 => lhs; cbv
  conv at e6 => lhs; cbv
  conv at e7 => lhs; cbv
  conv at e8 => lhs; cbv
  conv at e9 => lhs; cbv
  conv at ea => lhs; cbv
  conv at eb => lhs; cbv
  conv at ec => lhs; cbv
  conv at ed => lhs; cbv
  conv at ee => lhs; cbv
  conv at ef => lhs; cbv
  conv at eg => lhs; cbv
  conv at eh => lhs; cbv
  cbv
  rewrite [h0]
  cbv
  rewrite [h1]
  cbv
  rewrite [h2]
  cbv
  rewrite [h5]
  cbv
  rewrite [h2]
  cbv
  rewrite [h3]
  cbv
  rewrite [h4]
  cbv
  rewrite [h6]
  cbv
  rewrite [h7]
  cbv
  rewrite [e1]
  cbv
  rewrite [e4]
  cbv
  rewrite [e7]
  cbv
  rewrite [e9]
  cbv
  rewrite [e1]
  cbv
  rewrite [e4]
  cbv
  rewrite [h8]
  cbv
  rewrite [e2]
  cbv
  rewrite [e8]
  cbv
  rewrite [ed]
  cbv
  rewrite [ea]
  cbv
  rewrite [e1]
  cbv
  rewrite [e2]
  cbv
  rewrite [e5]
  cbv
  rewrite [e6]
  cbv
  rewrite [h9]
  cbv
  rewrite [e3]
  cbv
  rewrite [ee]
  cbv
  rewrite [ef]
  cbv
  rewrite [eg]
  cbv
  rewrite [ha]
  cbv
  rewrite [e1]
  cbv
  rewrite [e4]
  cbv
  rewrite [e7]
  cbv
  rewrite [e9]
  cbv
  rewrite [hb]
  cbv
  rewrite [e2]
  cbv
  rewrite [e8]
  cbv
  rewrite [ed]
  cbv
  rewrite [ea]
  cbv
  rewrite [hc]
  cbv
  rewrite [hd]
  cbv
  rewrite [he]
  cbv
  rewrite [e3]
  cbv
  rewrite [ee]
  cbv
  rewrite [ef]
  cbv
  rewrite [eg]
  cbv
  rewrite [hf]
  cbv
  rewrite [e1]
  cbv
  rewrite [e4]
  cbv
  rewrite [e7]
  cbv
  rewrite [e9]
  cbv
  rewrite [hg]
  cbv
  rewrite [hh]
  cbv
  rewrite [e1]
  cbv
  rewrite [e4]
  cbv
  rewrite [e7]
  cbv
  rewrite [e9]
  cbv
  rewrite [hi]
  cbv
  rewrite [hj]
  cbv
  rewrite [e1]
  cbv
  rewrite [e4]
  cbv
  rewrite [e7]
  cbv
  rewrite [e9]
  cbv
  rewrite [hg]
  cbv
  rewrite [hk]
  cbv
end
end
end Go.Va
namespace Go.Va
open Go.Proofs
set_option maxRecDepth 100000
theorem szWs_app : ∀ a b : List WT, szWs (a ++ b) = szWs a + szWs b
  | [], b => by simp [szWs]
  | t :: a, b => by
    have := szWs_app a b
    simp only [List.cons_append, szWs]
    omega
theorem cntWs_app : ∀ a b : List WT, cntWs (a ++ b) = cntWs a + cntWs b
  | [], b => by simp [cntWs]
  | t :: a, b => by
    have := cntWs_app a b
    simp only [List.cons_append, cntWs]
    omega
theorem wtsA_app (a b : List WT) : wtsA a ++ wtsA b = wtsA (a ++ b) := by simp [wtsA_map]
theorem s_Nodes (ws : List WT) (hs : szWs ws ≤ 100000) : evl (envV realAr) (.call 37 [.sl 6 (wtsA ws) .ro] []) = some (.ret (.s (.int .i64 (.ofNat (cntWs ws)))) []) :=
  eq_Nodes realAr realAr_ok .ro (.inl rfl) (ws := wtsA ws) (c := cntWs ws) (h1 := s_Count .ro (.inl rfl) ws hs)
theorem s_Changes (ws : List WT) (hs : szWs ws ≤ 100000) (z : Int) (h0 : 0 ≤ z) (h1 : z ≤ 2000000) : evl (envV realAr) (.call 38 [.sl 6 (wtsA ws) .ro, .s (.int .i64 z)] []) = some (.ret (.s (.int .i64 (4 * (cntWs ws : Int) + 2 * z + 1))) []) := by
  have hc := cnts_sz ws
  have hmul : ∀ a b : Int, -9223372036854775808 ≤ a * b → a * b ≤ 9223372036854775807 → realAr.mul .i64 a b = a * b := fun a b h1 h2 => by
    show IntKind.wrap .i64 (a * b) = a * b
    exact hwrap h1 h2
  have hb : realAr.mul .i64 4 (.ofNat (cntWs ws)) = 4 * (cntWs ws : Int) := hmul 4 (cntWs ws : Int) (by omega) (by omega)
  have hcc : realAr.mul .i64 2 z = 2 * z := hmul 2 z (by omega) (by omega)
  have hd : realAr.add .i64 (4 * (cntWs ws : Int)) (2 * z) = 4 * (cntWs ws : Int) + 2 * z := Go.Va.hadd (by omega) (by omega)
  have he : realAr.add .i64 (4 * (cntWs ws : Int) + 2 * z) 1 = 4 * (cntWs ws : Int) + 2 * z + 1 := Go.Va.hadd (by omega) (by omega)
  exact eq_Changes realAr realAr_ok .ro (.inl rfl) (ws := wtsA ws) (c := cntWs ws) (z := z) (z1 := 4 * (cntWs ws : Int)) (z2 := 2 * z) (z3 := 4 * (cntWs ws : Int) + 2 * z) (z4 := 4 * (cntWs ws : Int) + 2 * z + 1) (q := false) (h1 := s_Nodes ws hs) (h2 := hlt_f h0) (h3 := hb) (h4 := hcc) (h5 := hd) (h6 := he)
theorem boundMore_law (l m : List InsT) (z : Int) (hl : l.length ≤ 9223372036854775807) (hm : m.length ≤ 9223372036854775807) : evl (envV realAr) (.call 8 [.sl 3 (l.map insA) .imm, .sl 3 (m.map insA) .imm, .s (.int .i64 z)] []) = some (.ret (.s (.bool true)) []) := by
  rcases s_few l hl with h | ⟨h, hf, h150⟩
  · exact eq_BM_few1 realAr realAr_ok (xs := l.map insA) (ys := m.map insA) (z := z) (h0 := s_law18_up) (h1 := h) (h2 := heq_t rfl)
  rcases s_few m hm with g | ⟨g, gf, g150⟩
  · exact eq_BM_few2 realAr realAr_ok (xs := l.map insA) (ys := m.map insA) (z := z) (h0 := s_law18_up) (h1 := h) (h5 := g) (h2 := heq_t rfl) (h3 := heq_f (by decide))
  have h2 : realAr.eq 1 0 = false := heq_f (by decide)
  by_cases ho : 1000000 < z
  · exact eq_BM_old1 realAr realAr_ok (xs := l.map insA) (ys := m.map insA) (z := z) (h0 := s_law18_up) (h1 := h) (h5 := g) (h2 := h2) (h3 := hlt_t ho)
  have h3 : realAr.lt 1000000 z = false := hlt_f (by omega)
  by_cases hz : z < 0
  · exact eq_BM_old2 realAr realAr_ok (xs := l.map insA) (ys := m.map insA) (z := z) (h0 := s_law18_up) (h1 := h) (h5 := g) (h2 := h2) (h3 := h3) (h4 := hlt_t hz)
  have h4 : realAr.lt z 0 = false := hlt_f (by omega)
  rcases s_Of l h150 hf with ⟨e, -, -, -, k⟩ | ⟨-, -, k, hsz⟩
  · rcases s_Of m g150 gf with ⟨e2, -, -, -, k2⟩ | ⟨-, -, k2, -⟩
    · exact eq_BM_no1 realAr realAr_ok (xs := l.map insA) (ys := m.map insA) (us := []) (z := z) (h0 := s_law18_up) (h1 := h) (h5 := g) (h2 := h2) (h3 := h3) (h4 := h4) (hev := .inr ⟨_, rfl⟩) (h6 := k) (h7 := k2)
    · exact eq_BM_no1 realAr realAr_ok (xs := l.map insA) (ys := m.map insA) (z := z) (h0 := s_law18_up) (h1 := h) (h5 := g) (h2 := h2) (h3 := h3) (h4 := h4) (hev := .inl rfl) (h6 := k) (h7 := k2)
  rcases s_Of m g150 gf with ⟨e2, -, -, -, k2⟩ | ⟨-, -, k2, gsz⟩
  · exact eq_BM_no2 realAr realAr_ok (xs := l.map insA) (ys := m.map insA) (z := z) (h0 := s_law18_up) (h1 := h) (h5 := g) (h2 := h2) (h3 := h3) (h4 := h4) (h6 := k) (h7 := k2)
  generalize (someW (l.length + 1) l).1 = ws at k hsz
  generalize (someW (m.length + 1) m).1 = us at k2 gsz
  have hw : szWs ws ≤ 100000 := by omega
  have hu : szWs us ≤ 100000 := by omega
  have hv : szWs (ws ++ us) ≤ 100000 := by rw [szWs_app]; omega
  have hc := cnts_sz ws
  have gc := cnts_sz us
  have lw := szWs_len ws
  have lu := szWs_len us
  have cut0 : ∀ x : List WT, lcut (wtsA x) 0 x.length = wtsA x := fun x => by rw [wtsA_map]; exact mcut0 wtA x rfl
  have tk : ∀ x : List WT, (wtsA x).take x.length = wtsA x := fun x => List.take_of_length_le (by rw [wts_len]; exact Nat.le_refl _)
  have hca := cntWs_app ws us
  have ha := s_Nodes (ws ++ us) hv
  rw [hca] at ha
  have hf := s_Changes (ws ++ us) hv z (by omega) (by omega)
  rw [hca] at hf
  have hadd : realAr.add .i64 z 1 = z + 1 := Go.Va.hadd (by omega) (by omega)
  exact eq_BM realAr realAr_ok (xs := l.map insA) (ys := m.map insA) (ws := wtsA ws) (us := wtsA us) (vs := wtsA (ws ++ us)) (n := ws.length) (k := us.length) (m := ws.length + us.length) (c := cntWs ws) (d := cntWs us) (e := cntWs ws + cntWs us) (z := z)
    (e1 := wts_len ws) (e2 := wts_len us) (e3 := by rw [wts_len, List.length_append]) (e4 := Nat.zero_add _) (e5 := rfl) (e6 := wtsA_app ws us) (e7 := cut0 ws) (e8 := cut0 us) (e9 := hble (Nat.le_refl _)) (ea := hble (Nat.le_refl _)) (eb := tk ws) (ec := tk us) (ed := Nat.zero_add _) (ee := Nat.zero_add _)
    (ef := by have := cut0 (ws ++ us); rw [List.length_append] at this; exact this) (eg := hble (Nat.le_refl _)) (eh := by have := tk (ws ++ us); rw [List.length_append] at this; exact this)
    (h0 := s_law18_up) (h1 := h) (h5 := g) (h2 := h2) (h3 := h3) (h4 := h4) (h6 := k) (h7 := k2) (h8 := hfit (by omega)) (h9 := hfit (by omega)) (ha := ha) (hb := s_Nodes ws hw) (hc := s_Nodes us hu) (hd := nadd (by omega)) (he := heq_t rfl)
    (hf := hf) (hg := s_Changes ws hw z (by omega) (by omega)) (hh := hle_t (by omega)) (hi := hadd) (hj := s_Changes ws hw (z + 1) (by omega) (by omega)) (hk := hlt_t (by omega))
end Go.Va
