/- The functions that the statement reaches, by equations: no statement of its own. -/
import Derived.Test.YtmklimlepgiffabEq9
set_option linter.unusedVariables false
set_option linter.unusedSimpArgs false
set_option linter.unusedSectionVars false
namespace Go.Va
open Go.Proofs
set_option maxRecDepth 100000
/-! what is wanted, plainly -/
abbrev AtT := ByteArray × ByteArray × Bool
def atA (a : AtT) : AV := .agg [.s (.string a.1), .s (.string a.2.1), .s (.bool a.2.2)]
inductive WT where
  | node (k : Int) (tag key text : ByteArray) (ats : List AtT) (kids : List WT)
mutual
def wtA : WT → AV
  | .node k tag key text ats ks => .agg (wC .imm k tag key text (ats.map atA) (wtsA ks))
def wtsA : List WT → List AV
  | [] => []
  | t :: ts => wtA t :: wtsA ts
end
theorem wtsA_map : ∀ ks : List WT, wtsA ks = ks.map wtA
  | [] => rfl
  | t :: ts => by rw [wtsA, wtsA_map ts]; rfl
mutual
theorem WT.ind {P : WT → Prop} (h : ∀ k tag key text ats ks, (∀ t ∈ ks, P t) → P (.node k tag key text ats ks)) : ∀ t, P t
  | .node k tag key text ats ks => h k tag key text ats ks (WT.indL h ks)
theorem WT.indL {P : WT → Prop} (h : ∀ k tag key text ats ks, (∀ t ∈ ks, P t) → P (.node k tag key text ats ks)) : ∀ ks : List WT, ∀ t ∈ ks, P t
  | [] => fun _ ht => by cases ht
  | k :: ks => List.forall_mem_cons.2 ⟨WT.ind h k, WT.indL h ks⟩
end
mutual
def cntW : WT → Nat
  | .node k _ _ _ _ ks => if k = 1 then cntWs ks + 1 else if k = 2 then 1 else 0
def cntWs : List WT → Nat
  | [] => 0
  | t :: ts => cntW t + cntWs ts
end
def atOf (x : InsT) : AtT := (x.2.1, x.2.2, realAr.eq x.1 6)
def oneW (rc : List InsT → List WT × List InsT) (x : InsT) (l : List InsT) : WT × List InsT :=
  if x.1 = 4 then (.node 2 ⟨#[]⟩ ⟨#[]⟩ x.2.1 [] [], l)
  else if x.1 = 8 then (.node 3 ⟨#[]⟩ ⟨#[]⟩ ⟨#[]⟩ [] [], l)
  else if x.1 = 7 then (.node 4 ⟨#[]⟩ ⟨#[]⟩ ⟨#[]⟩ [] [], l)
  else if x.1 = 1 then (.node 1 x.2.1 x.2.2 ⟨#[]⟩ ((l.takeWhile fun i => tellsB i.1).map atOf) (rc (l.dropWhile fun i => tellsB i.1)).1, (rc (l.dropWhile fun i => tellsB i.1)).2)
  else (.node 1 x.2.1 x.2.2 ⟨#[]⟩ ((l.takeWhile fun i => tellsB i.1).map atOf) [], l.dropWhile fun i => tellsB i.1)
def loopW : Nat → List InsT → List WT × List InsT
  | 0, l => ([], l)
  | _ + 1, [] => ([], [])
  | f + 1, x :: l => if x.1 = 2 then ([], x :: l) else
    ((oneW (fun r => ((loopW f r).1, (loopW f r).2.drop 1)) x l).1 :: (loopW f (oneW (fun r => ((loopW f r).1, (loopW f r).2.drop 1)) x l).2).1,
     (loopW f (oneW (fun r => ((loopW f r).1, (loopW f r).2.drop 1)) x l).2).2)
def someW (f : Nat) (l : List InsT) : List WT × List InsT := ((loopW f l).1, (loopW f l).2.drop 1)
theorem dropW_len (p : InsT → Bool) : ∀ l : List InsT, (l.dropWhile p).length ≤ l.length
  | [] => Nat.le_refl _
  | x :: l => by
    rw [List.dropWhile_cons]
    split
    · have := dropW_len p l
      simp only [List.length_cons]
      omega
    · exact Nat.le_refl _
theorem takeW_len (p : InsT → Bool) : ∀ l : List InsT, (l.takeWhile p).length ≤ l.length
  | [] => Nat.le_refl _
  | x :: l => by
    rw [List.takeWhile_cons]
    split
    · have := takeW_len p l
      simp only [List.length_cons]
      omega
    · simp
theorem oneW_len (rc : List InsT → List WT × List InsT) (h : ∀ r, (rc r).2.length ≤ r.length) (x : InsT) (l : List InsT) : (oneW rc x l).2.length ≤ l.length := by
  have := dropW_len (fun i => tellsB i.1) l
  unfold oneW
  split
  · exact Nat.le_refl _
  · split
    · exact Nat.le_refl _
    · split
      · exact Nat.le_refl _
      · split
        · exact Nat.le_trans (h _) this
        · exact this
theorem loopW_len : ∀ (f : Nat) (l : List InsT), (loopW f l).1.length + (loopW f l).2.length ≤ l.length
  | 0, l => by simp [loopW]
  | f + 1, [] => Nat.le_refl _
  | f + 1, x :: l => by
    unfold loopW
    split
    · simp
    · have h1 := oneW_len (fun r => ((loopW f r).1, (loopW f r).2.drop 1)) (fun r => by have := loopW_len f r; simp; omega) x l
      have h2 := loopW_len f (oneW (fun r => ((loopW f r).1, (loopW f r).2.drop 1)) x l).2
      simp only [List.length_cons]
      omega
/-- a list's end, by its length -/
theorem lcut1 {x : InsT} {l : List InsT} : lcut ((x :: l).map insA) 1 l.length = l.map insA := by
  rw [mcut]
  simp
theorem eq_ins_TellsW (A : Ar) (o : Int) : evl (envV A) (.call 97 [.s (.int .i64 o)] []) = some (.ret (.s (.bool (bif A.eq o 5 then true else A.eq o 6))) []) := by
  rw [evl_fn (envV A) 97 _ _ (fn := Try.f97) (c := bd97) (lv := lvF97) rfl rfl rfl rfl rfl rfl]
  generalize lpOf (envV A) 97 bd97 = LP
  generalize evl (envV A) = E
  obtain ⟨aadd, asub, amul, arem, aquo, awr, ashr, aeq, alt, ale, aseq, aslt, acat, acut, asiz, aat, anle, aneq, afit⟩ := A
  cbv
  cases c1 : aeq o 5
  · cbv
  · cbv
theorem s_tellsW (o : Int) : evl (envV realAr) (.call 97 [.s (.int .i64 o)] []) = some (.ret (.s (.bool (tellsB o))) []) := by
  rw [eq_ins_TellsW, tells_B]
theorem lp_oneI (o : Int) (a b : ByteArray) : ∀ (r : List InsT) (ats : List AtT), ats.length + r.length ≤ 1000 →
    lpOf (envV realAr) 109 bd109 10 (stOn (r.map insA) (ats.map atA) o a b) = some (.code (.exit 1) (stOne ((r.dropWhile fun i => tellsB i.1).map insA) ((ats ++ (r.takeWhile fun i => tellsB i.1).map atOf).map atA) o a b))
  | [], ats, _ => by
    simp only [List.dropWhile_nil, List.takeWhile_nil, List.map_nil, List.append_nil]
    exact lp_one_nil realAr realAr_ok _ _ _ _ (hlt_f (by omega))
  | y :: r, ats, h => by
    have hT := s_tellsW y.1
    simp only [List.length_cons] at h
    have h0 : realAr.lt 0 (.ofNat (Nat.succ r.length)) = true := nlt_t (i := 0) (by omega)
    have hlen : ((y :: r).map insA).length = Nat.succ r.length := by simp
    rw [List.dropWhile_cons, List.takeWhile_cons]
    cases hb : tellsB y.1 with
    | false =>
      rw [hb] at hT
      simp only [Bool.false_eq_true, if_false, List.map_nil, List.append_nil]
      exact lp_one_end realAr realAr_ok (xs := (y :: r).map insA) (n := r.length) (o2 := y.1) (a2 := y.2.1) (b2 := y.2.2) (ats := ats.map atA) (o := o) (a := a) (b := b) rfl hlen (hble (Nat.le_refl _)) h0 hT
    | true =>
      rw [hb] at hT
      simp only [if_true, List.map_cons (f := atOf)]
      have e := lp_oneI o a b r (ats ++ [atOf y]) (by simp; omega)
      rw [List.append_assoc, List.singleton_append] at e
      exact lp_one_on realAr realAr_ok (xs := (y :: r).map insA) (xs2 := r.map insA) (ats2 := (ats ++ [atOf y]).map atA) (n := r.length) (m := ats.length) (o2 := y.1) (a2 := y.2.1) (b2 := y.2.2) (ats := ats.map atA) (o := o) (a := a) (b := b) rfl hlen lcut1 (hble (Nat.le_refl _)) (mlen atA ats) (msnoc atA ats (atOf y)) (hbeq _) h0 hT (hfit (by omega)) e
theorem wts_snoc (out : List WT) (w : WT) : wtsA out ++ [wtA w] = wtsA (out ++ [w]) := by simp [wtsA_map]
theorem wts_len (out : List WT) : (wtsA out).length = out.length := by simp [wtsA_map]
end Go.Va
namespace Go.Va
open Go.Proofs
set_option maxRecDepth 100000
theorem some_of_lp (l : List InsT) (f : Nat) (h : lpOf (envV realAr) 79 bd79 2 (stSm (l.map insA) []) = some (.code (.exit 0) (stSme ((loopW f l).2.map insA) (wtsA (loopW f l).1)))) :
    evl (envV realAr) (.call 79 [.sl 3 (l.map insA) .imm] []) = some (.ret (.tup [.sl 6 (wtsA (someW f l).1) .full, .sl 3 ((someW f l).2.map insA) .imm]) []) := by
  have hlen := loopW_len f l
  unfold someW
  simp only
  generalize (loopW f l).1 = ws at h hlen ⊢
  generalize (loopW f l).2 = rem at h hlen ⊢
  have hb : Nat.ble (wtsA ws).length (wtsA ws).length = true := hble (Nat.le_refl _)
  have ht : (wtsA ws).take (wtsA ws).length = wtsA ws := List.take_length
  match rem, hlen with
  | [], _ => exact eq_some_nil realAr realAr_ok _ _ _ rfl hb ht (hlt_f (by omega)) h
  | [x], _ => exact eq_some_one realAr realAr_ok _ _ _ (insA x) rfl hb ht (hlt_f (by omega)) h
  | x :: y :: r, hlen =>
    refine eq_some_two realAr realAr_ok (xs := (x :: y :: r).map insA) (xs2 := (y :: r).map insA) (xs3 := l.map insA) (out := wtsA ws) (n := (y :: r).length) (m := (wtsA ws).length) (by simp) rfl lcut1 (hble (Nat.le_refl _)) hb ht (nlt_t (i := 1) ?_) h
    simp
theorem s_some : ∀ (f : Nat) (l : List InsT), l.length < f → l.length ≤ 1000 →
    (∀ out : List WT, out.length + l.length ≤ 1000 → lpOf (envV realAr) 79 bd79 2 (stSm (l.map insA) (wtsA out)) = some (.code (.exit 0) (stSme ((loopW f l).2.map insA) (wtsA (out ++ (loopW f l).1)))))
  | 0, l, h, _ => absurd h (by omega)
  | f + 1, [], _, _ => fun out ho => by
    simp only [loopW, List.append_nil]
    exact lp_some_nil realAr realAr_ok _ (hlt_f (by omega))
  | f + 1, x :: l, h, hl => fun out ho => by
    simp only [List.length_cons] at h hl ho
    have hlen : ((x :: l).map insA).length = Nat.succ l.length := by simp
    have h0 : realAr.lt 0 (.ofNat (Nat.succ l.length)) = true := nlt_t (i := 0) (by omega)
    have hg : lget ((x :: l).map insA) 0 = some (.agg [.s (.int .i64 x.1), .s (.string x.2.1), .s (.string x.2.2)]) := rfl
    have hb : Nat.ble (Nat.succ l.length) (Nat.succ l.length) = true := hble (Nat.le_refl _)
    unfold loopW
    by_cases h2 : x.1 = 2
    · rw [if_pos h2, List.append_nil]
      exact lp_some_end realAr realAr_ok (xs := (x :: l).map insA) (out := wtsA out) (n := l.length) (o := x.1) (a := x.2.1) (b := x.2.2) hg hlen hb (heq_t h2) h0
    · rw [if_neg h2]
      have hone : ∃ k tag key text ats ks, (oneW (fun r => ((loopW f r).1, (loopW f r).2.drop 1)) x l).1 = .node k tag key text ats ks ∧
          evl (envV realAr) (.call 109 [.sl 3 ((x :: l).map insA) .imm] []) = some (.ret (.tup [.agg (wC .imm k tag key text (ats.map atA) (wtsA ks)), .sl 3 ((oneW (fun r => ((loopW f r).1, (loopW f r).2.drop 1)) x l).2.map insA) .imm]) []) := by
        unfold oneW
        by_cases h4 : x.1 = 4
        · rw [if_pos h4]
          exact ⟨_, _, _, _, _, _, rfl, eq_one_text realAr realAr_ok (xs := (x :: l).map insA) (xs2 := l.map insA) (n := l.length) (o := x.1) (a := x.2.1) (b := x.2.2) hg hlen lcut1 hb (heq_t h4)⟩
        · rw [if_neg h4]
          by_cases h8 : x.1 = 8
          · rw [if_pos h8]
            exact ⟨_, _, _, _, _, _, rfl, eq_one_node realAr realAr_ok (xs := (x :: l).map insA) (xs2 := l.map insA) (n := l.length) (o := x.1) (a := x.2.1) (b := x.2.2) hg hlen lcut1 hb (heq_f h4) (heq_t h8)⟩
          · rw [if_neg h8]
            by_cases h7 : x.1 = 7
            · rw [if_pos h7]
              exact ⟨_, _, _, _, _, _, rfl, eq_one_all realAr realAr_ok (xs := (x :: l).map insA) (xs2 := l.map insA) (n := l.length) (o := x.1) (a := x.2.1) (b := x.2.2) hg hlen lcut1 hb (heq_f h4) (heq_f h8) (heq_t h7)⟩
            · rw [if_neg h7]
              have hat := lp_oneI x.1 x.2.1 x.2.2 l [] (by simp; omega)
              rw [List.nil_append, List.map_nil] at hat
              have hd := dropW_len (fun i => tellsB i.1) l
              by_cases h1 : x.1 = 1
              · rw [if_pos h1]
                have hs := some_of_lp _ f (s_some f (l.dropWhile fun i => tellsB i.1) (by omega) (by omega) [] (by simp; omega))
                exact ⟨_, _, _, _, _, _, rfl, eq_one_open realAr realAr_ok (xs := (x :: l).map insA) (xs2 := l.map insA) (n := l.length) (o := x.1) (a := x.2.1) (b := x.2.2) (e0 := hg) (e1 := hlen) (e2 := lcut1) (e3 := hb) (e4 := rfl) (e5 := hble (Nat.le_refl _)) (e6 := List.take_length) (e7 := rfl) (e8 := hble (Nat.le_refl _)) (e9 := List.take_length) (h1 := heq_f h4) (h2 := heq_f h8) (h3 := heq_f h7) (h4 := heq_t h1) (h5 := hat) (h6 := hs)⟩
              · rw [if_neg h1]
                exact ⟨_, _, _, _, _, _, rfl, eq_one_void realAr realAr_ok (xs := (x :: l).map insA) (xs2 := l.map insA) (n := l.length) (o := x.1) (a := x.2.1) (b := x.2.2) (e0 := hg) (e1 := hlen) (e2 := lcut1) (e3 := hb) (e4 := rfl) (e5 := hble (Nat.le_refl _)) (e6 := List.take_length) (h1 := heq_f h4) (h2 := heq_f h8) (h3 := heq_f h7) (h4 := heq_f h1) (h5 := hat)⟩
      have h3 := oneW_len (fun r => ((loopW f r).1, (loopW f r).2.drop 1)) (fun r => by have := loopW_len f r; simp; omega) x l
      obtain ⟨k, tag, key, text, ats, ks, e1, e2⟩ := hone
      have next := s_some f (oneW (fun r => ((loopW f r).1, (loopW f r).2.drop 1)) x l).2 (by omega) (by omega) (out ++ [(oneW (fun r => ((loopW f r).1, (loopW f r).2.drop 1)) x l).1]) (by rw [List.length_append, List.length_singleton]; omega)
      rw [List.append_assoc, List.singleton_append] at next
      refine lp_some_on realAr realAr_ok (xs := (x :: l).map insA) (xs2 := _) (out := wtsA out) (out2 := wtsA (out ++ [(oneW (fun r => ((loopW f r).1, (loopW f r).2.drop 1)) x l).1])) (ats := ats.map atA) (ks := wtsA ks) (n := l.length) (m := out.length) (o := x.1) (a := x.2.1) (b := x.2.2) (tag := tag) (key := key) (text := text) (kd := k) (e0 := hg) (e1 := hlen) (e2 := wts_len out) (e3 := hbeq _) (e4 := hb) (e5 := ?_) (h1 := heq_f h2) (h0 := h0) (h4 := hfit (by omega)) (h5 := e2) (hr := next)
      rw [← wts_snoc, e1]
      rfl
end Go.Va
namespace Go.Va
open Go.Proofs
set_option maxRecDepth 100000
mutual
def szW : WT → Nat
  | .node _ _ _ _ _ ks => szWs ks + 1
def szWs : List WT → Nat
  | [] => 0
  | t :: ts => szW t + szWs ts
end
theorem szW_pos (t : WT) : 1 ≤ szW t := by cases t; simp [szW]
theorem szWs_len : ∀ l : List WT, l.length ≤ szWs l
  | [] => Nat.le_refl _
  | t :: ts => by
    have := szWs_len ts
    have := szW_pos t
    simp only [szWs, List.length_cons]
    omega
theorem szWs_mem : ∀ {l : List WT} {t : WT}, t ∈ l → szW t ≤ szWs l
  | a :: l, t, h => by
    rcases List.mem_cons.1 h with rfl | h
    · simp only [szWs]; omega
    · have := szWs_mem h
      simp only [szWs]; omega
mutual
theorem cnt_sz : ∀ t : WT, cntW t ≤ szW t
  | .node k tag key text ats ks => by
    have := cnts_sz ks
    simp only [cntW, szW]
    split
    · omega
    · split <;> omega
theorem cnts_sz : ∀ l : List WT, cntWs l ≤ szWs l
  | [] => Nat.le_refl _
  | t :: ts => by
    have := cnts_sz ts
    have := cnt_sz t
    simp only [cntWs, szWs]
    omega
end
theorem loopW_sz : ∀ (f : Nat) (l : List InsT), szWs (loopW f l).1 + (loopW f l).2.length ≤ l.length
  | 0, l => by simp [loopW, szWs]
  | f + 1, [] => Nat.le_refl _
  | f + 1, x :: l => by
    unfold loopW
    split
    · simp [szWs]
    · have h1 : szW (oneW (fun r => ((loopW f r).1, (loopW f r).2.drop 1)) x l).1 + (oneW (fun r => ((loopW f r).1, (loopW f r).2.drop 1)) x l).2.length ≤ l.length + 1 := by
        have hd := dropW_len (fun i => tellsB i.1) l
        have hk := loopW_sz f (l.dropWhile fun i => tellsB i.1)
        unfold oneW
        split
        · simp [szW, szWs]; omega
        · split
          · simp [szW, szWs]; omega
          · split
            · simp [szW, szWs]; omega
            · split
              · simp only [szW, List.length_drop]; omega
              · simp only [szW, szWs]; omega
      have h2 := loopW_sz f (oneW (fun r => ((loopW f r).1, (loopW f r).2.drop 1)) x l).2
      simp only [szWs, List.length_cons]
      omega
end Go.Va
namespace Go.Va
open Go.Proofs
set_option maxRecDepth 100000
def kidsW : WT → List WT
  | .node _ _ _ _ _ ks => ks
theorem wts_get {ws : List WT} {i : Nat} (h : i < ws.length) : lget (wtsA ws) i = some (wtA ws[i]) := by rw [wtsA_map]; exact mget wtA ws h
theorem lp_wcI (p : Perm) (hp : p = .ro ∨ p = .imm) (ws : List WT) (hs : szWs ws ≤ 100000) (hk : ∀ t ∈ ws, evl (envV realAr) (.call 42 [.sl 6 (wtsA (kidsW t)) .imm] []) = some (.ret (.s (.int .i64 (.ofNat (cntWs (kidsW t))))) [])) :
    ∀ (m i c : Nat), m + i = ws.length → c + cntWs (ws.drop i) ≤ 100000 →
    lpOf (envV realAr) 42 bd42 3 { n := 32, k := 0, fr := [(3, .s (.int .i64 (.ofNat c))), (6, .sl 6 (wtsA ws) p), (7, .s (.int .i64 (.ofNat ws.length))), (8, .s (.int .i64 (.ofNat i)))], O := [] } = some (.code (.exit 0) { n := 32, k := 0, fr := [(3, .s (.int .i64 (.ofNat (c + cntWs (ws.drop i))))), (6, .sl 6 (wtsA ws) p), (7, .s (.int .i64 (.ofNat ws.length))), (8, .s (.int .i64 (.ofNat ws.length))), (9, .s (.bool false))], O := [] })
  | 0, i, c, h, _ => by
    have : i = ws.length := by omega
    subst this
    rw [List.drop_length]
    exact lp_wc_end realAr realAr_ok p hp (ws := wtsA ws) (n := ws.length) (i := ws.length) (c := c) (h1 := nlt_f (Nat.le_refl _))
  | m + 1, i, c, h, hc => by
    have hi : i < ws.length := by omega
    have hlen := szWs_len ws
    have hg := wts_get hi
    have hki := hk ws[i] (List.getElem_mem hi)
    rw [List.drop_eq_getElem_cons hi] at hc ⊢
    have hlt : realAr.lt (.ofNat i) (.ofNat ws.length) = true := nlt_t hi
    have hadd : realAr.add .i64 (.ofNat i) 1 = .ofNat (Nat.succ i) := ninc (by omega)
    have hb : Nat.ble (Nat.succ i) ws.length = true := hble (by omega)
    rcases hw : ws[i] with ⟨k, tag, key, text, ats, ks⟩
    rw [hw] at hg hki hc
    simp only [cntWs, cntW] at hc ⊢
    unfold wtA at hg
    by_cases h1 : k = 1
    · rw [if_pos h1] at hc ⊢
      have next := lp_wcI p hp ws hs hk m (i + 1) (c + 1 + cntWs ks) (by omega) (by omega)
      rw [show c + (cntWs ks + 1 + cntWs (ws.drop (i + 1))) = c + 1 + cntWs ks + cntWs (ws.drop (i + 1)) by omega]
      exact lp_wc_1 realAr realAr_ok p hp (ws := wtsA ws) (ats := ats.map atA) (ks := wtsA ks) (n := ws.length) (i := i) (c := c) (d := cntWs ks) (e := c + 1 + cntWs ks) (kd := k) (tag := tag) (key := key) (text := text) (e0 := wts_len ws) (e1 := hg) (e2 := hb) (h1 := hlt) (h2 := hadd) (h3 := heq_t h1) (h4 := ninc (by omega)) (h5 := hki) (h6 := nadd (by omega)) (hr := next)
    · rw [if_neg h1] at hc ⊢
      by_cases h2 : k = 2
      · rw [if_pos h2] at hc ⊢
        have next := lp_wcI p hp ws hs hk m (i + 1) (c + 1) (by omega) (by omega)
        rw [show c + (1 + cntWs (ws.drop (i + 1))) = c + 1 + cntWs (ws.drop (i + 1)) by omega]
        exact lp_wc_2 realAr realAr_ok p hp (ws := wtsA ws) (ats := ats.map atA) (ks := wtsA ks) (n := ws.length) (i := i) (c := c) (kd := k) (tag := tag) (key := key) (text := text) (e0 := wts_len ws) (e1 := hg) (e2 := hb) (h1 := hlt) (h2 := hadd) (h3 := heq_f h1) (h5 := heq_t h2) (h4 := ninc (by omega)) (hr := next)
      · rw [if_neg h2] at hc ⊢
        have next := lp_wcI p hp ws hs hk m (i + 1) c (by omega) (by omega)
        rw [Nat.zero_add]
        exact lp_wc_3 realAr realAr_ok p hp (ws := wtsA ws) (ats := ats.map atA) (ks := wtsA ks) (n := ws.length) (i := i) (c := c) (kd := k) (tag := tag) (key := key) (text := text) (e0 := wts_len ws) (e1 := hg) (e2 := hb) (h1 := hlt) (h2 := hadd) (h3 := heq_f h1) (h5 := heq_f h2) (hr := next)
theorem s_wcL (p : Perm) (hp : p = .ro ∨ p = .imm) (ws : List WT) (hs : szWs ws ≤ 100000) (hk : ∀ t ∈ ws, evl (envV realAr) (.call 42 [.sl 6 (wtsA (kidsW t)) .imm] []) = some (.ret (.s (.int .i64 (.ofNat (cntWs (kidsW t))))) [])) :
    evl (envV realAr) (.call 42 [.sl 6 (wtsA ws) p] []) = some (.ret (.s (.int .i64 (.ofNat (cntWs ws)))) []) := by
  have hc := cnts_sz ws
  have e := lp_wcI p hp ws hs hk ws.length 0 0 (by omega) (by rw [List.drop_zero]; omega)
  rw [List.drop_zero, Nat.zero_add] at e
  exact eq_wc realAr realAr_ok p hp (ws := wtsA ws) (n := ws.length) (c := cntWs ws) (i := ws.length) (e0 := wts_len ws) (h1 := e)
theorem s_wcK : ∀ t : WT, szWs (kidsW t) ≤ 100000 → evl (envV realAr) (.call 42 [.sl 6 (wtsA (kidsW t)) .imm] []) = some (.ret (.s (.int .i64 (.ofNat (cntWs (kidsW t))))) []) := by
  intro t
  induction t using WT.ind with
  | h k tag key text ats ks ih =>
    intro hs
    refine s_wcL .imm (.inr rfl) ks hs (fun t ht => ih t ht ?_)
    have h1 := szWs_mem ht
    cases t
    simp only [szW] at h1
    simp only [kidsW] at hs ⊢
    omega
theorem s_Count (p : Perm) (hp : p = .ro ∨ p = .imm) (ws : List WT) (hs : szWs ws ≤ 100000) : evl (envV realAr) (.call 42 [.sl 6 (wtsA ws) p] []) = some (.ret (.s (.int .i64 (.ofNat (cntWs ws)))) []) := by
  refine s_wcL p hp ws hs (fun t ht => s_wcK t ?_)
  have h1 := szWs_mem ht
  cases t
  simp only [szW] at h1
  simp only [kidsW]
  omega
end Go.Va
namespace Go.Va
open Go.Proofs
set_option maxRecDepth 100000
theorem lp_rcI (p : Perm) (hp : p = .ro ∨ p = .imm ∨ p = .full) (ws : List WT) (hs : szWs ws ≤ 100000) (hk : ∀ t ∈ ws, evl (envV realAr) (.call 35 [.sl 6 (wtsA (kidsW t)) .imm] []) = some (.ret (.s (.int .i64 (.ofNat (cntWs (kidsW t))))) [])) :
    ∀ (m i c : Nat), m + i = ws.length → c + cntWs (ws.drop i) ≤ 100000 →
    lpOf (envV realAr) 35 bd35 3 (stRc p (wtsA ws) c i) = some (.code (.exit 0) (stRce p (wtsA ws) (c + cntWs (ws.drop i)) ws.length))
  | 0, i, c, h, _ => by
    have : i = ws.length := by omega
    subst this
    rw [List.drop_length]
    exact lp_rc_end realAr realAr_ok p hp (ws := wtsA ws) (n := ws.length) (i := ws.length) (c := c) (e0 := wts_len ws) (h1 := nlt_f (Nat.le_refl _))
  | m + 1, i, c, h, hc => by
    have hi : i < ws.length := by omega
    have hlen := szWs_len ws
    have hg := wts_get hi
    have hki := hk ws[i] (List.getElem_mem hi)
    rw [List.drop_eq_getElem_cons hi] at hc ⊢
    have hlt : realAr.lt (.ofNat i) (.ofNat ws.length) = true := nlt_t hi
    have hadd : realAr.add .i64 (.ofNat i) 1 = .ofNat (Nat.succ i) := ninc (by omega)
    have hb : Nat.ble (Nat.succ i) ws.length = true := hble (by omega)
    rcases hw : ws[i] with ⟨k, tag, key, text, ats, ks⟩
    rw [hw] at hg hki hc
    simp only [cntWs, cntW] at hc ⊢
    unfold wtA at hg
    by_cases h1 : k = 1
    · rw [if_pos h1] at hc ⊢
      have next := lp_rcI p hp ws hs hk m (i + 1) (c + 1 + cntWs ks) (by omega) (by omega)
      rw [show c + (cntWs ks + 1 + cntWs (ws.drop (i + 1))) = c + 1 + cntWs ks + cntWs (ws.drop (i + 1)) by omega]
      exact lp_rc_1 realAr realAr_ok p hp (ws := wtsA ws) (ats := ats.map atA) (ks := wtsA ks) (n := ws.length) (i := i) (c := c) (d := cntWs ks) (e := c + 1 + cntWs ks) (kd := k) (tag := tag) (key := key) (text := text) (e0 := wts_len ws) (e1 := hg) (e2 := hb) (e3 := Nat.zero_add _) (h1 := hlt) (h2 := hadd) (h3 := heq_t h1) (h7 := heq_f (by omega)) (h4 := ninc (by omega)) (h5 := hki) (h6 := nadd (by omega)) (hr := next)
    · rw [if_neg h1] at hc ⊢
      by_cases h2 : k = 2
      · rw [if_pos h2] at hc ⊢
        have next := lp_rcI p hp ws hs hk m (i + 1) (c + 1) (by omega) (by omega)
        rw [show c + (1 + cntWs (ws.drop (i + 1))) = c + 1 + cntWs (ws.drop (i + 1)) by omega]
        exact lp_rc_2 realAr realAr_ok p hp (ws := wtsA ws) (ats := ats.map atA) (ks := wtsA ks) (n := ws.length) (i := i) (c := c) (kd := k) (tag := tag) (key := key) (text := text) (e0 := wts_len ws) (e1 := hg) (e2 := hb) (e3 := Nat.zero_add _) (h1 := hlt) (h2 := hadd) (h3 := heq_f h1) (h5 := heq_t h2) (h4 := ninc (by omega)) (hr := next)
      · rw [if_neg h2] at hc ⊢
        have next := lp_rcI p hp ws hs hk m (i + 1) c (by omega) (by omega)
        rw [Nat.zero_add]
        exact lp_rc_3 realAr realAr_ok p hp (ws := wtsA ws) (ats := ats.map atA) (ks := wtsA ks) (n := ws.length) (i := i) (c := c) (kd := k) (tag := tag) (key := key) (text := text) (e0 := wts_len ws) (e1 := hg) (e2 := hb) (e3 := Nat.zero_add _) (h1 := hlt) (h2 := hadd) (h3 := heq_f h1) (h5 := heq_f h2) (hr := next)
theorem s_rcL (p : Perm) (hp : p = .ro ∨ p = .imm ∨ p = .full) (ws : List WT) (hs : szWs ws ≤ 100000) (hk : ∀ t ∈ ws, evl (envV realAr) (.call 35 [.sl 6 (wtsA (kidsW t)) .imm] []) = some (.ret (.s (.int .i64 (.ofNat (cntWs (kidsW t))))) [])) :
    evl (envV realAr) (.call 35 [.sl 6 (wtsA ws) p] []) = some (.ret (.s (.int .i64 (.ofNat (cntWs ws)))) []) := by
  have hc := cnts_sz ws
  have e := lp_rcI p hp ws hs hk ws.length 0 0 (by omega) (by rw [List.drop_zero]; omega)
  rw [List.drop_zero, Nat.zero_add] at e
  exact eq_rc realAr realAr_ok p hp (ws := wtsA ws) (c := cntWs ws) (i := ws.length) (h1 := e)
theorem s_rcK : ∀ t : WT, szWs (kidsW t) ≤ 100000 → evl (envV realAr) (.call 35 [.sl 6 (wtsA (kidsW t)) .imm] []) = some (.ret (.s (.int .i64 (.ofNat (cntWs (kidsW t))))) []) := by
  intro t
  induction t using WT.ind with
  | h k tag key text ats ks ih =>
    intro hs
    refine s_rcL .imm (.inr (.inl rfl)) ks hs (fun t ht => ih t ht ?_)
    have h1 := szWs_mem ht
    cases t
    simp only [szW] at h1
    simp only [kidsW] at hs ⊢
    omega
theorem s_refCount (p : Perm) (hp : p = .ro ∨ p = .imm ∨ p = .full) (ws : List WT) (hs : szWs ws ≤ 100000) : evl (envV realAr) (.call 35 [.sl 6 (wtsA ws) p] []) = some (.ret (.s (.int .i64 (.ofNat (cntWs ws)))) []) := by
  refine s_rcL p hp ws hs (fun t ht => s_rcK t ?_)
  have h1 := szWs_mem ht
  cases t
  simp only [szW] at h1
  simp only [kidsW]
  omega
end Go.Va
namespace Go.Va
open Go.Proofs
set_option maxRecDepth 100000
theorem lp_asI (p : Perm) (hp : p = .ro ∨ p = .imm) (ws : List WT) (hs : szWs ws ≤ 100000) (hk : ∀ t ∈ ws, evl (envV realAr) (.call 36 [.sl 6 (wtsA (kidsW t)) .imm] []) = some (.ret (.sl 6 (wtsA (kidsW t)) .full) [])) :
    ∀ (m i : Nat) (out : List WT), m + i = ws.length → out.length = i →
    lpOf (envV realAr) 36 bd36 3 (stAs p (wtsA ws) (wtsA out) i) = some (.code (.exit 0) (stAse p (wtsA ws) (wtsA (out ++ ws.drop i)) ws.length))
  | 0, i, out, h, _ => by
    have : i = ws.length := by omega
    subst this
    rw [List.drop_length, List.append_nil]
    exact lp_as_end realAr realAr_ok p hp (ws := wtsA ws) (out := wtsA out) (n := ws.length) (i := ws.length) (e0 := wts_len ws) (h1 := nlt_f (Nat.le_refl _))
  | m + 1, i, out, h, ho => by
    have hi : i < ws.length := by omega
    have hlen := szWs_len ws
    have hg := wts_get hi
    have hki := hk ws[i] (List.getElem_mem hi)
    have next := lp_asI p hp ws hs hk m (i + 1) (out ++ [ws[i]]) (by omega) (by simp; omega)
    rw [List.append_assoc, List.singleton_append] at next
    rw [List.drop_eq_getElem_cons hi]
    have hlt : realAr.lt (.ofNat i) (.ofNat ws.length) = true := nlt_t hi
    have hadd : realAr.add .i64 (.ofNat i) 1 = .ofNat (Nat.succ i) := ninc (by omega)
    have hb : Nat.ble (Nat.succ i) ws.length = true := hble (by omega)
    have hsn := wts_snoc out ws[i]
    rcases hw : ws[i] with ⟨k, tag, key, text, ats, ks⟩
    rw [hw] at hg hki next hsn
    unfold wtA at hg
    exact lp_as realAr realAr_ok p hp (ws := wtsA ws) (out := wtsA out) (out2 := wtsA (out ++ [WT.node k tag key text ats ks])) (ats := ats.map atA) (ks := wtsA ks) (ks2 := wtsA ks) (n := ws.length) (m := out.length) (i := i) (kd := k) (tag := tag) (key := key) (text := text) (kz := ks.length) (e0 := wts_len ws) (e1 := hg) (e2 := hb) (e3 := wts_len out) (e4 := hsn) (e5 := hbeq _) (e7 := wts_len ks) (e8 := hble (Nat.le_refl _)) (e9 := List.take_of_length_le (by rw [wts_len]; exact Nat.le_refl _)) (h1 := hlt) (h2 := hadd) (h4 := hfit (by omega)) (h5 := hki) (hr := next)
theorem s_asL (p : Perm) (hp : p = .ro ∨ p = .imm) (ws : List WT) (hs : szWs ws ≤ 100000) (hk : ∀ t ∈ ws, evl (envV realAr) (.call 36 [.sl 6 (wtsA (kidsW t)) .imm] []) = some (.ret (.sl 6 (wtsA (kidsW t)) .full) [])) :
    evl (envV realAr) (.call 36 [.sl 6 (wtsA ws) p] []) = some (.ret (.sl 6 (wtsA ws) .full) []) := by
  have e := lp_asI p hp ws hs hk ws.length 0 [] (by omega) rfl
  rw [List.drop_zero, List.nil_append] at e
  exact eq_as realAr realAr_ok p hp (ws := wtsA ws) (out := wtsA ws) (m := ws.length) (i := ws.length) (e3 := wts_len ws) (e4 := hble (Nat.le_refl _)) (e5 := List.take_of_length_le (by rw [wts_len]; exact Nat.le_refl _)) (h1 := e)
theorem s_asK : ∀ t : WT, szWs (kidsW t) ≤ 100000 → evl (envV realAr) (.call 36 [.sl 6 (wtsA (kidsW t)) .imm] []) = some (.ret (.sl 6 (wtsA (kidsW t)) .full) []) := by
  intro t
  induction t using WT.ind with
  | h k tag key text ats ks ih =>
    intro hs
    refine s_asL .imm (.inr rfl) ks hs (fun t ht => ih t ht ?_)
    have h1 := szWs_mem ht
    cases t
    simp only [szW] at h1
    simp only [kidsW] at hs ⊢
    omega
theorem s_As (p : Perm) (hp : p = .ro ∨ p = .imm) (ws : List WT) (hs : szWs ws ≤ 100000) : evl (envV realAr) (.call 36 [.sl 6 (wtsA ws) p] []) = some (.ret (.sl 6 (wtsA ws) .full) []) := by
  refine s_asL p hp ws hs (fun t ht => s_asK t ?_)
  have h1 := szWs_mem ht
  cases t
  simp only [szW] at h1
  simp only [kidsW]
  omega
end Go.Va
namespace Go.Va
open Go.Proofs
set_option maxRecDepth 100000
/-- what a program wants: nothing, with an error; or what its parse tells -/
theorem s_Of (l : List InsT) (hl : l.length ≤ 150) (hz : fewOk l) :
    (∃ e : Nat, evl (envV realAr) (.call 23 [.sl 3 (l.map insA) .imm] []) = some (.ret (codeN 39 (e + 1)) []) ∧ e + 1 ≤ 13 ∧ evl (envV realAr) (.call 24 [.sl 3 (l.map insA) .imm] []) = some (.ret (natA (e + 1)) []) ∧
      evl (envV realAr) (.call 34 [.sl 3 (l.map insA) .imm] []) = some (.ret (.tup [.sl 6 [] .full, codeN 39 (e + 1)]) [])) ∨
    (evl (envV realAr) (.call 23 [.sl 3 (l.map insA) .imm] []) = some (.ret (codeN 39 0) []) ∧ evl (envV realAr) (.call 24 [.sl 3 (l.map insA) .imm] []) = some (.ret (natA 0) []) ∧
      evl (envV realAr) (.call 34 [.sl 3 (l.map insA) .imm] []) = some (.ret (.tup [.sl 6 (wtsA (someW (l.length + 1) l).1) .full, .s .nilIface]) []) ∧ szWs (someW (l.length + 1) l).1 ≤ l.length) := by
  obtain ⟨e, he, h1, h2⟩ := s_checks l (by omega) hz
  cases e with
  | zero =>
    right
    have hs := some_of_lp l (l.length + 1) (s_some (l.length + 1) l (by omega) (by omega) [] (by simp; omega))
    have hsz := loopW_sz (l.length + 1) l
    refine ⟨h1, h2, eq_Of_ok realAr realAr_ok (xs := l.map insA) (ws := wtsA (someW (l.length + 1) l).1) (m := (someW (l.length + 1) l).1.length) (e1 := wts_len _) (e4 := hble (Nat.le_refl _)) (e5 := List.take_of_length_le (by rw [wts_len]; exact Nat.le_refl _)) (h1 := h1) (h2 := hs), ?_⟩
    show szWs (loopW (l.length + 1) l).1 ≤ _
    omega
  | succ e =>
    left
    exact ⟨e, h1, he, h2, eq_Of_no realAr realAr_ok (xs := l.map insA) (h1 := h1)⟩
end Go.Va
