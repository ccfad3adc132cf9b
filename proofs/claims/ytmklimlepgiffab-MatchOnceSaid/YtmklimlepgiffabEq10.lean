/- The functions that the statement reaches, by equations: no statement of its own. -/
import Derived.Test.YtmklimlepgiffabEq9
set_option linter.unusedVariables false
set_option linter.unusedSimpArgs false
set_option linter.unusedSectionVars false
namespace Go.Va
open Go.Proofs
set_option maxRecDepth 100000
/-! what is wanted, plainly -/
abbrev AtT := ByteArray × ByteArray × Bool
def atA (a : AtT) : AV := .agg [.s (.string a.1), .s (.string a.2.1), .s (.bool a.2.2)]
inductive WT where
  | node (k : Int) (tag key text : ByteArray) (ats : List AtT) (kids : List WT)
mutual
def wtA : WT → AV
  | .node k tag key text ats ks => .agg (wC .imm k tag key text (ats.map atA) (wtsA ks))
def wtsA : List WT → List AV
  | [] => []
  | t :: ts => wtA t :: wtsA ts
end
theorem wtsA_map : ∀ ks : List WT, wtsA ks = ks.map wtA
  | [] => rfl
  | t :: ts => by rw [wtsA, wtsA_map ts]; rfl
mutual
theorem WT.ind {P : WT → Prop} (h : ∀ k tag key text ats ks, (∀ t ∈ ks, P t) → P (.node k tag key text ats ks)) : ∀ t, P t
  | .node k tag key text ats ks => h k tag key text ats ks (WT.indL h ks)
theorem WT.indL {P : WT → Prop} (h : ∀ k tag key text ats ks, (∀ t ∈ ks, P t) → P (.node k tag key text ats ks)) : ∀ ks : List WT, ∀ t ∈ ks, P t
  | [] => fun _ ht => by cases ht
  | k :: ks => List.forall_mem_cons.2 ⟨WT.ind h k, WT.indL h ks⟩
end
mutual
def cntW : WT → Nat
  | .node k _ _ _ _ ks => if k = 1 then cntWs ks + 1 else if k = 2 then 1 else 0
def cntWs : List WT → Nat
  | [] => 0
  | t :: ts => cntW t + cntWs ts
end
def atOf (x : InsT) : AtT := (x.2.1, x.2.2, realAr.eq x.1 6)
def oneW (rc : List InsT → List WT × List InsT) (x : InsT) (l : List InsT) : WT × List InsT :=
  if x.1 = 4 then (.node 2 ⟨#[]⟩ ⟨#[]⟩ x.2.1 [] [], l)
  else if x.1 = 8 then (.node 3 ⟨#[]⟩ ⟨#[]⟩ ⟨#[]⟩ [] [], l)
  else if x.1 = 7 then (.node 4 ⟨#[]⟩ ⟨#[]⟩ ⟨#[]⟩ [] [], l)
  else if x.1 = 1 then (.node 1 x.2.1 x.2.2 ⟨#[]⟩ ((l.takeWhile fun i => tellsB i.1).map atOf) (rc (l.dropWhile fun i => tellsB i.1)).1, (rc (l.dropWhile fun i => tellsB i.1)).2)
  else (.node 1 x.2.1 x.2.2 ⟨#[]⟩ ((l.takeWhile fun i => tellsB i.1).map atOf) [], l.dropWhile fun i => tellsB i.1)
def loopW : Nat → List InsT → List WT × List InsT
  | 0, l => ([], l)
  | _ + 1, [] => ([], [])
  | f + 1, x :: l => if x.1 = 2 then ([], x :: l) else
    ((oneW (fun r => ((loopW f r).1, (loopW f r).2.drop 1)) x l).1 :: (loopW f (oneW (fun r => ((loopW f r).1, (loopW f r).2.drop 1)) x l).2).1,
     (loopW f (oneW (fun r => ((loopW f r).1, (loopW f r).2.drop 1)) x l).2).2)
def someW (f : Nat) (l : List InsT) : List WT × List InsT := ((loopW f l).1, (loopW f l).2.drop 1)
theorem dropW_len (p : InsT → Bool) : ∀ l : List InsT, (l.dropWhile p).length ≤ l.length
  | [] => Nat.le_refl _
  | x :: l => by
    rw [List.dropWhile_cons]
    split
    · have := dropW_len p l
      simp only [List.length_cons]
      omega
    · exact Nat.le_refl _
theorem takeW_len (p : InsT → Bool) : ∀ l : List InsT, (l.takeWhile p).length ≤ l.length
  | [] => Nat.le_refl _
  | x :: l => by
    rw [List.takeWhile_cons]
    split
    · have := takeW_len p l
      simp only [List.length_cons]
      omega
    · simp
theorem oneW_len (rc : List InsT → List WT × List InsT) (h : ∀ r, (rc r).2.length ≤ r.length) (x : InsT) (l : List InsT) : (oneW rc x l).2.length ≤ l.length := by
  have := dropW_len (fun i => tellsB i.1) l
  unfold oneW
  split
  · exact Nat.le_refl _
  · split
    · exact Nat.le_refl _
    · split
      · exact Nat.le_refl _
      · split
        · exact Nat.le_trans (h _) this
        · exact this
theorem loopW_len : ∀ (f : Nat) (l : List InsT), (loopW f l).1.length + (loopW f l).2.length ≤ l.length
  | 0, l => by simp [loopW]
  | f + 1, [] => Nat.le_refl _
  | f + 1, x :: l => by
    unfold loopW
    split
    · simp
    · have h1 := oneW_len (fun r => ((loopW f r).1, (loopW f r).2.drop 1)) (fun r => by have := loopW_len f r; simp; omega) x l
      have h2 := loopW_len f (oneW (fun r => ((loopW f r).1, (loopW f r).2.drop 1)) x l).2
      simp only [List.length_cons]
      omega
/-- a list's end, by its length -/
theorem lcut1 {x : InsT} {l : List InsT} : lcut ((x :: l).map insA) 1 l.length = l.map insA := by
  rw [mcut]
  simp
theorem eq_ins_TellsW (A : Ar) (o : Int) : evl (envV A) (.call 97 [.s (.int .i64 o)] []) = some (.ret (.s (.bool (bif A.eq o 5 then true else A.eq o 6))) []) := by
  rw [evl_fn (envV A) 97 _ _ (fn := Try.f97) (c := bd97) (lv := lvF97) rfl rfl rfl rfl rfl rfl]
  generalize lpOf (envV A) 97 bd97 = LP
  generalize evl (envV A) = E
  obtain ⟨aadd, asub, amul, arem, aquo, awr, ashr, aeq, alt, ale, aseq, aslt, acat, acut, asiz, aat, anle, aneq, afit⟩ := A
  cbv
  cases c1 : aeq o 5
  · cbv
  · cbv
theorem s_tellsW (o : Int) : evl (envV realAr) (.call 97 [.s (.int .i64 o)] []) = some (.ret (.s (.bool (tellsB o))) []) := by
  rw [eq_ins_TellsW, tells_B]
theorem lp_oneI (o : Int) (a b : ByteArray) : ∀ (r : List InsT) (ats : List AtT), ats.length + r.length ≤ 1000 →
    lpOf (envV realAr) 109 bd109 10 (stOn (r.map insA) (ats.map atA) o a b) = some (.code (.exit 1) (stOne ((r.dropWhile fun i => tellsB i.1).map insA) ((ats ++ (r.takeWhile fun i => tellsB i.1).map atOf).map atA) o a b))
  | [], ats, _ => by
    simp only [List.dropWhile_nil, List.takeWhile_nil, List.map_nil, List.append_nil]
    exact lp_one_nil realAr realAr_ok _ _ _ _ (hlt_f (by omega))
  | y :: r, ats, h => by
    have hT := s_tellsW y.1
    simp only [List.length_cons] at h
    have h0 : realAr.lt 0 (.ofNat (Nat.succ r.length)) = true := nlt_t (i := 0) (by omega)
    have hlen : ((y :: r).map insA).length = Nat.succ r.length := by simp
    rw [List.dropWhile_cons, List.takeWhile_cons]
    cases hb : tellsB y.1 with
    | false =>
      rw [hb] at hT
      simp only [Bool.false_eq_true, if_false, List.map_nil, List.append_nil]
      exact lp_one_end realAr realAr_ok (xs := (y :: r).map insA) (n := r.length) (o2 := y.1) (a2 := y.2.1) (b2 := y.2.2) (ats := ats.map atA) (o := o) (a := a) (b := b) rfl hlen (hble (Nat.le_refl _)) h0 hT
    | true =>
      rw [hb] at hT
      simp only [if_true, List.map_cons (f := atOf)]
      have e := lp_oneI o a b r (ats ++ [atOf y]) (by simp; omega)
      rw [List.append_assoc, List.singleton_append] at e
      exact lp_one_on realAr realAr_ok (xs := (y :: r).map insA) (xs2 := r.map insA) (ats2 := (ats ++ [atOf y]).map atA) (n := r.length) (m := ats.length) (o2 := y.1) (a2 := y.2.1) (b2 := y.2.2) (ats := ats.map atA) (o := o) (a := a) (b := b) rfl hlen lcut1 (hble (Nat.le_refl _)) (mlen atA ats) (msnoc atA ats (atOf y)) (hbeq _) h0 hT (hfit (by omega)) e
theorem wts_snoc (out : List WT) (w : WT) : wtsA out ++ [wtA w] = wtsA (out ++ [w]) := by simp [wtsA_map]
theorem wts_len (out : List WT) : (wtsA out).length = out.length := by simp [wtsA_map]
end Go.Va
namespace Go.Va
open Go.Proofs
set_option maxRecDepth 100000
theorem some_of_lp (l : List InsT) (f : Nat) (h : lpOf (envV realAr) 79 bd79 2 (stSm (l.map insA) []) = some (.code (.exit 0) (stSme ((loopW f l).2.map insA) (wtsA (loopW f l).1)))) :
    evl (envV realAr) (.call 79 [.sl 3 (l.map insA) .imm] []) = some (.ret (.tup [.sl 6 (wtsA (someW f l).1) .full, .sl 3 ((someW f l).2.map insA) .imm]) []) := by
  have hlen := loopW_len f l
  unfold someW
  simp only
  generalize (loopW f l).1 = ws at h hlen ⊢
  generalize (loopW f l).2 = rem at h hlen ⊢
  have hb : Nat.ble (wtsA ws).length (wtsA ws).length = true := hble (Nat.le_refl _)
  have ht : (wtsA ws).take (wtsA ws).length = wtsA ws := List.take_length
  match rem, hlen with
  | [], _ => exact eq_some_nil realAr realAr_ok _ _ _ rfl hb ht (hlt_f (by omega)) h
  | [x], _ => exact eq_some_one realAr realAr_ok _ _ _ (insA x) rfl hb ht (hlt_f (by omega)) h
  | x :: y :: r, hlen =>
    refine eq_some_two realAr realAr_ok (xs := (x :: y :: r).map insA) (xs2 := (y :: r).map insA) (xs3 := l.map insA) (out := wtsA ws) (n := (y :: r).length) (m := (wtsA ws).length) (by simp) rfl lcut1 (hble (Nat.le_refl _)) hb ht (nlt_t (i := 1) ?_) h
    simp
theorem s_some : ∀ (f : Nat) (l : List InsT), l.length < f → l.length ≤ 1000 →
    (∀ out : List WT, out.length + l.length ≤ 1000 → lpOf (envV realAr) 79 bd79 2 (stSm (l.map insA) (wtsA out)) = some (.code (.exit 0) (stSme ((loopW f l).2.map insA) (wtsA (out ++ (loopW f l).1)))))
  | 0, l, h, _ => absurd h (by omega)
  | f + 1, [], _, _ => fun out ho => by
    simp only [loopW, List.append_nil]
    exact lp_some_nil realAr realAr_ok _ (hlt_f (by omega))
  | f + 1, x :: l, h, hl => fun out ho => by
    simp only [List.length_cons] at h hl ho
    have hlen : ((x :: l).map insA).length = Nat.succ l.length := by simp
    have h0 : realAr.lt 0 (.ofNat (Nat.succ l.length)) = true := nlt_t (i := 0) (by omega)
    have hg : lget ((x :: l).map insA) 0 = some (.agg [.s (.int .i64 x.1), .s (.string x.2.1), .s (.string x.2.2)]) := rfl
    have hb : Nat.ble (Nat.succ l.length) (Nat.succ l.length) = true := hble (Nat.le_refl _)
    unfold loopW
    by_cases h2 : x.1 = 2
    · rw [if_pos h2, List.append_nil]
      exact lp_some_end realAr realAr_ok (xs := (x :: l).map insA) (out := wtsA out) (n := l.length) (o := x.1) (a := x.2.1) (b := x.2.2) hg hlen hb (heq_t h2) h0
    · rw [if_neg h2]
      have hone : ∃ k tag key text ats ks, (oneW (fun r => ((loopW f r).1, (loopW f r).2.drop 1)) x l).1 = .node k tag key text ats ks ∧
          evl (envV realAr) (.call 109 [.sl 3 ((x :: l).map insA) .imm] []) = some (.ret (.tup [.agg (wC .imm k tag key text (ats.map atA) (wtsA ks)), .sl 3 ((oneW (fun r => ((loopW f r).1, (loopW f r).2.drop 1)) x l).2.map insA) .imm]) []) := by
        unfold oneW
        by_cases h4 : x.1 = 4
        · rw [if_pos h4]
          exact ⟨_, _, _, _, _, _, rfl, eq_one_text realAr realAr_ok (xs := (x :: l).map insA) (xs2 := l.map insA) (n := l.length) (o := x.1) (a := x.2.1) (b := x.2.2) hg hlen lcut1 hb (heq_t h4)⟩
        · rw [if_neg h4]
          by_cases h8 : x.1 = 8
          · rw [if_pos h8]
            exact ⟨_, _, _, _, _, _, rfl, eq_one_node realAr realAr_ok (xs := (x :: l).map insA) (xs2 := l.map insA) (n := l.length) (o := x.1) (a := x.2.1) (b := x.2.2) hg hlen lcut1 hb (heq_f h4) (heq_t h8)⟩
          · rw [if_neg h8]
            by_cases h7 : x.1 = 7
            · rw [if_pos h7]
              exact ⟨_, _, _, _, _, _, rfl, eq_one_all realAr realAr_ok (xs := (x :: l).map insA) (xs2 := l.map insA) (n := l.length) (o := x.1) (a := x.2.1) (b := x.2.2) hg hlen lcut1 hb (heq_f h4) (heq_f h8) (heq_t h7)⟩
            · rw [if_neg h7]
              have hat := lp_oneI x.1 x.2.1 x.2.2 l [] (by simp; omega)
              rw [List.nil_append, List.map_nil] at hat
              have hd := dropW_len (fun i => tellsB i.1) l
              by_cases h1 : x.1 = 1
              · rw [if_pos h1]
                have hs := some_of_lp _ f (s_some f (l.dropWhile fun i => tellsB i.1) (by omega) (by omega) [] (by simp; omega))
                exact ⟨_, _, _, _, _, _, rfl, eq_one_open realAr realAr_ok (xs := (x :: l).map insA) (xs2 := l.map insA) (n := l.length) (o := x.1) (a := x.2.1) (b := x.2.2) (e0 := hg) (e1 := hlen) (e2 := lcut1) (e3 := hb) (e4 := rfl) (e5 := hble (Nat.le_refl _)) (e6 := List.take_length) (e7 := rfl) (e8 := hble (Nat.le_refl _)) (e9 := List.take_length) (h1 := heq_f h4) (h2 := heq_f h8) (h3 := heq_f h7) (h4 := heq_t h1) (h5 := hat) (h6 := hs)⟩
              · rw [if_neg h1]
                exact ⟨_, _, _, _, _, _, rfl, eq_one_void realAr realAr_ok (xs := (x :: l).map insA) (xs2 := l.map insA) (n := l.length) (o := x.1) (a := x.2.1) (b := x.2.2) (e0 := hg) (e1 := hlen) (e2 := lcut1) (e3 := hb) (e4 := rfl) (e5 := hble (Nat.le_refl _)) (e6 := List.take_length) (h1 := heq_f h4) (h2 := heq_f h8) (h3 := heq_f h7) (h4 := heq_f h1) (h5 := hat)⟩
      have h3 := oneW_len (fun r => ((loopW f r).1, (loopW f r).2.drop 1)) (fun r => by have := loopW_len f r; simp; omega) x l
      obtain ⟨k, tag, key, text, ats, ks, e1, e2⟩ := hone
      have next := s_some f (oneW (fun r => ((loopW f r).1, (loopW f r).2.drop 1)) x l).2 (by omega) (by omega) (out ++ [(oneW (fun r => ((loopW f r).1, (loopW f r).2.drop 1)) x l).1]) (by rw [List.length_append, List.length_singleton]; omega)
      rw [List.append_assoc, List.singleton_append] at next
      refine lp_some_on realAr realAr_ok (xs := (x :: l).map insA) (xs2 := _) (out := wtsA out) (out2 := wtsA (out ++ [(oneW (fun r => ((loopW f r).1, (loopW f r).2.drop 1)) x l).1])) (ats := ats.map atA) (ks := wtsA ks) (n := l.length) (m := out.length) (o := x.1) (a := x.2.1) (b := x.2.2) (tag := tag) (key := key) (text := text) (kd := k) (e0 := hg) (e1 := hlen) (e2 := wts_len out) (e3 := hbeq _) (e4 := hb) (e5 := ?_) (h1 := heq_f h2) (h0 := h0) (h4 := hfit (by omega)) (h5 := e2) (hr := next)
      rw [← wts_snoc, e1]
      rfl
end Go.Va
namespace Go.Va
open Go.Proofs
set_option maxRecDepth 100000
mutual
def szW : WT → Nat
  | .node _ _ _ _ _ ks => szWs ks + 1
def szWs : List WT → Nat
  | [] => 0
  | t :: ts => szW t + szWs ts
end
theorem szW_pos (t : WT) : 1 ≤ szW t := by cases t; simp [szW]
theorem szWs_len : ∀ l : List WT, l.length ≤ szWs l
  | [] => Nat.le_refl _
  | t :: ts => by
    have := szWs_len ts
    have := szW_pos t
    simp only [szWs, List.length_cons]
    omega
theorem szWs_mem : ∀ {l : List WT} {t : WT}, t ∈ l → szW t ≤ szWs l
  | a :: l, t, h => by
    rcases List.mem_cons.1 h with rfl | h
    · simp only [szWs]; omega
    · have := szWs_mem h
      simp only [szWs]; omega
mutual
theorem cnt_sz : ∀ t : WT, cntW t ≤ szW t
  | .node k tag key text ats ks => by
    have := cnts_sz ks
    simp only [cntW, szW]
    split
    · omega
    · split <;> omega
theorem cnts_sz : ∀ l : List WT, cntWs l ≤ szWs l
  | [] => Nat.le_refl _
  | t :: ts => by
    have := cnts_sz ts
    have := cnt_sz t
    simp only [cntWs, szWs]
    omega
end
theorem loopW_sz : ∀ (f : Nat) (l : List InsT), szWs (loopW f l).1 + (loopW f l).2.length ≤ l.length
  | 0, l => by simp [loopW, szWs]
  | f + 1, [] => Nat.le_refl _
  | f + 1, x :: l => by
    unfold loopW
    split
    · simp [szWs]
    · have h1 : szW (oneW (fun r => ((loopW f r).1, (loopW f r).2.drop 1)) x l).1 + (oneW (fun r => ((loopW f r).1, (loopW f r).2.drop 1)) x l).2.length ≤ l.length + 1 := by
        have hd := dropW_len (fun i => tellsB i.1) l
        have hk := loopW_sz f (l.dropWhile fun i => tellsB i.1)
        unfold oneW
        split
        · simp [szW, szWs]; omega
        · split
          · simp [szW, szWs]; omega
          · split
            · simp [szW, szWs]; omega
            · split
              · simp only [szW, List.length_drop]; omega
              · simp only [szW, szWs]; omega
      have h2 := loopW_sz f (oneW (fun r => ((loopW f r).1, (loopW f r).2.drop 1)) x l).2
      simp only [szWs, List.length_cons]
      omega
end Go.Va
namespace Go.Va
open Go.Proofs
set_option maxRecDepth 100000
def kidsW : WT → List WT
  | .node _ _ _ _ _ ks => ks
theorem wts_get {ws : List WT} {i : Nat} (h : i < ws.length) : lget (wtsA ws) i = some (wtA ws[i]) := by rw [wtsA_map]; exact mget wtA ws h
theorem lp_asI (p : Perm) (hp : p = .ro ∨ p = .imm) (ws : List WT) (hs : szWs ws ≤ 100000) (hk : ∀ t ∈ ws, evl (envV realAr) (.call 36 [.sl 6 (wtsA (kidsW t)) .imm] []) = some (.ret (.sl 6 (wtsA (kidsW t)) .full) [])) :
    ∀ (m i : Nat) (out : List WT), m + i = ws.length → out.length = i →
    lpOf (envV realAr) 36 bd36 3 (stAs p (wtsA ws) (wtsA out) i) = some (.code (.exit 0) (stAse p (wtsA ws) (wtsA (out ++ ws.drop i)) ws.length))
  | 0, i, out, h, _ => by
    have : i = ws.length := by omega
    subst this
    rw [List.drop_length, List.append_nil]
    exact lp_as_end realAr realAr_ok p hp (ws := wtsA ws) (out := wtsA out) (n := ws.length) (i := ws.length) (e0 := wts_len ws) (h1 := nlt_f (Nat.le_refl _))
  | m + 1, i, out, h, ho => by
    have hi : i < ws.length := by omega
    have hlen := szWs_len ws
    have hg := wts_get hi
    have hki := hk ws[i] (List.getElem_mem hi)
    have next := lp_asI p hp ws hs hk m (i + 1) (out ++ [ws[i]]) (by omega) (by simp; omega)
    rw [List.append_assoc, List.singleton_append] at next
    rw [List.drop_eq_getElem_cons hi]
    have hlt : realAr.lt (.ofNat i) (.ofNat ws.length) = true := nlt_t hi
    have hadd : realAr.add .i64 (.ofNat i) 1 = .ofNat (Nat.succ i) := ninc (by omega)
    have hb : Nat.ble (Nat.succ i) ws.length = true := hble (by omega)
    have hsn := wts_snoc out ws[i]
    rcases hw : ws[i] with ⟨k, tag, key, text, ats, ks⟩
    rw [hw] at hg hki next hsn
    unfold wtA at hg
    exact lp_as realAr realAr_ok p hp (ws := wtsA ws) (out := wtsA out) (out2 := wtsA (out ++ [WT.node k tag key text ats ks])) (ats := ats.map atA) (ks := wtsA ks) (ks2 := wtsA ks) (n := ws.length) (m := out.length) (i := i) (kd := k) (tag := tag) (key := key) (text := text) (kz := ks.length) (e0 := wts_len ws) (e1 := hg) (e2 := hb) (e3 := wts_len out) (e4 := hsn) (e5 := hbeq _) (e7 := wts_len ks) (e8 := hble (Nat.le_refl _)) (e9 := List.take_of_length_le (by rw [wts_len]; exact Nat.le_refl _)) (h1 := hlt) (h2 := hadd) (h4 := hfit (by omega)) (h5 := hki) (hr := next)
theorem s_asL (p : Perm) (hp : p = .ro ∨ p = .imm) (ws : List WT) (hs : szWs ws ≤ 100000) (hk : ∀ t ∈ ws, evl (envV realAr) (.call 36 [.sl 6 (wtsA (kidsW t)) .imm] []) = some (.ret (.sl 6 (wtsA (kidsW t)) .full) [])) :
    evl (envV realAr) (.call 36 [.sl 6 (wtsA ws) p] []) = some (.ret (.sl 6 (wtsA ws) .full) []) := by
  have e := lp_asI p hp ws hs hk ws.length 0 [] (by omega) rfl
  rw [List.drop_zero, List.nil_append] at e
  exact eq_as realAr realAr_ok p hp (ws := wtsA ws) (out := wtsA ws) (m := ws.length) (i := ws.length) (e3 := wts_len ws) (e4 := hble (Nat.le_refl _)) (e5 := List.take_of_length_le (by rw [wts_len]; exact Nat.le_refl _)) (h1 := e)
theorem s_asK : ∀ t : WT, szWs (kidsW t) ≤ 100000 → evl (envV realAr) (.call 36 [.sl 6 (wtsA (kidsW t)) .imm] []) = some (.ret (.sl 6 (wtsA (kidsW t)) .full) []) := by
  intro t
  induction t using WT.ind with
  | h k tag key text ats ks ih =>
    intro hs
    refine s_asL .imm (.inr rfl) ks hs (fun t ht => ih t ht ?_)
    have h1 := szWs_mem ht
    cases t
    simp only [szW] at h1
    simp only [kidsW] at hs ⊢
    omega
theorem s_As (p : Perm) (hp : p = .ro ∨ p = .imm) (ws : List WT) (hs : szWs ws ≤ 100000) : evl (envV realAr) (.call 36 [.sl 6 (wtsA ws) p] []) = some (.ret (.sl 6 (wtsA ws) .full) []) := by
  refine s_asL p hp ws hs (fun t ht => s_asK t ?_)
  have h1 := szWs_mem ht
  cases t
  simp only [szW] at h1
  simp only [kidsW]
  omega
end Go.Va
namespace Go.Va
open Go.Proofs
set_option maxRecDepth 100000
/-- what a program wants: nothing, with an error; or what its parse tells -/
theorem s_Of (l : List InsT) (hl : l.length ≤ 150) (hz : fewOk l) :
    (∃ e : Nat, evl (envV realAr) (.call 23 [.sl 3 (l.map insA) .imm] []) = some (.ret (codeN 39 (e + 1)) []) ∧ e + 1 ≤ 13 ∧ evl (envV realAr) (.call 24 [.sl 3 (l.map insA) .imm] []) = some (.ret (natA (e + 1)) []) ∧
      evl (envV realAr) (.call 34 [.sl 3 (l.map insA) .imm] []) = some (.ret (.tup [.sl 6 [] .full, codeN 39 (e + 1)]) [])) ∨
    (evl (envV realAr) (.call 23 [.sl 3 (l.map insA) .imm] []) = some (.ret (codeN 39 0) []) ∧ evl (envV realAr) (.call 24 [.sl 3 (l.map insA) .imm] []) = some (.ret (natA 0) []) ∧
      evl (envV realAr) (.call 34 [.sl 3 (l.map insA) .imm] []) = some (.ret (.tup [.sl 6 (wtsA (someW (l.length + 1) l).1) .full, .s .nilIface]) []) ∧ szWs (someW (l.length + 1) l).1 ≤ l.length) := by
  obtain ⟨e, he, h1, h2⟩ := s_checks l (by omega) hz
  cases e with
  | zero =>
    right
    have hs := some_of_lp l (l.length + 1) (s_some (l.length + 1) l (by omega) (by omega) [] (by simp; omega))
    have hsz := loopW_sz (l.length + 1) l
    refine ⟨h1, h2, eq_Of_ok realAr realAr_ok (xs := l.map insA) (ws := wtsA (someW (l.length + 1) l).1) (m := (someW (l.length + 1) l).1.length) (e1 := wts_len _) (e4 := hble (Nat.le_refl _)) (e5 := List.take_of_length_le (by rw [wts_len]; exact Nat.le_refl _)) (h1 := h1) (h2 := hs), ?_⟩
    show szWs (loopW (l.length + 1) l).1 ≤ _
    omega
  | succ e =>
    left
    exact ⟨e, h1, he, h2, eq_Of_no realAr realAr_ok (xs := l.map insA) (h1 := h1)⟩
end Go.Va
namespace Go.Va
open Go.Proofs
set_option maxRecDepth 100000
/-! plain: a checked program is what its wants are put as -/
def ckL : List InsT → CkS → Nat
  | [], c => if 1 < c.l.length then 8 else 0
  | i :: is, c => match ckOne c (insP i) i with
    | (0, c2) => ckL is { c2 with ahead := i.1 }
    | (n + 1, _) => n + 1
theorem ckProg_run (T : Nat) : ∀ (l : List InsT) (c : CkS), fewOk l → (ckProg T 59 l c).run (evl (envV realAr)) = some (.ret (codeN T (ckL l c)) [])
  | [], c, _ => by
    unfold ckProg ckL okR
    rw [Prog.run_done]
  | x :: l, c, hz => by
    obtain ⟨ha, hb⟩ := hz x (by simp)
    have ih := fun c2 => ckProg_run T l c2 (fun i hi => hz i (by simp [hi]))
    unfold ckProg
    rw [Prog.run_ask, show Task.call 59 [insAV x] [] = Task.call 59 [insA x] [] from rfl, s_ins_May x (by omega) (by omega)]
    unfold ckL
    simp only
    rcases hx : ckOne c (insP x) x with ⟨e, c2⟩
    cases e with
    | zero => exact ih _
    | succ e =>
      unfold okR
      simp only
      rw [Prog.run_done]
theorem s_ckL (l : List InsT) (hz : fewOk l) (h : evl (envV realAr) (.call 23 [.sl 3 (l.map insA) .imm] []) = some (.ret (codeN 39 0) [])) : l.length ≤ 120 ∧ ckL l ck0 = 0 := by
  rw [evl_ext (envV realAr) _ _ _ (e := yCheck 39 59) rfl] at h
  have h : (ckAll 39 59 (l.map insA)).run (evl (envV realAr)) = some (.ret (codeN 39 0) []) := h
  unfold ckAll at h
  rw [insL_map] at h
  simp only at h
  by_cases hl : 120 < l.length
  · rw [show Nat.blt 120 l.length = true from hble (by omega)] at h
    unfold okR at h
    rw [cond_true, Prog.run_done] at h
    injection h with h
    injection h with h
    injection h with h
    cases h
  · have hb : Nat.blt 120 l.length = false := by
      cases q : Nat.blt 120 l.length with
      | false => rfl
      | true => exact (hl (Nat.le_of_ble_eq_true q)).elim
    rw [hb, cond_false, ckProg_run _ l ck0 hz] at h
    refine ⟨by omega, ?_⟩
    cases hk : ckL l ck0 with
    | zero => rfl
    | succ n =>
      rw [hk] at h
      injection h with h
      injection h with h
      injection h with h
      cases h
theorem eqE {o k : Int} (h : o ≠ k) : realAr.eq o k = false := by rw [realAr_eq]; exact decide_eq_false h
theorem eqT (k : Int) : realAr.eq k k = true := by rw [realAr_eq]; exact decide_eq_true rfl
theorem seq_nil {a : ByteArray} (h : realAr.seq a ⟨#[]⟩ = true) : a = ⟨#[]⟩ := by
  have h : (a.data.toList == ([] : List UInt8)) = true := h
  rw [beq_iff_eq] at h
  rcases a with ⟨⟨l⟩⟩
  cases h
  rfl
theorem insP_1 {a b : ByteArray} (h : insP (1, a, b) = true) : nameP a = true ∧ voidP a = false ∧ textP b = true := by
  unfold insP mayA at h
  simp only [realAr_eq] at h
  cases h1 : nameP a <;> cases h2 : voidP a <;> simp_all
theorem insP_3 {a b : ByteArray} (h : insP (3, a, b) = true) : voidP a = true ∧ textP b = true := by
  unfold insP mayA at h
  simp only [realAr_eq] at h
  cases h2 : voidP a <;> simp_all
theorem insP_4 {a b : ByteArray} (h : insP (4, a, b) = true) : textP a = true ∧ b = ⟨#[]⟩ := by
  unfold insP mayA at h
  simp only [realAr_eq] at h
  cases h2 : textP a
  · simp [h2] at h
  · simp [h2] at h
    exact ⟨rfl, seq_nil h⟩
theorem insP_at {o : Int} {a b : ByteArray} (ho : o = 5 ∨ o = 6) (h : insP (o, a, b) = true) : nameP a = true ∧ textP b = true := by
  unfold insP mayA at h
  simp only [realAr_eq] at h
  rcases ho with rfl | rfl <;> cases h1 : nameP a <;> simp_all
theorem insP_e {o : Int} {a b : ByteArray} (ho : o = 2 ∨ o = 7 ∨ o = 8) (h : insP (o, a, b) = true) : a = ⟨#[]⟩ ∧ b = ⟨#[]⟩ := by
  unfold insP mayA at h
  simp only [realAr_eq] at h
  rcases ho with rfl | rfl | rfl <;> cases h1 : realAr.seq a ⟨#[]⟩ <;> simp [h1] at h <;> exact ⟨seq_nil h1, seq_nil h⟩
theorem insP_ops {o : Int} {a b : ByteArray} (h : insP (o, a, b) = true) : o = 1 ∨ o = 2 ∨ o = 3 ∨ o = 4 ∨ o = 5 ∨ o = 6 ∨ o = 7 ∨ o = 8 := by
  unfold insP mayA at h
  simp only [realAr_eq] at h
  by_cases h1 : o = 1
  · omega
  by_cases h3 : o = 3
  · omega
  by_cases h4 : o = 4
  · omega
  by_cases h5 : o = 5
  · omega
  by_cases h6 : o = 6
  · omega
  by_cases h2 : o = 2
  · omega
  by_cases h7 : o = 7
  · omega
  by_cases h8 : o = 8
  · omega
  simp [h1, h2, h3, h4, h5, h6, h7, h8] at h
def atI (a : AtT) : InsT := (if a.2.2 then 6 else 5, a.1, a.2.1)
mutual
def flW : WT → List InsT
  | .node k tag key text ats ks => if k = 2 then [(4, text, ⟨#[]⟩)] else if k = 3 then [(8, ⟨#[]⟩, ⟨#[]⟩)] else if k = 4 then [(7, ⟨#[]⟩, ⟨#[]⟩)] else
    if voidP tag then (3, tag, key) :: ats.map atI else (1, tag, key) :: (ats.map atI ++ (flWs ks ++ [(2, ⟨#[]⟩, ⟨#[]⟩)]))
def flWs : List WT → List InsT
  | [] => []
  | t :: ts => flW t ++ flWs ts
end
mutual
def okW : WT → Prop
  | .node k tag key text ats ks => (k = 1 ∧ text = ⟨#[]⟩ ∧ (voidP tag = true → ks = []) ∧ okWs ks) ∨ (k = 2 ∧ tag = ⟨#[]⟩ ∧ key = ⟨#[]⟩ ∧ ats = [] ∧ ks = []) ∨ ((k = 3 ∨ k = 4) ∧ tag = ⟨#[]⟩ ∧ key = ⟨#[]⟩ ∧ text = ⟨#[]⟩ ∧ ats = [] ∧ ks = [])
def okWs : List WT → Prop
  | [] => True
  | t :: ts => okW t ∧ okWs ts
end
theorem ckL_cons {x : InsT} {l : List InsT} {c : CkS} (h : ckL (x :: l) c = 0) : ∃ c2, ckOne c (insP x) x = (0, c2) ∧ ckL l { c2 with ahead := x.1 } = 0 := by
  unfold ckL at h
  rcases hx : ckOne c (insP x) x with ⟨e, c2⟩
  rw [hx] at h
  cases e with
  | zero => exact ⟨c2, rfl, h⟩
  | succ e => simp at h
theorem ckOne_may {c c2 : CkS} {b : Bool} {x : InsT} (h : ckOne c b x = (0, c2)) : b = true := by
  cases b with
  | true => rfl
  | false => simp [ckOne] at h
theorem ckAttr_l {c c2 : CkS} {a : ByteArray} (h : ckAttr c a = (0, c2)) : c2.l = c.l ∧ (elemB c.ahead || tellsB c.ahead) = true := by
  unfold ckAttr at h
  split at h
  · simp at h
  · rename_i q
    split at h
    · simp at h
    · split at h
      · simp at h
      · simp only [Prod.mk.injEq, true_and] at h
        subst h
        refine ⟨rfl, ?_⟩
        cases q2 : (elemB c.ahead || tellsB c.ahead) with
        | true => rfl
        | false => rw [q2] at q; simp at q
theorem ckStands_l {c c2 : CkS} {x : InsT} (h : ckStands c x = (0, c2)) : c2.l.length = (if x.1 = 1 then c.l.length + 1 else c.l.length) := by
  unfold ckStands at h
  split at h
  · simp at h
  · rename_i keys al l hc
    rw [hc]
    split at h
    · simp at h
    · split at h
      · simp at h
      · split at h
        · simp at h
        · split at h
          · simp only [Prod.mk.injEq, true_and] at h
            subst h
            split <;> simp
          · rename_i he
            simp only [Prod.mk.injEq, true_and] at h
            subst h
            have h1 : x.1 ≠ 1 := by
              intro q
              rw [q] at he
              exact he (by decide)
            rw [if_neg h1]
            simp
theorem atI_of {x : InsT} (h : tellsB x.1 = true) : atI (atOf x) = x := by
  rcases x with ⟨o, a, b⟩
  unfold atI atOf
  simp only [tellsB, Bool.or_eq_true, decide_eq_true_eq] at h
  simp only [realAr_eq, decide_eq_true_eq]
  rcases h with rfl | rfl <;> rfl
theorem take_at : ∀ l : List InsT, l = ((l.takeWhile fun i => tellsB i.1).map atOf).map atI ++ l.dropWhile fun i => tellsB i.1
  | [] => rfl
  | x :: l => by
    rw [List.takeWhile_cons, List.dropWhile_cons]
    cases h : tellsB x.1 with
    | false => rfl
    | true =>
      simp only [if_true, List.map_cons, List.cons_append, atI_of h]
      rw [← take_at l]
theorem ckL_at : ∀ (l : List InsT) (c : CkS), ckL l c = 0 → ∃ c2, c2.l = c.l ∧ ckL (l.dropWhile fun i => tellsB i.1) c2 = 0
  | [], c, h => ⟨c, rfl, h⟩
  | x :: l, c, h => by
    rw [List.dropWhile_cons]
    cases hx : tellsB x.1 with
    | false => exact ⟨c, rfl, h⟩
    | true =>
      obtain ⟨c2, h1, h2⟩ := ckL_cons h
      have hm := ckOne_may h1
      unfold ckOne at h1
      rw [hm, hx] at h1
      simp only [Bool.not_true, Bool.false_eq_true, if_false, if_true] at h1
      obtain ⟨h3, -⟩ := ckAttr_l h1
      obtain ⟨c3, h4, h5⟩ := ckL_at l _ h2
      exact ⟨c3, h4.trans h3, h5⟩
theorem dropW_head (p : InsT → Bool) : ∀ l : List InsT, ∀ x ∈ (l.dropWhile p).head?, p x = false
  | [], x, h => by simp at h
  | y :: l, x, h => by
    rw [List.dropWhile_cons] at h
    split at h
    · exact dropW_head p l x h
    · rename_i q
      simp at h
      subst h
      simpa using q
theorem loopW_ok : ∀ (f : Nat) (l : List InsT) (c : CkS), l.length < f → ckL l c = 0 → 1 ≤ c.l.length → ((elemB c.ahead || tellsB c.ahead) = false ∨ ∀ x ∈ l.head?, tellsB x.1 = false) →
    l = flWs (loopW f l).1 ++ (loopW f l).2 ∧ okWs (loopW f l).1 ∧
    (((loopW f l).2 = [] ∧ c.l.length = 1) ∨ ∃ r c2, (loopW f l).2 = (2, ⟨#[]⟩, ⟨#[]⟩) :: r ∧ ckL r c2 = 0 ∧ c2.l.length + 1 = c.l.length ∧ 1 ≤ c2.l.length ∧ c2.ahead = 2)
  | 0, l, c, h, _, _, _ => absurd h (by omega)
  | f + 1, [], c, _, h, hc, _ => by
    unfold loopW
    refine ⟨rfl, by simp [okWs], .inl ⟨rfl, ?_⟩⟩
    unfold ckL at h
    split at h
    · simp at h
    · omega
  | f + 1, x :: l, c, hf, h, hc, ha => by
    obtain ⟨c2, h1, h2⟩ := ckL_cons h
    have hm := ckOne_may h1
    have hops := insP_ops hm
    have hm1 := hm
    unfold ckOne at h1
    rw [hm] at h1
    simp only [Bool.not_true, Bool.false_eq_true, if_false] at h1
    simp only [List.length_cons] at hf
    unfold loopW
    by_cases x2 : x.1 = 2
    · rw [if_pos x2]
      have ht : tellsB x.1 = false := by rw [x2]; rfl
      rw [ht, if_neg (by simp), if_pos x2] at h1
      obtain ⟨o, a, b⟩ := x
      simp only at x2 h2
      subst x2
      obtain ⟨rfl, rfl⟩ := insP_e (.inl rfl) hm1
      refine ⟨rfl, by simp [okWs], .inr ⟨l, _, rfl, h2, ?_, ?_, rfl⟩⟩ <;>
      · unfold ckEnds at h1
        split at h1
        · rename_i hcl
          simp only [Prod.mk.injEq, true_and] at h1
          subst h1
          rw [hcl] at *
          simp
        · simp at h1
    · rw [if_neg x2]
      cases ht : tellsB x.1 with
      | true =>
        exfalso
        rw [ht, if_pos rfl] at h1
        obtain ⟨-, h4⟩ := ckAttr_l h1
        rcases ha with ha | ha
        · rw [ha] at h4; simp at h4
        · have := ha x (by simp)
          rw [ht] at this
          simp at this
      | false =>
        rw [ht, if_neg (by simp), if_neg x2] at h1
        have hlen := ckStands_l h1
        obtain ⟨o, a, b⟩ := x
        simp only at x2 ht h2 hlen hops ⊢
        -- one that has nothing in it
        have leaf : ∀ w : WT, oneW (fun r => ((loopW f r).1, (loopW f r).2.drop 1)) (o, a, b) l = (w, l) → flW w = [(o, a, b)] → okW w → (elemB o = false) → o ≠ 1 →
            (o, a, b) :: l = flWs ((oneW (fun r => ((loopW f r).1, (loopW f r).2.drop 1)) (o, a, b) l).1 :: (loopW f (oneW (fun r => ((loopW f r).1, (loopW f r).2.drop 1)) (o, a, b) l).2).1) ++ (loopW f (oneW (fun r => ((loopW f r).1, (loopW f r).2.drop 1)) (o, a, b) l).2).2 ∧
            okWs ((oneW (fun r => ((loopW f r).1, (loopW f r).2.drop 1)) (o, a, b) l).1 :: (loopW f (oneW (fun r => ((loopW f r).1, (loopW f r).2.drop 1)) (o, a, b) l).2).1) ∧
            (((loopW f (oneW (fun r => ((loopW f r).1, (loopW f r).2.drop 1)) (o, a, b) l).2).2 = [] ∧ c.l.length = 1) ∨ ∃ r c2, (loopW f (oneW (fun r => ((loopW f r).1, (loopW f r).2.drop 1)) (o, a, b) l).2).2 = (2, ⟨#[]⟩, ⟨#[]⟩) :: r ∧ ckL r c2 = 0 ∧ c2.l.length + 1 = c.l.length ∧ 1 ≤ c2.l.length ∧ c2.ahead = 2) := by
          intro w hw hfl hok he ho1
          rw [hw]
          rw [if_neg ho1] at hlen
          obtain ⟨i1, i2, i3⟩ := loopW_ok f l _ (by omega) h2 (by simp only; omega) (.inl (by simp only; rw [he, ht]; rfl))
          refine ⟨?_, ?_, ?_⟩
          · simp only [flWs, hfl, List.singleton_append, List.cons_append, List.nil_append]
            rw [← i1]
          · simp only [okWs]
            exact ⟨hok, i2⟩
          · simpa [hlen] using i3
        rcases hops with rfl | rfl | rfl | rfl | rfl | rfl | rfl | rfl
        · -- an element that opens
          obtain ⟨-, hv, -⟩ := insP_1 hm1
          rw [if_pos rfl] at hlen
          obtain ⟨c3, h3, h4⟩ := ckL_at l _ h2
          have hd := dropW_len (fun i => tellsB i.1) l
          obtain ⟨i1, i2, i3⟩ := loopW_ok f (l.dropWhile fun i => tellsB i.1) c3 (by omega) h4 (by rw [h3]; simp only; omega) (.inr (dropW_head _ l))
          have hta := take_at l
          rcases i3 with ⟨-, i4⟩ | ⟨r, c4, j1, j2, j3, j4, j5⟩
          · exfalso
            rw [h3] at i4
            simp only at i4
            omega
          · rw [h3] at j3
            simp only at j3
            have hone : oneW (fun r => ((loopW f r).1, (loopW f r).2.drop 1)) (1, a, b) l = (.node 1 a b ⟨#[]⟩ ((l.takeWhile fun i => tellsB i.1).map atOf) (loopW f (l.dropWhile fun i => tellsB i.1)).1, r) := by
              unfold oneW
              simp [j1]
            have hll := loopW_len f (l.dropWhile fun i => tellsB i.1)
            rw [j1] at hll i1
            simp only [List.length_cons] at hll
            obtain ⟨k1, k2, k3⟩ := loopW_ok f r c4 (by omega) j2 j4 (.inl (by rw [j5]; rfl))
            rw [hone]
            refine ⟨?_, ?_, ?_⟩
            · simp only [flWs, flW, hv, Bool.false_eq_true, if_false, show ¬ (1 : Int) = 2 by omega, show ¬ (1 : Int) = 3 by omega, show ¬ (1 : Int) = 4 by omega, List.cons_append, List.append_assoc, List.nil_append]
              rw [← k1, ← i1, ← hta]
            · simp only [okWs, okW]
              exact ⟨.inl ⟨trivial, trivial, by rw [hv]; simp, i2⟩, k2⟩
            · have : c4.l.length = c.l.length := by omega
              simpa [this] using k3
        · exact absurd rfl x2
        · -- a void one
          obtain ⟨hv, -⟩ := insP_3 hm1
          rw [if_neg (by omega)] at hlen
          obtain ⟨c3, h3, h4⟩ := ckL_at l _ h2
          have hd := dropW_len (fun i => tellsB i.1) l
          obtain ⟨i1, i2, i3⟩ := loopW_ok f (l.dropWhile fun i => tellsB i.1) c3 (by omega) h4 (by rw [h3]; simp only; omega) (.inr (dropW_head _ l))
          have hta := take_at l
          have hone : oneW (fun r => ((loopW f r).1, (loopW f r).2.drop 1)) (3, a, b) l = (.node 1 a b ⟨#[]⟩ ((l.takeWhile fun i => tellsB i.1).map atOf) [], l.dropWhile fun i => tellsB i.1) := by
            unfold oneW
            simp
          rw [hone]
          refine ⟨?_, ?_, ?_⟩
          · simp only [flWs, flW, hv, if_true, if_false, show ¬ (1 : Int) = 2 by omega, show ¬ (1 : Int) = 3 by omega, show ¬ (1 : Int) = 4 by omega, List.cons_append, List.append_assoc]
            rw [← i1, ← hta]
          · simp only [okWs, okW]
            exact ⟨.inl ⟨trivial, trivial, fun _ => trivial, trivial⟩, i2⟩
          · rw [h3] at i3
            simp only at i3
            simpa [hlen] using i3
        · obtain ⟨-, rfl⟩ := insP_4 hm1
          exact leaf (.node 2 ⟨#[]⟩ ⟨#[]⟩ a [] []) (by simp [oneW]) (by simp [flW]) (by simp [okW]) rfl (by omega)
        · exact absurd ht (by decide)
        · exact absurd ht (by decide)
        · obtain ⟨rfl, rfl⟩ := insP_e (.inr (.inl rfl)) hm1
          exact leaf (.node 4 ⟨#[]⟩ ⟨#[]⟩ ⟨#[]⟩ [] []) (by simp [oneW]) (by simp [flW]) (by simp [okW]) rfl (by omega)
        · obtain ⟨rfl, rfl⟩ := insP_e (.inr (.inr rfl)) hm1
          exact leaf (.node 3 ⟨#[]⟩ ⟨#[]⟩ ⟨#[]⟩ [] []) (by simp [oneW]) (by simp [flW]) (by simp [okW]) rfl (by omega)
/-- a program that may be is its wants', put -/
theorem fl_of_check (l : List InsT) (h : ckL l ck0 = 0) : l = flWs (someW (l.length + 1) l).1 ∧ okWs (someW (l.length + 1) l).1 := by
  obtain ⟨h1, h2, h3⟩ := loopW_ok (l.length + 1) l ck0 (by omega) h (by decide) (.inl (by decide))
  rcases h3 with ⟨h3, -⟩ | ⟨r, c2, -, -, h4, h5, -⟩
  · rw [h3, List.append_nil] at h1
    exact ⟨h1, h2⟩
  · exfalso
    have : ck0.l.length = 1 := rfl
    omega
end Go.Va
