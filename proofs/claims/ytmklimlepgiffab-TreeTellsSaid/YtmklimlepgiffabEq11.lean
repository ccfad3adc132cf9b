/- The functions that the statement reaches, by equations: no statement of its own. -/
import Derived.Test.YtmklimlepgiffabEq10
set_option linter.unusedVariables false
set_option linter.unusedSimpArgs false
set_option linter.unusedSectionVars false
namespace Go.Va
open Go.Proofs
set_option maxRecDepth 100000
set_option maxHeartbeats 4000000
section
variable (A : Ar) (hA : ArOk A) (tag text key : ByteArray) (vs ks : List AV) (n : Nat) (tag2 text2 key2 : ByteArray) (vs2 ks2 : List AV) (c1 c2 : Nat) (q1 q2 : Bool)
  (h0 : evl (envV A) (.call 25 [] []) = some (.ret (.s (.bool true)) [])) (h1 : evl (envV A) (.call 26 [.agg (trC tag text key vs ks), .s (.int .i64 60)] []) = some (.ret (.s (.int .i64 (.ofNat c1))) []))
include hA h0 h1
theorem eq_tt_a (hb : A.lt 60 (.ofNat c1) = true) : evl (envV A) (.call 6 [.agg (trC tag text key vs ks), .agg (trC tag2 text2 key2 vs2 ks2)] []) = some (.ret (.s (.bool true)) []) := by
  unfold trC at h1 ⊢
  rw [evl_fn (envV A) 6 _ _ (fn := Try.f6) (c := bd6) (lv := lvF6) rfl rfl rfl rfl rfl rfl]
  have hnle := hA.nleE; have hneq := hA.neqE
  generalize lpOf (envV A) 6 bd6 = LP
  generalize evl (envV A) = E at h0 h1 hb ⊢
  obtain ⟨aadd, asub, amul, arem, aquo, awr, ashr, aeq, alt, ale, aseq, aslt, acat, acut, asiz, aat, anle, aneq, afit⟩ := A
  simp only at hnle hneq
  subst hnle hneq
  try simp only at h0 h1 hb
  cbv
  rewrite [h0]
  cbv
  rewrite [h1]
  cbv
  rewrite [hb]
  cbv
theorem eq_tt_b (h2 : evl (envV A) (.call 26 [.agg (trC tag2 text2 key2 vs2 ks2), .s (.int .i64 60)] []) = some (.ret (.s (.int .i64 (.ofNat c2))) [])) (ha : A.lt 60 (.ofNat c1) = false) (hb : A.lt 60 (.ofNat c2) = true) :
    evl (envV A) (.call 6 [.agg (trC tag text key vs ks), .agg (trC tag2 text2 key2 vs2 ks2)] []) = some (.ret (.s (.bool true)) []) := by
  unfold trC at h1 h2 ⊢
  rw [evl_fn (envV A) 6 _ _ (fn := Try.f6) (c := bd6) (lv := lvF6) rfl rfl rfl rfl rfl rfl]
  have hnle := hA.nleE; have hneq := hA.neqE
  generalize lpOf (envV A) 6 bd6 = LP
  generalize evl (envV A) = E at h0 h1 h2 ha hb ⊢
  obtain ⟨aadd, asub, amul, arem, aquo, awr, ashr, aeq, alt, ale, aseq, aslt, acat, acut, asiz, aat, anle, aneq, afit⟩ := A
  simp only at hnle hneq
  subst hnle hneq
  try simp only at h0 h1 h2 ha hb
  cbv
  rewrite [h0]
  cbv
  rewrite [h1]
  cbv
  rewrite [ha]
  cbv
  rewrite [h2]
  cbv
  rewrite [hb]
  cbv
theorem eq_tt (h2 : evl (envV A) (.call 26 [.agg (trC tag2 text2 key2 vs2 ks2), .s (.int .i64 60)] []) = some (.ret (.s (.int .i64 (.ofNat c2))) []))
  (h3 : evl (envV A) (.call 27 [.agg (trC tag text key vs ks)] []) = some (.ret (.s (.bool q1)) []))
  (h4 : evl (envV A) (.call 28 [.agg (trC tag text key vs ks)] []) = some (.ret (.s (.bool q1)) []))
  (h5 : evl (envV A) (.call 29 [.agg (trC tag text key vs ks)] []) = some (.ret (.s (.int .i64 (.ofNat n))) []))
  (h6 : evl (envV A) (.call 30 [.agg (trC tag text key vs ks)] []) = some (.ret (.s (.int .i64 (.ofNat n))) []))
  (h7 : evl (envV A) (.call 31 [.agg (trC tag text key vs ks), .agg (trC tag2 text2 key2 vs2 ks2)] []) = some (.ret (.s (.bool q2)) []))
  (h8 : evl (envV A) (.call 32 [.agg (trC tag text key vs ks), .agg (trC tag2 text2 key2 vs2 ks2)] []) = some (.ret (.s (.bool q2)) []))
  (h9 : evl (envV A) (.call 31 [.agg (trC tag text key vs ks), .agg (trC tag text key vs ks)] []) = some (.ret (.s (.bool true)) [])) (ha : A.eq (.ofNat n) (.ofNat n) = true) :
  evl (envV A) (.call 6 [.agg (trC tag text key vs ks), .agg (trC tag2 text2 key2 vs2 ks2)] []) = some (.ret (.s (.bool true)) []) := by
  unfold trC at h1 h2 h3 h4 h5 h6 h7 h8 h9 ⊢
  rw [evl_fn (envV A) 6 _ _ (fn := Try.f6) (c := bd6) (lv := lvF6) rfl rfl rfl rfl rfl rfl]
  have hnle := hA.nleE; have hneq := hA.neqE
  have klt := hA.lt; have kle := hA.le; have keq := hA.eq; have knle := hA.nle; have kneq := hA.neq
  generalize lpOf (envV A) 6 bd6 = LP
  generalize evl (envV A) = E at h0 h1 h2 h3 h4 h5 h6 h7 h8 h9 ha ⊢
  obtain ⟨aadd, asub, amul, arem, aquo, awr, ashr, aeq, alt, ale, aseq, aslt, acat, acut, asiz, aat, anle, aneq, afit⟩ := A
  simp only at hnle hneq
  subst hnle hneq
  simp only at klt kle keq knle kneq
  try simp only at h0 h1 h2 h3 h4 h5 h6 h7 h8 h9 ha
  cbv
  rewrite [h0]
  cbv
  rewrite [h1]
  cbv
  cases c1 : alt 60 (Int.ofNat c1)
  · cbv
    rewrite [h2]
    cbv
    cases c2 : alt 60 (Int.ofNat c2)
    · cbv
      rewrite [h3]
      cbv
      rewrite [h4]
      cbv
      rewrite [h5]
      cbv
      rewrite [h6]
      cbv
      rewrite [ha]
      cbv
      rewrite [h7]
      cbv
      rewrite [h8]
      cbv
      rewrite [h9]
      cbv
    · cbv
  · cbv
end
inductive TreeT where
  | node (tag text key : ByteArray) (attrs : List AttrT) (kids : List TreeT)
mutual
def treeA : TreeT → AV
  | .node tag text key vs ks => .agg (trC tag text key (vs.map attrA) (treesA ks))
def treesA : List TreeT → List AV
  | [] => []
  | t :: ts => treeA t :: treesA ts
end
theorem treesA_map : ∀ ks : List TreeT, treesA ks = ks.map treeA
  | [] => rfl
  | t :: ts => by rw [treesA, treesA_map ts]; rfl
mutual
theorem TreeT.ind {P : TreeT → Prop} (h : ∀ tag text key vs ks, (∀ t ∈ ks, P t) → P (.node tag text key vs ks)) : ∀ t, P t
  | .node tag text key vs ks => h tag text key vs ks (TreeT.indL h ks)
theorem TreeT.indL {P : TreeT → Prop} (h : ∀ tag text key vs ks, (∀ t ∈ ks, P t) → P (.node tag text key vs ks)) : ∀ ks : List TreeT, ∀ t ∈ ks, P t
  | [] => fun _ ht => by cases ht
  | k :: ks => List.forall_mem_cons.2 ⟨TreeT.ind h k, TreeT.indL h ks⟩
end
mutual
def cntT : TreeT → Nat
  | .node _ _ _ _ ks => 1 + cntL ks
def cntL : List TreeT → Nat
  | [] => 0
  | t :: ts => cntT t + cntL ts
end
mutual
def okT : TreeT → Prop
  | .node tag text key vs ks => (tag.size ≤ 100 ∧ text.size ≤ 100 ∧ key.size ≤ 100) ∧ (few3 vs ∧ vs.length ≤ 20) ∧ okL ks
def okL : List TreeT → Prop
  | [] => True
  | t :: ts => okT t ∧ okL ts
end
theorem okL_mem : ∀ {ks : List TreeT}, okL ks → ∀ t ∈ ks, okT t
  | [], _, t, ht => by cases ht
  | k :: ks, h, t, ht => by
    rw [okL] at h
    rcases List.mem_cons.1 ht with rfl | ht
    · exact h.1
    · exact okL_mem h.2 t ht
theorem cnt_pos (t : TreeT) : 1 ≤ cntT t := by
  cases t
  rw [cntT]
  omega
theorem cntL_len : ∀ ks : List TreeT, ks.length ≤ cntL ks
  | [] => by simp [cntL]
  | t :: ts => by
    have := cnt_pos t
    have := cntL_len ts
    simp only [List.length_cons, cntL]
    omega
theorem cntL_mem : ∀ {ks : List TreeT}, ∀ t ∈ ks, cntT t ≤ cntL ks
  | [], t, ht => by cases ht
  | k :: ks, t, ht => by
    rw [cntL]
    rcases List.mem_cons.1 ht with rfl | ht
    · omega
    · have := cntL_mem t ht
      omega
theorem kid_get {ks : List TreeT} {i : Nat} (h : i < ks.length) : lget (treesA ks) i = some (treeA ks[i]) := by rw [lget_get, treesA_map]; simp [h]
theorem nadd {i j : Nat} (h : i + j ≤ 9223372036854775807) : realAr.add .i64 (.ofNat i) (.ofNat j) = .ofNat (i + j) := by
  rw [realAr_ok.add]
  exact wrap_nat (n := i + j) h
/-! Many -/
def ManyOk (t : TreeT) : Prop := ∀ k : Nat, k ≤ 60 → ∃ d, evl (envV realAr) (.call 26 [treeA t, .s (.int .i64 (.ofNat k))] []) = some (.ret (.s (.int .i64 (.ofNat d))) []) ∧ 1 ≤ d ∧ d ≤ k + 1 ∧ (d ≤ k → d = cntT t ∧ okT t)
theorem lp_many (tag text key : ByteArray) (vs : List AV) (ks : List TreeT) (hk : ∀ t ∈ ks, ManyOk t) (k : Nat) (hk60 : k ≤ 60) : ∀ (m i c : Nat), m + i = ks.length → i + 1 ≤ c → c ≤ k + 1 →
    ∃ c' i', lpOf (envV realAr) 26 bd26 5 { n := 55, k := 0, fr := [(1, .s (.int .i64 (.ofNat k))), (2, .ptr 0 0), (5, .s (.int .i64 (.ofNat c))), (6, .s (.int .i64 (.ofNat i)))], O := [trC tag text key vs (treesA ks)] } = some (.code (.exit 0) (stY tag text key vs (treesA ks) k c' i')) ∧ c' ≤ k + 1 ∧ 1 ≤ c' ∧ (c' ≤ k → c' = c + cntL (ks.drop i) ∧ okL (ks.drop i))
  | 0, i, c, h, h1, h2 => by
    have : i = ks.length := by omega
    subst this
    refine ⟨c, ks.length, lp_Many_end realAr realAr_ok tag text key vs _ ks.length _ k c (by rw [treesA_map]; simp) (natlt_f (Nat.le_refl _)), h2, by omega, fun _ => ?_⟩
    rw [List.drop_length]
    exact ⟨by simp [cntL], by simp [okL]⟩
  | m + 1, i, c, h, h1, h2 => by
    have hi : i < ks.length := by omega
    by_cases hc : c ≤ k
    · obtain ⟨d, e1, e2, e3, e4⟩ := hk ks[i] (List.getElem_mem hi) (k - c) (by omega)
      obtain ⟨c', i', f1, f2, f3, f4⟩ := lp_many tag text key vs ks hk k hk60 m (i + 1) (c + d) (by omega) (by omega) (by omega)
      refine ⟨c', i', ?_, f2, f3, fun hq => ?_⟩
      · have hg := kid_get hi
        cases hx : ks[i] with
        | node tg tx ky v kk =>
          rw [hx] at e1 hg
          rw [treeA] at e1 hg
          exact lp_Many realAr realAr_ok tag text key vs (treesA ks) ks.length i tg tx ky _ _ k c d (c + d) (k - c) (by rw [treesA_map]; simp) hg (nble hi) (natlt_t hi) (natinc (by omega)) (by simp [realAr_ok.le] <;> omega)
            (by rw [realAr_ok.sub, show (Int.ofNat k - Int.ofNat c) = ((k - c : Nat) : Int) by simp only [Int.ofNat_eq_natCast]; omega]; exact wrap_nat (by omega)) e1 (nadd (by omega)) f1
      · obtain ⟨g1, g2⟩ := f4 hq
        obtain ⟨g3, g4⟩ := e4 (by omega)
        rw [List.drop_eq_getElem_cons hi, cntL, okL]
        exact ⟨by omega, g4, g2⟩
    · refine ⟨c, i, lp_Many_end2 realAr realAr_ok tag text key vs _ ks.length _ k c (by rw [treesA_map]; simp) (natlt_t hi) (by simp [realAr_ok.le] <;> omega), h2, by omega, fun hq => by omega⟩
theorem many_ok : ∀ t, ManyOk t := by
  refine TreeT.ind fun tag text key vs ks hk k hk60 => ?_
  have hl1 : (vs.map attrA).length = vs.length := by simp
  have lt100 : ∀ n : Nat, realAr.lt 100 (.ofNat n) = decide (100 < n) := fun n => by
    rw [realAr_lt']
    congr 1
    simp only [Int.ofNat_eq_natCast, eq_iff_iff]
    omega
  have hlong : ∀ fw : Int, evl (envV realAr) (.call 65 [.sl 3 (vs.map attrA) .imm] []) = some (.ret (.s (.int .i64 fw)) []) → (100 < tag.size ∨ 100 < text.size ∨ 100 < key.size ∨ fw = 0) →
      ∃ d, evl (envV realAr) (.call 26 [treeA (.node tag text key vs ks), .s (.int .i64 (.ofNat k))] []) = some (.ret (.s (.int .i64 (.ofNat d))) []) ∧ 1 ≤ d ∧ d ≤ k + 1 ∧ (d ≤ k → d = cntT (.node tag text key vs ks) ∧ okT (.node tag text key vs ks)) := by
    intro fw hf hor
    rw [treeA]
    refine ⟨k + 1, eq_Many_long realAr realAr_ok tag text key _ _ vs.length k (k + 1) tag.size text.size key.size fw hl1 rfl rfl rfl hf (natinc (by omega)) ?_, by omega, by omega, fun h => by omega⟩
    rw [lt100, lt100, lt100, realAr_ok.eq]
    by_cases a1 : 100 < tag.size
    · simp [a1]
    · by_cases a2 : 100 < text.size
      · simp [a2]
      · by_cases a3 : 100 < key.size
        · simp [a3]
        · have : fw = 0 := by
            rcases hor with q | q | q | q
            · exact (a1 q).elim
            · exact (a2 q).elim
            · exact (a3 q).elim
            · exact q
          simp [this]
  rcases s_few3 vs with hf | ⟨hf, hf1, hf2⟩
  · exact hlong 0 hf (.inr (.inr (.inr rfl)))
  · by_cases a1 : 100 < tag.size
    · exact hlong 1 hf (.inl a1)
    · by_cases a2 : 100 < text.size
      · exact hlong 1 hf (.inr (.inl a2))
      · by_cases a3 : 100 < key.size
        · exact hlong 1 hf (.inr (.inr (.inl a3)))
        · obtain ⟨c', i', f1, f2, f3, f4⟩ := lp_many tag text key (vs.map attrA) ks hk k hk60 ks.length 0 1 (by omega) (by omega) (by omega)
          rw [treeA]
          refine ⟨c', eq_Many realAr realAr_ok tag text key _ _ vs.length i' k c' tag.size text.size key.size hl1 rfl rfl rfl hf (by rw [lt100]; exact decide_eq_false a1) (by rw [lt100]; exact decide_eq_false a2) (by rw [lt100]; exact decide_eq_false a3) f1, f3, f2, fun hq => ?_⟩
          obtain ⟨g1, g2⟩ := f4 hq
          rw [List.drop_zero] at g1 g2
          rw [cntT, okT]
          exact ⟨g1, ⟨by omega, by omega, by omega⟩, ⟨hf1, hf2⟩, g2⟩
end Go.Va
namespace Go.Va
open Go.Proofs
set_option maxRecDepth 100000
set_option maxHeartbeats 4000000
/-! Count -/
theorem cnt_drop (ks : List TreeT) : ∀ {i : Nat} (h : i < ks.length), cntL (ks.drop i) = cntT ks[i] + cntL (ks.drop (i + 1)) := by
  intro i h
  rw [List.drop_eq_getElem_cons h, cntL]
theorem lp_cntA (ks : List TreeT) (hk : ∀ t ∈ ks, cntT t ≤ 1000 → evl (envV realAr) (.call 29 [treeA t] []) = some (.ret (.s (.int .i64 (.ofNat (cntT t)))) [])) (hb : cntL ks ≤ 1000) : ∀ (m i c : Nat), m + i = ks.length → c + cntL (ks.drop i) ≤ 1001 →
    lpOf (envV realAr) 29 bd29 3 { n := 19, k := 0, fr := [(3, .s (.int .i64 (.ofNat c))), (7, .sl 5 (treesA ks) .imm), (8, .s (.int .i64 (.ofNat ks.length))), (9, .s (.int .i64 (.ofNat i)))], O := [] } =
      some (.code (.exit 0) { n := 19, k := 0, fr := [(3, .s (.int .i64 (.ofNat (c + cntL (ks.drop i))))), (7, .sl 5 (treesA ks) .imm), (8, .s (.int .i64 (.ofNat ks.length))), (9, .s (.int .i64 (.ofNat ks.length))), (10, .s (.bool false))], O := [] })
  | 0, i, c, h, hc => by
    have : i = ks.length := by omega
    subst this
    rw [List.drop_length, cntL]
    exact lp_tree_Count_end realAr realAr_ok _ _ _ c (natlt_f (Nat.le_refl _))
  | m + 1, i, c, h, hc => by
    have hi : i < ks.length := by omega
    have hm := cntL_mem ks[i] (List.getElem_mem hi)
    have hl := cntL_len ks
    have e1 := hk ks[i] (List.getElem_mem hi) (by omega)
    have hg := kid_get hi
    rw [cnt_drop ks hi] at hc ⊢
    have hn := lp_cntA ks hk hb m (i + 1) (c + cntT ks[i]) (by omega) (by omega)
    rw [← Nat.add_assoc]
    have hs := nadd (i := c) (j := cntT ks[i]) (by omega)
    cases hx : ks[i] with
    | node tg tx ky v kk =>
      rw [hx] at e1 hg hn hs
      rw [treeA] at e1 hg
      exact lp_tree_Count realAr realAr_ok tg tx ky _ (treesA ks) ks.length i _ c _ _ (by rw [treesA_map]; simp) hg (nble hi) (natlt_t hi) (natinc (by omega)) e1 hs hn
theorem s_tree_Count : ∀ t, cntT t ≤ 1000 → evl (envV realAr) (.call 29 [treeA t] []) = some (.ret (.s (.int .i64 (.ofNat (cntT t)))) []) := by
  refine TreeT.ind fun tag text key vs ks hk hb => ?_
  rw [cntT] at hb
  have h := lp_cntA ks hk (by omega) ks.length 0 1 (by omega) (by rw [List.drop_zero]; omega)
  rw [List.drop_zero] at h
  rw [treeA, cntT]
  exact eq_tree_Count realAr realAr_ok tag text key _ _ ks.length _ (by rw [treesA_map]; simp) h
theorem lp_cntB (tag text key : ByteArray) (vs : List AV) (ks : List TreeT) (hk : ∀ t ∈ ks, cntT t ≤ 1000 → evl (envV realAr) (.call 30 [treeA t] []) = some (.ret (.s (.int .i64 (.ofNat (cntT t)))) [])) (hb : cntL ks ≤ 1000) : ∀ (m i c : Nat), m + i = ks.length → c + cntL (ks.drop i) ≤ 1001 →
    lpOf (envV realAr) 30 bd30 3 { n := 21, k := 0, fr := [(1, .ptr 0 0), (3, .s (.int .i64 (.ofNat c))), (4, .s (.int .i64 (.ofNat i)))], O := [trC tag text key vs (treesA ks)] } =
      some (.code (.exit 0) { n := 21, k := 0, fr := [(1, .ptr 0 0), (3, .s (.int .i64 (.ofNat (c + cntL (ks.drop i))))), (4, .s (.int .i64 (.ofNat ks.length))), (9, .s (.bool false))], O := [trC tag text key vs (treesA ks)] })
  | 0, i, c, h, hc => by
    have : i = ks.length := by omega
    subst this
    rw [List.drop_length, cntL]
    exact lp_ref08_Count_end realAr realAr_ok tag text key vs _ ks.length _ c (by rw [treesA_map]; simp) (natlt_f (Nat.le_refl _))
  | m + 1, i, c, h, hc => by
    have hi : i < ks.length := by omega
    have hm := cntL_mem ks[i] (List.getElem_mem hi)
    have hl := cntL_len ks
    have e1 := hk ks[i] (List.getElem_mem hi) (by omega)
    have hg := kid_get hi
    rw [cnt_drop ks hi] at hc ⊢
    have hn := lp_cntB tag text key vs ks hk hb m (i + 1) (c + cntT ks[i]) (by omega) (by omega)
    rw [← Nat.add_assoc]
    have hs := nadd (i := c) (j := cntT ks[i]) (by omega)
    cases hx : ks[i] with
    | node tg tx ky v kk =>
      rw [hx] at e1 hg hn hs
      rw [treeA] at e1 hg
      exact lp_ref08_Count realAr realAr_ok tag text key vs (treesA ks) ks.length i tg tx ky _ _ c _ _ (by rw [treesA_map]; simp) hg (nble hi) (natlt_t hi) (natinc (by omega)) e1 hs hn
theorem s_ref08_Count : ∀ t, cntT t ≤ 1000 → evl (envV realAr) (.call 30 [treeA t] []) = some (.ret (.s (.int .i64 (.ofNat (cntT t)))) []) := by
  refine TreeT.ind fun tag text key vs ks hk hb => ?_
  rw [cntT] at hb
  have h := lp_cntB tag text key (vs.map attrA) ks hk (by omega) ks.length 0 1 (by omega) (by rw [List.drop_zero]; omega)
  rw [List.drop_zero] at h
  rw [treeA, cntT]
  exact eq_ref08_Count realAr realAr_ok tag text key _ _ _ _ h
/-! May -/
mutual
def mayT : TreeT → Bool
  | .node tag text key vs ks => bif realAr.seq tag ⟨#[]⟩ then (bif realAr.seq key ⟨#[]⟩ then (bif realAr.eq (.ofNat vs.length) 0 then (bif realAr.eq (.ofNat ks.length) 0 then textP text else false) else false) else false)
      else bif nameP tag then (bif textP key then (bif realAr.seq text ⟨#[]⟩ then (bif mayL vs then (bif voidP tag then (bif realAr.lt 0 (.ofNat ks.length) then false else mayTs ks) else mayTs ks) else false) else false) else false) else false
def mayTs : List TreeT → Bool
  | [] => true
  | t :: ts => mayT t && mayTs ts
end
theorem mayTs_drop (ks : List TreeT) {i : Nat} (h : i < ks.length) : mayTs (ks.drop i) = (mayT ks[i] && mayTs (ks.drop (i + 1))) := by
  rw [List.drop_eq_getElem_cons h, mayTs]
def stZe (ks : List AV) (n i : Nat) : St := { n := 19, k := 0, fr := [(0, .sl 5 ks .imm), (1, .fn 71 [] []), (7, .s (.int .i64 (.ofNat n))), (8, .s (.int .i64 (.ofNat i))), (9, .s (.bool false))], O := [] }
theorem few3_fewA {vs : List AttrT} (h : few3 vs) : fewA vs := fun a ha => by
  have := h a ha
  omega
theorem lp_mayK (ks : List TreeT) (hk : ∀ t ∈ ks, evl (envV realAr) (.call 27 [treeA t] []) = some (.ret (.s (.bool (mayT t))) [])) (hl : ks.length ≤ 1000) : ∀ (m i : Nat), m + i = ks.length →
    (mayTs (ks.drop i) = false ∧ ∃ j : Nat, lpOf (envV realAr) 106 bd106 2 { n := 19, k := 0, fr := [(0, .sl 5 (treesA ks) .imm), (1, .fn 71 [] []), (7, .s (.int .i64 (.ofNat ks.length))), (8, .s (.int .i64 (.ofNat i)))], O := [] } = some (.code .ret { n := 19, k := 0, fr := [(4, .s (.int .i64 (.ofNat j)))], O := [] })) ∨
    (mayTs (ks.drop i) = true ∧ lpOf (envV realAr) 106 bd106 2 { n := 19, k := 0, fr := [(0, .sl 5 (treesA ks) .imm), (1, .fn 71 [] []), (7, .s (.int .i64 (.ofNat ks.length))), (8, .s (.int .i64 (.ofNat i)))], O := [] } = some (.code (.exit 0) (stZe (treesA ks) ks.length ks.length)))
  | 0, i, h => by
    have : i = ks.length := by omega
    subst this
    right
    rw [List.drop_length]
    exact ⟨rfl, lp_tree_idx_end realAr realAr_ok _ _ _ (natlt_f (Nat.le_refl _))⟩
  | m + 1, i, h => by
    have hi : i < ks.length := by omega
    have e1 := hk ks[i] (List.getElem_mem hi)
    have hg := kid_get hi
    rw [mayTs_drop ks hi]
    have hnext := lp_mayK ks hk hl m (i + 1) (by omega)
    have key : ∀ r, lpOf (envV realAr) 106 bd106 2 { n := 19, k := 0, fr := [(0, .sl 5 (treesA ks) .imm), (1, .fn 71 [] []), (7, .s (.int .i64 (.ofNat ks.length))), (8, .s (.int .i64 (.ofNat (Nat.succ i))))], O := [] } = r →
        lpOf (envV realAr) 106 bd106 2 { n := 19, k := 0, fr := [(0, .sl 5 (treesA ks) .imm), (1, .fn 71 [] []), (7, .s (.int .i64 (.ofNat ks.length))), (8, .s (.int .i64 (.ofNat i)))], O := [] } = bif !(mayT ks[i]) then some (.code .ret { n := 19, k := 0, fr := [(4, .s (.int .i64 (.ofNat i)))], O := [] }) else r := by
      intro r hr
      cases hx : ks[i] with
      | node tg tx ky v kk =>
        rw [hx] at e1 hg
        rw [treeA] at e1 hg
        have hm1 := eq_tree_May1 realAr realAr_ok tg tx ky _ _ kk.length v.length _ (by rw [treesA_map]; simp) (by simp) e1
        exact lp_tree_idx realAr realAr_ok tg tx ky _ (treesA ks) ks.length i _ _ (by rw [treesA_map]; simp) hg (nble hi) (natlt_t hi) (natinc (by omega)) hm1 hr
    cases hm : mayT ks[i] with
    | false =>
      left
      refine ⟨rfl, i, ?_⟩
      have := key _ rfl
      rw [hm] at this
      exact this
    | true =>
      rcases hnext with ⟨q1, j, q2⟩ | ⟨q1, q2⟩
      · left
        refine ⟨by rw [q1]; rfl, j, ?_⟩
        have := key _ q2
        rw [hm] at this
        exact this
      · right
        refine ⟨by rw [q1]; rfl, ?_⟩
        have := key _ q2
        rw [hm] at this
        exact this
theorem s_tree_May : ∀ t, okT t → cntT t ≤ 1000 → evl (envV realAr) (.call 27 [treeA t] []) = some (.ret (.s (.bool (mayT t))) []) := by
  refine TreeT.ind fun tag text key vs ks hk hok hb => ?_
  rw [okT] at hok
  rw [cntT] at hb
  obtain ⟨⟨z1, z2, z3⟩, ⟨z4, z5⟩, z6⟩ := hok
  have hl := cntL_len ks
  have hkk : ∀ t ∈ ks, evl (envV realAr) (.call 27 [treeA t] []) = some (.ret (.s (.bool (mayT t))) []) := fun t ht => hk t ht (okL_mem z6 t ht) (by have := cntL_mem t ht; omega)
  have e0 : (treesA ks).length = ks.length := by rw [treesA_map]; simp
  have hc : evl (envV realAr) (.call 70 [.sl 5 (treesA ks) .imm, .fn 71 [] []] []) = some (.ret (.s (.bool (!(mayTs ks)))) []) := by
    rcases lp_mayK ks hkk (by omega) ks.length 0 (by omega) with ⟨q1, j, q2⟩ | ⟨q1, q2⟩
    · rw [List.drop_zero] at q1
      rw [q1]
      have h1 := eq_tree_idx_some realAr realAr_ok (treesA ks) ks.length j e0 q2
      rw [eq_tree_cont realAr realAr_ok _ ks.length _ e0 h1]
      have : realAr.le 0 (.ofNat j) = true := by simp [realAr_ok.le]
      rw [this]
      rfl
    · rw [List.drop_zero] at q1
      rw [q1]
      have h1 := eq_tree_idx_none realAr realAr_ok (treesA ks) ks.length ks.length e0 q2
      rw [eq_tree_cont realAr realAr_ok _ ks.length _ e0 h1]
      rfl
  rw [treeA, eq_tree_May realAr realAr_ok tag text key _ _ ks.length vs.length (textP text) (nameP tag) (textP key) (mayL vs) (voidP tag) (!(mayTs ks)) e0 (by simp) (eq_name_Text realAr realAr_ok _ (by show text.size ≤ _; omega)) (name16 _ (by omega)) (eq_name_Text realAr realAr_ok _ (by show key.size ≤ _; omega))
    (s_attr_May vs .imm (.inr rfl) (by omega) (few3_fewA z4)) (eq_name_Void realAr _) hc]
  rw [Bool.not_not, mayT]
theorem lp_mayR8 (tag text key : ByteArray) (vs : List AV) (ks : List TreeT) (hk : ∀ t ∈ ks, evl (envV realAr) (.call 28 [treeA t] []) = some (.ret (.s (.bool (mayT t))) [])) (hl : ks.length ≤ 1000) : ∀ (m i : Nat), m + i = ks.length →
    lpOf (envV realAr) 28 bd28 11 { n := 85, k := 0, fr := [(1, .ptr 0 0), (8, .s (.int .i64 (.ofNat i)))], O := [trC tag text key vs (treesA ks)] } = bif !(mayTs (ks.drop i)) then some (.code .ret { n := 85, k := 0, fr := [(2, .s (.bool false))], O := [] }) else some (.code (.exit 0) { n := 85, k := 0, fr := [(1, .ptr 0 0), (8, .s (.int .i64 (.ofNat ks.length))), (74, .s (.bool false))], O := [trC tag text key vs (treesA ks)] })
  | 0, i, h => by
    have : i = ks.length := by omega
    subst this
    rw [List.drop_length]
    exact lp_ref08_May_end realAr realAr_ok tag text key vs _ ks.length _ (by rw [treesA_map]; simp) (natlt_f (Nat.le_refl _))
  | m + 1, i, h => by
    have hi : i < ks.length := by omega
    have e1 := hk ks[i] (List.getElem_mem hi)
    have hg := kid_get hi
    rw [mayTs_drop ks hi]
    have hnext := lp_mayR8 tag text key vs ks hk hl m (i + 1) (by omega)
    have key2 : ∀ r, lpOf (envV realAr) 28 bd28 11 { n := 85, k := 0, fr := [(1, .ptr 0 0), (8, .s (.int .i64 (.ofNat (Nat.succ i))))], O := [trC tag text key vs (treesA ks)] } = r →
        lpOf (envV realAr) 28 bd28 11 { n := 85, k := 0, fr := [(1, .ptr 0 0), (8, .s (.int .i64 (.ofNat i)))], O := [trC tag text key vs (treesA ks)] } = bif mayT ks[i] then r else some (.code .ret { n := 85, k := 0, fr := [(2, .s (.bool false))], O := [] }) := by
      intro r hr
      cases hx : ks[i] with
      | node tg tx ky v kk =>
        rw [hx] at e1 hg
        rw [treeA] at e1 hg
        exact lp_ref08_May realAr realAr_ok tag text key vs (treesA ks) ks.length i tg tx ky _ _ _ (by rw [treesA_map]; simp) hg (nble hi) (natlt_t hi) (natinc (by omega)) e1 hr
    have hr := key2 _ hnext
    rw [hr]
    cases mayT ks[i] <;> cases mayTs (ks.drop (i + 1)) <;> rfl
theorem s_ref08_May : ∀ t, okT t → cntT t ≤ 1000 → evl (envV realAr) (.call 28 [treeA t] []) = some (.ret (.s (.bool (mayT t))) []) := by
  refine TreeT.ind fun tag text key vs ks hk hok hb => ?_
  rw [okT] at hok
  rw [cntT] at hb
  obtain ⟨⟨z1, z2, z3⟩, ⟨z4, z5⟩, z6⟩ := hok
  have hl := cntL_len ks
  have hkk : ∀ t ∈ ks, evl (envV realAr) (.call 28 [treeA t] []) = some (.ret (.s (.bool (mayT t))) []) := fun t ht => hk t ht (okL_mem z6 t ht) (by have := cntL_mem t ht; omega)
  have e0 : (treesA ks).length = ks.length := by rw [treesA_map]; simp
  have h6 := lp_mayR8 tag text key (vs.map attrA) ks hkk (by omega) ks.length 0 (by omega)
  rw [List.drop_zero] at h6
  rw [treeA, eq_ref08_May realAr realAr_ok tag text key _ _ ks.length vs.length _ (textP text) (nameP tag) (textP key) (mayL vs) (voidP tag) (!(mayTs ks)) e0 (by simp) (eq_placketref01_Text realAr realAr_ok _ (by show text.size ≤ _; omega)) (eq_placketref01_Name realAr realAr_ok _ (by show tag.size ≤ _; omega)) (eq_placketref01_Text realAr realAr_ok _ (by show key.size ≤ _; omega))
    (s_ref01_May vs .imm (.inr rfl) (by omega) (few3_fewA z4)) (eq_placketref01_Void realAr _) h6]
  rw [Bool.not_not, mayT]
end Go.Va
namespace Go.Va
open Go.Proofs
set_option maxRecDepth 100000
set_option maxHeartbeats 4000000
mutual
def sameT : TreeT → TreeT → Bool
  | .node tag text key vs ks, .node tag2 text2 key2 vs2 ks2 => bif realAr.seq tag tag2 then (bif realAr.seq text text2 then (bif realAr.seq key key2 then (bif sameL vs vs2 then (bif realAr.eq (.ofNat ks.length) (.ofNat ks2.length) then sameTs ks ks2 else false) else false) else false) else false) else false
def sameTs : List TreeT → List TreeT → Bool
  | t :: ts, u :: us => sameT t u && sameTs ts us
  | _, _ => true
end
theorem sameTs_drop (ks ls : List TreeT) {i : Nat} (h : i < ks.length) (h2 : i < ls.length) : sameTs (ks.drop i) (ls.drop i) = (sameT ks[i] ls[i] && sameTs (ks.drop (i + 1)) (ls.drop (i + 1))) := by
  rw [List.drop_eq_getElem_cons h, List.drop_eq_getElem_cons h2, sameTs]
theorem kidlen (ks : List TreeT) : (treesA ks).length = ks.length := by rw [treesA_map]; simp
def SameOk (t : TreeT) : Prop := cntT t ≤ 1000 → okT t → ∀ u, evl (envV realAr) (.call 31 [treeA t, treeA u] []) = some (.ret (.s (.bool (sameT t u))) [])
theorem lp_sameK (ks ls : List TreeT) (hk : ∀ t ∈ ks, ∀ u, evl (envV realAr) (.call 31 [treeA t, treeA u] []) = some (.ret (.s (.bool (sameT t u))) [])) (hl : ks.length ≤ 1000) (he : ks.length = ls.length) : ∀ (m i : Nat), m + i = ks.length →
    lpOf (envV realAr) 77 bd77 4 { n := 32, k := 0, fr := [(1, .sl 5 (treesA ls) .imm), (2, .fn 31 [] []), (15, .sl 5 (treesA ks) .imm), (16, .s (.int .i64 (.ofNat ks.length))), (17, .s (.int .i64 (.ofNat i)))], O := [] } = bif sameTs (ks.drop i) (ls.drop i) then some (.code (.exit 0) { n := 32, k := 0, fr := [(1, .sl 5 (treesA ls) .imm), (2, .fn 31 [] []), (15, .sl 5 (treesA ks) .imm), (16, .s (.int .i64 (.ofNat ks.length))), (17, .s (.int .i64 (.ofNat ks.length))), (18, .s (.bool false))], O := [] } ) else some (.code .ret { n := 32, k := 0, fr := [(6, .s (.bool false))], O := [] })
  | 0, i, h => by
    have : i = ks.length := by omega
    subst this
    rw [List.drop_length]
    exact lp_tree_eqf_end realAr realAr_ok (treesA ks) _ _ (treesA ls) (natlt_f (Nat.le_refl _))
  | m + 1, i, h => by
    have hi : i < ks.length := by omega
    have hj : i < ls.length := by omega
    have e1 := hk ks[i] (List.getElem_mem hi) ls[i]
    have hg := kid_get hi
    have hg2 := kid_get hj
    rw [sameTs_drop ks ls hi hj]
    have hnext := lp_sameK ks ls hk hl he m (i + 1) (by omega)
    have key2 : ∀ r, lpOf (envV realAr) 77 bd77 4 { n := 32, k := 0, fr := [(1, .sl 5 (treesA ls) .imm), (2, .fn 31 [] []), (15, .sl 5 (treesA ks) .imm), (16, .s (.int .i64 (.ofNat ks.length))), (17, .s (.int .i64 (.ofNat (Nat.succ i))))], O := [] } = r →
        lpOf (envV realAr) 77 bd77 4 { n := 32, k := 0, fr := [(1, .sl 5 (treesA ls) .imm), (2, .fn 31 [] []), (15, .sl 5 (treesA ks) .imm), (16, .s (.int .i64 (.ofNat ks.length))), (17, .s (.int .i64 (.ofNat i)))], O := [] } = bif sameT ks[i] ls[i] then r else some (.code .ret { n := 32, k := 0, fr := [(6, .s (.bool false))], O := [] }) := by
      intro r hr
      cases hx : ks[i] with
      | node tg tx ky v kk =>
        cases hy : ls[i] with
        | node tg2 tx2 ky2 v2 kk2 =>
          rw [hx, hy] at e1
          rw [hx] at hg
          rw [hy] at hg2
          rw [treeA] at hg hg2
          rw [treeA, treeA] at e1
          exact lp_tree_eqf realAr realAr_ok tg tx ky _ (treesA ks) ks.length i tg2 tx2 ky2 _ (treesA ls) _ _ _ (kidlen _) hg (nble hi) hg2 (by rw [kidlen, he]) (natlt_t hi) (natinc (by omega)) e1 hr
    rw [key2 _ hnext]
    cases sameT ks[i] ls[i] <;> cases sameTs (ks.drop (i + 1)) (ls.drop (i + 1)) <;> rfl
theorem kids_eq (a b : Nat) : realAr.eq (.ofNat a) (.ofNat b) = decide (a = b) := by
  rw [realAr_ok.eq]
  congr 1
  simp only [Int.ofNat_eq_natCast, eq_iff_iff]
  omega
theorem s_tree_Same : ∀ t, SameOk t := by
  refine TreeT.ind fun tag text key vs ks hk hb hok u => ?_
  rw [okT] at hok
  rw [cntT] at hb
  obtain ⟨⟨z1, z2, z3⟩, ⟨z4, z5⟩, z6⟩ := hok
  have hl := cntL_len ks
  have hkk : ∀ t ∈ ks, ∀ u, evl (envV realAr) (.call 31 [treeA t, treeA u] []) = some (.ret (.s (.bool (sameT t u))) []) := fun t ht => hk t ht (by have := cntL_mem t ht; omega) (okL_mem z6 t ht)
  cases u with
  | node tag2 text2 key2 vs2 ks2 =>
    rw [treeA, treeA, sameT]
    refine eq_tree_Same realAr realAr_ok tag text key _ _ ks.length vs.length tag2 text2 key2 _ _ (sameL vs vs2) _ (kidlen _) (by simp) (s_attr_Same vs vs2 .imm .imm (.inr rfl) (.inr rfl) (by omega)) ?_
    cases he : realAr.eq (.ofNat ks.length) (.ofNat ks2.length) with
    | false => exact eq_tree_eqf_ne realAr realAr_ok _ ks.length ks2.length _ (kidlen _) (kidlen _) he
    | true =>
      have h := lp_sameK ks ks2 hkk (by omega) (of_decide_eq_true (by rw [← kids_eq]; exact he)) ks.length 0 (by omega)
      rw [List.drop_zero, List.drop_zero] at h
      exact eq_tree_eqf realAr realAr_ok _ ks.length ks2.length ks.length _ _ (kidlen _) (kidlen _) he h
theorem lp_sameR8 (tag text key : ByteArray) (vs : List AV) (tag2 text2 key2 : ByteArray) (vs2 : List AV) (ks ls : List TreeT) (hk : ∀ t ∈ ks, ∀ u, evl (envV realAr) (.call 32 [treeA t, treeA u] []) = some (.ret (.s (.bool (sameT t u))) [])) (hl : ks.length ≤ 1000) (he : ks.length = ls.length) : ∀ (m i : Nat), m + i = ks.length →
    lpOf (envV realAr) 32 bd32 5 { n := 65, k := 0, fr := [(2, .ptr 0 0), (3, .ptr 1 0), (6, .s (.int .i64 (.ofNat i)))], O := [trC tag text key vs (treesA ks), trC tag2 text2 key2 vs2 (treesA ls)] } = bif sameTs (ks.drop i) (ls.drop i) then some (.code (.exit 0) { n := 65, k := 0, fr := [(2, .ptr 0 0), (3, .ptr 1 0), (6, .s (.int .i64 (.ofNat ks.length))), (49, .s (.bool false))], O := [trC tag text key vs (treesA ks), trC tag2 text2 key2 vs2 (treesA ls)] }) else some (.code .ret { n := 65, k := 0, fr := [(4, .s (.bool false))], O := [] })
  | 0, i, h => by
    have : i = ks.length := by omega
    subst this
    rw [List.drop_length]
    exact lp_ref08_Same_end realAr realAr_ok tag text key vs _ ks.length _ tag2 text2 key2 vs2 _ (kidlen _) (natlt_f (Nat.le_refl _))
  | m + 1, i, h => by
    have hi : i < ks.length := by omega
    have hj : i < ls.length := by omega
    have e1 := hk ks[i] (List.getElem_mem hi) ls[i]
    have hg := kid_get hi
    have hg2 := kid_get hj
    rw [sameTs_drop ks ls hi hj]
    have hnext := lp_sameR8 tag text key vs tag2 text2 key2 vs2 ks ls hk hl he m (i + 1) (by omega)
    have key3 : ∀ r, lpOf (envV realAr) 32 bd32 5 { n := 65, k := 0, fr := [(2, .ptr 0 0), (3, .ptr 1 0), (6, .s (.int .i64 (.ofNat (Nat.succ i))))], O := [trC tag text key vs (treesA ks), trC tag2 text2 key2 vs2 (treesA ls)] } = r →
        lpOf (envV realAr) 32 bd32 5 { n := 65, k := 0, fr := [(2, .ptr 0 0), (3, .ptr 1 0), (6, .s (.int .i64 (.ofNat i)))], O := [trC tag text key vs (treesA ks), trC tag2 text2 key2 vs2 (treesA ls)] } = bif sameT ks[i] ls[i] then r else some (.code .ret { n := 65, k := 0, fr := [(4, .s (.bool false))], O := [] }) := by
      intro r hr
      cases hx : ks[i] with
      | node tg tx ky v kk =>
        cases hy : ls[i] with
        | node tg2 tx2 ky2 v2 kk2 =>
          rw [hx, hy] at e1
          rw [hx] at hg
          rw [hy] at hg2
          rw [treeA] at hg hg2
          rw [treeA, treeA] at e1
          exact lp_ref08_Same realAr realAr_ok tag text key vs (treesA ks) ks.length i tag2 text2 key2 vs2 (treesA ls) tg tx ky _ _ tg2 tx2 ky2 _ _ _ (kidlen _) hg (nble hi) hg2 (by rw [kidlen, he]) (natlt_t hi) (natinc (by omega)) e1 hr
    rw [key3 _ hnext]
    cases sameT ks[i] ls[i] <;> cases sameTs (ks.drop (i + 1)) (ls.drop (i + 1)) <;> rfl
theorem s_ref08_Same : ∀ t, cntT t ≤ 1000 → okT t → ∀ u, evl (envV realAr) (.call 32 [treeA t, treeA u] []) = some (.ret (.s (.bool (sameT t u))) []) := by
  refine TreeT.ind fun tag text key vs ks hk hb hok u => ?_
  rw [okT] at hok
  rw [cntT] at hb
  obtain ⟨⟨z1, z2, z3⟩, ⟨z4, z5⟩, z6⟩ := hok
  have hl := cntL_len ks
  have hkk : ∀ t ∈ ks, ∀ u, evl (envV realAr) (.call 32 [treeA t, treeA u] []) = some (.ret (.s (.bool (sameT t u))) []) := fun t ht => hk t ht (by have := cntL_mem t ht; omega) (okL_mem z6 t ht)
  cases u with
  | node tag2 text2 key2 vs2 ks2 =>
    rw [treeA, treeA, sameT]
    have h1 := s_ref01_Same vs vs2 .imm .imm (.inr rfl) (.inr rfl) (by omega)
    cases he : (bif realAr.seq tag tag2 then (bif realAr.seq text text2 then (bif realAr.seq key key2 then (bif sameL vs vs2 then realAr.eq (.ofNat ks.length) (.ofNat ks2.length) else false) else false) else false) else false) with
    | false =>
      rw [eq_ref08_Same_ne realAr realAr_ok tag text key _ _ ks.length ks2.length tag2 text2 key2 _ _ (sameL vs vs2) (kidlen _) (kidlen _) h1 he]
      congr 4
      revert he
      cases realAr.seq tag tag2 <;> cases realAr.seq text text2 <;> cases realAr.seq key key2 <;> cases sameL vs vs2 <;> cases realAr.eq (.ofNat ks.length) (.ofNat ks2.length) <;> simp
    | true =>
      have hs : realAr.seq tag tag2 = true ∧ realAr.seq text text2 = true ∧ realAr.seq key key2 = true ∧ sameL vs vs2 = true ∧ realAr.eq (.ofNat ks.length) (.ofNat ks2.length) = true := by
        revert he
        cases realAr.seq tag tag2 <;> cases realAr.seq text text2 <;> cases realAr.seq key key2 <;> cases sameL vs vs2 <;> cases realAr.eq (.ofNat ks.length) (.ofNat ks2.length) <;> simp
      obtain ⟨s1, s2, s3, s4, s5⟩ := hs
      rw [s4] at h1
      have h := lp_sameR8 tag text key (vs.map attrA) tag2 text2 key2 (vs2.map attrA) ks ks2 hkk (by omega) (of_decide_eq_true (by rw [← kids_eq]; exact s5)) ks.length 0 (by omega)
      rw [List.drop_zero, List.drop_zero] at h
      rw [eq_ref08_Same realAr realAr_ok tag text key _ _ ks.length ks2.length _ tag2 text2 key2 _ _ _ (kidlen _) (kidlen _) h1 s1 s2 s3 s5 h, s1, s2, s3, s4, s5]
      rfl
theorem sameR_refl : ∀ vs : List AttrT, sameR vs vs = true
  | [] => rfl
  | a :: vs => by
    rw [sameR, sameR_refl vs]
    unfold same1
    rw [seqr, seqr]
    simp
theorem sameTs_refl : ∀ (ks : List TreeT), (∀ t ∈ ks, sameT t t = true) → sameTs ks ks = true
  | [], _ => rfl
  | t :: ts, h => by rw [sameTs, h t (by simp), sameTs_refl ts (fun u hu => h u (by simp [hu]))]; rfl
theorem sameT_refl : ∀ t, sameT t t = true := by
  refine TreeT.ind fun tag text key vs ks hk => ?_
  rw [sameT, seqr, seqr, seqr, kids_eq, sameTs_refl ks hk]
  unfold sameL
  rw [sameR_refl]
  simp
theorem s_law08_up : evl (envV realAr) (.call 25 [] []) = some (.ret (.s (.bool true)) []) := evl_of (n := 60) (by kernel_rfl)
theorem treeTells_law (t u : TreeT) : evl (envV realAr) (.call 6 [treeA t, treeA u] []) = some (.ret (.s (.bool true)) []) := by
  obtain ⟨c1, a1, a2, a3, a4⟩ := many_ok t 60 (Nat.le_refl _)
  obtain ⟨c2, b1, b2, b3, b4⟩ := many_ok u 60 (Nat.le_refl _)
  have l60 : ∀ n : Nat, realAr.lt 60 (.ofNat n) = decide (60 < n) := fun n => by
    rw [realAr_lt']
    congr 1
    simp only [Int.ofNat_eq_natCast, eq_iff_iff]
    omega
  by_cases h1 : 60 < c1
  · cases t
    cases u
    rw [treeA] at a1
    rw [treeA, treeA]
    exact eq_tt_a realAr realAr_ok _ _ _ _ _ _ _ _ _ _ c1 s_law08_up a1 (by rw [l60]; exact decide_eq_true h1)
  · by_cases h2 : 60 < c2
    · cases t
      cases u
      rw [treeA] at a1 b1
      rw [treeA, treeA]
      exact eq_tt_b realAr realAr_ok _ _ _ _ _ _ _ _ _ _ c1 c2 s_law08_up a1 b1 (by rw [l60]; exact decide_eq_false h1) (by rw [l60]; exact decide_eq_true h2)
    · obtain ⟨hc, hok⟩ := a4 (by omega)
      have hb : cntT t ≤ 1000 := by omega
      have k3 := s_tree_May t hok hb
      have k4 := s_ref08_May t hok hb
      have k5 := s_tree_Count t hb
      have k6 := s_ref08_Count t hb
      have k7 := s_tree_Same t hb hok u
      have k8 := s_ref08_Same t hb hok u
      have k9 := s_tree_Same t hb hok t
      rw [sameT_refl] at k9
      have kn : realAr.eq (.ofNat (cntT t)) (.ofNat (cntT t)) = true := by rw [kids_eq]; simp
      revert k3 k4 k5 k6 k7 k8 k9 kn
      generalize mayT t = q1
      generalize sameT t u = q2
      generalize cntT t = nn
      intro k3 k4 k5 k6 k7 k8 k9 kn
      cases t
      cases u
      rw [treeA] at a1 b1 k3 k4 k5 k6 k7 k8 k9
      rw [treeA] at k7 k8
      rw [treeA, treeA]
      exact eq_tt realAr realAr_ok _ _ _ _ _ nn _ _ _ _ _ c1 c2 q1 q2 s_law08_up a1 b1 k3 k4 k5 k6 k7 k8 k9 kn
end Go.Va
