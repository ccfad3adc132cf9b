/- The functions that the statement reaches, by equations: no statement of its own. -/
import Derived.Test.YtmklimlepgiffabEq12
set_option linter.unusedVariables false
set_option linter.unusedSimpArgs false
set_option linter.unusedSectionVars false
namespace Go.Va
open Go.Proofs
set_option maxRecDepth 100000
set_option maxHeartbeats 4000000
section
variable (A : Ar) (hA : ArOk A) (p q : Perm) (hpq : p = .imm ∧ q = .imm ∨ p = .full ∧ q = .ro ∨ p = .ro ∧ q = .full) (ws us : List AV) (n m i : Nat) (s : Bool)
include hA hpq
theorem lp_alike_end (e0 : ws.length = n) (h1 : A.lt (.ofNat i) (.ofNat n) = false) :
    lpOf (envV A) 41 bd41 4 (stK p q ws us i) = some (.code (.exit 0) (stKe p q ws us i)) := by
  unfold stK stKe
  rcases hpq with ⟨rfl, rfl⟩ | ⟨rfl, rfl⟩ | ⟨rfl, rfl⟩
  ·
    rw [lp_step (envV A) 41 (c0 := bd41) (lv := lvF41) rfl rfl]
    have hnle := hA.nleE; have hneq := hA.neqE
    have klt := hA.lt; have kle := hA.le; have keq := hA.eq; have knle := hA.nle; have kneq := hA.neq
    generalize lpOf (envV A) 41 bd41 = LP
    generalize evl (envV A) = E at e0 h1 ⊢
    obtain ⟨aadd, asub, amul, arem, aquo, awr, ashr, aeq, alt, ale, aseq, aslt, acat, acut, asiz, aat, anle, aneq, afit⟩ := A
    simp only at hnle hneq
    subst hnle hneq
    simp only at klt kle keq knle kneq
    try simp only at h1
    conv at e0 => lhs; cbv
    cbv
    rewrite [e0]
    cbv
    rewrite [h1]
    cbv
  ·
    rw [lp_step (envV A) 41 (c0 := bd41) (lv := lvF41) rfl rfl]
    have hnle := hA.nleE; have hneq := hA.neqE
    have klt := hA.lt; have kle := hA.le; have keq := hA.eq; have knle := hA.nle; have kneq := hA.neq
    generalize lpOf (envV A) 41 bd41 = LP
    generalize evl (envV A) = E at e0 h1 ⊢
    obtain ⟨aadd, asub, amul, arem, aquo, awr, ashr, aeq, alt, ale, aseq, aslt, acat, acut, asiz, aat, anle, aneq, afit⟩ := A
    simp only at hnle hneq
    subst hnle hneq
    simp only at klt kle keq knle kneq
    try simp only at h1
    conv at e0 => lhs; cbv
    cbv
    rewrite [e0]
    cbv
    rewrite [h1]
    cbv
  ·
    rw [lp_step (envV A) 41 (c0 := bd41) (lv := lvF41) rfl rfl]
    have hnle := hA.nleE; have hneq := hA.neqE
    have klt := hA.lt; have kle := hA.le; have keq := hA.eq; have knle := hA.nle; have kneq := hA.neq
    generalize lpOf (envV A) 41 bd41 = LP
    generalize evl (envV A) = E at e0 h1 ⊢
    obtain ⟨aadd, asub, amul, arem, aquo, awr, ashr, aeq, alt, ale, aseq, aslt, acat, acut, asiz, aat, anle, aneq, afit⟩ := A
    simp only at hnle hneq
    subst hnle hneq
    simp only at klt kle keq knle kneq
    try simp only at h1
    conv at e0 => lhs; cbv
    cbv
    rewrite [e0]
    cbv
    rewrite [h1]
    cbv
theorem eq_alike_ne (e0 : ws.length = n) (e1 : us.length = m) (h1 : A.eq (.ofNat n) (.ofNat m) = false) :
    evl (envV A) (.call 41 [.sl 6 ws p, .sl 6 us q] []) = some (.ret (.s (.bool false)) []) := by
  rcases hpq with ⟨rfl, rfl⟩ | ⟨rfl, rfl⟩ | ⟨rfl, rfl⟩
  ·
    rw [evl_fn (envV A) 41 _ _ (fn := Try.f41) (c := bd41) (lv := lvF41) rfl rfl rfl rfl rfl rfl]
    have hnle := hA.nleE; have hneq := hA.neqE
    have klt := hA.lt; have kle := hA.le; have keq := hA.eq; have knle := hA.nle; have kneq := hA.neq
    generalize lpOf (envV A) 41 bd41 = LP
    generalize evl (envV A) = E at e0 e1 h1 ⊢
    obtain ⟨aadd, asub, amul, arem, aquo, awr, ashr, aeq, alt, ale, aseq, aslt, acat, acut, asiz, aat, anle, aneq, afit⟩ := A
    simp only at hnle hneq
    subst hnle hneq
    simp only at klt kle keq knle kneq
    try simp only at h1
    conv at e0 => lhs; cbv
    conv at e1 => lhs; cbv
    cbv
    rewrite [e0]
    cbv
    rewrite [e1]
    cbv
    rewrite [h1]
    cbv
  ·
    rw [evl_fn (envV A) 41 _ _ (fn := Try.f41) (c := bd41) (lv := lvF41) rfl rfl rfl rfl rfl rfl]
    have hnle := hA.nleE; have hneq := hA.neqE
    have klt := hA.lt; have kle := hA.le; have keq := hA.eq; have knle := hA.nle; have kneq := hA.neq
    generalize lpOf (envV A) 41 bd41 = LP
    generalize evl (envV A) = E at e0 e1 h1 ⊢
    obtain ⟨aadd, asub, amul, arem, aquo, awr, ashr, aeq, alt, ale, aseq, aslt, acat, acut, asiz, aat, anle, aneq, afit⟩ := A
    simp only at hnle hneq
    subst hnle hneq
    simp only at klt kle keq knle kneq
    try simp only at h1
    conv at e0 => lhs; cbv
    conv at e1 => lhs; cbv
    cbv
    rewrite [e0]
    cbv
    rewrite [e1]
    cbv
    rewrite [h1]
    cbv
  ·
    rw [evl_fn (envV A) 41 _ _ (fn := Try.f41) (c := bd41) (lv := lvF41) rfl rfl rfl rfl rfl rfl]
    have hnle := hA.nleE; have hneq := hA.neqE
    have klt := hA.lt; have kle := hA.le; have keq := hA.eq; have knle := hA.nle; have kneq := hA.neq
    generalize lpOf (envV A) 41 bd41 = LP
    generalize evl (envV A) = E at e0 e1 h1 ⊢
    obtain ⟨aadd, asub, amul, arem, aquo, awr, ashr, aeq, alt, ale, aseq, aslt, acat, acut, asiz, aat, anle, aneq, afit⟩ := A
    simp only at hnle hneq
    subst hnle hneq
    simp only at klt kle keq knle kneq
    try simp only at h1
    conv at e0 => lhs; cbv
    conv at e1 => lhs; cbv
    cbv
    rewrite [e0]
    cbv
    rewrite [e1]
    cbv
    rewrite [h1]
    cbv
theorem eq_alike (e0 : ws.length = n) (e1 : us.length = m) (h1 : A.eq (.ofNat n) (.ofNat m) = true)
    (h2 : lpOf (envV A) 41 bd41 4 (stK p q ws us 0) = bif s then some (.code (.exit 0) (stKe p q ws us i)) else some (.code .ret stK0)) :
    evl (envV A) (.call 41 [.sl 6 ws p, .sl 6 us q] []) = some (.ret (.s (.bool s)) []) := by
  unfold stK stKe stK0 at h2
  simp only [show Int.ofNat 0 = 0 from rfl] at h2
  rcases hpq with ⟨rfl, rfl⟩ | ⟨rfl, rfl⟩ | ⟨rfl, rfl⟩ <;> cases s <;> simp only [cond_true, cond_false] at h2
  ·
    rw [evl_fn (envV A) 41 _ _ (fn := Try.f41) (c := bd41) (lv := lvF41) rfl rfl rfl rfl rfl rfl]
    have hnle := hA.nleE; have hneq := hA.neqE
    have klt := hA.lt; have kle := hA.le; have keq := hA.eq; have knle := hA.nle; have kneq := hA.neq
    rw [lp_split (lpOf (envV A) 41 bd41) 4]
    generalize lpOf (envV A) 41 bd41 4 = L4 at e0 e1 h1 h2 ⊢
    generalize lpOf (envV A) 41 bd41 = LP
    generalize evl (envV A) = E at e0 e1 h1 h2 ⊢
    obtain ⟨aadd, asub, amul, arem, aquo, awr, ashr, aeq, alt, ale, aseq, aslt, acat, acut, asiz, aat, anle, aneq, afit⟩ := A
    simp only at hnle hneq
    subst hnle hneq
    simp only at klt kle keq knle kneq
    try simp only at h1 h2
    conv at e0 => lhs; cbv
    conv at e1 => lhs; cbv
    cbv
    rewrite [e0]
    cbv
    rewrite [e1]
    cbv
    rewrite [h1]
    cbv
    rewrite [h2]
    cbv
  ·
    rw [evl_fn (envV A) 41 _ _ (fn := Try.f41) (c := bd41) (lv := lvF41) rfl rfl rfl rfl rfl rfl]
    have hnle := hA.nleE; have hneq := hA.neqE
    have klt := hA.lt; have kle := hA.le; have keq := hA.eq; have knle := hA.nle; have kneq := hA.neq
    rw [lp_split (lpOf (envV A) 41 bd41) 4]
    generalize lpOf (envV A) 41 bd41 4 = L4 at e0 e1 h1 h2 ⊢
    generalize lpOf (envV A) 41 bd41 = LP
    generalize evl (envV A) = E at e0 e1 h1 h2 ⊢
    obtain ⟨aadd, asub, amul, arem, aquo, awr, ashr, aeq, alt, ale, aseq, aslt, acat, acut, asiz, aat, anle, aneq, afit⟩ := A
    simp only at hnle hneq
    subst hnle hneq
    simp only at klt kle keq knle kneq
    try simp only at h1 h2
    conv at e0 => lhs; cbv
    conv at e1 => lhs; cbv
    cbv
    rewrite [e0]
    cbv
    rewrite [e1]
    cbv
    rewrite [h1]
    cbv
    rewrite [h2]
    cbv
  ·
    rw [evl_fn (envV A) 41 _ _ (fn := Try.f41) (c := bd41) (lv := lvF41) rfl rfl rfl rfl rfl rfl]
    have hnle := hA.nleE; have hneq := hA.neqE
    have klt := hA.lt; have kle := hA.le; have keq := hA.eq; have knle := hA.nle; have kneq := hA.neq
    rw [lp_split (lpOf (envV A) 41 bd41) 4]
    generalize lpOf (envV A) 41 bd41 4 = L4 at e0 e1 h1 h2 ⊢
    generalize lpOf (envV A) 41 bd41 = LP
    generalize evl (envV A) = E at e0 e1 h1 h2 ⊢
    obtain ⟨aadd, asub, amul, arem, aquo, awr, ashr, aeq, alt, ale, aseq, aslt, acat, acut, asiz, aat, anle, aneq, afit⟩ := A
    simp only at hnle hneq
    subst hnle hneq
    simp only at klt kle keq knle kneq
    try simp only at h1 h2
    conv at e0 => lhs; cbv
    conv at e1 => lhs; cbv
    cbv
    rewrite [e0]
    cbv
    rewrite [e1]
    cbv
    rewrite [h1]
    cbv
    rewrite [h2]
    cbv
  ·
    rw [evl_fn (envV A) 41 _ _ (fn := Try.f41) (c := bd41) (lv := lvF41) rfl rfl rfl rfl rfl rfl]
    have hnle := hA.nleE; have hneq := hA.neqE
    have klt := hA.lt; have kle := hA.le; have keq := hA.eq; have knle := hA.nle; have kneq := hA.neq
    rw [lp_split (lpOf (envV A) 41 bd41) 4]
    generalize lpOf (envV A) 41 bd41 4 = L4 at e0 e1 h1 h2 ⊢
    generalize lpOf (envV A) 41 bd41 = LP
    generalize evl (envV A) = E at e0 e1 h1 h2 ⊢
    obtain ⟨aadd, asub, amul, arem, aquo, awr, ashr, aeq, alt, ale, aseq, aslt, acat, acut, asiz, aat, anle, aneq, afit⟩ := A
    simp only at hnle hneq
    subst hnle hneq
    simp only at klt kle keq knle kneq
    try simp only at h1 h2
    conv at e0 => lhs; cbv
    conv at e1 => lhs; cbv
    cbv
    rewrite [e0]
    cbv
    rewrite [e1]
    cbv
    rewrite [h1]
    cbv
    rewrite [h2]
    cbv
  ·
    rw [evl_fn (envV A) 41 _ _ (fn := Try.f41) (c := bd41) (lv := lvF41) rfl rfl rfl rfl rfl rfl]
    have hnle := hA.nleE; have hneq := hA.neqE
    have klt := hA.lt; have kle := hA.le; have keq := hA.eq; have knle := hA.nle; have kneq := hA.neq
    rw [lp_split (lpOf (envV A) 41 bd41) 4]
    generalize lpOf (envV A) 41 bd41 4 = L4 at e0 e1 h1 h2 ⊢
    generalize lpOf (envV A) 41 bd41 = LP
    generalize evl (envV A) = E at e0 e1 h1 h2 ⊢
    obtain ⟨aadd, asub, amul, arem, aquo, awr, ashr, aeq, alt, ale, aseq, aslt, acat, acut, asiz, aat, anle, aneq, afit⟩ := A
    simp only at hnle hneq
    subst hnle hneq
    simp only at klt kle keq knle kneq
    try simp only at h1 h2
    conv at e0 => lhs; cbv
    conv at e1 => lhs; cbv
    cbv
    rewrite [e0]
    cbv
    rewrite [e1]
    cbv
    rewrite [h1]
    cbv
    rewrite [h2]
    cbv
  ·
    rw [evl_fn (envV A) 41 _ _ (fn := Try.f41) (c := bd41) (lv := lvF41) rfl rfl rfl rfl rfl rfl]
    have hnle := hA.nleE; have hneq := hA.neqE
    have klt := hA.lt; have kle := hA.le; have keq := hA.eq; have knle := hA.nle; have kneq := hA.neq
    rw [lp_split (lpOf (envV A) 41 bd41) 4]
    generalize lpOf (envV A) 41 bd41 4 = L4 at e0 e1 h1 h2 ⊢
    generalize lpOf (envV A) 41 bd41 = LP
    generalize evl (envV A) = E at e0 e1 h1 h2 ⊢
    obtain ⟨aadd, asub, amul, arem, aquo, awr, ashr, aeq, alt, ale, aseq, aslt, acat, acut, asiz, aat, anle, aneq, afit⟩ := A
    simp only at hnle hneq
    subst hnle hneq
    simp only at klt kle keq knle kneq
    try simp only at h1 h2
    conv at e0 => lhs; cbv
    conv at e1 => lhs; cbv
    cbv
    rewrite [e0]
    cbv
    rewrite [e1]
    cbv
    rewrite [h1]
    cbv
    rewrite [h2]
    cbv
end
/-! whether the same is wanted, plainly -/
mutual
def sameW : WT → WT → Bool
  | .node k tag key text ats ks, .node k2 tag2 key2 text2 ats2 ks2 => bif realAr.eq k k2 then (bif realAr.seq tag tag2 then (bif realAr.seq key key2 then (bif realAr.seq text text2 then (bif sameL ats ats2 then (bif decide (ks.length = ks2.length) then sameWs ks ks2 else false) else false) else false) else false) else false) else false
def sameWs : List WT → List WT → Bool
  | t :: ts, u :: us => sameW t u && sameWs ts us
  | _, _ => true
end
def likeW (ws us : List WT) : Bool := bif decide (ws.length = us.length) then sameWs ws us else false
theorem sameWs_drop (ks ls : List WT) {i : Nat} (h : i < ks.length) (h2 : i < ls.length) : sameWs (ks.drop i) (ls.drop i) = (sameW ks[i] ls[i] && sameWs (ks.drop (i + 1)) (ls.drop (i + 1))) := by
  rw [List.drop_eq_getElem_cons h, List.drop_eq_getElem_cons h2, sameWs]
mutual
def atsW : WT → Nat
  | .node _ _ _ _ ats ks => ats.length + atsWs ks
def atsWs : List WT → Nat
  | [] => 0
  | t :: ts => atsW t + atsWs ts
end
def atlW : WT → List AtT
  | .node _ _ _ _ ats _ => ats
theorem atsWs_mem : ∀ {l : List WT} {t : WT}, t ∈ l → atsW t ≤ atsWs l
  | a :: l, t, h => by
    rcases List.mem_cons.1 h with rfl | h
    · simp only [atsWs]; omega
    · have := atsWs_mem h
      simp only [atsWs]; omega
theorem lp_sameK (p : Perm) (hp : p = .ro ∨ p = .imm) (ks ls : List WT) (hk : ∀ t ∈ ks, ∀ u, evl (envV realAr) (.call 83 [wtA t, wtA u] []) = some (.ret (.s (.bool (sameW t u))) [])) (hl : ks.length ≤ 1000) (he : ks.length = ls.length) : ∀ (m i : Nat), m + i = ks.length →
    lpOf (envV realAr) 82 bd82 4 (stQ p (wtsA ks) (wtsA ls) ks.length i) = bif sameWs (ks.drop i) (ls.drop i) then some (.code (.exit 0) (stQe p (wtsA ks) (wtsA ls) ks.length ks.length)) else some (.code .ret stQ0)
  | 0, i, h => by
    have : i = ks.length := by omega
    subst this
    rw [List.drop_length]
    exact lp_eqf_end realAr realAr_ok p hp (ws := wtsA ks) (us := wtsA ls) (n := ks.length) (i := ks.length) (h1 := nlt_f (Nat.le_refl _))
  | m + 1, i, h => by
    have hi : i < ks.length := by omega
    have hj : i < ls.length := by omega
    have e1 := hk ks[i] (List.getElem_mem hi) ls[i]
    have hg := wts_get hi
    have hg2 := wts_get hj
    rw [sameWs_drop ks ls hi hj]
    have hnext := lp_sameK p hp ks ls hk hl he m (i + 1) (by omega)
    have hlt : realAr.lt (.ofNat i) (.ofNat ks.length) = true := nlt_t hi
    have hadd : realAr.add .i64 (.ofNat i) 1 = .ofNat (Nat.succ i) := ninc (by omega)
    have hb : Nat.ble (Nat.succ i) ks.length = true := hble (by omega)
    have key2 : ∀ r, lpOf (envV realAr) 82 bd82 4 (stQ p (wtsA ks) (wtsA ls) ks.length (Nat.succ i)) = r →
        lpOf (envV realAr) 82 bd82 4 (stQ p (wtsA ks) (wtsA ls) ks.length i) = bif sameW ks[i] ls[i] then r else some (.code .ret stQ0) := by
      intro r hr
      generalize hs : sameW ks[i] ls[i] = s at e1
      clear hs
      cases hx : ks[i] with
      | node k tag key text ats kk =>
        cases hy : ls[i] with
        | node k2 tag2 key2 text2 ats2 kk2 =>
          rw [hx, hy] at e1
          rw [hx] at hg
          rw [hy] at hg2
          unfold wtA at hg hg2 e1
          exact lp_eqf realAr realAr_ok p hp (ws := wtsA ks) (us := wtsA ls) (n := ks.length) (i := i) (kd := k) (kd2 := k2) (tag := tag) (key := key) (text := text) (tag2 := tag2) (key2 := key2) (text2 := text2) (ats := ats.map atA) (ats2 := ats2.map atA) (ks := wtsA kk) (ks2 := wtsA kk2) (s := s) (e0 := wts_len ks) (e1 := hg) (e2 := hb) (e3 := hg2) (e4 := by rw [wts_len, he]) (h1 := hlt) (h2 := hadd) (h3 := e1) (hr := hr)
    rw [key2 _ hnext]
    cases sameW ks[i] ls[i] <;> cases sameWs (ks.drop (i + 1)) (ls.drop (i + 1)) <;> rfl
theorem s_SameL (p : Perm) (hp : p = .ro ∨ p = .imm) (ks ls : List WT) (hk : ∀ t ∈ ks, ∀ u, evl (envV realAr) (.call 83 [wtA t, wtA u] []) = some (.ret (.s (.bool (sameW t u))) [])) (hl : ks.length ≤ 1000) :
    evl (envV realAr) (.call 43 [.sl 6 (wtsA ks) p, .sl 6 (wtsA ls) p] []) = some (.ret (.s (.bool (likeW ks ls))) []) := by
  refine eq_wish_Same realAr realAr_ok p hp (ws := wtsA ks) (us := wtsA ls) (s := likeW ks ls) (h1 := ?_)
  unfold likeW
  by_cases he : ks.length = ls.length
  · rw [decide_eq_true he, cond_true]
    have h := lp_sameK p hp ks ls hk hl he ks.length 0 (by omega)
    rw [List.drop_zero, List.drop_zero] at h
    exact eq_eqf realAr realAr_ok p hp (ws := wtsA ks) (us := wtsA ls) (n := ks.length) (m := ls.length) (i := ks.length) (s := sameWs ks ls) (e0 := wts_len ks) (e1 := wts_len ls) (h1 := by rw [len_eq]; exact decide_eq_true he) (h2 := h)
  · rw [decide_eq_false he, cond_false]
    exact eq_eqf_ne realAr realAr_ok p hp (ws := wtsA ks) (us := wtsA ls) (n := ks.length) (m := ls.length) (e0 := wts_len ks) (e1 := wts_len ls) (h1 := by rw [len_eq]; exact decide_eq_false he)
theorem s_same : ∀ t : WT, szW t + atsW t ≤ 1000 → ∀ u, evl (envV realAr) (.call 83 [wtA t, wtA u] []) = some (.ret (.s (.bool (sameW t u))) []) := by
  intro t
  induction t using WT.ind with
  | h k tag key text ats ks ih =>
    intro hs u
    have hsz : ∀ t ∈ ks, szW t + atsW t ≤ 1000 := fun t ht => by
      have h1 := szWs_mem ht
      have h2 := atsWs_mem ht
      simp only [szW, atsW] at hs
      omega
    have hkl := szWs_len ks
    simp only [szW, atsW] at hs
    cases u with
    | node k2 tag2 key2 text2 ats2 ks2 =>
      have h2 := s_SameL .imm (.inr rfl) ks ks2 (fun t ht u => ih t ht (hsz t ht) u) (by omega)
      have h1 := s_slices_Equal ats ats2 (by omega)
      unfold wtA sameW
      refine (eq_wish_same realAr realAr_ok (kd := k) (kd2 := k2) (tag := tag) (key := key) (text := text) (tag2 := tag2) (key2 := key2) (text2 := text2) (ats := ats.map atA) (ats2 := ats2.map atA) (ks := wtsA ks) (ks2 := wtsA ks2) (ma := sameL ats ats2) (mk := likeW ks ks2) (h1 := h1) (h2 := h2)).trans ?_
      rfl
theorem s_Same (ks ls : List WT) (h : szWs ks + atsWs ks ≤ 1000) : evl (envV realAr) (.call 43 [.sl 6 (wtsA ks) .ro, .sl 6 (wtsA ls) .ro] []) = some (.ret (.s (.bool (likeW ks ls))) []) := by
  have hkl := szWs_len ks
  exact s_SameL .ro (.inl rfl) ks ls (fun t ht u => s_same t (by have h1 := szWs_mem ht; have h2 := atsWs_mem ht; omega) u) (by omega)
section
variable (p q : Perm) (hpq : p = .imm ∧ q = .imm ∨ p = .full ∧ q = .ro ∨ p = .ro ∧ q = .full)
include hpq
theorem lp_alikeK (ks ls : List WT) (ha : ∀ t ∈ ks, ∀ u, evl (envV realAr) (.call 78 [.sl 3 ((atlW t).map atA) .imm, .sl 3 ((atlW u).map atA) .imm] []) = some (.ret (.s (.bool (sameL (atlW t) (atlW u)))) []))
    (hk : ∀ t ∈ ks, ∀ u, evl (envV realAr) (.call 41 [.sl 6 (wtsA (kidsW t)) .imm, .sl 6 (wtsA (kidsW u)) .imm] []) = some (.ret (.s (.bool (likeW (kidsW t) (kidsW u)))) [])) (hl : ks.length ≤ 1000) (he : ks.length = ls.length) : ∀ (m i : Nat), m + i = ks.length →
    lpOf (envV realAr) 41 bd41 4 (stK p q (wtsA ks) (wtsA ls) i) = bif sameWs (ks.drop i) (ls.drop i) then some (.code (.exit 0) (stKe p q (wtsA ks) (wtsA ls) ks.length)) else some (.code .ret stK0)
  | 0, i, h => by
    have : i = ks.length := by omega
    subst this
    rw [List.drop_length]
    exact lp_alike_end realAr realAr_ok p q hpq (ws := wtsA ks) (us := wtsA ls) (n := ks.length) (i := ks.length) (e0 := wts_len ks) (h1 := nlt_f (Nat.le_refl _))
  | m + 1, i, h => by
    have hi : i < ks.length := by omega
    have hj : i < ls.length := by omega
    have e1 := hk ks[i] (List.getElem_mem hi) ls[i]
    have e2 := ha ks[i] (List.getElem_mem hi) ls[i]
    have hg := wts_get hi
    have hg2 := wts_get hj
    rw [sameWs_drop ks ls hi hj]
    have hnext := lp_alikeK ks ls ha hk hl he m (i + 1) (by omega)
    have hlt : realAr.lt (.ofNat i) (.ofNat ks.length) = true := nlt_t hi
    have hadd : realAr.add .i64 (.ofNat i) 1 = .ofNat (Nat.succ i) := ninc (by omega)
    have hb : Nat.ble (Nat.succ i) ks.length = true := hble (by omega)
    have key2 : ∀ r, lpOf (envV realAr) 41 bd41 4 (stK p q (wtsA ks) (wtsA ls) (Nat.succ i)) = r →
        lpOf (envV realAr) 41 bd41 4 (stK p q (wtsA ks) (wtsA ls) i) = bif sameW ks[i] ls[i] then r else some (.code .ret stK0) := by
      intro r hr
      cases hx : ks[i] with
      | node k tag key text ats kk =>
        cases hy : ls[i] with
        | node k2 tag2 key2 text2 ats2 kk2 =>
          rw [hx, hy] at e1 e2
          rw [hx] at hg
          rw [hy] at hg2
          simp only [kidsW] at e1
          simp only [atlW] at e2
          unfold wtA at hg hg2
          unfold sameW
          have hw : (bif decide (kk.length = kk2.length) then sameWs kk kk2 else false) = likeW kk kk2 := rfl
          rw [hw]
          cases ma : sameL ats ats2 with
          | false =>
            rw [ma] at e2
            rw [lp_alike_ma realAr realAr_ok p q hpq (ws := wtsA ks) (us := wtsA ls) (n := ks.length) (i := i) (kd := k) (kd2 := k2) (tag := tag) (key := key) (text := text) (tag2 := tag2) (key2 := key2) (text2 := text2) (ats := ats.map atA) (ats2 := ats2.map atA) (ks := wtsA kk) (ks2 := wtsA kk2) (mk := likeW kk kk2) (e0 := wts_len ks) (e1 := hg) (e2 := hb) (e3 := hg2) (e4 := by rw [wts_len, he]) (e5 := Nat.zero_add _) (h1 := hlt) (h2 := hadd) (h3 := e2) (h4 := e1)]
            cases realAr.eq k k2 <;> cases realAr.seq tag tag2 <;> cases realAr.seq key key2 <;> cases realAr.seq text text2 <;> rfl
          | true =>
            rw [ma] at e2
            cases mk : likeW kk kk2 with
            | false =>
              rw [mk] at e1
              rw [lp_alike_mk realAr realAr_ok p q hpq (ws := wtsA ks) (us := wtsA ls) (n := ks.length) (i := i) (kd := k) (kd2 := k2) (tag := tag) (key := key) (text := text) (tag2 := tag2) (key2 := key2) (text2 := text2) (ats := ats.map atA) (ats2 := ats2.map atA) (ks := wtsA kk) (ks2 := wtsA kk2) (e0 := wts_len ks) (e1 := hg) (e2 := hb) (e3 := hg2) (e4 := by rw [wts_len, he]) (e5 := Nat.zero_add _) (h1 := hlt) (h2 := hadd) (h3 := e2) (h4 := e1)]
              cases realAr.eq k k2 <;> cases realAr.seq tag tag2 <;> cases realAr.seq key key2 <;> cases realAr.seq text text2 <;> rfl
            | true =>
              rw [mk] at e1
              cases h5 : realAr.eq k k2 with
              | false => exact lp_alike_kd realAr realAr_ok p q hpq (ws := wtsA ks) (us := wtsA ls) (n := ks.length) (i := i) (kd := k) (kd2 := k2) (tag := tag) (key := key) (text := text) (tag2 := tag2) (key2 := key2) (text2 := text2) (ats := ats.map atA) (ats2 := ats2.map atA) (ks := wtsA kk) (ks2 := wtsA kk2) (e0 := wts_len ks) (e1 := hg) (e2 := hb) (e3 := hg2) (e4 := by rw [wts_len, he]) (e5 := Nat.zero_add _) (h1 := hlt) (h2 := hadd) (h3 := e2) (h4 := e1) (h5 := h5)
              | true =>
                cases h6 : realAr.seq tag tag2 with
                | false => exact lp_alike_tag realAr realAr_ok p q hpq (ws := wtsA ks) (us := wtsA ls) (n := ks.length) (i := i) (kd := k) (kd2 := k2) (tag := tag) (key := key) (text := text) (tag2 := tag2) (key2 := key2) (text2 := text2) (ats := ats.map atA) (ats2 := ats2.map atA) (ks := wtsA kk) (ks2 := wtsA kk2) (e0 := wts_len ks) (e1 := hg) (e2 := hb) (e3 := hg2) (e4 := by rw [wts_len, he]) (e5 := Nat.zero_add _) (h1 := hlt) (h2 := hadd) (h3 := e2) (h4 := e1) (h5 := h5) (h6 := h6)
                | true =>
                  cases h7 : realAr.seq key key2 with
                  | false => exact lp_alike_key realAr realAr_ok p q hpq (ws := wtsA ks) (us := wtsA ls) (n := ks.length) (i := i) (kd := k) (kd2 := k2) (tag := tag) (key := key) (text := text) (tag2 := tag2) (key2 := key2) (text2 := text2) (ats := ats.map atA) (ats2 := ats2.map atA) (ks := wtsA kk) (ks2 := wtsA kk2) (e0 := wts_len ks) (e1 := hg) (e2 := hb) (e3 := hg2) (e4 := by rw [wts_len, he]) (e5 := Nat.zero_add _) (h1 := hlt) (h2 := hadd) (h3 := e2) (h4 := e1) (h5 := h5) (h6 := h6) (h7 := h7)
                  | true =>
                    cases h8 : realAr.seq text text2 with
                    | false => exact lp_alike_text realAr realAr_ok p q hpq (ws := wtsA ks) (us := wtsA ls) (n := ks.length) (i := i) (kd := k) (kd2 := k2) (tag := tag) (key := key) (text := text) (tag2 := tag2) (key2 := key2) (text2 := text2) (ats := ats.map atA) (ats2 := ats2.map atA) (ks := wtsA kk) (ks2 := wtsA kk2) (e0 := wts_len ks) (e1 := hg) (e2 := hb) (e3 := hg2) (e4 := by rw [wts_len, he]) (e5 := Nat.zero_add _) (h1 := hlt) (h2 := hadd) (h3 := e2) (h4 := e1) (h5 := h5) (h6 := h6) (h7 := h7) (h8 := h8)
                    | true => exact lp_alike_on realAr realAr_ok p q hpq (ws := wtsA ks) (us := wtsA ls) (n := ks.length) (i := i) (kd := k) (kd2 := k2) (tag := tag) (key := key) (text := text) (tag2 := tag2) (key2 := key2) (text2 := text2) (ats := ats.map atA) (ats2 := ats2.map atA) (ks := wtsA kk) (ks2 := wtsA kk2) (e0 := wts_len ks) (e1 := hg) (e2 := hb) (e3 := hg2) (e4 := by rw [wts_len, he]) (e5 := Nat.zero_add _) (h1 := hlt) (h2 := hadd) (h3 := e2) (h4 := e1) (h5 := h5) (h6 := h6) (h7 := h7) (h8 := h8) (hr := hr)
    rw [key2 _ hnext]
    cases sameW ks[i] ls[i] <;> cases sameWs (ks.drop (i + 1)) (ls.drop (i + 1)) <;> rfl
theorem s_AlikeL (ks ls : List WT) (hz : szWs ks + atsWs ks ≤ 1000) (hk : ∀ t ∈ ks, ∀ u, evl (envV realAr) (.call 41 [.sl 6 (wtsA (kidsW t)) .imm, .sl 6 (wtsA (kidsW u)) .imm] []) = some (.ret (.s (.bool (likeW (kidsW t) (kidsW u)))) [])) :
    evl (envV realAr) (.call 41 [.sl 6 (wtsA ks) p, .sl 6 (wtsA ls) q] []) = some (.ret (.s (.bool (likeW ks ls))) []) := by
  have hkl := szWs_len ks
  unfold likeW
  by_cases he : ks.length = ls.length
  · rw [decide_eq_true he, cond_true]
    have h := lp_alikeK p q hpq ks ls (fun t ht u => by
      have h2 := atsWs_mem ht
      refine s_ref01_Same _ _ ?_
      cases t
      simp only [atsW] at h2
      simp only [atlW]
      omega) hk (by omega) he ks.length 0 (by omega)
    rw [List.drop_zero, List.drop_zero] at h
    exact eq_alike realAr realAr_ok p q hpq (ws := wtsA ks) (us := wtsA ls) (n := ks.length) (m := ls.length) (i := ks.length) (s := sameWs ks ls) (e0 := wts_len ks) (e1 := wts_len ls) (h1 := by rw [len_eq]; exact decide_eq_true he) (h2 := h)
  · rw [decide_eq_false he, cond_false]
    exact eq_alike_ne realAr realAr_ok p q hpq (ws := wtsA ks) (us := wtsA ls) (n := ks.length) (m := ls.length) (e0 := wts_len ks) (e1 := wts_len ls) (h1 := by rw [len_eq]; exact decide_eq_false he)
end
theorem s_AlikeK : ∀ t : WT, szW t + atsW t ≤ 1000 → ∀ u, evl (envV realAr) (.call 41 [.sl 6 (wtsA (kidsW t)) .imm, .sl 6 (wtsA (kidsW u)) .imm] []) = some (.ret (.s (.bool (likeW (kidsW t) (kidsW u)))) []) := by
  intro t
  induction t using WT.ind with
  | h k tag key text ats ks ih =>
    intro hs u
    simp only [szW, atsW] at hs
    refine s_AlikeL .imm .imm (.inl ⟨rfl, rfl⟩) ks (kidsW u) (by omega) (fun t ht u => ih t ht ?_ u)
    have h1 := szWs_mem ht
    have h2 := atsWs_mem ht
    omega
theorem s_Alike (p q : Perm) (hpq : p = .imm ∧ q = .imm ∨ p = .full ∧ q = .ro ∨ p = .ro ∧ q = .full) (ks ls : List WT) (h : szWs ks + atsWs ks ≤ 1000) : evl (envV realAr) (.call 41 [.sl 6 (wtsA ks) p, .sl 6 (wtsA ls) q] []) = some (.ret (.s (.bool (likeW ks ls))) []) :=
  s_AlikeL p q hpq ks ls h (fun t ht u => s_AlikeK t (by have h1 := szWs_mem ht; have h2 := atsWs_mem ht; omega) u)
theorem seq_rfl (a : ByteArray) : realAr.seq a a = true := seq_refl a
theorem sameR_refl : ∀ vs : List AtT, sameR vs vs = true
  | [] => rfl
  | a :: vs => by
    rw [sameR, sameR_refl vs]
    unfold same1
    rw [seq_rfl, seq_rfl]
    simp
theorem sameWs_refl : ∀ (ks : List WT), (∀ t ∈ ks, sameW t t = true) → sameWs ks ks = true
  | [], _ => rfl
  | t :: ts, h => by rw [sameWs, h t (by simp), sameWs_refl ts (fun u hu => h u (by simp [hu]))]; rfl
theorem sameW_refl : ∀ t : WT, sameW t t = true := by
  intro t
  induction t using WT.ind with
  | h k tag key text ats ks ih =>
    rw [sameW, eqT, seq_rfl, seq_rfl, seq_rfl, sameWs_refl ks ih]
    unfold sameL
    rw [sameR_refl]
    simp
theorem likeW_refl (ks : List WT) : likeW ks ks = true := by
  unfold likeW
  rw [sameWs_refl ks (fun t _ => sameW_refl t)]
  simp
end Go.Va
namespace Go.Va
open Go.Proofs
set_option maxRecDepth 100000
set_option maxHeartbeats 4000000
def stN2 (q : Bool) (xs : List AV) (i : Nat) : St := { n := 59, k := 0, fr := (0, .sl 3 xs .imm) :: (1, .s (.int .i64 (.ofNat i))) :: (bif q then [(12, .s (.bool true))] else []), O := [] }
def stN2e (xs : List AV) (i : Nat) : St := { n := 59, k := 0, fr := [(0, .sl 3 xs .imm), (1, .s (.int .i64 (.ofNat i))), (26, .s (.bool false))], O := [] }
def stN7 (xs : List AV) (d : Int) (i : Nat) : St := { n := 59, k := 0, fr := [(0, .sl 3 xs .imm), (5, .s (.int .i64 d)), (6, .s (.int .i64 (.ofNat i)))], O := [] }
def stN7r (i : Nat) : St := { n := 59, k := 0, fr := [(4, .s (.int .i64 (.ofNat i)))], O := [] }
def stOf (xs out : List AV) (i : Nat) : St := { n := 115, k := 0, fr := [(0, .sl 3 xs .imm), (3, .sl 6 out .full), (4, .s (.int .i64 (.ofNat i)))], O := [] }
def stOfe (xs out : List AV) (i : Nat) : St := { n := 115, k := 0, fr := [(0, .sl 3 xs .imm), (3, .sl 6 out .full), (4, .s (.int .i64 (.ofNat i))), (11, .s (.bool false))], O := [] }
def stOa (xs out ats : List AV) (a b : ByteArray) (i k : Nat) : St := { n := 115, k := 0, fr := [(0, .sl 3 xs .imm), (3, .sl 6 out .full), (4, .s (.int .i64 (.ofNat i))), (5, .ptr 0 0), (6, .s (.int .i64 (.ofNat k)))], O := [wC .full 1 a b ⟨#[]⟩ ats []] }
def stOae (xs out ats : List AV) (a b : ByteArray) (i k : Nat) : St := { n := 115, k := 0, fr := [(0, .sl 3 xs .imm), (3, .sl 6 out .full), (4, .s (.int .i64 (.ofNat i))), (5, .ptr 0 0), (6, .s (.int .i64 (.ofNat k))), (69, .s (.bool false))], O := [wC .full 1 a b ⟨#[]⟩ ats []] }
section
variable (A : Ar) (hA : ArOk A) (xs ys out out2 ats ats2 ks : List AV) (n m i j k t : Nat) (o o2 d d2 : Int) (a b a2 b2 : ByteArray) (q : Bool)
include hA
/-! where an element ends -/
theorem lp_en_on {r : Option Res} (e0 : xs.length = n) (e1 : lget xs (Nat.succ i) = some (.agg [.s (.int .i64 o), .s (.string a), .s (.string b)])) (e2 : Nat.ble (Nat.succ (Nat.succ i)) n = true) (h1 : A.add .i64 (.ofNat i) 1 = .ofNat (Nat.succ i)) (h2 : A.lt (.ofNat (Nat.succ i)) (.ofNat n) = true) (h3 : evl (envV A) (.call 80 [.s (.int .i64 o)] []) = some (.ret (.s (.bool true)) []))
    (hr : lpOf (envV A) 81 bd81 2 (stN2 false xs (Nat.succ i)) = r) : lpOf (envV A) 81 bd81 2 (stN2 q xs i) = r := by
  unfold stN2 at hr ⊢
  cases q <;> simp only [cond_true, cond_false] at hr ⊢
  ·
    rw [lp_step (envV A) 81 (c0 := bd81) (lv := lvF81) rfl rfl]
    have hnle := hA.nleE; have hneq := hA.neqE
    have klt := hA.lt; have kle := hA.le; have keq := hA.eq; have knle := hA.nle; have kneq := hA.neq
    rw [lp_split (lpOf (envV A) 81 bd81) 2]
    generalize lpOf (envV A) 81 bd81 2 = L2 at e0 e1 e2 h1 h2 h3 hr ⊢
    generalize lpOf (envV A) 81 bd81 = LP
    generalize evl (envV A) = E at e0 e1 e2 h1 h2 h3 hr ⊢
    obtain ⟨aadd, asub, amul, arem, aquo, awr, ashr, aeq, alt, ale, aseq, aslt, acat, acut, asiz, aat, anle, aneq, afit⟩ := A
    simp only at hnle hneq
    subst hnle hneq
    simp only at klt kle keq knle kneq
    try simp only at h1 h2 h3 hr
    conv at e0 => lhs; cbv
    conv at e1 => lhs; cbv
    conv at e2 => lhs; cbv
    cbv
    rewrite [e0]
    cbv
    rewrite [h1]
    cbv
    rewrite [h2]
    cbv
    rewrite [h1]
    cbv
    rewrite [e1]
    cbv
    rewrite [h3]
    cbv
    rewrite [h1]
    cbv
    rewrite [hr]
    cbv
  ·
    rw [lp_step (envV A) 81 (c0 := bd81) (lv := lvF81) rfl rfl]
    have hnle := hA.nleE; have hneq := hA.neqE
    have klt := hA.lt; have kle := hA.le; have keq := hA.eq; have knle := hA.nle; have kneq := hA.neq
    rw [lp_split (lpOf (envV A) 81 bd81) 2]
    generalize lpOf (envV A) 81 bd81 2 = L2 at e0 e1 e2 h1 h2 h3 hr ⊢
    generalize lpOf (envV A) 81 bd81 = LP
    generalize evl (envV A) = E at e0 e1 e2 h1 h2 h3 hr ⊢
    obtain ⟨aadd, asub, amul, arem, aquo, awr, ashr, aeq, alt, ale, aseq, aslt, acat, acut, asiz, aat, anle, aneq, afit⟩ := A
    simp only at hnle hneq
    subst hnle hneq
    simp only at klt kle keq knle kneq
    try simp only at h1 h2 h3 hr
    conv at e0 => lhs; cbv
    conv at e1 => lhs; cbv
    conv at e2 => lhs; cbv
    cbv
    rewrite [e0]
    cbv
    rewrite [h1]
    cbv
    rewrite [h2]
    cbv
    rewrite [h1]
    cbv
    rewrite [e1]
    cbv
    rewrite [h3]
    cbv
    rewrite [h1]
    cbv
    rewrite [hr]
    cbv
theorem lp_en_x (e0 : xs.length = n) (e1 : lget xs (Nat.succ i) = some (.agg [.s (.int .i64 o), .s (.string a), .s (.string b)])) (e2 : Nat.ble (Nat.succ (Nat.succ i)) n = true) (h1 : A.add .i64 (.ofNat i) 1 = .ofNat (Nat.succ i)) (h2 : A.lt (.ofNat (Nat.succ i)) (.ofNat n) = true) (h3 : evl (envV A) (.call 80 [.s (.int .i64 o)] []) = some (.ret (.s (.bool false)) [])) :
    lpOf (envV A) 81 bd81 2 (stN2 q xs i) = some (.code (.exit 0) (stN2e xs i)) := by
  unfold stN2 stN2e
  cases q <;> simp only [cond_true, cond_false]
  ·
    rw [lp_step (envV A) 81 (c0 := bd81) (lv := lvF81) rfl rfl]
    have hnle := hA.nleE; have hneq := hA.neqE
    have klt := hA.lt; have kle := hA.le; have keq := hA.eq; have knle := hA.nle; have kneq := hA.neq
    generalize lpOf (envV A) 81 bd81 = LP
    generalize evl (envV A) = E at e0 e1 e2 h1 h2 h3 ⊢
    obtain ⟨aadd, asub, amul, arem, aquo, awr, ashr, aeq, alt, ale, aseq, aslt, acat, acut, asiz, aat, anle, aneq, afit⟩ := A
    simp only at hnle hneq
    subst hnle hneq
    simp only at klt kle keq knle kneq
    try simp only at h1 h2 h3
    conv at e0 => lhs; cbv
    conv at e1 => lhs; cbv
    conv at e2 => lhs; cbv
    cbv
    rewrite [e0]
    cbv
    rewrite [h1]
    cbv
    rewrite [h2]
    cbv
    rewrite [h1]
    cbv
    rewrite [e1]
    cbv
    rewrite [h3]
    cbv
  ·
    rw [lp_step (envV A) 81 (c0 := bd81) (lv := lvF81) rfl rfl]
    have hnle := hA.nleE; have hneq := hA.neqE
    have klt := hA.lt; have kle := hA.le; have keq := hA.eq; have knle := hA.nle; have kneq := hA.neq
    generalize lpOf (envV A) 81 bd81 = LP
    generalize evl (envV A) = E at e0 e1 e2 h1 h2 h3 ⊢
    obtain ⟨aadd, asub, amul, arem, aquo, awr, ashr, aeq, alt, ale, aseq, aslt, acat, acut, asiz, aat, anle, aneq, afit⟩ := A
    simp only at hnle hneq
    subst hnle hneq
    simp only at klt kle keq knle kneq
    try simp only at h1 h2 h3
    conv at e0 => lhs; cbv
    conv at e1 => lhs; cbv
    conv at e2 => lhs; cbv
    cbv
    rewrite [e0]
    cbv
    rewrite [h1]
    cbv
    rewrite [h2]
    cbv
    rewrite [h1]
    cbv
    rewrite [e1]
    cbv
    rewrite [h3]
    cbv
theorem lp_en_nil (e0 : xs.length = n) (h1 : A.add .i64 (.ofNat i) 1 = .ofNat (Nat.succ i)) (h2 : A.lt (.ofNat (Nat.succ i)) (.ofNat n) = false) :
    lpOf (envV A) 81 bd81 2 (stN2 q xs i) = some (.code (.exit 0) (stN2e xs i)) := by
  unfold stN2 stN2e
  cases q <;> simp only [cond_true, cond_false]
  ·
    rw [lp_step (envV A) 81 (c0 := bd81) (lv := lvF81) rfl rfl]
    have hnle := hA.nleE; have hneq := hA.neqE
    have klt := hA.lt; have kle := hA.le; have keq := hA.eq; have knle := hA.nle; have kneq := hA.neq
    generalize lpOf (envV A) 81 bd81 = LP
    generalize evl (envV A) = E at e0 h1 h2 ⊢
    obtain ⟨aadd, asub, amul, arem, aquo, awr, ashr, aeq, alt, ale, aseq, aslt, acat, acut, asiz, aat, anle, aneq, afit⟩ := A
    simp only at hnle hneq
    subst hnle hneq
    simp only at klt kle keq knle kneq
    try simp only at h1 h2
    conv at e0 => lhs; cbv
    cbv
    rewrite [e0]
    cbv
    rewrite [h1]
    cbv
    rewrite [h2]
    cbv
  ·
    rw [lp_step (envV A) 81 (c0 := bd81) (lv := lvF81) rfl rfl]
    have hnle := hA.nleE; have hneq := hA.neqE
    have klt := hA.lt; have kle := hA.le; have keq := hA.eq; have knle := hA.nle; have kneq := hA.neq
    generalize lpOf (envV A) 81 bd81 = LP
    generalize evl (envV A) = E at e0 h1 h2 ⊢
    obtain ⟨aadd, asub, amul, arem, aquo, awr, ashr, aeq, alt, ale, aseq, aslt, acat, acut, asiz, aat, anle, aneq, afit⟩ := A
    simp only at hnle hneq
    subst hnle hneq
    simp only at klt kle keq knle kneq
    try simp only at h1 h2
    conv at e0 => lhs; cbv
    cbv
    rewrite [e0]
    cbv
    rewrite [h1]
    cbv
    rewrite [h2]
    cbv
theorem eq_en_void (e0 : xs.length = n) (e1 : lget xs i = some (.agg [.s (.int .i64 o), .s (.string a), .s (.string b)])) (e2 : Nat.ble (Nat.succ i) n = true) (h1 : A.eq o 3 = true) (h2 : lpOf (envV A) 81 bd81 2 (stN2 true xs i) = some (.code (.exit 0) (stN2e xs j))) :
    evl (envV A) (.call 81 [.sl 3 xs .imm, .s (.int .i64 (.ofNat i))] []) = some (.ret (.s (.int .i64 (.ofNat j))) []) := by
  unfold stN2 stN2e at h2
  simp only [cond_true] at h2
  rw [evl_fn (envV A) 81 _ _ (fn := Try.f81) (c := bd81) (lv := lvF81) rfl rfl rfl rfl rfl rfl]
  have hnle := hA.nleE; have hneq := hA.neqE
  have klt := hA.lt; have kle := hA.le; have keq := hA.eq; have knle := hA.nle; have kneq := hA.neq
  rw [lp_split (lpOf (envV A) 81 bd81) 2]
  generalize lpOf (envV A) 81 bd81 2 = L2 at e0 e1 e2 h1 h2 ⊢
  generalize lpOf (envV A) 81 bd81 = LP
  generalize evl (envV A) = E at e0 e1 e2 h1 h2 ⊢
  obtain ⟨aadd, asub, amul, arem, aquo, awr, ashr, aeq, alt, ale, aseq, aslt, acat, acut, asiz, aat, anle, aneq, afit⟩ := A
  simp only at hnle hneq
  subst hnle hneq
  simp only at klt kle keq knle kneq
  try simp only at h1 h2
  conv at e0 => lhs; cbv
  conv at e1 => lhs; cbv
  conv at e2 => lhs; cbv
  cbv
  rewrite [e1]
  cbv
  rewrite [h1]
  cbv
  rewrite [h2]
  cbv
theorem lp_ed_on {r : Option Res} (e0 : xs.length = n) (e1 : lget xs i = some (.agg [.s (.int .i64 o), .s (.string a), .s (.string b)])) (e2 : Nat.ble (Nat.succ i) n = true) (h1 : A.lt (.ofNat i) (.ofNat n) = true) (h2 : A.add .i64 (.ofNat i) 1 = .ofNat (Nat.succ i)) (h3 : A.eq o 1 = false) (h4 : A.eq o 2 = false) (h5 : A.eq d 0 = false)
    (hr : lpOf (envV A) 81 bd81 7 (stN7 xs d (Nat.succ i)) = r) : lpOf (envV A) 81 bd81 7 (stN7 xs d i) = r := by
  unfold stN7 at hr ⊢
  rw [lp_step (envV A) 81 (c0 := bd81) (lv := lvF81) rfl rfl]
  have hnle := hA.nleE; have hneq := hA.neqE
  have klt := hA.lt; have kle := hA.le; have keq := hA.eq; have knle := hA.nle; have kneq := hA.neq
  rw [lp_split (lpOf (envV A) 81 bd81) 7]
  generalize lpOf (envV A) 81 bd81 7 = L7 at e0 e1 e2 h1 h2 h3 h4 h5 hr ⊢
  generalize lpOf (envV A) 81 bd81 = LP
  generalize evl (envV A) = E at e0 e1 e2 h1 h2 h3 h4 h5 hr ⊢
  obtain ⟨aadd, asub, amul, arem, aquo, awr, ashr, aeq, alt, ale, aseq, aslt, acat, acut, asiz, aat, anle, aneq, afit⟩ := A
  simp only at hnle hneq
  subst hnle hneq
  simp only at klt kle keq knle kneq
  try simp only at h1 h2 h3 h4 h5 hr
  conv at e0 => lhs; cbv
  conv at e1 => lhs; cbv
  conv at e2 => lhs; cbv
  cbv
  rewrite [e0]
  cbv
  rewrite [h1]
  cbv
  rewrite [e1]
  cbv
  rewrite [h3]
  cbv
  rewrite [e1]
  cbv
  rewrite [h4]
  cbv
  rewrite [h5]
  cbv
  rewrite [h2]
  cbv
  rewrite [hr]
  cbv
theorem lp_ed_up {r : Option Res} (e0 : xs.length = n) (e1 : lget xs i = some (.agg [.s (.int .i64 o), .s (.string a), .s (.string b)])) (e2 : Nat.ble (Nat.succ i) n = true) (h1 : A.lt (.ofNat i) (.ofNat n) = true) (h2 : A.add .i64 (.ofNat i) 1 = .ofNat (Nat.succ i)) (h3 : A.eq o 1 = true) (h4 : A.eq o 2 = false) (h6 : A.add .i64 d 1 = d2) (h5 : A.eq d2 0 = false)
    (hr : lpOf (envV A) 81 bd81 7 (stN7 xs d2 (Nat.succ i)) = r) : lpOf (envV A) 81 bd81 7 (stN7 xs d i) = r := by
  unfold stN7 at hr ⊢
  rw [lp_step (envV A) 81 (c0 := bd81) (lv := lvF81) rfl rfl]
  have hnle := hA.nleE; have hneq := hA.neqE
  have klt := hA.lt; have kle := hA.le; have keq := hA.eq; have knle := hA.nle; have kneq := hA.neq
  rw [lp_split (lpOf (envV A) 81 bd81) 7]
  generalize lpOf (envV A) 81 bd81 7 = L7 at e0 e1 e2 h1 h2 h3 h4 h6 h5 hr ⊢
  generalize lpOf (envV A) 81 bd81 = LP
  generalize evl (envV A) = E at e0 e1 e2 h1 h2 h3 h4 h6 h5 hr ⊢
  obtain ⟨aadd, asub, amul, arem, aquo, awr, ashr, aeq, alt, ale, aseq, aslt, acat, acut, asiz, aat, anle, aneq, afit⟩ := A
  simp only at hnle hneq
  subst hnle hneq
  simp only at klt kle keq knle kneq
  try simp only at h1 h2 h3 h4 h6 h5 hr
  conv at e0 => lhs; cbv
  conv at e1 => lhs; cbv
  conv at e2 => lhs; cbv
  cbv
  rewrite [e0]
  cbv
  rewrite [h1]
  cbv
  rewrite [e1]
  cbv
  rewrite [h3]
  cbv
  rewrite [e1]
  cbv
  rewrite [h4]
  cbv
  rewrite [h6]
  cbv
  rewrite [h5]
  cbv
  rewrite [h2]
  cbv
  rewrite [hr]
  cbv
theorem lp_ed_dn {r : Option Res} (e0 : xs.length = n) (e1 : lget xs i = some (.agg [.s (.int .i64 o), .s (.string a), .s (.string b)])) (e2 : Nat.ble (Nat.succ i) n = true) (h1 : A.lt (.ofNat i) (.ofNat n) = true) (h2 : A.add .i64 (.ofNat i) 1 = .ofNat (Nat.succ i)) (h3 : A.eq o 1 = false) (h4 : A.eq o 2 = true) (h6 : A.sub .i64 d 1 = d2) (h5 : A.eq d2 0 = false)
    (hr : lpOf (envV A) 81 bd81 7 (stN7 xs d2 (Nat.succ i)) = r) : lpOf (envV A) 81 bd81 7 (stN7 xs d i) = r := by
  unfold stN7 at hr ⊢
  rw [lp_step (envV A) 81 (c0 := bd81) (lv := lvF81) rfl rfl]
  have hnle := hA.nleE; have hneq := hA.neqE
  have klt := hA.lt; have kle := hA.le; have keq := hA.eq; have knle := hA.nle; have kneq := hA.neq
  rw [lp_split (lpOf (envV A) 81 bd81) 7]
  generalize lpOf (envV A) 81 bd81 7 = L7 at e0 e1 e2 h1 h2 h3 h4 h6 h5 hr ⊢
  generalize lpOf (envV A) 81 bd81 = LP
  generalize evl (envV A) = E at e0 e1 e2 h1 h2 h3 h4 h6 h5 hr ⊢
  obtain ⟨aadd, asub, amul, arem, aquo, awr, ashr, aeq, alt, ale, aseq, aslt, acat, acut, asiz, aat, anle, aneq, afit⟩ := A
  simp only at hnle hneq
  subst hnle hneq
  simp only at klt kle keq knle kneq
  try simp only at h1 h2 h3 h4 h6 h5 hr
  conv at e0 => lhs; cbv
  conv at e1 => lhs; cbv
  conv at e2 => lhs; cbv
  cbv
  rewrite [e0]
  cbv
  rewrite [h1]
  cbv
  rewrite [e1]
  cbv
  rewrite [h3]
  cbv
  rewrite [e1]
  cbv
  rewrite [h4]
  cbv
  rewrite [h6]
  cbv
  rewrite [h5]
  cbv
  rewrite [h2]
  cbv
  rewrite [hr]
  cbv
theorem lp_ed_x (e0 : xs.length = n) (e1 : lget xs i = some (.agg [.s (.int .i64 o), .s (.string a), .s (.string b)])) (e2 : Nat.ble (Nat.succ i) n = true) (h1 : A.lt (.ofNat i) (.ofNat n) = true) (h3 : A.eq o 1 = false) (h4 : A.eq o 2 = true) (h6 : A.sub .i64 d 1 = 0) (h5 : A.eq 0 0 = true) :
    lpOf (envV A) 81 bd81 7 (stN7 xs d i) = some (.code .ret (stN7r i)) := by
  unfold stN7 stN7r
  rw [lp_step (envV A) 81 (c0 := bd81) (lv := lvF81) rfl rfl]
  have hnle := hA.nleE; have hneq := hA.neqE
  have klt := hA.lt; have kle := hA.le; have keq := hA.eq; have knle := hA.nle; have kneq := hA.neq
  generalize lpOf (envV A) 81 bd81 = LP
  generalize evl (envV A) = E at e0 e1 e2 h1 h3 h4 h6 h5 ⊢
  obtain ⟨aadd, asub, amul, arem, aquo, awr, ashr, aeq, alt, ale, aseq, aslt, acat, acut, asiz, aat, anle, aneq, afit⟩ := A
  simp only at hnle hneq
  subst hnle hneq
  simp only at klt kle keq knle kneq
  try simp only at h1 h3 h4 h6 h5
  conv at e0 => lhs; cbv
  conv at e1 => lhs; cbv
  conv at e2 => lhs; cbv
  cbv
  rewrite [e0]
  cbv
  rewrite [h1]
  cbv
  rewrite [e1]
  cbv
  rewrite [h3]
  cbv
  rewrite [e1]
  cbv
  rewrite [h4]
  cbv
  rewrite [h6]
  cbv
  rewrite [h5]
  cbv
theorem eq_en_open (e0 : xs.length = n) (e1 : lget xs i = some (.agg [.s (.int .i64 o), .s (.string a), .s (.string b)])) (e2 : Nat.ble (Nat.succ i) n = true) (h1 : A.eq o 3 = false) (h2 : lpOf (envV A) 81 bd81 7 (stN7 xs 0 i) = some (.code .ret (stN7r j))) :
    evl (envV A) (.call 81 [.sl 3 xs .imm, .s (.int .i64 (.ofNat i))] []) = some (.ret (.s (.int .i64 (.ofNat j))) []) := by
  unfold stN7 stN7r at h2
  rw [evl_fn (envV A) 81 _ _ (fn := Try.f81) (c := bd81) (lv := lvF81) rfl rfl rfl rfl rfl rfl]
  have hnle := hA.nleE; have hneq := hA.neqE
  have klt := hA.lt; have kle := hA.le; have keq := hA.eq; have knle := hA.nle; have kneq := hA.neq
  rw [lp_split (lpOf (envV A) 81 bd81) 7]
  generalize lpOf (envV A) 81 bd81 7 = L7 at e0 e1 e2 h1 h2 ⊢
  generalize lpOf (envV A) 81 bd81 = LP
  generalize evl (envV A) = E at e0 e1 e2 h1 h2 ⊢
  obtain ⟨aadd, asub, amul, arem, aquo, awr, ashr, aeq, alt, ale, aseq, aslt, acat, acut, asiz, aat, anle, aneq, afit⟩ := A
  simp only at hnle hneq
  subst hnle hneq
  simp only at klt kle keq knle kneq
  try simp only at h1 h2
  conv at e0 => lhs; cbv
  conv at e1 => lhs; cbv
  conv at e2 => lhs; cbv
  cbv
  rewrite [e1]
  cbv
  rewrite [h1]
  cbv
  rewrite [h2]
  cbv
/-! what is wanted, by the document -/
theorem lp_of_text {r : Option Res} (e0 : xs.length = n) (e1 : lget xs i = some (.agg [.s (.int .i64 o), .s (.string a), .s (.string b)])) (e2 : Nat.ble (Nat.succ i) n = true) (e3 : out.length = m) (e4 : out ++ [.agg (wC .imm 2 ⟨#[]⟩ ⟨#[]⟩ a [] [])] = out2) (e5 : Nat.beq m m = true) (h1 : A.lt (.ofNat i) (.ofNat n) = true) (h2 : A.add .i64 (.ofNat i) 1 = .ofNat (Nat.succ i)) (h3 : A.eq o 4 = true) (h4 : A.fit (Nat.succ m) 104 = true)
    (hr : lpOf (envV A) 40 bd40 3 (stOf xs out2 (Nat.succ i)) = r) : lpOf (envV A) 40 bd40 3 (stOf xs out i) = r := by
  unfold stOf at hr ⊢
  unfold wC at e4
  rw [lp_step (envV A) 40 (c0 := bd40) (lv := lvF40) rfl rfl]
  have hnle := hA.nleE; have hneq := hA.neqE
  have klt := hA.lt; have kle := hA.le; have keq := hA.eq; have knle := hA.nle; have kneq := hA.neq
  rw [lp_split (lpOf (envV A) 40 bd40) 3]
  generalize lpOf (envV A) 40 bd40 3 = L3 at e0 e1 e2 e3 e4 e5 h1 h2 h3 h4 hr ⊢
  generalize lpOf (envV A) 40 bd40 = LP
  generalize evl (envV A) = E at e0 e1 e2 e3 e4 e5 h1 h2 h3 h4 hr ⊢
  obtain ⟨aadd, asub, amul, arem, aquo, awr, ashr, aeq, alt, ale, aseq, aslt, acat, acut, asiz, aat, anle, aneq, afit⟩ := A
  simp only at hnle hneq
  subst hnle hneq
  simp only at klt kle keq knle kneq
  try simp only at h1 h2 h3 h4 hr
  conv at e0 => lhs; cbv
  conv at e1 => lhs; cbv
  conv at e2 => lhs; cbv
  conv at e3 => lhs; cbv
  conv at e4 => lhs; cbv
  conv at e5 => lhs; cbv
  cbv
  rewrite [e0]
  cbv
  rewrite [h1]
  cbv
  rewrite [e1]
  cbv
  rewrite [h3]
  cbv
  rewrite [e1]
  cbv
  rewrite [e3]
  cbv
  rewrite [e4]
  cbv
  rewrite [e5]
  cbv
  rewrite [h4]
  cbv
  rewrite [h2]
  cbv
  rewrite [hr]
  cbv
theorem lp_of_node {r : Option Res} (e0 : xs.length = n) (e1 : lget xs i = some (.agg [.s (.int .i64 o), .s (.string a), .s (.string b)])) (e2 : Nat.ble (Nat.succ i) n = true) (e3 : out.length = m) (e4 : out ++ [.agg (wC .imm 3 ⟨#[]⟩ ⟨#[]⟩ ⟨#[]⟩ [] [])] = out2) (e5 : Nat.beq m m = true) (h1 : A.lt (.ofNat i) (.ofNat n) = true) (h2 : A.add .i64 (.ofNat i) 1 = .ofNat (Nat.succ i)) (h3 : A.eq o 4 = false) (h5 : A.eq o 8 = true) (h4 : A.fit (Nat.succ m) 104 = true)
    (hr : lpOf (envV A) 40 bd40 3 (stOf xs out2 (Nat.succ i)) = r) : lpOf (envV A) 40 bd40 3 (stOf xs out i) = r := by
  unfold stOf at hr ⊢
  unfold wC at e4
  rw [lp_step (envV A) 40 (c0 := bd40) (lv := lvF40) rfl rfl]
  have hnle := hA.nleE; have hneq := hA.neqE
  have klt := hA.lt; have kle := hA.le; have keq := hA.eq; have knle := hA.nle; have kneq := hA.neq
  rw [lp_split (lpOf (envV A) 40 bd40) 3]
  generalize lpOf (envV A) 40 bd40 3 = L3 at e0 e1 e2 e3 e4 e5 h1 h2 h3 h5 h4 hr ⊢
  generalize lpOf (envV A) 40 bd40 = LP
  generalize evl (envV A) = E at e0 e1 e2 e3 e4 e5 h1 h2 h3 h5 h4 hr ⊢
  obtain ⟨aadd, asub, amul, arem, aquo, awr, ashr, aeq, alt, ale, aseq, aslt, acat, acut, asiz, aat, anle, aneq, afit⟩ := A
  simp only at hnle hneq
  subst hnle hneq
  simp only at klt kle keq knle kneq
  try simp only at h1 h2 h3 h5 h4 hr
  conv at e0 => lhs; cbv
  conv at e1 => lhs; cbv
  conv at e2 => lhs; cbv
  conv at e3 => lhs; cbv
  conv at e4 => lhs; cbv
  conv at e5 => lhs; cbv
  cbv
  rewrite [e0]
  cbv
  rewrite [h1]
  cbv
  rewrite [e1]
  cbv
  rewrite [h3]
  cbv
  rewrite [h5]
  cbv
  rewrite [e3]
  cbv
  rewrite [e4]
  cbv
  rewrite [e5]
  cbv
  rewrite [h4]
  cbv
  rewrite [h2]
  cbv
  rewrite [hr]
  cbv
theorem lp_of_all {r : Option Res} (e0 : xs.length = n) (e1 : lget xs i = some (.agg [.s (.int .i64 o), .s (.string a), .s (.string b)])) (e2 : Nat.ble (Nat.succ i) n = true) (e3 : out.length = m) (e4 : out ++ [.agg (wC .imm 4 ⟨#[]⟩ ⟨#[]⟩ ⟨#[]⟩ [] [])] = out2) (e5 : Nat.beq m m = true) (h1 : A.lt (.ofNat i) (.ofNat n) = true) (h2 : A.add .i64 (.ofNat i) 1 = .ofNat (Nat.succ i)) (h3 : A.eq o 4 = false) (h5 : A.eq o 8 = false) (h6 : A.eq o 7 = true) (h4 : A.fit (Nat.succ m) 104 = true)
    (hr : lpOf (envV A) 40 bd40 3 (stOf xs out2 (Nat.succ i)) = r) : lpOf (envV A) 40 bd40 3 (stOf xs out i) = r := by
  unfold stOf at hr ⊢
  unfold wC at e4
  rw [lp_step (envV A) 40 (c0 := bd40) (lv := lvF40) rfl rfl]
  have hnle := hA.nleE; have hneq := hA.neqE
  have klt := hA.lt; have kle := hA.le; have keq := hA.eq; have knle := hA.nle; have kneq := hA.neq
  rw [lp_split (lpOf (envV A) 40 bd40) 3]
  generalize lpOf (envV A) 40 bd40 3 = L3 at e0 e1 e2 e3 e4 e5 h1 h2 h3 h5 h6 h4 hr ⊢
  generalize lpOf (envV A) 40 bd40 = LP
  generalize evl (envV A) = E at e0 e1 e2 e3 e4 e5 h1 h2 h3 h5 h6 h4 hr ⊢
  obtain ⟨aadd, asub, amul, arem, aquo, awr, ashr, aeq, alt, ale, aseq, aslt, acat, acut, asiz, aat, anle, aneq, afit⟩ := A
  simp only at hnle hneq
  subst hnle hneq
  simp only at klt kle keq knle kneq
  try simp only at h1 h2 h3 h5 h6 h4 hr
  conv at e0 => lhs; cbv
  conv at e1 => lhs; cbv
  conv at e2 => lhs; cbv
  conv at e3 => lhs; cbv
  conv at e4 => lhs; cbv
  conv at e5 => lhs; cbv
  cbv
  rewrite [e0]
  cbv
  rewrite [h1]
  cbv
  rewrite [e1]
  cbv
  rewrite [h3]
  cbv
  rewrite [h5]
  cbv
  rewrite [h6]
  cbv
  rewrite [e3]
  cbv
  rewrite [e4]
  cbv
  rewrite [e5]
  cbv
  rewrite [h4]
  cbv
  rewrite [h2]
  cbv
  rewrite [hr]
  cbv
theorem lp_oa_on {r : Option Res} (e0 : xs.length = n) (e1 : lget xs k = some (.agg [.s (.int .i64 o), .s (.string a2), .s (.string b2)])) (e2 : Nat.ble (Nat.succ k) n = true) (e3 : out.length = m) (e4 : ats.length = t) (e5 : ats ++ [.agg [.s (.string a2), .s (.string b2), .s (.bool (A.eq o 6))]] = ats2) (e6 : Nat.beq t t = true) (h1 : A.lt (.ofNat k) (.ofNat n) = true) (h2 : A.add .i64 (.ofNat k) 1 = .ofNat (Nat.succ k)) (h3 : evl (envV A) (.call 80 [.s (.int .i64 o)] []) = some (.ret (.s (.bool true)) [])) (h4 : A.fit (Nat.succ t) 40 = true)
    (hr : lpOf (envV A) 40 bd40 16 (stOa xs out ats2 a b i (Nat.succ k)) = r) : lpOf (envV A) 40 bd40 16 (stOa xs out ats a b i k) = r := by
  unfold stOa wC at hr ⊢
  rw [lp_step (envV A) 40 (c0 := bd40) (lv := lvF40) rfl rfl]
  have hnle := hA.nleE; have hneq := hA.neqE
  have klt := hA.lt; have kle := hA.le; have keq := hA.eq; have knle := hA.nle; have kneq := hA.neq
  rw [lp_split (lpOf (envV A) 40 bd40) 16]
  generalize lpOf (envV A) 40 bd40 16 = L16 at e0 e1 e2 e3 e4 e5 e6 h1 h2 h3 h4 hr ⊢
  generalize lpOf (envV A) 40 bd40 = LP
  generalize evl (envV A) = E at e0 e1 e2 e3 e4 e5 e6 h1 h2 h3 h4 hr ⊢
  obtain ⟨aadd, asub, amul, arem, aquo, awr, ashr, aeq, alt, ale, aseq, aslt, acat, acut, asiz, aat, anle, aneq, afit⟩ := A
  simp only at hnle hneq
  subst hnle hneq
  simp only at klt kle keq knle kneq
  try simp only at h1 h2 h3 h4 hr
  conv at e0 => lhs; cbv
  conv at e1 => lhs; cbv
  conv at e2 => lhs; cbv
  conv at e3 => lhs; cbv
  conv at e4 => lhs; cbv
  conv at e5 => lhs; cbv
  conv at e6 => lhs; cbv
  cbv
  rewrite [e0]
  cbv
  rewrite [h1]
  cbv
  rewrite [e1]
  cbv
  rewrite [h3]
  cbv
  rewrite [e1]
  cbv
  rewrite [e1]
  cbv
  rewrite [e1]
  cbv
  rewrite [e4]
  cbv
  rewrite [e6]
  cbv
  rewrite [e5]
  cbv
  rewrite [h4]
  cbv
  rewrite [h2]
  cbv
  rewrite [hr]
  cbv
theorem lp_oa_x (e0 : xs.length = n) (e1 : lget xs k = some (.agg [.s (.int .i64 o), .s (.string a2), .s (.string b2)])) (e2 : Nat.ble (Nat.succ k) n = true) (h1 : A.lt (.ofNat k) (.ofNat n) = true) (h3 : evl (envV A) (.call 80 [.s (.int .i64 o)] []) = some (.ret (.s (.bool false)) [])) :
    lpOf (envV A) 40 bd40 16 (stOa xs out ats a b i k) = some (.code (.exit 3) (stOae xs out ats a b i k)) := by
  unfold stOa stOae wC
  rw [lp_step (envV A) 40 (c0 := bd40) (lv := lvF40) rfl rfl]
  have hnle := hA.nleE; have hneq := hA.neqE
  have klt := hA.lt; have kle := hA.le; have keq := hA.eq; have knle := hA.nle; have kneq := hA.neq
  generalize lpOf (envV A) 40 bd40 = LP
  generalize evl (envV A) = E at e0 e1 e2 h1 h3 ⊢
  obtain ⟨aadd, asub, amul, arem, aquo, awr, ashr, aeq, alt, ale, aseq, aslt, acat, acut, asiz, aat, anle, aneq, afit⟩ := A
  simp only at hnle hneq
  subst hnle hneq
  simp only at klt kle keq knle kneq
  try simp only at h1 h3
  conv at e0 => lhs; cbv
  conv at e1 => lhs; cbv
  conv at e2 => lhs; cbv
  cbv
  rewrite [e0]
  cbv
  rewrite [h1]
  cbv
  rewrite [e1]
  cbv
  rewrite [h3]
  cbv
theorem lp_oa_nil (e0 : xs.length = n) (h1 : A.lt (.ofNat k) (.ofNat n) = false) :
    lpOf (envV A) 40 bd40 16 (stOa xs out ats a b i k) = some (.code (.exit 3) (stOae xs out ats a b i k)) := by
  unfold stOa stOae wC
  rw [lp_step (envV A) 40 (c0 := bd40) (lv := lvF40) rfl rfl]
  have hnle := hA.nleE; have hneq := hA.neqE
  have klt := hA.lt; have kle := hA.le; have keq := hA.eq; have knle := hA.nle; have kneq := hA.neq
  generalize lpOf (envV A) 40 bd40 = LP
  generalize evl (envV A) = E at e0 h1 ⊢
  obtain ⟨aadd, asub, amul, arem, aquo, awr, ashr, aeq, alt, ale, aseq, aslt, acat, acut, asiz, aat, anle, aneq, afit⟩ := A
  simp only at hnle hneq
  subst hnle hneq
  simp only at klt kle keq knle kneq
  try simp only at h1
  conv at e0 => lhs; cbv
  cbv
  rewrite [e0]
  cbv
  rewrite [h1]
  cbv
theorem lp_of_void {r : Option Res} (e0 : xs.length = n) (e1 : lget xs i = some (.agg [.s (.int .i64 o), .s (.string a), .s (.string b)])) (e2 : Nat.ble (Nat.succ i) n = true) (e3 : out.length = m) (e4 : out ++ [.agg (wC .imm 1 a b ⟨#[]⟩ ats [])] = out2) (e5 : Nat.beq m m = true) (e6 : ats.length = t) (e7 : Nat.ble t t = true) (e8 : ats.take t = ats) (h1 : A.lt (.ofNat i) (.ofNat n) = true) (h2 : A.add .i64 (.ofNat i) 1 = .ofNat (Nat.succ i)) (h3 : A.eq o 4 = false) (h5 : A.eq o 8 = false) (h6 : A.eq o 7 = false) (h7 : A.eq o 1 = false) (h8 : A.eq o 3 = true) (h4 : A.fit (Nat.succ m) 104 = true)
    (h9 : lpOf (envV A) 40 bd40 16 (stOa xs out [] a b i (Nat.succ i)) = some (.code (.exit 3) (stOae xs out ats a b i k)))
    (ha : evl (envV A) (.call 81 [.sl 3 xs .imm, .s (.int .i64 (.ofNat i))] []) = some (.ret (.s (.int .i64 (.ofNat j))) [])) (hb : A.add .i64 (.ofNat j) 1 = .ofNat (Nat.succ j))
    (hr : lpOf (envV A) 40 bd40 3 (stOf xs out2 (Nat.succ j)) = r) : lpOf (envV A) 40 bd40 3 (stOf xs out i) = r := by
  unfold stOf at hr ⊢
  unfold stOa stOae wC at h9
  unfold wC at e4
  rw [lp_step (envV A) 40 (c0 := bd40) (lv := lvF40) rfl rfl]
  have hnle := hA.nleE; have hneq := hA.neqE
  have klt := hA.lt; have kle := hA.le; have keq := hA.eq; have knle := hA.nle; have kneq := hA.neq
  rw [lp_split (lpOf (envV A) 40 bd40) 3]
  generalize lpOf (envV A) 40 bd40 3 = L3 at e0 e1 e2 e3 e4 e5 e6 e7 e8 h1 h2 h3 h5 h6 h7 h8 h4 h9 ha hb hr ⊢
  rw [lp_split (lpOf (envV A) 40 bd40) 16]
  generalize lpOf (envV A) 40 bd40 16 = L16 at e0 e1 e2 e3 e4 e5 e6 e7 e8 h1 h2 h3 h5 h6 h7 h8 h4 h9 ha hb hr ⊢
  generalize lpOf (envV A) 40 bd40 = LP
  generalize evl (envV A) = E at e0 e1 e2 e3 e4 e5 e6 e7 e8 h1 h2 h3 h5 h6 h7 h8 h4 h9 ha hb hr ⊢
  obtain ⟨aadd, asub, amul, arem, aquo, awr, ashr, aeq, alt, ale, aseq, aslt, acat, acut, asiz, aat, anle, aneq, afit⟩ := A
  simp only at hnle hneq
  subst hnle hneq
  simp only at klt kle keq knle kneq
  try simp only at h1 h2 h3 h5 h6 h7 h8 h4 h9 ha hb hr
  conv at e0 => lhs; cbv
  conv at e1 => lhs; cbv
  conv at e2 => lhs; cbv
  conv at e3 => lhs; cbv
  conv at e4 => lhs; cbv
  conv at e5 => lhs; cbv
  conv at e6 => lhs; cbv
  conv at e7 => lhs; cbv
  conv at e8 => lhs; cbv
  cbv
  rewrite [e0]
  cbv
  rewrite [h1]
  cbv
  rewrite [e1]
  cbv
  rewrite [h3]
  cbv
  rewrite [h5]
  cbv
  rewrite [h6]
  cbv
  rewrite [h7]
  cbv
  rewrite [h8]
  cbv
  rewrite [e1]
  cbv
  rewrite [e1]
  cbv
  rewrite [h2]
  cbv
  rewrite [h9]
  cbv
  rewrite [ha]
  cbv
  rewrite [e1]
  cbv
  rewrite [h7]
  cbv
  rewrite [e3]
  cbv
  rewrite [e4]
  cbv
  rewrite [e5]
  cbv
  rewrite [h4]
  cbv
  rewrite [hb]
  cbv
  rewrite [hr]
  cbv
theorem lp_of_open {r : Option Res} (kz : Nat) (e0 : xs.length = n) (e1 : lget xs i = some (.agg [.s (.int .i64 o), .s (.string a), .s (.string b)])) (e2 : Nat.ble (Nat.succ i) n = true) (e3 : out.length = m) (e4 : out ++ [.agg (wC .imm 1 a b ⟨#[]⟩ ats ks)] = out2) (e5 : Nat.beq m m = true) (e6 : ats.length = t) (e7 : Nat.ble t t = true) (e8 : ats.take t = ats) (e9 : ks.length = kz) (ea : Nat.ble kz kz = true) (eb : ks.take kz = ks) (ec : lcut xs k (j - k) = ys) (ed : Nat.ble k j = true) (ee : Nat.ble j n = true) (h1 : A.lt (.ofNat i) (.ofNat n) = true) (h2 : A.add .i64 (.ofNat i) 1 = .ofNat (Nat.succ i)) (h3 : A.eq o 4 = false) (h5 : A.eq o 8 = false) (h6 : A.eq o 7 = false) (h7 : A.eq o 1 = true) (h4 : A.fit (Nat.succ m) 104 = true)
    (h9 : lpOf (envV A) 40 bd40 16 (stOa xs out [] a b i (Nat.succ i)) = some (.code (.exit 3) (stOae xs out ats a b i k)))
    (ha : evl (envV A) (.call 81 [.sl 3 xs .imm, .s (.int .i64 (.ofNat i))] []) = some (.ret (.s (.int .i64 (.ofNat j))) [])) (hb : A.add .i64 (.ofNat j) 1 = .ofNat (Nat.succ j))
    (hc : evl (envV A) (.call 40 [.sl 3 ys .imm] []) = some (.ret (.sl 6 ks .full) []))
    (hr : lpOf (envV A) 40 bd40 3 (stOf xs out2 (Nat.succ j)) = r) : lpOf (envV A) 40 bd40 3 (stOf xs out i) = r := by
  unfold stOf at hr ⊢
  unfold stOa stOae wC at h9
  unfold wC at e4
  rw [lp_step (envV A) 40 (c0 := bd40) (lv := lvF40) rfl rfl]
  have hnle := hA.nleE; have hneq := hA.neqE
  have klt := hA.lt; have kle := hA.le; have keq := hA.eq; have knle := hA.nle; have kneq := hA.neq
  rw [lp_split (lpOf (envV A) 40 bd40) 3]
  generalize lpOf (envV A) 40 bd40 3 = L3 at e0 e1 e2 e3 e4 e5 e6 e7 e8 e9 ea eb ec ed ee h1 h2 h3 h5 h6 h7 h4 h9 ha hb hc hr ⊢
  rw [lp_split (lpOf (envV A) 40 bd40) 16]
  generalize lpOf (envV A) 40 bd40 16 = L16 at e0 e1 e2 e3 e4 e5 e6 e7 e8 e9 ea eb ec ed ee h1 h2 h3 h5 h6 h7 h4 h9 ha hb hc hr ⊢
  generalize lpOf (envV A) 40 bd40 = LP
  generalize evl (envV A) = E at e0 e1 e2 e3 e4 e5 e6 e7 e8 e9 ea eb ec ed ee h1 h2 h3 h5 h6 h7 h4 h9 ha hb hc hr ⊢
  obtain ⟨aadd, asub, amul, arem, aquo, awr, ashr, aeq, alt, ale, aseq, aslt, acat, acut, asiz, aat, anle, aneq, afit⟩ := A
  simp only at hnle hneq
  subst hnle hneq
  simp only at klt kle keq knle kneq
  try simp only at h1 h2 h3 h5 h6 h7 h4 h9 ha hb hc hr
  conv at e0 => lhs; cbv
  conv at e1 => lhs; cbv
  conv at e2 => lhs; cbv
  conv at e3 => lhs; cbv
  conv at e4 => lhs; cbv
  conv at e5 => lhs; cbv
  conv at e6 => lhs; cbv
  conv at e7 => lhs; cbv
  conv at e8 => lhs; cbv
  conv at e9 => lhs; cbv
  conv at ea => lhs; cbv
  conv at eb => lhs; cbv
  conv at ec => lhs; cbv
  conv at ed => lhs; cbv
  conv at ee => lhs; cbv
  cbv
  rewrite [e0]
  cbv
  rewrite [h1]
  cbv
  rewrite [e1]
  cbv
  rewrite [h3]
  cbv
  rewrite [h5]
  cbv
  rewrite [h6]
  cbv
  rewrite [h7]
  cbv
  rewrite [e1]
  cbv
  rewrite [e1]
  cbv
  rewrite [h2]
  cbv
  rewrite [h9]
  cbv
  rewrite [ha]
  cbv
  rewrite [e1]
  cbv
  rewrite [h7]
  cbv
  rewrite [e0]
  cbv
  rewrite [ed]
  cbv
  rewrite [ee]
  cbv
  rewrite [ec]
  cbv
  rewrite [hc]
  cbv
  rewrite [e3]
  cbv
  rewrite [e4]
  cbv
  rewrite [e5]
  cbv
  rewrite [h4]
  cbv
  rewrite [hb]
  cbv
  rewrite [hr]
  cbv
theorem lp_of_end (e0 : xs.length = n) (h1 : A.lt (.ofNat i) (.ofNat n) = false) : lpOf (envV A) 40 bd40 3 (stOf xs out i) = some (.code (.exit 0) (stOfe xs out i)) := by
  unfold stOf stOfe
  rw [lp_step (envV A) 40 (c0 := bd40) (lv := lvF40) rfl rfl]
  have hnle := hA.nleE; have hneq := hA.neqE
  have klt := hA.lt; have kle := hA.le; have keq := hA.eq; have knle := hA.nle; have kneq := hA.neq
  generalize lpOf (envV A) 40 bd40 = LP
  generalize evl (envV A) = E at e0 h1 ⊢
  obtain ⟨aadd, asub, amul, arem, aquo, awr, ashr, aeq, alt, ale, aseq, aslt, acat, acut, asiz, aat, anle, aneq, afit⟩ := A
  simp only at hnle hneq
  subst hnle hneq
  simp only at klt kle keq knle kneq
  try simp only at h1
  conv at e0 => lhs; cbv
  cbv
  rewrite [e0]
  cbv
  rewrite [h1]
  cbv
theorem eq_rof (e0 : out.length = m) (e1 : Nat.ble m m = true) (e2 : out.take m = out) (h1 : lpOf (envV A) 40 bd40 3 (stOf xs [] 0) = some (.code (.exit 0) (stOfe xs out i))) :
    evl (envV A) (.call 40 [.sl 3 xs .imm] []) = some (.ret (.sl 6 out .full) []) := by
  unfold stOf stOfe at h1
  simp only [show Int.ofNat 0 = 0 from rfl] at h1
  rw [evl_fn (envV A) 40 _ _ (fn := Try.f40) (c := bd40) (lv := lvF40) rfl rfl rfl rfl rfl rfl]
  have hnle := hA.nleE; have hneq := hA.neqE
  have klt := hA.lt; have kle := hA.le; have keq := hA.eq; have knle := hA.nle; have kneq := hA.neq
  rw [lp_split (lpOf (envV A) 40 bd40) 3]
  generalize lpOf (envV A) 40 bd40 3 = L3 at e0 e1 e2 h1 ⊢
  generalize lpOf (envV A) 40 bd40 = LP
  generalize evl (envV A) = E at e0 e1 e2 h1 ⊢
  obtain ⟨aadd, asub, amul, arem, aquo, awr, ashr, aeq, alt, ale, aseq, aslt, acat, acut, asiz, aat, anle, aneq, afit⟩ := A
  simp only at hnle hneq
  subst hnle hneq
  simp only at klt kle keq knle kneq
  try simp only at h1
  conv at e0 => lhs; cbv
  conv at e1 => lhs; cbv
  conv at e2 => lhs; cbv
  cbv
  rewrite [h1]
  cbv
  rewrite [e0]
  cbv
  rewrite [e1]
  cbv
  rewrite [e2]
  cbv
end
end Go.Va
namespace Go.Va
open Go.Proofs
set_option maxRecDepth 100000
/-- the depth behind some instructions, if there was one throughout -/
def stepD (x : InsT) (d : Int) : Int := if x.1 = 1 then d + 1 else if x.1 = 2 then d - 1 else d
def runD : List InsT → Int → Option Int
  | [], d => some d
  | x :: l, d => if stepD x d = 0 then none else runD l (stepD x d)
theorem runD_app : ∀ (a b : List InsT) (d : Int), runD (a ++ b) d = (runD a d).bind (runD b)
  | [], b, d => rfl
  | x :: a, b, d => by
    simp only [List.cons_append, runD]
    split
    · rfl
    · exact runD_app a b _
theorem atI_op (a : AtT) : (atI a).1 = 5 ∨ (atI a).1 = 6 := by
  unfold atI
  cases a.2.2 <;> simp
theorem tells_at (a : AtT) : tellsB (atI a).1 = true := by
  have := atI_op a
  unfold tellsB
  simp only [Bool.or_eq_true, decide_eq_true_eq]
  exact this
theorem runD_at : ∀ (ats : List AtT) (d : Int), d ≠ 0 → runD (ats.map atI) d = some d
  | [], d, _ => rfl
  | a :: ats, d, h => by
    have ho := atI_op a
    have hs : stepD (atI a) d = d := by
      unfold stepD
      rw [if_neg (by omega), if_neg (by omega)]
    simp only [List.map_cons, runD, hs, if_neg h]
    exact runD_at ats d h
theorem runD_Ws (d : Int) : ∀ ks : List WT, (∀ t ∈ ks, runD (flW t) d = some d) → runD (flWs ks) d = some d
  | [], _ => rfl
  | t :: ts, h => by
    rw [flWs, runD_app, h t (by simp)]
    exact runD_Ws d ts (fun u hu => h u (by simp [hu]))
theorem okWs_mem : ∀ {l : List WT} {t : WT}, okWs l → t ∈ l → okW t
  | a :: l, t, h, ht => by
    simp only [okWs] at h
    rcases List.mem_cons.1 ht with rfl | ht
    · exact h.1
    · exact okWs_mem h.2 ht
theorem runD_W : ∀ t : WT, ∀ d : Int, 1 ≤ d → runD (flW t) d = some d := by
  intro t
  induction t using WT.ind with
  | h k tag key text ats ks ih =>
    intro d hd
    have h1 : ∀ (o : Int) (a b : ByteArray), o ≠ 1 → o ≠ 2 → stepD (o, a, b) d = d := fun o a b h1 h2 => by
      unfold stepD
      rw [if_neg h1, if_neg h2]
    unfold flW
    split
    · simp only [runD, h1 4 _ _ (by omega) (by omega)]; rw [if_neg (by omega)]
    · split
      · simp only [runD, h1 8 _ _ (by omega) (by omega)]; rw [if_neg (by omega)]
      · split
        · simp only [runD, h1 7 _ _ (by omega) (by omega)]; rw [if_neg (by omega)]
        · split
          · simp only [runD, h1 3 _ _ (by omega) (by omega)]
            rw [if_neg (by omega)]
            exact runD_at ats d (by omega)
          · have hs : stepD (1, tag, key) d = d + 1 := by simp [stepD]
            have hc : stepD (2, ⟨#[]⟩, ⟨#[]⟩) (d + 1) = d := by
              simp [stepD]
            simp only [runD, hs]
            rw [if_neg (by omega), runD_app, runD_at ats (d + 1) (by omega)]
            show runD (flWs ks ++ _) (d + 1) = _
            rw [runD_app, runD_Ws (d + 1) ks (fun t ht => ih t ht (d + 1) (by omega))]
            show runD [_] (d + 1) = _
            simp only [runD, hc]
            exact if_neg (by omega)
theorem drop_get {l : List InsT} {j : Nat} {x : InsT} {t : List InsT} (h : l.drop j = x :: t) : ∃ hj : j < l.length, l[j] = x ∧ l.drop (j + 1) = t := by
  have hj : j < l.length := by
    by_cases q : j < l.length
    · exact q
    · rw [List.drop_of_length_le (by omega)] at h
      cases h
  rw [List.drop_eq_getElem_cons hj] at h
  injection h with h1 h2
  exact ⟨hj, h1, h2⟩
theorem nt_head (ws : List WT) (r : List InsT) (h : ∀ x ∈ r.head?, tellsB x.1 = false) : ∀ x ∈ (flWs ws ++ r).head?, tellsB x.1 = false := by
  cases ws with
  | nil => exact h
  | cons w ws =>
    rcases w with ⟨k, tag, key, text, ats, ks⟩
    intro x hx
    unfold flWs flW at hx
    split at hx
    · simp at hx; rw [← hx]; rfl
    · split at hx
      · simp at hx; rw [← hx]; rfl
      · split at hx
        · simp at hx; rw [← hx]; rfl
        · split at hx
          · simp at hx; rw [← hx]; rfl
          · simp at hx; rw [← hx]; rfl
section
variable (l : List InsT) (hl : l.length ≤ 1000)
include hl
theorem lp_edI {r : Option Res} : ∀ (xs rest : List InsT) (d d2 : Int) (j : Nat), l.drop j = xs ++ rest → runD xs d = some d2 → -(j : Int) ≤ d → d ≤ j →
    lpOf (envV realAr) 81 bd81 7 (stN7 (l.map insA) d2 (j + xs.length)) = r → lpOf (envV realAr) 81 bd81 7 (stN7 (l.map insA) d j) = r
  | [], rest, d, d2, j, _, hr, _, _, h => by
    cases hr
    exact h
  | x :: xs, rest, d, d2, j, hd, hr, b1, b2, h => by
    obtain ⟨hj, hx, hd2⟩ := drop_get hd
    have hg := mget insA l hj
    simp only [runD] at hr
    split at hr
    · cases hr
    · rename_i hne
      have hlt : realAr.lt (.ofNat j) (.ofNat l.length) = true := nlt_t hj
      have hadd : realAr.add .i64 (.ofNat j) 1 = .ofNat (Nat.succ j) := ninc (by omega)
      have hb : Nat.ble (Nat.succ j) l.length = true := hble (by omega)
      have hlen : j + (x :: xs).length = j + 1 + xs.length := by simp only [List.length_cons]; omega
      rw [hlen] at h
      rw [hx] at hg
      have hbd : -((j + 1 : Nat) : Int) ≤ stepD x d ∧ stepD x d ≤ ((j + 1 : Nat) : Int) := by
        unfold stepD
        split
        · omega
        · split <;> omega
      have next := lp_edI xs rest (stepD x d) d2 (j + 1) hd2 hr hbd.1 hbd.2 h
      by_cases h1 : x.1 = 1
      · have hs : stepD x d = d + 1 := by simp [stepD, h1]
        rw [hs] at next hne
        exact lp_ed_up realAr realAr_ok (xs := l.map insA) (n := l.length) (i := j) (o := x.1) (a := x.2.1) (b := x.2.2) (d := d) (d2 := d + 1) (e0 := mlen insA l) (e1 := hg) (e2 := hb) (h1 := hlt) (h2 := hadd) (h3 := heq_t h1) (h4 := heq_f (by omega)) (h6 := Go.Va.hadd (by omega) (by omega)) (h5 := heq_f hne) (hr := next)
      · by_cases h2 : x.1 = 2
        · have hs : stepD x d = d - 1 := by simp [stepD, h2]
          rw [hs] at next hne
          exact lp_ed_dn realAr realAr_ok (xs := l.map insA) (n := l.length) (i := j) (o := x.1) (a := x.2.1) (b := x.2.2) (d := d) (d2 := d - 1) (e0 := mlen insA l) (e1 := hg) (e2 := hb) (h1 := hlt) (h2 := hadd) (h3 := heq_f h1) (h4 := heq_t h2) (h6 := hsub (by omega) (by omega)) (h5 := heq_f hne) (hr := next)
        · have hs : stepD x d = d := by simp [stepD, h1, h2]
          rw [hs] at next hne
          exact lp_ed_on realAr realAr_ok (xs := l.map insA) (n := l.length) (i := j) (o := x.1) (a := x.2.1) (b := x.2.2) (d := d) (e0 := mlen insA l) (e1 := hg) (e2 := hb) (h1 := hlt) (h2 := hadd) (h3 := heq_f h1) (h4 := heq_f h2) (h5 := heq_f hne) (hr := next)
theorem s_end_open (i : Nat) (tag key : ByteArray) (ats : List AtT) (ks : List WT) (rest : List InsT) (h : l.drop i = (1, tag, key) :: (ats.map atI ++ (flWs ks ++ (2, ⟨#[]⟩, ⟨#[]⟩) :: rest))) :
    evl (envV realAr) (.call 81 [.sl 3 (l.map insA) .imm, .s (.int .i64 (.ofNat i))] []) = some (.ret (.s (.int .i64 (.ofNat (i + 1 + ats.length + (flWs ks).length)))) []) := by
  obtain ⟨hi, hx, hd⟩ := drop_get h
  have hg := mget insA l hi
  rw [hx] at hg
  have hb : Nat.ble (Nat.succ i) l.length = true := hble (by omega)
  have hlen : (i + 1 + ats.length + (flWs ks).length) < l.length := by
    have := congrArg List.length hd
    simp only [List.length_drop, List.length_append, List.length_map, List.length_cons] at this
    omega
  have hd2 : l.drop (i + 1 + ats.length + (flWs ks).length) = (2, ⟨#[]⟩, ⟨#[]⟩) :: rest := by
    rw [Nat.add_assoc (i + 1), ← List.drop_drop, hd, ← List.append_assoc, List.drop_left' (by simp)]
  obtain ⟨hj, hx2, -⟩ := drop_get hd2
  have hg2 := mget insA l hj
  rw [hx2] at hg2
  have hlt2 : realAr.lt (.ofNat (i + 1 + ats.length + (flWs ks).length)) (.ofNat l.length) = true := nlt_t hj
  have last := lp_ed_x realAr realAr_ok (xs := l.map insA) (n := l.length) (i := i + 1 + ats.length + (flWs ks).length) (o := 2) (a := ⟨#[]⟩) (b := ⟨#[]⟩) (d := 1) (e0 := mlen insA l) (e1 := hg2) (e2 := hble (by omega)) (h1 := hlt2) (h3 := heq_f (by decide)) (h4 := heq_t rfl) (h6 := hsub (by omega) (by omega)) (h5 := heq_t rfl)
  have hrun : runD (ats.map atI ++ flWs ks) 1 = some 1 := by
    rw [runD_app, runD_at ats 1 (by decide)]
    exact runD_Ws 1 ks (fun t _ => runD_W t 1 (by decide))
  have mid := lp_edI l hl (r := some (.code .ret (stN7r (i + 1 + ats.length + (flWs ks).length)))) (ats.map atI ++ flWs ks) ((2, ⟨#[]⟩, ⟨#[]⟩) :: rest) 1 1 (i + 1) (by rw [hd, List.append_assoc]) hrun (by omega) (by omega) (by
    rw [List.length_append, List.length_map, ← Nat.add_assoc]
    exact last)
  have hlt : realAr.lt (.ofNat i) (.ofNat l.length) = true := nlt_t hi
  have first := lp_ed_up realAr realAr_ok (xs := l.map insA) (n := l.length) (i := i) (o := 1) (a := tag) (b := key) (d := 0) (d2 := 1) (e0 := mlen insA l) (e1 := hg) (e2 := hb) (h1 := hlt) (h2 := ninc (by omega)) (h3 := heq_t rfl) (h4 := heq_f (by decide)) (h6 := Go.Va.hadd (by omega) (by omega)) (h5 := heq_f (by decide)) (hr := mid)
  exact eq_en_open realAr realAr_ok (xs := l.map insA) (n := l.length) (i := i) (o := 1) (a := tag) (b := key) (e0 := mlen insA l) (e1 := hg) (e2 := hb) (h1 := heq_f (by decide)) (h2 := first)
theorem lp_enI (rest : List InsT) (hr : ∀ x ∈ rest.head?, tellsB x.1 = false) : ∀ (ats : List AtT) (j : Nat) (q : Bool), l.drop (j + 1) = ats.map atI ++ rest → j < l.length →
    lpOf (envV realAr) 81 bd81 2 (stN2 q (l.map insA) j) = some (.code (.exit 0) (stN2e (l.map insA) (j + ats.length)))
  | [], j, q, h, hj => by
    have hadd : realAr.add .i64 (.ofNat j) 1 = .ofNat (Nat.succ j) := ninc (by omega)
    match rest, hr, h with
    | [], _, h =>
      have hlen := congrArg List.length h
      simp at hlen
      have hlt : realAr.lt (.ofNat (Nat.succ j)) (.ofNat l.length) = false := nlt_f (by omega)
      exact lp_en_nil realAr realAr_ok (xs := l.map insA) (n := l.length) (i := j) (q := q) (e0 := mlen insA l) (h1 := hadd) (h2 := hlt)
    | x :: rest, hr, h =>
      obtain ⟨hj2, hx, -⟩ := drop_get h
      have hg := mget insA l hj2
      rw [hx] at hg
      have ht := s_tells x.1
      rw [hr x (by simp)] at ht
      have hlt : realAr.lt (.ofNat (Nat.succ j)) (.ofNat l.length) = true := nlt_t hj2
      exact lp_en_x realAr realAr_ok (xs := l.map insA) (n := l.length) (i := j) (q := q) (o := x.1) (a := x.2.1) (b := x.2.2) (e0 := mlen insA l) (e1 := hg) (e2 := hble (by omega)) (h1 := hadd) (h2 := hlt) (h3 := ht)
  | a :: ats, j, q, h, hj => by
    have hadd : realAr.add .i64 (.ofNat j) 1 = .ofNat (Nat.succ j) := ninc (by omega)
    obtain ⟨hj2, hx, hd⟩ := drop_get h
    have hg := mget insA l hj2
    rw [hx] at hg
    have ht := s_tells (atI a).1
    rw [tells_at a] at ht
    have hlt : realAr.lt (.ofNat (Nat.succ j)) (.ofNat l.length) = true := nlt_t hj2
    have next := lp_enI rest hr ats (j + 1) false hd hj2
    rw [show j + (a :: ats).length = j + 1 + ats.length by simp only [List.length_cons]; omega]
    exact lp_en_on realAr realAr_ok (xs := l.map insA) (n := l.length) (i := j) (q := q) (o := (atI a).1) (a := (atI a).2.1) (b := (atI a).2.2) (e0 := mlen insA l) (e1 := hg) (e2 := hble (by omega)) (h1 := hadd) (h2 := hlt) (h3 := ht) (hr := next)
theorem s_end_void (i : Nat) (tag key : ByteArray) (ats : List AtT) (rest : List InsT) (h : l.drop i = (3, tag, key) :: (ats.map atI ++ rest)) (hr : ∀ x ∈ rest.head?, tellsB x.1 = false) :
    evl (envV realAr) (.call 81 [.sl 3 (l.map insA) .imm, .s (.int .i64 (.ofNat i))] []) = some (.ret (.s (.int .i64 (.ofNat (i + ats.length)))) []) := by
  obtain ⟨hi, hx, hd⟩ := drop_get h
  have hg := mget insA l hi
  rw [hx] at hg
  exact eq_en_void realAr realAr_ok (xs := l.map insA) (n := l.length) (i := i) (j := i + ats.length) (o := 3) (a := tag) (b := key) (e0 := mlen insA l) (e1 := hg) (e2 := hble (by omega)) (h1 := heq_t rfl) (h2 := lp_enI l hl rest hr ats i true hd hi)
theorem lp_oaI (out : List AV) (m : Nat) (hm : out.length = m) (a b : ByteArray) (i : Nat) (rest : List InsT) (hr : ∀ x ∈ rest.head?, tellsB x.1 = false) : ∀ (ats done : List AtT) (k : Nat), l.drop k = ats.map atI ++ rest → done.length ≤ k → 
    lpOf (envV realAr) 40 bd40 16 (stOa (l.map insA) out (done.map atA) a b i k) = some (.code (.exit 3) (stOae (l.map insA) out ((done ++ ats).map atA) a b i (k + ats.length)))
  | [], done, k, h, hk => by
    rw [List.append_nil]
    match rest, hr, h with
    | [], _, h =>
      have hlen := congrArg List.length h
      simp at hlen
      have hlt : realAr.lt (.ofNat k) (.ofNat l.length) = false := nlt_f (by omega)
      exact lp_oa_nil realAr realAr_ok (xs := l.map insA) (out := out) (ats := done.map atA) (n := l.length) (i := i) (k := k) (a := a) (b := b) (e0 := mlen insA l) (h1 := hlt)
    | x :: rest, hr, h =>
      obtain ⟨hj2, hx, -⟩ := drop_get h
      have hg := mget insA l hj2
      rw [hx] at hg
      have ht := s_tells x.1
      rw [hr x (by simp)] at ht
      have hlt : realAr.lt (.ofNat k) (.ofNat l.length) = true := nlt_t hj2
      exact lp_oa_x realAr realAr_ok (xs := l.map insA) (out := out) (ats := done.map atA) (n := l.length) (i := i) (k := k) (a := a) (b := b) (o := x.1) (a2 := x.2.1) (b2 := x.2.2) (e0 := mlen insA l) (e1 := hg) (e2 := hble (by omega)) (h1 := hlt) (h3 := ht)
  | v :: ats, done, k, h, hk => by
    obtain ⟨hj2, hx, hd⟩ := drop_get h
    have hadd : realAr.add .i64 (.ofNat k) 1 = .ofNat (Nat.succ k) := ninc (by omega)
    have hg := mget insA l hj2
    rw [hx] at hg
    have ht := s_tells (atI v).1
    rw [tells_at v] at ht
    have hlt : realAr.lt (.ofNat k) (.ofNat l.length) = true := nlt_t hj2
    have next := lp_oaI out m hm a b i rest hr ats (done ++ [v]) (k + 1) hd (by simp; omega)
    rw [List.append_assoc, List.singleton_append] at next
    rw [show k + (v :: ats).length = k + 1 + ats.length by simp only [List.length_cons]; omega]
    have hsn : done.map atA ++ [.agg [.s (.string (atI v).2.1), .s (.string (atI v).2.2), .s (.bool (realAr.eq (atI v).1 6))]] = (done ++ [v]).map atA := by
      rw [List.map_append]
      congr 1
      have : realAr.eq (atI v).1 6 = v.2.2 := by
        rw [realAr_eq]
        unfold atI
        cases v.2.2 <;> rfl
      rw [this]
      rfl
    exact lp_oa_on realAr realAr_ok (xs := l.map insA) (out := out) (ats := done.map atA) (ats2 := (done ++ [v]).map atA) (n := l.length) (m := m) (t := done.length) (i := i) (k := k) (a := a) (b := b) (o := (atI v).1) (a2 := (atI v).2.1) (b2 := (atI v).2.2) (e0 := mlen insA l) (e1 := hg) (e2 := hble (by omega)) (e3 := hm) (e4 := mlen atA done) (e5 := hsn) (e6 := hbeq _) (h1 := hlt) (h2 := hadd) (h3 := ht) (h4 := hfit (by omega)) (hr := next)
theorem lp_ofI : ∀ (rest : List WT) (done : List WT) (i : Nat), l.drop i = flWs rest → okWs rest → done.length ≤ i → i ≤ l.length → (∀ t ∈ rest, evl (envV realAr) (.call 40 [.sl 3 ((flWs (kidsW t)).map insA) .imm] []) = some (.ret (.sl 6 (wtsA (kidsW t)) .full) [])) →
    lpOf (envV realAr) 40 bd40 3 (stOf (l.map insA) (wtsA done) i) = some (.code (.exit 0) (stOfe (l.map insA) (wtsA (done ++ rest)) l.length))
  | [], done, i, h, _, _, hi, _ => by
    have hlen := congrArg List.length h
    simp [flWs] at hlen
    have : i = l.length := by omega
    subst this
    rw [List.append_nil]
    exact lp_of_end realAr realAr_ok (xs := l.map insA) (out := wtsA done) (n := l.length) (i := l.length) (e0 := mlen insA l) (h1 := nlt_f (Nat.le_refl _))
  | w :: rest, done, i, h, hok, hdn, hi, hk => by
    simp only [flWs] at h
    simp only [okWs] at hok
    obtain ⟨hw, hok⟩ := hok
    have hkw := hk w (by simp)
    have ih := fun j hj e1 e2 => lp_ofI rest (done ++ [w]) j hj hok e1 e2 (fun t ht => hk t (by simp [ht]))
    rw [List.append_assoc, List.singleton_append] at ih
    have hsn := wts_snoc done w
    have leaf : ∀ x : InsT, flW w = [x] → ∃ hj : i < l.length, l[i] = x ∧ lpOf (envV realAr) 40 bd40 3 (stOf (l.map insA) (wtsA (done ++ [w])) (Nat.succ i)) = some (.code (.exit 0) (stOfe (l.map insA) (wtsA (done ++ w :: rest)) l.length)) := fun x hx => by
      rw [hx] at h
      obtain ⟨hj, hx, hd⟩ := drop_get h
      exact ⟨hj, hx, ih (i + 1) hd (by simp; omega) hj⟩
    rcases w with ⟨k, tag, key, text, ats, ks⟩
    simp only [okW] at hw
    unfold wtA at hsn
    rcases hw with ⟨rfl, rfl, hv, hoks⟩ | ⟨rfl, rfl, rfl, rfl, rfl⟩ | ⟨rfl | rfl, rfl, rfl, rfl, rfl, rfl⟩
    · cases hvb : voidP tag with
      | true =>
        have := hv hvb
        subst this
        simp only [wtsA] at hsn
        have hfl : flW (.node 1 tag key ⟨#[]⟩ ats []) = (3, tag, key) :: ats.map atI := by simp [flW, hvb]
        rw [hfl, List.cons_append] at h
        obtain ⟨hj, hx, hd⟩ := drop_get h
        have hg := mget insA l hj
        rw [hx] at hg
        have hhead : ∀ x ∈ (flWs rest).head?, tellsB x.1 = false := by
          have := nt_head rest [] (by simp)
          rwa [List.append_nil] at this
        have hat := lp_oaI l hl (wtsA done) done.length (wts_len done) tag key i (flWs rest) hhead ats [] (i + 1) hd (by simp)
        rw [List.map_nil, List.nil_append] at hat
        have hen := s_end_void l hl i tag key ats (flWs rest) h hhead
        have hlen := congrArg List.length hd
        simp at hlen
        have hd2 : l.drop (i + ats.length + 1) = flWs rest := by
          rw [show i + ats.length + 1 = i + 1 + ats.length by omega, ← List.drop_drop, hd, List.drop_left' (by simp)]
        have next := ih (i + ats.length + 1) hd2 (by simp; omega) (by omega)
        have hlt : realAr.lt (.ofNat i) (.ofNat l.length) = true := nlt_t hj
        exact lp_of_void realAr realAr_ok (xs := l.map insA) (out := wtsA done) (out2 := wtsA (done ++ [.node 1 tag key ⟨#[]⟩ ats []])) (ats := ats.map atA) (n := l.length) (m := done.length) (i := i) (j := i + ats.length) (k := i + 1 + ats.length) (t := ats.length) (o := 3) (a := tag) (b := key) (e0 := mlen insA l) (e1 := hg) (e2 := hble (by omega)) (e3 := wts_len done) (e4 := hsn) (e5 := hbeq _) (e6 := mlen atA ats) (e7 := hble (Nat.le_refl _)) (e8 := List.take_of_length_le (by rw [List.length_map]; exact Nat.le_refl _))
          (h1 := hlt) (h2 := ninc (by omega)) (h3 := heq_f (by decide)) (h5 := heq_f (by decide)) (h6 := heq_f (by decide)) (h7 := heq_f (by decide)) (h8 := heq_t rfl) (h4 := hfit (by omega)) (h9 := hat) (ha := hen) (hb := ninc (by omega)) (hr := next)
      | false =>
        have hfl : flW (.node 1 tag key ⟨#[]⟩ ats ks) = (1, tag, key) :: (ats.map atI ++ (flWs ks ++ [(2, ⟨#[]⟩, ⟨#[]⟩)])) := by simp [flW, hvb]
        rw [hfl, List.cons_append, List.append_assoc, List.append_assoc, List.singleton_append] at h
        obtain ⟨hj, hx, hd⟩ := drop_get h
        have hg := mget insA l hj
        rw [hx] at hg
        have hhead : ∀ x ∈ (flWs ks ++ (2, ⟨#[]⟩, ⟨#[]⟩) :: flWs rest).head?, tellsB x.1 = false := nt_head ks _ (by simp [tellsB])
        have hat := lp_oaI l hl (wtsA done) done.length (wts_len done) tag key i _ hhead ats [] (i + 1) hd (by simp)
        rw [List.map_nil, List.nil_append] at hat
        have hen := s_end_open l hl i tag key ats ks (flWs rest) h
        have hlen := congrArg List.length hd
        simp at hlen
        have hd1 : l.drop (i + 1 + ats.length) = flWs ks ++ (2, ⟨#[]⟩, ⟨#[]⟩) :: flWs rest := by
          rw [← List.drop_drop, hd, List.drop_left' (by simp)]
        have hd2 : l.drop (i + 1 + ats.length + (flWs ks).length + 1) = flWs rest := by
          rw [← List.drop_drop, ← List.drop_drop, hd1, List.drop_left' rfl]
          rfl
        have hcut : lcut (l.map insA) (i + 1 + ats.length) (i + 1 + ats.length + (flWs ks).length - (i + 1 + ats.length)) = (flWs ks).map insA := by
          rw [mcut, hd1, show i + 1 + ats.length + (flWs ks).length - (i + 1 + ats.length) = (flWs ks).length by omega, List.take_left' rfl]
        have next := ih (i + 1 + ats.length + (flWs ks).length + 1) hd2 (by simp; omega) (by omega)
        have hlt : realAr.lt (.ofNat i) (.ofNat l.length) = true := nlt_t hj
        simp only [kidsW] at hkw
        exact lp_of_open realAr realAr_ok (xs := l.map insA) (ys := (flWs ks).map insA) (out := wtsA done) (out2 := wtsA (done ++ [.node 1 tag key ⟨#[]⟩ ats ks])) (ats := ats.map atA) (ks := wtsA ks) (n := l.length) (m := done.length) (i := i) (j := i + 1 + ats.length + (flWs ks).length) (k := i + 1 + ats.length) (t := ats.length) (kz := ks.length) (o := 1) (a := tag) (b := key) (e0 := mlen insA l) (e1 := hg) (e2 := hble (by omega)) (e3 := wts_len done) (e4 := hsn) (e5 := hbeq _) (e6 := mlen atA ats) (e7 := hble (Nat.le_refl _)) (e8 := List.take_of_length_le (by rw [List.length_map]; exact Nat.le_refl _))
          (e9 := wts_len ks) (ea := hble (Nat.le_refl _)) (eb := List.take_of_length_le (by rw [wts_len]; exact Nat.le_refl _)) (ec := hcut) (ed := hble (by omega)) (ee := hble (by omega))
          (h1 := hlt) (h2 := ninc (by omega)) (h3 := heq_f (by decide)) (h5 := heq_f (by decide)) (h6 := heq_f (by decide)) (h7 := heq_t rfl) (h4 := hfit (by omega)) (h9 := hat) (ha := hen) (hb := ninc (by omega)) (hc := hkw) (hr := next)
    · simp only [wtsA, List.map_nil] at hsn
      obtain ⟨hj, hx, next⟩ := leaf (4, text, ⟨#[]⟩) (by simp [flW])
      have hg := mget insA l hj
      rw [hx] at hg
      have hlt : realAr.lt (.ofNat i) (.ofNat l.length) = true := nlt_t hj
      exact lp_of_text realAr realAr_ok (xs := l.map insA) (out := wtsA done) (out2 := wtsA (done ++ [.node 2 ⟨#[]⟩ ⟨#[]⟩ text [] []])) (n := l.length) (m := done.length) (i := i) (o := 4) (a := text) (b := ⟨#[]⟩) (e0 := mlen insA l) (e1 := hg) (e2 := hble (by omega)) (e3 := wts_len done) (e4 := hsn) (e5 := hbeq _) (h1 := hlt) (h2 := ninc (by omega)) (h3 := heq_t rfl) (h4 := hfit (by omega)) (hr := next)
    · simp only [wtsA, List.map_nil] at hsn
      obtain ⟨hj, hx, next⟩ := leaf (8, ⟨#[]⟩, ⟨#[]⟩) (by simp [flW])
      have hg := mget insA l hj
      rw [hx] at hg
      have hlt : realAr.lt (.ofNat i) (.ofNat l.length) = true := nlt_t hj
      exact lp_of_node realAr realAr_ok (xs := l.map insA) (out := wtsA done) (out2 := wtsA (done ++ [.node 3 ⟨#[]⟩ ⟨#[]⟩ ⟨#[]⟩ [] []])) (n := l.length) (m := done.length) (i := i) (o := 8) (a := ⟨#[]⟩) (b := ⟨#[]⟩) (e0 := mlen insA l) (e1 := hg) (e2 := hble (by omega)) (e3 := wts_len done) (e4 := hsn) (e5 := hbeq _) (h1 := hlt) (h2 := ninc (by omega)) (h3 := heq_f (by decide)) (h5 := heq_t rfl) (h4 := hfit (by omega)) (hr := next)
    · simp only [wtsA, List.map_nil] at hsn
      obtain ⟨hj, hx, next⟩ := leaf (7, ⟨#[]⟩, ⟨#[]⟩) (by simp [flW])
      have hg := mget insA l hj
      rw [hx] at hg
      have hlt : realAr.lt (.ofNat i) (.ofNat l.length) = true := nlt_t hj
      exact lp_of_all realAr realAr_ok (xs := l.map insA) (out := wtsA done) (out2 := wtsA (done ++ [.node 4 ⟨#[]⟩ ⟨#[]⟩ ⟨#[]⟩ [] []])) (n := l.length) (m := done.length) (i := i) (o := 7) (a := ⟨#[]⟩) (b := ⟨#[]⟩) (e0 := mlen insA l) (e1 := hg) (e2 := hble (by omega)) (e3 := wts_len done) (e4 := hsn) (e5 := hbeq _) (h1 := hlt) (h2 := ninc (by omega)) (h3 := heq_f (by decide)) (h5 := heq_f (by decide)) (h6 := heq_t rfl) (h4 := hfit (by omega)) (hr := next)
end
theorem s_refOfL (ws : List WT) (hl : (flWs ws).length ≤ 1000) (hok : okWs ws) (hk : ∀ t ∈ ws, evl (envV realAr) (.call 40 [.sl 3 ((flWs (kidsW t)).map insA) .imm] []) = some (.ret (.sl 6 (wtsA (kidsW t)) .full) [])) :
    evl (envV realAr) (.call 40 [.sl 3 ((flWs ws).map insA) .imm] []) = some (.ret (.sl 6 (wtsA ws) .full) []) := by
  have h := lp_ofI (flWs ws) hl ws [] 0 rfl hok (Nat.le_refl _) (Nat.zero_le _) hk
  rw [List.nil_append] at h
  exact eq_rof realAr realAr_ok (xs := (flWs ws).map insA) (out := wtsA ws) (m := ws.length) (i := (flWs ws).length) (e0 := wts_len ws) (e1 := hble (Nat.le_refl _)) (e2 := List.take_of_length_le (by rw [wts_len]; exact Nat.le_refl _)) (h1 := h)
theorem flWs_mem : ∀ {ws : List WT} {t : WT}, t ∈ ws → (flW t).length ≤ (flWs ws).length
  | a :: l, t, h => by
    rw [flWs, List.length_append]
    rcases List.mem_cons.1 h with rfl | h
    · omega
    · have := flWs_mem h
      omega
theorem flW_kids (t : WT) (h : okW t) : (flWs (kidsW t)).length ≤ (flW t).length := by
  rcases t with ⟨k, tag, key, text, ats, ks⟩
  simp only [okW] at h
  simp only [kidsW]
  rcases h with ⟨rfl, rfl, hv, hoks⟩ | ⟨rfl, rfl, rfl, rfl, rfl⟩ | ⟨rfl | rfl, rfl, rfl, rfl, rfl, rfl⟩
  · unfold flW
    rw [if_neg (by decide), if_neg (by decide), if_neg (by decide)]
    split
    · rename_i q
      rw [hv q]
      simp [flWs]
    · simp
      omega
  all_goals simp [flWs]
theorem okW_kids (t : WT) (h : okW t) : okWs (kidsW t) := by
  rcases t with ⟨k, tag, key, text, ats, ks⟩
  simp only [okW] at h
  simp only [kidsW]
  rcases h with ⟨rfl, rfl, hv, hoks⟩ | ⟨rfl, rfl, rfl, rfl, rfl⟩ | ⟨rfl | rfl, rfl, rfl, rfl, rfl, rfl⟩
  · exact hoks
  all_goals simp [okWs]
theorem s_refOfK : ∀ t : WT, okW t → (flW t).length ≤ 1000 → evl (envV realAr) (.call 40 [.sl 3 ((flWs (kidsW t)).map insA) .imm] []) = some (.ret (.sl 6 (wtsA (kidsW t)) .full) []) := by
  intro t
  induction t using WT.ind with
  | h k tag key text ats ks ih =>
    intro hok hl
    have h1 := flW_kids _ hok
    have h2 := okW_kids _ hok
    simp only [kidsW] at h1 h2 ⊢
    exact s_refOfL ks (by omega) h2 (fun t ht => ih t ht (okWs_mem h2 ht) (by have := flWs_mem ht; omega))
theorem s_refOf (ws : List WT) (hl : (flWs ws).length ≤ 1000) (hok : okWs ws) : evl (envV realAr) (.call 40 [.sl 3 ((flWs ws).map insA) .imm] []) = some (.ret (.sl 6 (wtsA ws) .full) []) :=
  s_refOfL ws hl hok (fun t ht => s_refOfK t (okWs_mem hok ht) (by have := flWs_mem ht; omega))
end Go.Va
