/- The functions that the statement reaches, by equations: no statement of its own. -/
import Derived.Test.YtmklimlepgiffabEq7
set_option linter.unusedVariables false
set_option linter.unusedSimpArgs false
set_option linter.unusedSectionVars false
namespace Go.Va
open Go.Proofs
set_option maxRecDepth 100000
set_option maxHeartbeats 4000000
section
variable (A : Ar) (hA : ArOk A) (tag text key : ByteArray) (vs ks : List AV) (n m i : Nat) (tag2 text2 key2 : ByteArray) (vs2 ks2 : List AV) (mx m1 m2 m3 mv mc q : Bool)
include hA
/-! May -/
theorem eq_tree_May (e0 : ks.length = n) (e1 : vs.length = m) (h1 : evl (envV A) (.call 66 [.s (.string text)] []) = some (.ret (.s (.bool mx)) [])) (h2 : evl (envV A) (.call 67 [.s (.string tag)] []) = some (.ret (.s (.bool m1)) []))
    (h3 : evl (envV A) (.call 66 [.s (.string key)] []) = some (.ret (.s (.bool m2)) [])) (h4 : evl (envV A) (.call 68 [.sl 3 vs .imm] []) = some (.ret (.s (.bool m3)) [])) (h5 : evl (envV A) (.call 69 [.s (.string tag)] []) = some (.ret (.s (.bool mv)) []))
    (h6 : evl (envV A) (.call 70 [.sl 5 ks .imm, .fn 71 [] []] []) = some (.ret (.s (.bool mc)) [])) :
    evl (envV A) (.call 27 [.agg (trC tag text key vs ks)] []) = some (.ret (.s (.bool (bif A.seq tag ⟨#[]⟩ then (bif A.seq key ⟨#[]⟩ then (bif A.eq (.ofNat m) 0 then (bif A.eq (.ofNat n) 0 then mx else false) else false) else false)
      else bif m1 then (bif m2 then (bif A.seq text ⟨#[]⟩ then (bif m3 then (bif mv then (bif A.lt 0 (.ofNat n) then false else !mc) else !mc) else false) else false) else false) else false))) []) := by
  unfold trC
  rw [evl_fn (envV A) 27 _ _ (fn := Try.f27) (c := bd27) (lv := lvF27) rfl rfl rfl rfl rfl rfl]
  have hnle := hA.nleE; have hneq := hA.neqE
  have klt := hA.lt; have kle := hA.le; have keq := hA.eq; have knle := hA.nle; have kneq := hA.neq
  generalize lpOf (envV A) 27 bd27 = LP
  generalize evl (envV A) = E at e0 e1 h1 h2 h3 h4 h5 h6 ⊢
  obtain ⟨aadd, asub, amul, arem, aquo, awr, ashr, aeq, alt, ale, aseq, aslt, acat, acut, asiz, aat, anle, aneq, afit⟩ := A
  simp only at hnle hneq
  subst hnle hneq
  simp only at klt kle keq knle kneq
  try simp only at h1 h2 h3 h4 h5 h6
  conv at e0 => lhs; cbv
  conv at e1 => lhs; cbv
  cbv
  cases c1 : aseq tag { data := { toList := [] } }
  · cbv
    rewrite [h2]
    cbv
    cases m1
    · cbv
    · cbv
      rewrite [h3]
      cbv
      cases m2
      · cbv
      · cbv
        cases c4 : aseq text { data := { toList := [] } }
        · cbv
        · cbv
          rewrite [h4]
          cbv
          cases m3
          · cbv
          · cbv
            rewrite [h5]
            cbv
            cases mv
            · cbv
              rewrite [h6]
              cbv
            · cbv
              rewrite [e0]
              cbv
              cases c7 : alt 0 (Int.ofNat n)
              · cbv
                rewrite [h6]
                cbv
              · cbv
  · cbv
    cases c8 : aseq key { data := { toList := [] } }
    · cbv
    · cbv
      rewrite [e1]
      cbv
      cases c9 : aeq (Int.ofNat m) 0
      · cbv
      · cbv
        rewrite [e0]
        cbv
        cases c10 : aeq (Int.ofNat n) 0
        · cbv
        · cbv
          rewrite [h1]
          cbv
theorem eq_tree_May1 (e0 : ks.length = n) (e1 : vs.length = m) (h1 : evl (envV A) (.call 27 [.agg (trC tag text key vs ks)] []) = some (.ret (.s (.bool q)) [])) :
    evl (envV A) (.call 71 [.agg (trC tag text key vs ks)] []) = some (.ret (.s (.bool (!q))) []) := by
  unfold trC at h1 ⊢
  rw [evl_fn (envV A) 71 _ _ (fn := Try.f71) (c := bd71) (lv := lvF71) rfl rfl rfl rfl rfl rfl]
  have hnle := hA.nleE; have hneq := hA.neqE
  have klt := hA.lt; have kle := hA.le; have keq := hA.eq; have knle := hA.nle; have kneq := hA.neq
  generalize lpOf (envV A) 71 bd71 = LP
  generalize evl (envV A) = E at e0 e1 h1 ⊢
  obtain ⟨aadd, asub, amul, arem, aquo, awr, ashr, aeq, alt, ale, aseq, aslt, acat, acut, asiz, aat, anle, aneq, afit⟩ := A
  simp only at hnle hneq
  subst hnle hneq
  simp only at klt kle keq knle kneq
  try simp only at h1
  conv at e0 => lhs; cbv
  conv at e1 => lhs; cbv
  cbv
  rewrite [h1]
  cbv
theorem lp_tree_idx {r : Option Res} (e0 : ks.length = n) (e1 : lget ks i = some (.agg (trC tag text key vs ks2))) (e2 : Nat.ble (Nat.succ i) n = true) (h1 : A.lt (.ofNat i) (.ofNat n) = true) (h2 : A.add .i64 (.ofNat i) 1 = .ofNat (Nat.succ i))
    (h3 : evl (envV A) (.call 71 [.agg (trC tag text key vs ks2)] []) = some (.ret (.s (.bool q)) []))
    (hr : lpOf (envV A) 106 bd106 2 { n := 19, k := 0, fr := [(0, .sl 5 ks .imm), (1, .fn 71 [] []), (7, .s (.int .i64 (.ofNat n))), (8, .s (.int .i64 (.ofNat (Nat.succ i))))], O := [] } = r) :
    lpOf (envV A) 106 bd106 2 { n := 19, k := 0, fr := [(0, .sl 5 ks .imm), (1, .fn 71 [] []), (7, .s (.int .i64 (.ofNat n))), (8, .s (.int .i64 (.ofNat i)))], O := [] } = bif q then some (.code .ret { n := 19, k := 0, fr := [(4, .s (.int .i64 (.ofNat i)))], O := [] }) else r := by
  unfold trC at e1 h3
  rw [lp_step (envV A) 106 (c0 := bd106) (lv := lvF106) rfl rfl]
  have hnle := hA.nleE; have hneq := hA.neqE
  have klt := hA.lt; have kle := hA.le; have keq := hA.eq; have knle := hA.nle; have kneq := hA.neq
  rw [lp_split (lpOf (envV A) 106 bd106) 2]
  generalize lpOf (envV A) 106 bd106 2 = L2 at e0 e1 e2 h1 h2 h3 hr ⊢
  generalize lpOf (envV A) 106 bd106 = LP
  generalize evl (envV A) = E at e0 e1 e2 h1 h2 h3 hr ⊢
  obtain ⟨aadd, asub, amul, arem, aquo, awr, ashr, aeq, alt, ale, aseq, aslt, acat, acut, asiz, aat, anle, aneq, afit⟩ := A
  simp only at hnle hneq
  subst hnle hneq
  simp only at klt kle keq knle kneq
  try simp only at h1 h2 h3 hr
  conv at e0 => lhs; cbv
  conv at e1 => lhs; cbv
  conv at e2 => lhs; cbv
  cbv
  rewrite [h1]
  cbv
  rewrite [e1]
  cbv
  rewrite [h3]
  cbv
  cases q
  · cbv
    rewrite [h2]
    cbv
    rewrite [hr]
    cbv
  · cbv
theorem lp_tree_idx_end (h1 : A.lt (.ofNat i) (.ofNat n) = false) :
    lpOf (envV A) 106 bd106 2 { n := 19, k := 0, fr := [(0, .sl 5 ks .imm), (1, .fn 71 [] []), (7, .s (.int .i64 (.ofNat n))), (8, .s (.int .i64 (.ofNat i)))], O := [] } = some (.code (.exit 0) { n := 19, k := 0, fr := [(0, .sl 5 ks .imm), (1, .fn 71 [] []), (7, .s (.int .i64 (.ofNat n))), (8, .s (.int .i64 (.ofNat i))), (9, .s (.bool false))], O := [] }) := by
  rw [lp_step (envV A) 106 (c0 := bd106) (lv := lvF106) rfl rfl]
  have hnle := hA.nleE; have hneq := hA.neqE
  have klt := hA.lt; have kle := hA.le; have keq := hA.eq; have knle := hA.nle; have kneq := hA.neq
  generalize lpOf (envV A) 106 bd106 = LP
  generalize evl (envV A) = E at h1 ⊢
  obtain ⟨aadd, asub, amul, arem, aquo, awr, ashr, aeq, alt, ale, aseq, aslt, acat, acut, asiz, aat, anle, aneq, afit⟩ := A
  simp only at hnle hneq
  subst hnle hneq
  simp only at klt kle keq knle kneq
  try simp only at h1
  cbv
  rewrite [h1]
  cbv
theorem eq_tree_idx_some (e0 : ks.length = n) (h1 : lpOf (envV A) 106 bd106 2 { n := 19, k := 0, fr := [(0, .sl 5 ks .imm), (1, .fn 71 [] []), (7, .s (.int .i64 (.ofNat n))), (8, .s (.int .i64 0))], O := [] } = some (.code .ret { n := 19, k := 0, fr := [(4, .s (.int .i64 (.ofNat i)))], O := [] })) :
    evl (envV A) (.call 106 [.sl 5 ks .imm, .fn 71 [] []] []) = some (.ret (.s (.int .i64 (.ofNat i))) []) := by
  rw [evl_fn (envV A) 106 _ _ (fn := Try.f106) (c := bd106) (lv := lvF106) rfl rfl rfl rfl rfl rfl]
  have hnle := hA.nleE; have hneq := hA.neqE
  have klt := hA.lt; have kle := hA.le; have keq := hA.eq; have knle := hA.nle; have kneq := hA.neq
  rw [lp_split (lpOf (envV A) 106 bd106) 2]
  generalize lpOf (envV A) 106 bd106 2 = L2 at e0 h1 ⊢
  generalize lpOf (envV A) 106 bd106 = LP
  generalize evl (envV A) = E at e0 h1 ⊢
  obtain ⟨aadd, asub, amul, arem, aquo, awr, ashr, aeq, alt, ale, aseq, aslt, acat, acut, asiz, aat, anle, aneq, afit⟩ := A
  simp only at hnle hneq
  subst hnle hneq
  simp only at klt kle keq knle kneq
  try simp only at h1
  conv at e0 => lhs; cbv
  cbv
  rewrite [e0]
  cbv
  rewrite [h1]
  cbv
theorem eq_tree_idx_none (e0 : ks.length = n) (h1 : lpOf (envV A) 106 bd106 2 { n := 19, k := 0, fr := [(0, .sl 5 ks .imm), (1, .fn 71 [] []), (7, .s (.int .i64 (.ofNat n))), (8, .s (.int .i64 0))], O := [] } = some (.code (.exit 0) { n := 19, k := 0, fr := [(0, .sl 5 ks .imm), (1, .fn 71 [] []), (7, .s (.int .i64 (.ofNat n))), (8, .s (.int .i64 (.ofNat i))), (9, .s (.bool false))], O := [] })) :
    evl (envV A) (.call 106 [.sl 5 ks .imm, .fn 71 [] []] []) = some (.ret (.s (.int .i64 (-1))) []) := by
  rw [evl_fn (envV A) 106 _ _ (fn := Try.f106) (c := bd106) (lv := lvF106) rfl rfl rfl rfl rfl rfl]
  have hnle := hA.nleE; have hneq := hA.neqE
  have klt := hA.lt; have kle := hA.le; have keq := hA.eq; have knle := hA.nle; have kneq := hA.neq
  rw [lp_split (lpOf (envV A) 106 bd106) 2]
  generalize lpOf (envV A) 106 bd106 2 = L2 at e0 h1 ⊢
  generalize lpOf (envV A) 106 bd106 = LP
  generalize evl (envV A) = E at e0 h1 ⊢
  obtain ⟨aadd, asub, amul, arem, aquo, awr, ashr, aeq, alt, ale, aseq, aslt, acat, acut, asiz, aat, anle, aneq, afit⟩ := A
  simp only at hnle hneq
  subst hnle hneq
  simp only at klt kle keq knle kneq
  try simp only at h1
  conv at e0 => lhs; cbv
  cbv
  rewrite [e0]
  cbv
  rewrite [h1]
  cbv
theorem eq_tree_cont (k : Int) (e0 : ks.length = n) (h1 : evl (envV A) (.call 106 [.sl 5 ks .imm, .fn 71 [] []] []) = some (.ret (.s (.int .i64 k)) [])) :
    evl (envV A) (.call 70 [.sl 5 ks .imm, .fn 71 [] []] []) = some (.ret (.s (.bool (A.le 0 k))) []) := by
  rw [evl_fn (envV A) 70 _ _ (fn := Try.f70) (c := bd70) (lv := lvF70) rfl rfl rfl rfl rfl rfl]
  have hnle := hA.nleE; have hneq := hA.neqE
  generalize lpOf (envV A) 70 bd70 = LP
  generalize evl (envV A) = E at e0 h1 ⊢
  obtain ⟨aadd, asub, amul, arem, aquo, awr, ashr, aeq, alt, ale, aseq, aslt, acat, acut, asiz, aat, anle, aneq, afit⟩ := A
  simp only at hnle hneq
  subst hnle hneq
  try simp only at h1
  conv at e0 => lhs; cbv
  cbv
  rewrite [h1]
  cbv
theorem lp_ref08_May {r : Option Res} (e0 : ks.length = n) (e1 : lget ks i = some (.agg (trC tag2 text2 key2 vs2 ks2))) (e2 : Nat.ble (Nat.succ i) n = true) (h1 : A.lt (.ofNat i) (.ofNat n) = true) (h2 : A.add .i64 (.ofNat i) 1 = .ofNat (Nat.succ i))
    (h3 : evl (envV A) (.call 28 [.agg (trC tag2 text2 key2 vs2 ks2)] []) = some (.ret (.s (.bool q)) []))
    (hr : lpOf (envV A) 28 bd28 11 { n := 85, k := 0, fr := [(1, .ptr 0 0), (8, .s (.int .i64 (.ofNat (Nat.succ i))))], O := [trC tag text key vs ks] } = r) :
    lpOf (envV A) 28 bd28 11 { n := 85, k := 0, fr := [(1, .ptr 0 0), (8, .s (.int .i64 (.ofNat i)))], O := [trC tag text key vs ks] } = bif q then r else some (.code .ret { n := 85, k := 0, fr := [(2, .s (.bool false))], O := [] }) := by
  unfold trC at e1 h3 hr ⊢
  rw [lp_step (envV A) 28 (c0 := bd28) (lv := lvF28) rfl rfl]
  have hnle := hA.nleE; have hneq := hA.neqE
  have klt := hA.lt; have kle := hA.le; have keq := hA.eq; have knle := hA.nle; have kneq := hA.neq
  rw [lp_split (lpOf (envV A) 28 bd28) 11]
  generalize lpOf (envV A) 28 bd28 11 = L11 at e0 e1 e2 h1 h2 h3 hr ⊢
  generalize lpOf (envV A) 28 bd28 = LP
  generalize evl (envV A) = E at e0 e1 e2 h1 h2 h3 hr ⊢
  obtain ⟨aadd, asub, amul, arem, aquo, awr, ashr, aeq, alt, ale, aseq, aslt, acat, acut, asiz, aat, anle, aneq, afit⟩ := A
  simp only at hnle hneq
  subst hnle hneq
  simp only at klt kle keq knle kneq
  try simp only at h1 h2 h3 hr
  conv at e0 => lhs; cbv
  conv at e1 => lhs; cbv
  conv at e2 => lhs; cbv
  cbv
  rewrite [e0]
  cbv
  rewrite [h1]
  cbv
  rewrite [e1]
  cbv
  rewrite [h3]
  cbv
  cases q
  · cbv
  · cbv
    rewrite [h2]
    cbv
    rewrite [hr]
    cbv
theorem lp_ref08_May_end (e0 : ks.length = n) (h1 : A.lt (.ofNat i) (.ofNat n) = false) :
    lpOf (envV A) 28 bd28 11 { n := 85, k := 0, fr := [(1, .ptr 0 0), (8, .s (.int .i64 (.ofNat i)))], O := [trC tag text key vs ks] } = some (.code (.exit 0) { n := 85, k := 0, fr := [(1, .ptr 0 0), (8, .s (.int .i64 (.ofNat i))), (74, .s (.bool false))], O := [trC tag text key vs ks] }) := by
  unfold trC
  rw [lp_step (envV A) 28 (c0 := bd28) (lv := lvF28) rfl rfl]
  have hnle := hA.nleE; have hneq := hA.neqE
  have klt := hA.lt; have kle := hA.le; have keq := hA.eq; have knle := hA.nle; have kneq := hA.neq
  generalize lpOf (envV A) 28 bd28 = LP
  generalize evl (envV A) = E at e0 h1 ⊢
  obtain ⟨aadd, asub, amul, arem, aquo, awr, ashr, aeq, alt, ale, aseq, aslt, acat, acut, asiz, aat, anle, aneq, afit⟩ := A
  simp only at hnle hneq
  subst hnle hneq
  simp only at klt kle keq knle kneq
  try simp only at h1
  conv at e0 => lhs; cbv
  cbv
  rewrite [e0]
  cbv
  rewrite [h1]
  cbv
theorem eq_ref08_May (e0 : ks.length = n) (e1 : vs.length = m) (h1 : evl (envV A) (.call 72 [.s (.string text)] []) = some (.ret (.s (.bool mx)) [])) (h2 : evl (envV A) (.call 73 [.s (.string tag)] []) = some (.ret (.s (.bool m1)) []))
    (h3 : evl (envV A) (.call 72 [.s (.string key)] []) = some (.ret (.s (.bool m2)) [])) (h4 : evl (envV A) (.call 74 [.sl 3 vs .imm] []) = some (.ret (.s (.bool m3)) [])) (h5 : evl (envV A) (.call 75 [.s (.string tag)] []) = some (.ret (.s (.bool mv)) []))
    (h6 : lpOf (envV A) 28 bd28 11 { n := 85, k := 0, fr := [(1, .ptr 0 0), (8, .s (.int .i64 0))], O := [trC tag text key vs ks] } = bif mc then some (.code .ret { n := 85, k := 0, fr := [(2, .s (.bool false))], O := [] }) else some (.code (.exit 0) { n := 85, k := 0, fr := [(1, .ptr 0 0), (8, .s (.int .i64 (.ofNat i))), (74, .s (.bool false))], O := [trC tag text key vs ks] })) :
    evl (envV A) (.call 28 [.agg (trC tag text key vs ks)] []) = some (.ret (.s (.bool (bif A.seq tag ⟨#[]⟩ then (bif A.seq key ⟨#[]⟩ then (bif A.eq (.ofNat m) 0 then (bif A.eq (.ofNat n) 0 then mx else false) else false) else false)
      else bif m1 then (bif m2 then (bif A.seq text ⟨#[]⟩ then (bif m3 then (bif mv then (bif A.lt 0 (.ofNat n) then false else !mc) else !mc) else false) else false) else false) else false))) []) := by
  unfold trC at h6 ⊢
  cases mc <;> simp only [cond_true, cond_false] at h6
  ·
    rw [evl_fn (envV A) 28 _ _ (fn := Try.f28) (c := bd28) (lv := lvF28) rfl rfl rfl rfl rfl rfl]
    have hnle := hA.nleE; have hneq := hA.neqE
    have klt := hA.lt; have kle := hA.le; have keq := hA.eq; have knle := hA.nle; have kneq := hA.neq
    rw [lp_split (lpOf (envV A) 28 bd28) 11]
    generalize lpOf (envV A) 28 bd28 11 = L11 at e0 e1 h1 h2 h3 h4 h5 h6 ⊢
    generalize lpOf (envV A) 28 bd28 = LP
    generalize evl (envV A) = E at e0 e1 h1 h2 h3 h4 h5 h6 ⊢
    obtain ⟨aadd, asub, amul, arem, aquo, awr, ashr, aeq, alt, ale, aseq, aslt, acat, acut, asiz, aat, anle, aneq, afit⟩ := A
    simp only at hnle hneq
    subst hnle hneq
    simp only at klt kle keq knle kneq
    try simp only at h1 h2 h3 h4 h5 h6
    conv at e0 => lhs; cbv
    conv at e1 => lhs; cbv
    cbv
    cases c1 : aseq tag { data := { toList := [] } }
    · cbv
      rewrite [h2]
      cbv
      rewrite [h3]
      cbv
      rewrite [h4]
      cbv
      rewrite [h5]
      cbv
      cases m1
      · cbv
      · cbv
        cases m2
        · cbv
        · cbv
          cases m3
          · cbv
            cases c5 : aseq text { data := { toList := [] } }
            · cbv
            · cbv
          · cbv
            cases c6 : aseq text { data := { toList := [] } }
            · cbv
            · cbv
              cases mv
              · cbv
                rewrite [h6]
                cbv
              · cbv
                rewrite [e0]
                cbv
                cases c8 : alt 0 (Int.ofNat n)
                · cbv
                  rewrite [h6]
                  cbv
                · cbv
    · cbv
      rewrite [h1]
      cbv
      cases mx
      · cbv
        cases c10 : aseq key { data := { toList := [] } }
        · cbv
        · cbv
          cases c11 : aeq (Int.ofNat m) 0
          · cbv
          · cbv
            cases c12 : aeq (Int.ofNat n) 0
            · cbv
            · cbv
      · cbv
        cases c13 : aseq key { data := { toList := [] } }
        · cbv
        · cbv
          rewrite [e1]
          cbv
          cases c14 : aeq (Int.ofNat m) 0
          · cbv
          · cbv
            rewrite [e0]
            cbv
            cases c15 : aeq (Int.ofNat n) 0
            · cbv
            · cbv
  ·
    rw [evl_fn (envV A) 28 _ _ (fn := Try.f28) (c := bd28) (lv := lvF28) rfl rfl rfl rfl rfl rfl]
    have hnle := hA.nleE; have hneq := hA.neqE
    have klt := hA.lt; have kle := hA.le; have keq := hA.eq; have knle := hA.nle; have kneq := hA.neq
    rw [lp_split (lpOf (envV A) 28 bd28) 11]
    generalize lpOf (envV A) 28 bd28 11 = L11 at e0 e1 h1 h2 h3 h4 h5 h6 ⊢
    generalize lpOf (envV A) 28 bd28 = LP
    generalize evl (envV A) = E at e0 e1 h1 h2 h3 h4 h5 h6 ⊢
    obtain ⟨aadd, asub, amul, arem, aquo, awr, ashr, aeq, alt, ale, aseq, aslt, acat, acut, asiz, aat, anle, aneq, afit⟩ := A
    simp only at hnle hneq
    subst hnle hneq
    simp only at klt kle keq knle kneq
    try simp only at h1 h2 h3 h4 h5 h6
    conv at e0 => lhs; cbv
    conv at e1 => lhs; cbv
    cbv
    cases c1 : aseq tag { data := { toList := [] } }
    · cbv
      rewrite [h2]
      cbv
      rewrite [h3]
      cbv
      rewrite [h4]
      cbv
      rewrite [h5]
      cbv
      cases m1
      · cbv
      · cbv
        cases m2
        · cbv
        · cbv
          cases m3
          · cbv
            cases c5 : aseq text { data := { toList := [] } }
            · cbv
            · cbv
          · cbv
            cases c6 : aseq text { data := { toList := [] } }
            · cbv
            · cbv
              cases mv
              · cbv
                rewrite [h6]
                cbv
              · cbv
                rewrite [e0]
                cbv
                cases c8 : alt 0 (Int.ofNat n)
                · cbv
                  rewrite [h6]
                  cbv
                · cbv
    · cbv
      rewrite [h1]
      cbv
      cases mx
      · cbv
        cases c10 : aseq key { data := { toList := [] } }
        · cbv
        · cbv
          cases c11 : aeq (Int.ofNat m) 0
          · cbv
          · cbv
            cases c12 : aeq (Int.ofNat n) 0
            · cbv
            · cbv
      · cbv
        cases c13 : aseq key { data := { toList := [] } }
        · cbv
        · cbv
          rewrite [e1]
          cbv
          cases c14 : aeq (Int.ofNat m) 0
          · cbv
          · cbv
            rewrite [e0]
            cbv
            cases c15 : aeq (Int.ofNat n) 0
            · cbv
            · cbv
end
end Go.Va
