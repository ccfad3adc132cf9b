/- The functions that the statement reaches, by equations: no statement of its own. -/
import Derived.Test.YtmklimlepgiffabEq6
set_option linter.unusedVariables false
set_option linter.unusedSimpArgs false
set_option linter.unusedSectionVars false
namespace Go.Va
open Go.Proofs
set_option maxRecDepth 100000
theorem eq_name_letter (A : Ar) (x : Int) : evl (envV A) (.call 104 [.s (.int .u8 x)] []) = some (.ret (.s (.bool (A.le 97 x && A.le x 122))) []) := by
  rw [evl_fn (envV A) 104 [.s (.int .u8 x)] [] (fn := Try.f104) (c := bd104) (lv := lvF104) rfl rfl rfl rfl rfl rfl]
  generalize evl (envV A) = E
  generalize lpOf (envV A) 104 bd104 = LP
  obtain ⟨aadd, asub, amul, arem, aquo, awr, ashr, aeq, alt, ale, aseq, aslt, acat, acut, asiz, aat, anle, aneq, afit⟩ := A
  cbv
  cases h1 : ale 97 x <;> cbv
theorem eq_placketref01_letter (A : Ar) (x : Int) : evl (envV A) (.call 107 [.s (.int .u8 x)] []) = some (.ret (.s (.bool (A.le 97 x && A.le x 122))) []) := by
  rw [evl_fn (envV A) 107 [.s (.int .u8 x)] [] (fn := Try.f107) (c := bd107) (lv := lvF107) rfl rfl rfl rfl rfl rfl]
  generalize evl (envV A) = E
  generalize lpOf (envV A) 107 bd107 = LP
  obtain ⟨aadd, asub, amul, arem, aquo, awr, ashr, aeq, alt, ale, aseq, aslt, acat, acut, asiz, aat, anle, aneq, afit⟩ := A
  cbv
  cases h1 : ale 97 x <;> cbv
def allT (A : Ar) (s : ByteArray) : Nat → Nat → Bool
  | 0, _ => true
  | m + 1, i => match A.at_ s i with
    | some b => bif A.lt b 32 then false else bif A.lt 126 b then false else allT A s m (i + 1)
    | none => false
def stT (A : Ar) (s : ByteArray) (i : Nat) : St := { n := 23, k := 0, fr := [(0, .s (.string s)), (5, .s (.int .i64 (.ofNat (A.siz s)))), (6, .s (.int .i64 (.ofNat i)))], O := [] }
theorem lp_name_Text (A : Ar) (hA : ArOk A) (s : ByteArray) (hs : A.siz s ≤ 9223372036854775807) : ∀ (m i : Nat), m + i = A.siz s →
    lpOf (envV A) 66 bd66 2 (stT A s i) = some (bif allT A s m i then .code (.exit 0) { n := 23, k := 0, fr := [(0, .s (.string s)), (5, .s (.int .i64 (.ofNat (A.siz s)))), (6, .s (.int .i64 (.ofNat (A.siz s)))), (7, .s (.bool false))], O := [] }
      else .code .ret { n := 23, k := 0, fr := [(2, .s (.bool false))], O := [] }) := by
  intro m
  induction m with
  | zero =>
    intro i hi
    rw [lp_step (envV A) 66 (c0 := bd66) (lv := lvF66) rfl rfl]
    have h1 : A.lt (Int.ofNat i) (Int.ofNat (A.siz s)) = false := by rw [hA.lt]; simp; omega
    have hi' : i = A.siz s := by omega
    subst hi'
    generalize evl (envV A) = E
    generalize lpOf (envV A) 66 bd66 = LP
    clear hA hs hi
    obtain ⟨aadd, asub, amul, arem, aquo, awr, ashr, aeq, alt, ale, aseq, aslt, acat, acut, asiz, aat, anle, aneq, afit⟩ := A
    simp only at h1
    cbv
    rw [h1]
    cbv
  | succ m ih =>
    intro i hi
    rw [lp_step (envV A) 66 (c0 := bd66) (lv := lvF66) rfl rfl]
    have h1 : A.lt (Int.ofNat i) (Int.ofNat (A.siz s)) = true := by rw [hA.lt]; simp; omega
    obtain ⟨b, hb⟩ := hA.at_ s i (by omega)
    have h2 := hA.inc i (by omega)
    have h3 := ih (i + 1) (by omega)
    unfold stT at h3
    rw [lp_split (lpOf (envV A) 66 bd66) 2]
    generalize lpOf (envV A) 66 bd66 2 = L2 at h3 ⊢
    generalize lpOf (envV A) 66 bd66 = LP
    generalize evl (envV A) = E
    unfold allT stT
    rw [hb]
    generalize allT A s m (i + 1) = rest at h3 ⊢
    clear hA hs hi ih
    obtain ⟨aadd, asub, amul, arem, aquo, awr, ashr, aeq, alt, ale, aseq, aslt, acat, acut, asiz, aat, anle, aneq, afit⟩ := A
    simp only at h1 hb h2 h3
    cbv
    rw [h1]
    cbv
    rw [hb]
    cbv
    cases alt b 32 <;> cbv
    rw [hb]
    cbv
    cases alt 126 b <;> cbv
    rw [h2, h3]
    cbv
theorem eq_name_Text (A : Ar) (hA : ArOk A) (s : ByteArray) (hs : A.siz s ≤ 9223372036854775807) :
    evl (envV A) (.call 66 [.s (.string s)] []) = some (.ret (.s (.bool (bif allT A s (A.siz s) 0 then A.le (.ofNat (A.siz s)) 60 else false))) []) := by
  rw [evl_fn (envV A) 66 [.s (.string s)] [] (fn := Try.f66) (c := bd66) (lv := lvF66) rfl rfl rfl rfl rfl rfl]
  have h3 := lp_name_Text A hA s hs (A.siz s) 0 (by omega)
  unfold stT at h3
  rw [lp_split (lpOf (envV A) 66 bd66) 2]
  generalize lpOf (envV A) 66 bd66 2 = L2 at h3 ⊢
  generalize lpOf (envV A) 66 bd66 = LP
  generalize evl (envV A) = E
  generalize allT A s (A.siz s) 0 = all at h3 ⊢
  clear hA hs
  obtain ⟨aadd, asub, amul, arem, aquo, awr, ashr, aeq, alt, ale, aseq, aslt, acat, acut, asiz, aat, anle, aneq, afit⟩ := A
  simp only [show Int.ofNat 0 = 0 from rfl] at h3
  cbv
  rw [h3]
  cases all <;> cbv
theorem lp_placketref01_Text (A : Ar) (hA : ArOk A) (s : ByteArray) (hs : A.siz s ≤ 9223372036854775807) : ∀ (m i : Nat), m + i = A.siz s →
    lpOf (envV A) 72 bd72 2 { n := 23, k := 0, fr := [(0, .s (.string s)), (3, .s (.int .i64 (.ofNat i)))], O := [] } = some (bif allT A s m i then .code (.exit 0) { n := 23, k := 0, fr := [(0, .s (.string s)), (3, .s (.int .i64 (.ofNat (A.siz s)))), (7, .s (.bool false))], O := [] }
      else .code .ret { n := 23, k := 0, fr := [(2, .s (.bool false))], O := [] }) := by
  intro m
  induction m with
  | zero =>
    intro i hi
    rw [lp_step (envV A) 72 (c0 := bd72) (lv := lvF72) rfl rfl]
    have h1 : A.lt (Int.ofNat i) (Int.ofNat (A.siz s)) = false := by rw [hA.lt]; simp; omega
    have hi' : i = A.siz s := by omega
    subst hi'
    generalize evl (envV A) = E
    generalize lpOf (envV A) 72 bd72 = LP
    clear hA hs hi
    obtain ⟨aadd, asub, amul, arem, aquo, awr, ashr, aeq, alt, ale, aseq, aslt, acat, acut, asiz, aat, anle, aneq, afit⟩ := A
    simp only at h1
    cbv
    rw [h1]
    cbv
  | succ m ih =>
    intro i hi
    rw [lp_step (envV A) 72 (c0 := bd72) (lv := lvF72) rfl rfl]
    have h1 : A.lt (Int.ofNat i) (Int.ofNat (A.siz s)) = true := by rw [hA.lt]; simp; omega
    obtain ⟨b, hb⟩ := hA.at_ s i (by omega)
    have h2 := hA.inc i (by omega)
    have h3 := ih (i + 1) (by omega)
    rw [lp_split (lpOf (envV A) 72 bd72) 2]
    generalize lpOf (envV A) 72 bd72 2 = L2 at h3 ⊢
    generalize lpOf (envV A) 72 bd72 = LP
    generalize evl (envV A) = E
    unfold allT
    rw [hb]
    generalize allT A s m (i + 1) = rest at h3 ⊢
    clear hA hs hi ih
    obtain ⟨aadd, asub, amul, arem, aquo, awr, ashr, aeq, alt, ale, aseq, aslt, acat, acut, asiz, aat, anle, aneq, afit⟩ := A
    simp only at h1 hb h2 h3
    cbv
    rw [h1]
    cbv
    rw [hb]
    cbv
    cases alt b 32 <;> cbv
    rw [hb]
    cbv
    cases alt 126 b <;> cbv
    rw [h2, h3]
    cbv
theorem eq_placketref01_Text (A : Ar) (hA : ArOk A) (s : ByteArray) (hs : A.siz s ≤ 9223372036854775807) :
    evl (envV A) (.call 72 [.s (.string s)] []) = some (.ret (.s (.bool (bif allT A s (A.siz s) 0 then A.le (.ofNat (A.siz s)) 60 else false))) []) := by
  rw [evl_fn (envV A) 72 [.s (.string s)] [] (fn := Try.f72) (c := bd72) (lv := lvF72) rfl rfl rfl rfl rfl rfl]
  have h3 := lp_placketref01_Text A hA s hs (A.siz s) 0 (by omega)
  rw [lp_split (lpOf (envV A) 72 bd72) 2]
  generalize lpOf (envV A) 72 bd72 2 = L2 at h3 ⊢
  generalize lpOf (envV A) 72 bd72 = LP
  generalize evl (envV A) = E
  generalize allT A s (A.siz s) 0 = all at h3 ⊢
  clear hA hs
  obtain ⟨aadd, asub, amul, arem, aquo, awr, ashr, aeq, alt, ale, aseq, aslt, acat, acut, asiz, aat, anle, aneq, afit⟩ := A
  simp only [show Int.ofNat 0 = 0 from rfl] at h3
  cbv
  rw [h3]
  cases all <;> cbv
def allR (A : Ar) (s : ByteArray) : Nat → Nat → Bool
  | 0, _ => true
  | m + 1, i => match A.at_ s i with
    | some b => bif A.le 97 b && A.le b 122 then allR A s m (i + 1) else bif A.eq (.ofNat i) 0 then false else
      bif A.lt b 48 then (bif A.eq b 45 then allR A s m (i + 1) else false) else bif A.lt 57 b then (bif A.eq b 45 then allR A s m (i + 1) else false) else allR A s m (i + 1)
    | none => false
theorem allR_s {A : Ar} {s : ByteArray} {m i : Nat} {b : Int} (h : A.at_ s i = some b) : allR A s (m + 1) i = (bif A.le 97 b && A.le b 122 then allR A s m (i + 1) else bif A.eq (.ofNat i) 0 then false else
      bif A.lt b 48 then (bif A.eq b 45 then allR A s m (i + 1) else false) else bif A.lt 57 b then (bif A.eq b 45 then allR A s m (i + 1) else false) else allR A s m (i + 1)) := by
  rw [allR, h]
set_option maxHeartbeats 4000000 in
theorem lp_placketref01_Name (A : Ar) (hA : ArOk A) (s : ByteArray) (hs : A.siz s ≤ 9223372036854775807) : ∀ (m i : Nat), m + i = A.siz s →
    lpOf (envV A) 73 bd73 4 { n := 47, k := 0, fr := [(0, .s (.string s)), (3, .s (.int .i64 (.ofNat i)))], O := [] } = some (bif allR A s m i then .code (.exit 0) { n := 47, k := 0, fr := [(0, .s (.string s)), (3, .s (.int .i64 (.ofNat (A.siz s)))), (16, .s (.bool false))], O := [] }
      else .code .ret { n := 47, k := 0, fr := [(2, .s (.bool false))], O := [] }) := by
  intro m
  induction m with
  | zero =>
    intro i hi
    rw [lp_step (envV A) 73 (c0 := bd73) (lv := lvF73) rfl rfl]
    have h1 : A.lt (Int.ofNat i) (Int.ofNat (A.siz s)) = false := by rw [hA.lt]; simp; omega
    have hi' : i = A.siz s := by omega
    subst hi'
    generalize evl (envV A) = E
    generalize lpOf (envV A) 73 bd73 = LP
    clear hA hs hi
    obtain ⟨aadd, asub, amul, arem, aquo, awr, ashr, aeq, alt, ale, aseq, aslt, acat, acut, asiz, aat, anle, aneq, afit⟩ := A
    simp only at h1
    cbv
    rw [h1]
    cbv
  | succ m ih =>
    intro i hi
    rw [lp_step (envV A) 73 (c0 := bd73) (lv := lvF73) rfl rfl]
    have h1 : A.lt (Int.ofNat i) (Int.ofNat (A.siz s)) = true := by rw [hA.lt]; simp; omega
    obtain ⟨b, hb⟩ := hA.at_ s i (by omega)
    have h2 := hA.inc i (by omega)
    have h3 := ih (i + 1) (by omega)
    have h76 := eq_placketref01_letter A b
    rw [lp_split (lpOf (envV A) 73 bd73) 4]
    generalize lpOf (envV A) 73 bd73 4 = L2 at h3 ⊢
    generalize lpOf (envV A) 73 bd73 = LP
    generalize evl (envV A) = E at h76 ⊢
    rw [allR_s hb]
    generalize allR A s m (i + 1) = rest at h3 ⊢
    generalize (A.le 97 b && A.le b 122) = letter at h76 ⊢
    clear hA hs hi ih
    obtain ⟨aadd, asub, amul, arem, aquo, awr, ashr, aeq, alt, ale, aseq, aslt, acat, acut, asiz, aat, anle, aneq, afit⟩ := A
    simp only at h1 hb h2 h3 h76
    cbv
    rw [h1]
    cbv
    rw [hb]
    cbv
    rw [h76]
    cbv
    cases letter <;> cbv
    · cases aeq (Int.ofNat i) 0 <;> cbv
      rw [hb]
      cbv
      cases alt b 48 <;> cbv
      · rw [hb]
        cbv
        cases alt 57 b <;> cbv
        · rw [h2, h3]
          cbv
        · rw [hb]
          cbv
          cases aeq b 45 <;> cbv
          rw [h2, h3]
          cbv
      · rw [hb]
        cbv
        cases aeq b 45 <;> cbv
        rw [h2, h3]
        cbv
    · rw [h2, h3]
      cbv
theorem eq_placketref01_Name (A : Ar) (hA : ArOk A) (s : ByteArray) (hs : A.siz s ≤ 9223372036854775807) :
    evl (envV A) (.call 73 [.s (.string s)] []) = some (.ret (.s (.bool (bif A.lt (.ofNat (A.siz s)) 1 then false else bif A.lt 12 (.ofNat (A.siz s)) then false else allR A s (A.siz s) 0))) []) := by
  rw [evl_fn (envV A) 73 [.s (.string s)] [] (fn := Try.f73) (c := bd73) (lv := lvF73) rfl rfl rfl rfl rfl rfl]
  have h3 := lp_placketref01_Name A hA s hs (A.siz s) 0 (by omega)
  rw [lp_split (lpOf (envV A) 73 bd73) 4]
  generalize lpOf (envV A) 73 bd73 4 = L2 at h3 ⊢
  generalize lpOf (envV A) 73 bd73 = LP
  generalize evl (envV A) = E
  generalize allR A s (A.siz s) 0 = all at h3 ⊢
  clear hA hs
  obtain ⟨aadd, asub, amul, arem, aquo, awr, ashr, aeq, alt, ale, aseq, aslt, acat, acut, asiz, aat, anle, aneq, afit⟩ := A
  simp only [show Int.ofNat 0 = 0 from rfl] at h3
  cbv
  cases alt (Int.ofNat (asiz s)) 1 <;> cbv
  cases alt 12 (Int.ofNat (asiz s)) <;> cbv
  rw [h3]
  cases all <;> cbv
def allL (A : Ar) (s : ByteArray) : Nat → Nat → Bool
  | 0, _ => true
  | m + 1, i => match A.at_ s i with
    | some b => bif A.le 97 b && A.le b 122 then allL A s m (i + 1) else
      bif A.lt b 48 then (bif A.eq b 45 then allL A s m (i + 1) else false) else bif A.lt 57 b then (bif A.eq b 45 then allL A s m (i + 1) else false) else allL A s m (i + 1)
    | none => false
theorem allL_s {A : Ar} {s : ByteArray} {m i : Nat} {b : Int} (h : A.at_ s i = some b) : allL A s (m + 1) i = (bif A.le 97 b && A.le b 122 then allL A s m (i + 1) else
      bif A.lt b 48 then (bif A.eq b 45 then allL A s m (i + 1) else false) else bif A.lt 57 b then (bif A.eq b 45 then allL A s m (i + 1) else false) else allL A s m (i + 1)) := by
  rw [allL, h]
set_option maxHeartbeats 4000000 in
theorem lp_name_May (A : Ar) (hA : ArOk A) (s : ByteArray) (hs : A.siz s ≤ 9223372036854775807) : ∀ (m i : Nat), m + i = A.siz s →
    lpOf (envV A) 67 bd67 4 { n := 42, k := 0, fr := [(0, .s (.string s)), (19, .s (.int .i64 (.ofNat (A.siz s)))), (20, .s (.int .i64 (.ofNat i)))], O := [] } = some (bif allL A s m i then .code (.exit 0) { n := 42, k := 0, fr := [(0, .s (.string s)), (19, .s (.int .i64 (.ofNat (A.siz s)))), (20, .s (.int .i64 (.ofNat (A.siz s)))), (21, .s (.bool false))], O := [] }
      else .code .ret { n := 42, k := 0, fr := [(2, .s (.bool false))], O := [] }) := by
  intro m
  induction m with
  | zero =>
    intro i hi
    rw [lp_step (envV A) 67 (c0 := bd67) (lv := lvF67) rfl rfl]
    have h1 : A.lt (Int.ofNat i) (Int.ofNat (A.siz s)) = false := by rw [hA.lt]; simp; omega
    have hi' : i = A.siz s := by omega
    subst hi'
    generalize evl (envV A) = E
    generalize lpOf (envV A) 67 bd67 = LP
    clear hA hs hi
    obtain ⟨aadd, asub, amul, arem, aquo, awr, ashr, aeq, alt, ale, aseq, aslt, acat, acut, asiz, aat, anle, aneq, afit⟩ := A
    simp only at h1
    cbv
    rw [h1]
    cbv
  | succ m ih =>
    intro i hi
    rw [lp_step (envV A) 67 (c0 := bd67) (lv := lvF67) rfl rfl]
    have h1 : A.lt (Int.ofNat i) (Int.ofNat (A.siz s)) = true := by rw [hA.lt]; simp; omega
    obtain ⟨b, hb⟩ := hA.at_ s i (by omega)
    have h2 := hA.inc i (by omega)
    have h3 := ih (i + 1) (by omega)
    have h75 := eq_name_letter A b
    rw [lp_split (lpOf (envV A) 67 bd67) 4]
    generalize lpOf (envV A) 67 bd67 4 = L2 at h3 ⊢
    generalize lpOf (envV A) 67 bd67 = LP
    generalize evl (envV A) = E at h75 ⊢
    rw [allL_s hb]
    generalize allL A s m (i + 1) = rest at h3 ⊢
    generalize (A.le 97 b && A.le b 122) = letter at h75 ⊢
    clear hA hs hi ih
    obtain ⟨aadd, asub, amul, arem, aquo, awr, ashr, aeq, alt, ale, aseq, aslt, acat, acut, asiz, aat, anle, aneq, afit⟩ := A
    simp only at h1 hb h2 h3 h75
    cbv
    rw [h1]
    cbv
    rw [hb]
    cbv
    rw [h75]
    cbv
    cases letter <;> cbv
    · cases alt b 48 <;> cbv
      · cases alt 57 b <;> cbv
        · rw [h2, h3]
          cbv
        · cases aeq b 45 <;> cbv
          rw [h2, h3]
          cbv
      · cases aeq b 45 <;> cbv
        rw [h2, h3]
        cbv
    · rw [h2, h3]
      cbv
theorem eq_name_May (A : Ar) (hA : ArOk A) (s : ByteArray) (hs : A.siz s ≤ 9223372036854775807) {e : Bool} (he : A.seq s ⟨#[]⟩ = e) {letter : Bool} (h75 : e = false → ∃ b, A.at_ s 0 = some b ∧ (A.le 97 b && A.le b 122) = letter) :
    evl (envV A) (.call 67 [.s (.string s)] []) = some (.ret (.s (.bool (bif e then false else bif A.lt 12 (.ofNat (A.siz s)) then false else bif letter then allL A s (A.siz s) 0 else false))) []) := by
  rw [evl_fn (envV A) 67 [.s (.string s)] [] (fn := Try.f67) (c := bd67) (lv := lvF67) rfl rfl rfl rfl rfl rfl]
  have h3 := lp_name_May A hA s hs (A.siz s) 0 (by omega)
  have hl : e = false → ∃ b, A.at_ s 0 = some b ∧ evl (envV A) (.call 104 [.s (.int .u8 b)] []) = some (.ret (.s (.bool letter)) []) := fun q => by
    obtain ⟨b, k1, k2⟩ := h75 q
    exact ⟨b, k1, by rw [eq_name_letter, k2]⟩
  rw [lp_split (lpOf (envV A) 67 bd67) 4]
  generalize lpOf (envV A) 67 bd67 4 = L2 at h3 ⊢
  generalize lpOf (envV A) 67 bd67 = LP
  generalize evl (envV A) = E at hl ⊢
  generalize allL A s (A.siz s) 0 = all at h3 ⊢
  clear hA hs h75
  obtain ⟨aadd, asub, amul, arem, aquo, awr, ashr, aeq, alt, ale, aseq, aslt, acat, acut, asiz, aat, anle, aneq, afit⟩ := A
  simp only [show Int.ofNat 0 = 0 from rfl] at h3
  simp only at he hl
  cbv
  rw [he]
  cases e with
  | true => cbv
  | false =>
    obtain ⟨b, hb, hq⟩ := hl rfl
    cbv
    cases alt 12 (Int.ofNat (asiz s)) <;> cbv
    rw [hb]
    cbv
    rw [hq]
    cbv
    cases letter <;> cbv
    rw [h3]
    cases all <;> cbv
theorem allRL (s : ByteArray) : ∀ (m i : Nat), 0 < i → allR realAr s m i = allL realAr s m i
  | 0, i, _ => rfl
  | m + 1, i, hi => by
    have h0 : realAr.eq (Int.ofNat i) 0 = false := by simp [realAr]; omega
    unfold allR allL
    cases realAr.at_ s i with
    | none => rfl
    | some b => simp only [allRL s m (i + 1) (by omega), h0, cond_false]
/-- what name.May and the document's Name come to -/
def nameP (s : ByteArray) : Bool := bif realAr.lt (.ofNat (realAr.siz s)) 1 then false else bif realAr.lt 12 (.ofNat (realAr.siz s)) then false else allR realAr s (realAr.siz s) 0
def textP (s : ByteArray) : Bool := bif allT realAr s (realAr.siz s) 0 then realAr.le (.ofNat (realAr.siz s)) 60 else false
theorem seq_empty (s : ByteArray) : realAr.seq s ⟨#[]⟩ = decide (s.size = 0) := by
  have e : s.size = s.data.toList.length := by rw [Array.length_toList]; rfl
  rw [e]
  show (s.data.toList == []) = _
  cases s.data.toList <;> rfl
theorem name16 (s : ByteArray) (hs : s.size ≤ 9223372036854775807) : evl (envV realAr) (.call 67 [.s (.string s)] []) = some (.ret (.s (.bool (nameP s))) []) := by
  by_cases h0 : s.size = 0
  · have he : realAr.seq s ⟨#[]⟩ = true := by rw [seq_empty, h0]; rfl
    rw [eq_name_May realAr realAr_ok s hs he (letter := false) (by simp)]
    have : realAr.lt (Int.ofNat (realAr.siz s)) 1 = true := by simp [realAr, h0]
    simp only [nameP, this, cond_true]
  · have he : realAr.seq s ⟨#[]⟩ = false := by rw [seq_empty]; simp [h0]
    obtain ⟨b, hb⟩ := realAr_ok.at_ s 0 (by show 0 < s.size; omega)
    rw [eq_name_May realAr realAr_ok s hs he (letter := realAr.le 97 b && realAr.le b 122) (fun _ => ⟨b, hb, rfl⟩)]
    have h1 : realAr.lt (Int.ofNat (realAr.siz s)) 1 = false := by simp [realAr]; omega
    simp only [nameP, h1, cond_false]
    obtain ⟨m, hm⟩ : ∃ m, realAr.siz s = m + 1 := ⟨s.size - 1, by show s.size = _; omega⟩
    rw [hm]
    have e0 : realAr.eq (Int.ofNat 0) 0 = true := rfl
    rw [allR_s hb, allL_s hb, e0, allRL s m (0 + 1) (by omega)]
    cases realAr.le 97 b && realAr.le b 122 <;> rfl
end Go.Va
namespace Go.Va
open Go.Proofs
set_option maxRecDepth 100000
theorem eq_name_Void (A : Ar) (s : ByteArray) : evl (envV A) (.call 69 [.s (.string s)] []) = some (.ret (.s (.bool (A.seq s ⟨#[98, 114]⟩ || A.seq s ⟨#[104, 114]⟩ || A.seq s ⟨#[105, 109, 103]⟩ || A.seq s ⟨#[105, 110, 112, 117, 116]⟩))) []) := by
  rw [evl_fn (envV A) 69 [.s (.string s)] [] (fn := Try.f69) (c := bd69) (lv := lvF69) rfl rfl rfl rfl rfl rfl]
  generalize evl (envV A) = E
  generalize lpOf (envV A) 69 bd69 = LP
  obtain ⟨aadd, asub, amul, arem, aquo, awr, ashr, aeq, alt, ale, aseq, aslt, acat, acut, asiz, aat, anle, aneq, afit⟩ := A
  cbv
  cases h1 : aseq s ⟨#[98, 114]⟩ <;> cbv
  cases h2 : aseq s ⟨#[104, 114]⟩ <;> cbv
  cases h3 : aseq s ⟨#[105, 109, 103]⟩ <;> cbv
  cases h4 : aseq s ⟨#[105, 110, 112, 117, 116]⟩ <;> cbv
theorem eq_placketref01_Void (A : Ar) (s : ByteArray) : evl (envV A) (.call 75 [.s (.string s)] []) = some (.ret (.s (.bool (A.seq s ⟨#[98, 114]⟩ || A.seq s ⟨#[104, 114]⟩ || A.seq s ⟨#[105, 109, 103]⟩ || A.seq s ⟨#[105, 110, 112, 117, 116]⟩))) []) := by
  rw [evl_fn (envV A) 75 [.s (.string s)] [] (fn := Try.f75) (c := bd75) (lv := lvF75) rfl rfl rfl rfl rfl rfl]
  generalize evl (envV A) = E
  generalize lpOf (envV A) 75 bd75 = LP
  obtain ⟨aadd, asub, amul, arem, aquo, awr, ashr, aeq, alt, ale, aseq, aslt, acat, acut, asiz, aat, anle, aneq, afit⟩ := A
  cbv
  cases h1 : aseq s ⟨#[98, 114]⟩ <;> cbv
  cases h2 : aseq s ⟨#[104, 114]⟩ <;> cbv
  cases h3 : aseq s ⟨#[105, 109, 103]⟩ <;> cbv
def voidP (s : ByteArray) : Bool := realAr.seq s ⟨#[98, 114]⟩ || realAr.seq s ⟨#[104, 114]⟩ || realAr.seq s ⟨#[105, 109, 103]⟩ || realAr.seq s ⟨#[105, 110, 112, 117, 116]⟩
end Go.Va
namespace Go.Va
open Go.Proofs
set_option maxRecDepth 100000
def mayA (A : Ar) (p16 p18 p20 : ByteArray → Bool) (o : Int) (a b : ByteArray) : Bool :=
  bif A.eq o 1 then (bif p16 a then (bif p20 a then false else p18 b) else false)
  else bif A.eq o 3 then (bif p20 a then p18 b else false)
  else bif A.eq o 4 then (bif p18 a then A.seq b ⟨#[]⟩ else false)
  else bif A.eq o 5 then (bif p16 a then p18 b else false)
  else bif A.eq o 6 then (bif p16 a then p18 b else false)
  else bif A.eq o 2 then (bif A.seq a ⟨#[]⟩ then A.seq b ⟨#[]⟩ else false)
  else bif A.eq o 7 then (bif A.seq a ⟨#[]⟩ then A.seq b ⟨#[]⟩ else false)
  else bif A.eq o 8 then (bif A.seq a ⟨#[]⟩ then A.seq b ⟨#[]⟩ else false)
  else false
theorem eq_ins_May (A : Ar) {p16 p18 p20 : ByteArray → Bool} (o : Int) (a b : ByteArray) (h16 : evl (envV A) (.call 67 [.s (.string a)] []) = some (.ret (.s (.bool (p16 a))) []))
    (h18 : evl (envV A) (.call 66 [.s (.string b)] []) = some (.ret (.s (.bool (p18 b))) [])) (h18' : evl (envV A) (.call 66 [.s (.string a)] []) = some (.ret (.s (.bool (p18 a))) []))
    (h20 : evl (envV A) (.call 69 [.s (.string a)] []) = some (.ret (.s (.bool (p20 a))) [])) :
    evl (envV A) (.call 59 [.agg [.s (.int .i64 o), .s (.string a), .s (.string b)]] []) = some (.ret (.s (.bool (mayA A p16 p18 p20 o a b))) []) := by
  rw [evl_fn (envV A) 59 _ [] (fn := Try.f59) (c := bd59) (lv := lvF59) rfl rfl rfl rfl rfl rfl]
  generalize evl (envV A) = E at h16 h18 h18' h20 ⊢
  generalize lpOf (envV A) 59 bd59 = LP
  unfold mayA
  generalize p16 a = q16 at h16 ⊢
  generalize p18 a = q18 at h18' ⊢
  generalize p18 b = q18' at h18 ⊢
  generalize p20 a = q20 at h20 ⊢
  obtain ⟨aadd, asub, amul, arem, aquo, awr, ashr, aeq, alt, ale, aseq, aslt, acat, acut, asiz, aat, anle, aneq, afit⟩ := A
  cbv
  cases h1 : aeq o 1 <;> cbv
  · cases h3 : aeq o 3 <;> cbv
    · cases h4 : aeq o 4 <;> cbv
      · cases h5 : aeq o 5 <;> cbv
        · cases h6 : aeq o 6 <;> cbv
          · cases h2 : aeq o 2 <;> cbv
            · cases h7 : aeq o 7 <;> cbv
              · cases h8 : aeq o 8 <;> cbv
                cases aseq a ⟨#[]⟩ <;> cbv
              · cases aseq a ⟨#[]⟩ <;> cbv
            · cases aseq a ⟨#[]⟩ <;> cbv
          · rw [h16]; cases q16 <;> cbv
            rw [h18]; cbv
        · rw [h16]; cases q16 <;> cbv
          rw [h18]; cbv
      · rw [h18']; cases q18 <;> cbv
    · rw [h20]; cases q20 <;> cbv
      rw [h18]; cbv
  · rw [h16]; cases q16 <;> cbv
    rw [h20]; cases q20 <;> cbv
    rw [h18]; cbv
set_option maxHeartbeats 4000000 in
theorem eq_placketref11_May (A : Ar) {p17 p19 p21 : ByteArray → Bool} (o : Int) (a b : ByteArray) (h17 : evl (envV A) (.call 73 [.s (.string a)] []) = some (.ret (.s (.bool (p17 a))) []))
    (h19 : evl (envV A) (.call 72 [.s (.string b)] []) = some (.ret (.s (.bool (p19 b))) [])) (h19' : evl (envV A) (.call 72 [.s (.string a)] []) = some (.ret (.s (.bool (p19 a))) []))
    (h21 : evl (envV A) (.call 75 [.s (.string a)] []) = some (.ret (.s (.bool (p21 a))) [])) :
    evl (envV A) (.call 95 [.agg [.s (.int .i64 o), .s (.string a), .s (.string b)]] []) = some (.ret (.s (.bool (mayA A p17 p19 p21 o a b))) []) := by
  rw [evl_fn (envV A) 95 _ [] (fn := Try.f95) (c := bd95) (lv := lvF95) rfl rfl rfl rfl rfl rfl]
  generalize evl (envV A) = E at h17 h19 h19' h21 ⊢
  generalize lpOf (envV A) 95 bd95 = LP
  unfold mayA
  generalize p17 a = q17 at h17 ⊢
  generalize p19 a = q19 at h19' ⊢
  generalize p19 b = q19' at h19 ⊢
  generalize p21 a = q21 at h21 ⊢
  obtain ⟨aadd, asub, amul, arem, aquo, awr, ashr, aeq, alt, ale, aseq, aslt, acat, acut, asiz, aat, anle, aneq, afit⟩ := A
  cbv
  rw [h17]
  cbv
  rw [h21]
  cbv
  rw [h19']
  cbv
  rw [h19]
  cbv
  cases h1 : aeq o 1 <;> cbv
  · cases h3 : aeq o 3 <;> cbv
    · cases h4 : aeq o 4 <;> cbv
      · cases h5 : aeq o 5 <;> cbv
        · cases h6 : aeq o 6 <;> cbv
          · cases h2 : aeq o 2 <;> cbv
            · cases h7 : aeq o 7 <;> cbv
              · cases h8 : aeq o 8 <;> cbv
                cases aseq a ⟨#[]⟩ <;> cbv
              · cases aseq a ⟨#[]⟩ <;> cbv
            · cases aseq a ⟨#[]⟩ <;> cbv
          · cases q17 <;> cbv
        · cases q17 <;> cbv
      · cases q19 <;> cbv
    · cases q21 <;> cbv
  · cases q17 <;> cbv
    cases q21 <;> cbv
theorem realAr_lt (a b : Int) : realAr.lt a b = decide (a < b) := rfl
theorem realAr_eq (a b : Int) : realAr.eq a b = decide (a = b) := realAr_ok.eq a b
theorem seq_refl (s : ByteArray) : realAr.seq s s = true := by
  show (s.data.toList == s.data.toList) = true
  exact beq_self_eq_true _
theorem eq_refl' (o : Int) : realAr.eq o o = true := by rw [realAr_eq]; simp
/-- an instruction, by the texts -/
def insP (i : InsT) : Bool := mayA realAr nameP textP voidP i.1 i.2.1 i.2.2
theorem s_ins_May (i : InsT) (ha : i.2.1.size ≤ 9223372036854775807) (hb : i.2.2.size ≤ 9223372036854775807) : evl (envV realAr) (.call 59 [insA i] []) = some (.ret (.s (.bool (insP i))) []) :=
  eq_ins_May realAr i.1 i.2.1 i.2.2 (name16 _ ha) (eq_name_Text realAr realAr_ok _ hb) (eq_name_Text realAr realAr_ok _ ha) (eq_name_Void realAr _)
theorem s_ref11_May (i : InsT) (ha : i.2.1.size ≤ 9223372036854775807) (hb : i.2.2.size ≤ 9223372036854775807) : evl (envV realAr) (.call 95 [insA i] []) = some (.ret (.s (.bool (insP i))) []) :=
  eq_placketref11_May realAr i.1 i.2.1 i.2.2 (eq_placketref01_Name realAr realAr_ok _ ha) (eq_placketref01_Text realAr realAr_ok _ hb) (eq_placketref01_Text realAr realAr_ok _ ha) (eq_placketref01_Void realAr _)
end Go.Va
namespace Go.Va
open Go.Proofs
set_option maxRecDepth 100000
set_option maxHeartbeats 4000000
def stF (xs : List AV) (i : Nat) : St := { n := 33, k := 0, fr := [(0, .sl 3 xs .imm), (3, .s (.int .i64 (.ofNat i)))], O := [] }
def stFe (xs : List AV) (i : Nat) : St := { n := 33, k := 0, fr := [(0, .sl 3 xs .imm), (3, .s (.int .i64 (.ofNat i))), (11, .s (.bool false))], O := [] }
def stF0 : St := { n := 33, k := 0, fr := [(2, .s (.int .i64 0))], O := [] }
section
variable (A : Ar) (xs : List AV) (n i za zb : Nat) (o : Int) (a b : ByteArray)
theorem lp_few_on {r : Option Res} (e0 : lget xs i = some (.agg [.s (.int .i64 o), .s (.string a), .s (.string b)])) (e1 : xs.length = n) (h1 : A.siz a = za) (h2 : A.siz b = zb) (h3 : A.nle (Nat.succ i) n = true)
    (h4 : A.lt (.ofNat i) (.ofNat n) = true) (h5 : A.lt (.ofNat i) 150 = true) (h6 : A.lt 300 (.ofNat za) = false) (h7 : A.lt 300 (.ofNat zb) = false) (h8 : A.add .i64 (.ofNat i) 1 = .ofNat (Nat.succ i))
    (h9 : lpOf (envV A) 20 bd20 2 (stF xs (Nat.succ i)) = r) : lpOf (envV A) 20 bd20 2 (stF xs i) = r := by
  unfold stF at h9 ⊢
  rw [lp_step (envV A) 20 (c0 := bd20) (lv := lvF20) rfl rfl]
  rw [lp_split (lpOf (envV A) 20 bd20) 2]
  generalize lpOf (envV A) 20 bd20 2 = L2 at e0 e1 h1 h2 h3 h4 h5 h6 h7 h8 h9 ⊢
  generalize lpOf (envV A) 20 bd20 = LP
  generalize evl (envV A) = E at e0 e1 h1 h2 h3 h4 h5 h6 h7 h8 h9 ⊢
  obtain ⟨aadd, asub, amul, arem, aquo, awr, ashr, aeq, alt, ale, aseq, aslt, acat, acut, asiz, aat, anle, aneq, afit⟩ := A
  try simp only at h1 h2 h3 h4 h5 h6 h7 h8 h9
  conv at e0 => lhs; cbv
  conv at e1 => lhs; cbv
  cbv
  rewrite [e1]
  cbv
  rewrite [h4]
  cbv
  rewrite [h5]
  cbv
  rewrite [e0]
  cbv
  rewrite [h1]
  cbv
  rewrite [h6]
  cbv
  rewrite [e0]
  cbv
  rewrite [h2]
  cbv
  rewrite [h7]
  cbv
  rewrite [h8]
  cbv
  rewrite [h9]
  cbv
theorem lp_few_a (e0 : lget xs i = some (.agg [.s (.int .i64 o), .s (.string a), .s (.string b)])) (e1 : xs.length = n) (h1 : A.siz a = za) (h3 : A.nle (Nat.succ i) n = true)
    (h4 : A.lt (.ofNat i) (.ofNat n) = true) (h5 : A.lt (.ofNat i) 150 = true) (h6 : A.lt 300 (.ofNat za) = true) : lpOf (envV A) 20 bd20 2 (stF xs i) = some (.code .ret stF0) := by
  unfold stF stF0
  rw [lp_step (envV A) 20 (c0 := bd20) (lv := lvF20) rfl rfl]
  generalize lpOf (envV A) 20 bd20 = LP
  generalize evl (envV A) = E at e0 e1 h1 h3 h4 h5 h6 ⊢
  obtain ⟨aadd, asub, amul, arem, aquo, awr, ashr, aeq, alt, ale, aseq, aslt, acat, acut, asiz, aat, anle, aneq, afit⟩ := A
  try simp only at h1 h3 h4 h5 h6
  conv at e0 => lhs; cbv
  conv at e1 => lhs; cbv
  cbv
  rewrite [e1]
  cbv
  rewrite [h4]
  cbv
  rewrite [h5]
  cbv
  rewrite [e0]
  cbv
  rewrite [h1]
  cbv
  rewrite [h6]
  cbv
theorem lp_few_b (e0 : lget xs i = some (.agg [.s (.int .i64 o), .s (.string a), .s (.string b)])) (e1 : xs.length = n) (h1 : A.siz a = za) (h2 : A.siz b = zb) (h3 : A.nle (Nat.succ i) n = true)
    (h4 : A.lt (.ofNat i) (.ofNat n) = true) (h5 : A.lt (.ofNat i) 150 = true) (h6 : A.lt 300 (.ofNat za) = false) (h7 : A.lt 300 (.ofNat zb) = true) : lpOf (envV A) 20 bd20 2 (stF xs i) = some (.code .ret stF0) := by
  unfold stF stF0
  rw [lp_step (envV A) 20 (c0 := bd20) (lv := lvF20) rfl rfl]
  generalize lpOf (envV A) 20 bd20 = LP
  generalize evl (envV A) = E at e0 e1 h1 h2 h3 h4 h5 h6 h7 ⊢
  obtain ⟨aadd, asub, amul, arem, aquo, awr, ashr, aeq, alt, ale, aseq, aslt, acat, acut, asiz, aat, anle, aneq, afit⟩ := A
  try simp only at h1 h2 h3 h4 h5 h6 h7
  conv at e0 => lhs; cbv
  conv at e1 => lhs; cbv
  cbv
  rewrite [e1]
  cbv
  rewrite [h4]
  cbv
  rewrite [h5]
  cbv
  rewrite [e0]
  cbv
  rewrite [h1]
  cbv
  rewrite [h6]
  cbv
  rewrite [e0]
  cbv
  rewrite [h2]
  cbv
  rewrite [h7]
  cbv
theorem lp_few_end (e1 : xs.length = n) (h4 : A.lt (.ofNat i) (.ofNat n) = false) : lpOf (envV A) 20 bd20 2 (stF xs i) = some (.code (.exit 0) (stFe xs i)) := by
  unfold stF stFe
  rw [lp_step (envV A) 20 (c0 := bd20) (lv := lvF20) rfl rfl]
  generalize lpOf (envV A) 20 bd20 = LP
  generalize evl (envV A) = E at e1 h4 ⊢
  obtain ⟨aadd, asub, amul, arem, aquo, awr, ashr, aeq, alt, ale, aseq, aslt, acat, acut, asiz, aat, anle, aneq, afit⟩ := A
  try simp only at h4
  conv at e1 => lhs; cbv
  cbv
  rewrite [e1]
  cbv
  rewrite [h4]
  cbv
theorem lp_few_end2 (e1 : xs.length = n) (h4 : A.lt (.ofNat i) (.ofNat n) = true) (h5 : A.lt (.ofNat i) 150 = false) : lpOf (envV A) 20 bd20 2 (stF xs i) = some (.code (.exit 0) (stFe xs i)) := by
  unfold stF stFe
  rw [lp_step (envV A) 20 (c0 := bd20) (lv := lvF20) rfl rfl]
  generalize lpOf (envV A) 20 bd20 = LP
  generalize evl (envV A) = E at e1 h4 h5 ⊢
  obtain ⟨aadd, asub, amul, arem, aquo, awr, ashr, aeq, alt, ale, aseq, aslt, acat, acut, asiz, aat, anle, aneq, afit⟩ := A
  try simp only at h4 h5
  conv at e1 => lhs; cbv
  cbv
  rewrite [e1]
  cbv
  rewrite [h4]
  cbv
  rewrite [h5]
  cbv
theorem eq_few (e1 : xs.length = n) (h1 : lpOf (envV A) 20 bd20 2 (stF xs 0) = some (.code (.exit 0) (stFe xs i))) :
    evl (envV A) (.call 20 [.sl 3 xs .imm] []) = some (.ret (.s (.int .i64 (bif A.lt 150 (.ofNat n) then 0 else 1))) []) := by
  unfold stF stFe at h1
  simp only [show Int.ofNat 0 = 0 from rfl] at h1
  rw [evl_fn (envV A) 20 _ _ (fn := Try.f20) (c := bd20) (lv := lvF20) rfl rfl rfl rfl rfl rfl]
  rw [lp_split (lpOf (envV A) 20 bd20) 2]
  generalize lpOf (envV A) 20 bd20 2 = L2 at e1 h1 ⊢
  generalize lpOf (envV A) 20 bd20 = LP
  generalize evl (envV A) = E at e1 h1 ⊢
  obtain ⟨aadd, asub, amul, arem, aquo, awr, ashr, aeq, alt, ale, aseq, aslt, acat, acut, asiz, aat, anle, aneq, afit⟩ := A
  try simp only at h1
  conv at e1 => lhs; cbv
  cbv
  rewrite [h1]
  cbv
  rewrite [e1]
  cbv
  cases c1 : alt 150 (Int.ofNat n)
  · cbv
  · cbv
theorem eq_few0 (h1 : lpOf (envV A) 20 bd20 2 (stF xs 0) = some (.code .ret stF0)) :
    evl (envV A) (.call 20 [.sl 3 xs .imm] []) = some (.ret (.s (.int .i64 0)) []) := by
  unfold stF stF0 at h1
  simp only [show Int.ofNat 0 = 0 from rfl] at h1
  rw [evl_fn (envV A) 20 _ _ (fn := Try.f20) (c := bd20) (lv := lvF20) rfl rfl rfl rfl rfl rfl]
  rw [lp_split (lpOf (envV A) 20 bd20) 2]
  generalize lpOf (envV A) 20 bd20 2 = L2 at h1 ⊢
  generalize lpOf (envV A) 20 bd20 = LP
  generalize evl (envV A) = E at h1 ⊢
  obtain ⟨aadd, asub, amul, arem, aquo, awr, ashr, aeq, alt, ale, aseq, aslt, acat, acut, asiz, aat, anle, aneq, afit⟩ := A
  try simp only at h1
  cbv
  rewrite [h1]
  cbv
end
def fewOk (is : List InsT) : Prop := ∀ i ∈ is, i.2.1.size ≤ 300 ∧ i.2.2.size ≤ 300
theorem lt_fn (i : Nat) (k : Int) : realAr.lt (.ofNat i) k = decide ((i : Int) < k) := rfl
theorem lp_few (is : List InsT) (hl : is.length ≤ 9223372036854775807) : ∀ (m i : Nat), m + i = is.length → (∀ j ∈ is.take i, j.2.1.size ≤ 300 ∧ j.2.2.size ≤ 300) → i ≤ 150 →
    lpOf (envV realAr) 20 bd20 2 (stF (is.map insA) i) = some (.code .ret stF0) ∨ (∃ k, lpOf (envV realAr) 20 bd20 2 (stF (is.map insA) i) = some (.code (.exit 0) (stFe (is.map insA) k))) ∧ (is.length ≤ 150 → fewOk is)
  | 0, i, h, hs, h5 => by
    right
    refine ⟨⟨i, lp_few_end realAr _ is.length i (by simp) (by simp [realAr_lt] <;> omega)⟩, fun _ => ?_⟩
    rw [List.take_of_length_le (by omega)] at hs
    exact hs
  | m + 1, i, h, hs, h5 => by
    have hi : i < is.length := by omega
    have hg : lget (is.map insA) i = some (insA is[i]) := by rw [lget_get]; simp [hi]
    have h3 : realAr.nle (Nat.succ i) is.length = true := by rw [realAr_ok.nle]; exact decide_eq_true hi
    have h4 : realAr.lt (.ofNat i) (.ofNat is.length) = true := by simp [realAr_lt] <;> omega
    by_cases h150 : i < 150
    · have h6 : realAr.lt (.ofNat i) 150 = true := by rw [lt_fn]; simp; omega
      by_cases ha : is[i].2.1.size ≤ 300
      · by_cases hb : is[i].2.2.size ≤ 300
        · have hnext := lp_few is hl m (i + 1) (by omega) (by
            intro j hj
            rw [List.take_succ_eq_append_getElem hi, List.mem_append] at hj
            rcases hj with hj | hj
            · exact hs j hj
            · simp at hj; subst hj; exact ⟨ha, hb⟩) (by omega)
          have e := fun r => lp_few_on realAr (is.map insA) is.length i is[i].2.1.size is[i].2.2.size is[i].1 is[i].2.1 is[i].2.2 (r := r) hg (by simp) rfl rfl h3 h4 h6 (by simp [realAr_lt] <;> omega) (by simp [realAr_lt] <;> omega)
            (by rw [realAr_ok.add]; exact wrap_nat (n := i + 1) (by omega))
          rcases hnext with q | ⟨⟨k, q⟩, q2⟩
          · exact .inl (e _ q)
          · exact .inr ⟨⟨k, e _ q⟩, q2⟩
        · left
          exact lp_few_b realAr (is.map insA) is.length i is[i].2.1.size is[i].2.2.size is[i].1 is[i].2.1 is[i].2.2 hg (by simp) rfl rfl h3 h4 h6 (by simp [realAr_lt] <;> omega) (by simp [realAr_lt] <;> omega)
      · left
        exact lp_few_a realAr (is.map insA) is.length i is[i].2.1.size is[i].1 is[i].2.1 is[i].2.2 hg (by simp) rfl h3 h4 h6 (by simp [realAr_lt] <;> omega)
    · right
      refine ⟨⟨i, lp_few_end2 realAr _ is.length i (by simp) h4 (by rw [lt_fn]; simp; omega)⟩, fun q => by omega⟩
/-- whether instructions are few, and short -/
theorem s_few (is : List InsT) (hl : is.length ≤ 9223372036854775807) :
    evl (envV realAr) (.call 20 [.sl 3 (is.map insA) .imm] []) = some (.ret (.s (.int .i64 0)) []) ∨ evl (envV realAr) (.call 20 [.sl 3 (is.map insA) .imm] []) = some (.ret (.s (.int .i64 1)) []) ∧ fewOk is ∧ is.length ≤ 150 := by
  rcases lp_few is hl is.length 0 (by omega) (by simp) (by omega) with h | ⟨⟨k, h⟩, h2⟩
  · exact .inl (eq_few0 realAr _ h)
  · have := eq_few realAr _ is.length k (by simp) h
    by_cases q : 150 < is.length
    · left
      rw [this, show realAr.lt 150 (.ofNat is.length) = true by simp [realAr_lt]; omega]
      rfl
    · right
      rw [this, show realAr.lt 150 (.ofNat is.length) = false by simp [realAr_lt]; omega]
      exact ⟨rfl, h2 (by omega), by omega⟩
end Go.Va
