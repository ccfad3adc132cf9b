/- The functions that the statement reaches, by equations: no statement of its own. -/
import Derived.Test.YtmklimlepgiffabEq8
set_option linter.unusedVariables false
set_option linter.unusedSimpArgs false
set_option linter.unusedSectionVars false
namespace Go.Va
open Go.Proofs
set_option maxRecDepth 100000
theorem eq_name_letter (A : Ar) (x : Int) : evl (envV A) (.call 104 [.s (.int .u8 x)] []) = some (.ret (.s (.bool (A.le 97 x && A.le x 122))) []) := by
  rw [evl_fn (envV A) 104 [.s (.int .u8 x)] [] (fn := Try.f104) (c := bd104) (lv := lvF104) rfl rfl rfl rfl rfl rfl]
  generalize evl (envV A) = E
  generalize lpOf (envV A) 104 bd104 = LP
  obtain ⟨aadd, asub, amul, arem, aquo, awr, ashr, aeq, alt, ale, aseq, aslt, acat, acut, asiz, aat, anle, aneq, afit⟩ := A
  cbv
  cases h1 : ale 97 x <;> cbv
theorem eq_placketref01_letter (A : Ar) (x : Int) : evl (envV A) (.call 107 [.s (.int .u8 x)] []) = some (.ret (.s (.bool (A.le 97 x && A.le x 122))) []) := by
  rw [evl_fn (envV A) 107 [.s (.int .u8 x)] [] (fn := Try.f107) (c := bd107) (lv := lvF107) rfl rfl rfl rfl rfl rfl]
  generalize evl (envV A) = E
  generalize lpOf (envV A) 107 bd107 = LP
  obtain ⟨aadd, asub, amul, arem, aquo, awr, ashr, aeq, alt, ale, aseq, aslt, acat, acut, asiz, aat, anle, aneq, afit⟩ := A
  cbv
  cases h1 : ale 97 x <;> cbv
def allT (A : Ar) (s : ByteArray) : Nat → Nat → Bool
  | 0, _ => true
  | m + 1, i => match A.at_ s i with
    | some b => bif A.lt b 32 then false else bif A.lt 126 b then false else allT A s m (i + 1)
    | none => false
def stT (A : Ar) (s : ByteArray) (i : Nat) : St := { n := 23, k := 0, fr := [(0, .s (.string s)), (5, .s (.int .i64 (.ofNat (A.siz s)))), (6, .s (.int .i64 (.ofNat i)))], O := [] }
theorem lp_name_Text (A : Ar) (hA : ArOk A) (s : ByteArray) (hs : A.siz s ≤ 9223372036854775807) : ∀ (m i : Nat), m + i = A.siz s →
    lpOf (envV A) 66 bd66 2 (stT A s i) = some (bif allT A s m i then .code (.exit 0) { n := 23, k := 0, fr := [(0, .s (.string s)), (5, .s (.int .i64 (.ofNat (A.siz s)))), (6, .s (.int .i64 (.ofNat (A.siz s)))), (7, .s (.bool false))], O := [] }
      else .code .ret { n := 23, k := 0, fr := [(2, .s (.bool false))], O := [] }) := by
  intro m
  induction m with
  | zero =>
    intro i hi
    rw [lp_step (envV A) 66 (c0 := bd66) (lv := lvF66) rfl rfl]
    have h1 : A.lt (Int.ofNat i) (Int.ofNat (A.siz s)) = false := by rw [hA.lt]; simp; omega
    have hi' : i = A.siz s := by omega
    subst hi'
    generalize evl (envV A) = E
    generalize lpOf (envV A) 66 bd66 = LP
    clear hA hs hi
    obtain ⟨aadd, asub, amul, arem, aquo, awr, ashr, aeq, alt, ale, aseq, aslt, acat, acut, asiz, aat, anle, aneq, afit⟩ := A
    simp only at h1
    cbv
    rw [h1]
    cbv
  | succ m ih =>
    intro i hi
    rw [lp_step (envV A) 66 (c0 := bd66) (lv := lvF66) rfl rfl]
    have h1 : A.lt (Int.ofNat i) (Int.ofNat (A.siz s)) = true := by rw [hA.lt]; simp; omega
    obtain ⟨b, hb⟩ := hA.at_ s i (by omega)
    have h2 := hA.inc i (by omega)
    have h3 := ih (i + 1) (by omega)
    unfold stT at h3
    rw [lp_split (lpOf (envV A) 66 bd66) 2]
    generalize lpOf (envV A) 66 bd66 2 = L2 at h3 ⊢
    generalize lpOf (envV A) 66 bd66 = LP
    generalize evl (envV A) = E
    unfold allT stT
    rw [hb]
    generalize allT A s m (i + 1) = rest at h3 ⊢
    clear hA hs hi ih
    obtain ⟨aadd, asub, amul, arem, aquo, awr, ashr, aeq, alt, ale, aseq, aslt, acat, acut, asiz, aat, anle, aneq, afit⟩ := A
    simp only at h1 hb h2 h3
    cbv
    rw [h1]
    cbv
    rw [hb]
    cbv
    cases alt b 32 <;> cbv
    rw [hb]
    cbv
    cases alt 126 b <;> cbv
    rw [h2, h3]
    cbv
theorem eq_name_Text (A : Ar) (hA : ArOk A) (s : ByteArray) (hs : A.siz s ≤ 9223372036854775807) :
    evl (envV A) (.call 66 [.s (.string s)] []) = some (.ret (.s (.bool (bif allT A s (A.siz s) 0 then A.le (.ofNat (A.siz s)) 60 else false))) []) := by
  rw [evl_fn (envV A) 66 [.s (.string s)] [] (fn := Try.f66) (c := bd66) (lv := lvF66) rfl rfl rfl rfl rfl rfl]
  have h3 := lp_name_Text A hA s hs (A.siz s) 0 (by omega)
  unfold stT at h3
  rw [lp_split (lpOf (envV A) 66 bd66) 2]
  generalize lpOf (envV A) 66 bd66 2 = L2 at h3 ⊢
  generalize lpOf (envV A) 66 bd66 = LP
  generalize evl (envV A) = E
  generalize allT A s (A.siz s) 0 = all at h3 ⊢
  clear hA hs
  obtain ⟨aadd, asub, amul, arem, aquo, awr, ashr, aeq, alt, ale, aseq, aslt, acat, acut, asiz, aat, anle, aneq, afit⟩ := A
  simp only [show Int.ofNat 0 = 0 from rfl] at h3
  cbv
  rw [h3]
  cases all <;> cbv
theorem lp_placketref01_Text (A : Ar) (hA : ArOk A) (s : ByteArray) (hs : A.siz s ≤ 9223372036854775807) : ∀ (m i : Nat), m + i = A.siz s →
    lpOf (envV A) 72 bd72 2 { n := 23, k := 0, fr := [(0, .s (.string s)), (3, .s (.int .i64 (.ofNat i)))], O := [] } = some (bif allT A s m i then .code (.exit 0) { n := 23, k := 0, fr := [(0, .s (.string s)), (3, .s (.int .i64 (.ofNat (A.siz s)))), (7, .s (.bool false))], O := [] }
      else .code .ret { n := 23, k := 0, fr := [(2, .s (.bool false))], O := [] }) := by
  intro m
  induction m with
  | zero =>
    intro i hi
    rw [lp_step (envV A) 72 (c0 := bd72) (lv := lvF72) rfl rfl]
    have h1 : A.lt (Int.ofNat i) (Int.ofNat (A.siz s)) = false := by rw [hA.lt]; simp; omega
    have hi' : i = A.siz s := by omega
    subst hi'
    generalize evl (envV A) = E
    generalize lpOf (envV A) 72 bd72 = LP
    clear hA hs hi
    obtain ⟨aadd, asub, amul, arem, aquo, awr, ashr, aeq, alt, ale, aseq, aslt, acat, acut, asiz, aat, anle, aneq, afit⟩ := A
    simp only at h1
    cbv
    rw [h1]
    cbv
  | succ m ih =>
    intro i hi
    rw [lp_step (envV A) 72 (c0 := bd72) (lv := lvF72) rfl rfl]
    have h1 : A.lt (Int.ofNat i) (Int.ofNat (A.siz s)) = true := by rw [hA.lt]; simp; omega
    obtain ⟨b, hb⟩ := hA.at_ s i (by omega)
    have h2 := hA.inc i (by omega)
    have h3 := ih (i + 1) (by omega)
    rw [lp_split (lpOf (envV A) 72 bd72) 2]
    generalize lpOf (envV A) 72 bd72 2 = L2 at h3 ⊢
    generalize lpOf (envV A) 72 bd72 = LP
    generalize evl (envV A) = E
    unfold allT
    rw [hb]
    generalize allT A s m (i + 1) = rest at h3 ⊢
    clear hA hs hi ih
    obtain ⟨aadd, asub, amul, arem, aquo, awr, ashr, aeq, alt, ale, aseq, aslt, acat, acut, asiz, aat, anle, aneq, afit⟩ := A
    simp only at h1 hb h2 h3
    cbv
    rw [h1]
    cbv
    rw [hb]
    cbv
    cases alt b 32 <;> cbv
    rw [hb]
    cbv
    cases alt 126 b <;> cbv
    rw [h2, h3]
    cbv
theorem eq_placketref01_Text (A : Ar) (hA : ArOk A) (s : ByteArray) (hs : A.siz s ≤ 9223372036854775807) :
    evl (envV A) (.call 72 [.s (.string s)] []) = some (.ret (.s (.bool (bif allT A s (A.siz s) 0 then A.le (.ofNat (A.siz s)) 60 else false))) []) := by
  rw [evl_fn (envV A) 72 [.s (.string s)] [] (fn := Try.f72) (c := bd72) (lv := lvF72) rfl rfl rfl rfl rfl rfl]
  have h3 := lp_placketref01_Text A hA s hs (A.siz s) 0 (by omega)
  rw [lp_split (lpOf (envV A) 72 bd72) 2]
  generalize lpOf (envV A) 72 bd72 2 = L2 at h3 ⊢
  generalize lpOf (envV A) 72 bd72 = LP
  generalize evl (envV A) = E
  generalize allT A s (A.siz s) 0 = all at h3 ⊢
  clear hA hs
  obtain ⟨aadd, asub, amul, arem, aquo, awr, ashr, aeq, alt, ale, aseq, aslt, acat, acut, asiz, aat, anle, aneq, afit⟩ := A
  simp only [show Int.ofNat 0 = 0 from rfl] at h3
  cbv
  rw [h3]
  cases all <;> cbv
def allR (A : Ar) (s : ByteArray) : Nat → Nat → Bool
  | 0, _ => true
  | m + 1, i => match A.at_ s i with
    | some b => bif A.le 97 b && A.le b 122 then allR A s m (i + 1) else bif A.eq (.ofNat i) 0 then false else
      bif A.lt b 48 then (bif A.eq b 45 then allR A s m (i + 1) else false) else bif A.lt 57 b then (bif A.eq b 45 then allR A s m (i + 1) else false) else allR A s m (i + 1)
    | none => false
theorem allR_s {A : Ar} {s : ByteArray} {m i : Nat} {b : Int} (h : A.at_ s i = some b) : allR A s (m + 1) i = (bif A.le 97 b && A.le b 122 then allR A s m (i + 1) else bif A.eq (.ofNat i) 0 then false else
      bif A.lt b 48 then (bif A.eq b 45 then allR A s m (i + 1) else false) else bif A.lt 57 b then (bif A.eq b 45 then allR A s m (i + 1) else false) else allR A s m (i + 1)) := by
  rw [allR, h]
set_option maxHeartbeats 4000000 in
theorem lp_placketref01_Name (A : Ar) (hA : ArOk A) (s : ByteArray) (hs : A.siz s ≤ 9223372036854775807) : ∀ (m i : Nat), m + i = A.siz s →
    lpOf (envV A) 73 bd73 4 { n := 47, k := 0, fr := [(0, .s (.string s)), (3, .s (.int .i64 (.ofNat i)))], O := [] } = some (bif allR A s m i then .code (.exit 0) { n := 47, k := 0, fr := [(0, .s (.string s)), (3, .s (.int .i64 (.ofNat (A.siz s)))), (16, .s (.bool false))], O := [] }
      else .code .ret { n := 47, k := 0, fr := [(2, .s (.bool false))], O := [] }) := by
  intro m
  induction m with
  | zero =>
    intro i hi
    rw [lp_step (envV A) 73 (c0 := bd73) (lv := lvF73) rfl rfl]
    have h1 : A.lt (Int.ofNat i) (Int.ofNat (A.siz s)) = false := by rw [hA.lt]; simp; omega
    have hi' : i = A.siz s := by omega
    subst hi'
    generalize evl (envV A) = E
    generalize lpOf (envV A) 73 bd73 = LP
    clear hA hs hi
    obtain ⟨aadd, asub, amul, arem, aquo, awr, ashr, aeq, alt, ale, aseq, aslt, acat, acut, asiz, aat, anle, aneq, afit⟩ := A
    simp only at h1
    cbv
    rw [h1]
    cbv
  | succ m ih =>
    intro i hi
    rw [lp_step (envV A) 73 (c0 := bd73) (lv := lvF73) rfl rfl]
    have h1 : A.lt (Int.ofNat i) (Int.ofNat (A.siz s)) = true := by rw [hA.lt]; simp; omega
    obtain ⟨b, hb⟩ := hA.at_ s i (by omega)
    have h2 := hA.inc i (by omega)
    have h3 := ih (i + 1) (by omega)
    have h76 := eq_placketref01_letter A b
    rw [lp_split (lpOf (envV A) 73 bd73) 4]
    generalize lpOf (envV A) 73 bd73 4 = L2 at h3 ⊢
    generalize lpOf (envV A) 73 bd73 = LP
    generalize evl (envV A) = E at h76 ⊢
    rw [allR_s hb]
    generalize allR A s m (i + 1) = rest at h3 ⊢
    generalize (A.le 97 b && A.le b 122) = letter at h76 ⊢
    clear hA hs hi ih
    obtain ⟨aadd, asub, amul, arem, aquo, awr, ashr, aeq, alt, ale, aseq, aslt, acat, acut, asiz, aat, anle, aneq, afit⟩ := A
    simp only at h1 hb h2 h3 h76
    cbv
    rw [h1]
    cbv
    rw [hb]
    cbv
    rw [h76]
    cbv
    cases letter <;> cbv
    · cases aeq (Int.ofNat i) 0 <;> cbv
      rw [hb]
      cbv
      cases alt b 48 <;> cbv
      · rw [hb]
        cbv
        cases alt 57 b <;> cbv
        · rw [h2, h3]
          cbv
        · rw [hb]
          cbv
          cases aeq b 45 <;> cbv
          rw [h2, h3]
          cbv
      · rw [hb]
        cbv
        cases aeq b 45 <;> cbv
        rw [h2, h3]
        cbv
    · rw [h2, h3]
      cbv
theorem eq_placketref01_Name (A : Ar) (hA : ArOk A) (s : ByteArray) (hs : A.siz s ≤ 9223372036854775807) :
    evl (envV A) (.call 73 [.s (.string s)] []) = some (.ret (.s (.bool (bif A.lt (.ofNat (A.siz s)) 1 then false else bif A.lt 12 (.ofNat (A.siz s)) then false else allR A s (A.siz s) 0))) []) := by
  rw [evl_fn (envV A) 73 [.s (.string s)] [] (fn := Try.f73) (c := bd73) (lv := lvF73) rfl rfl rfl rfl rfl rfl]
  have h3 := lp_placketref01_Name A hA s hs (A.siz s) 0 (by omega)
  rw [lp_split (lpOf (envV A) 73 bd73) 4]
  generalize lpOf (envV A) 73 bd73 4 = L2 at h3 ⊢
  generalize lpOf (envV A) 73 bd73 = LP
  generalize evl (envV A) = E
  generalize allR A s (A.siz s) 0 = all at h3 ⊢
  clear hA hs
  obtain ⟨aadd, asub, amul, arem, aquo, awr, ashr, aeq, alt, ale, aseq, aslt, acat, acut, asiz, aat, anle, aneq, afit⟩ := A
  simp only [show Int.ofNat 0 = 0 from rfl] at h3
  cbv
  cases alt (Int.ofNat (asiz s)) 1 <;> cbv
  cases alt 12 (Int.ofNat (asiz s)) <;> cbv
  rw [h3]
  cases all <;> cbv
def allL (A : Ar) (s : ByteArray) : Nat → Nat → Bool
  | 0, _ => true
  | m + 1, i => match A.at_ s i with
    | some b => bif A.le 97 b && A.le b 122 then allL A s m (i + 1) else
      bif A.lt b 48 then (bif A.eq b 45 then allL A s m (i + 1) else false) else bif A.lt 57 b then (bif A.eq b 45 then allL A s m (i + 1) else false) else allL A s m (i + 1)
    | none => false
theorem allL_s {A : Ar} {s : ByteArray} {m i : Nat} {b : Int} (h : A.at_ s i = some b) : allL A s (m + 1) i = (bif A.le 97 b && A.le b 122 then allL A s m (i + 1) else
      bif A.lt b 48 then (bif A.eq b 45 then allL A s m (i + 1) else false) else bif A.lt 57 b then (bif A.eq b 45 then allL A s m (i + 1) else false) else allL A s m (i + 1)) := by
  rw [allL, h]
set_option maxHeartbeats 4000000 in
theorem lp_name_May (A : Ar) (hA : ArOk A) (s : ByteArray) (hs : A.siz s ≤ 9223372036854775807) : ∀ (m i : Nat), m + i = A.siz s →
    lpOf (envV A) 67 bd67 4 { n := 42, k := 0, fr := [(0, .s (.string s)), (19, .s (.int .i64 (.ofNat (A.siz s)))), (20, .s (.int .i64 (.ofNat i)))], O := [] } = some (bif allL A s m i then .code (.exit 0) { n := 42, k := 0, fr := [(0, .s (.string s)), (19, .s (.int .i64 (.ofNat (A.siz s)))), (20, .s (.int .i64 (.ofNat (A.siz s)))), (21, .s (.bool false))], O := [] }
      else .code .ret { n := 42, k := 0, fr := [(2, .s (.bool false))], O := [] }) := by
  intro m
  induction m with
  | zero =>
    intro i hi
    rw [lp_step (envV A) 67 (c0 := bd67) (lv := lvF67) rfl rfl]
    have h1 : A.lt (Int.ofNat i) (Int.ofNat (A.siz s)) = false := by rw [hA.lt]; simp; omega
    have hi' : i = A.siz s := by omega
    subst hi'
    generalize evl (envV A) = E
    generalize lpOf (envV A) 67 bd67 = LP
    clear hA hs hi
    obtain ⟨aadd, asub, amul, arem, aquo, awr, ashr, aeq, alt, ale, aseq, aslt, acat, acut, asiz, aat, anle, aneq, afit⟩ := A
    simp only at h1
    cbv
    rw [h1]
    cbv
  | succ m ih =>
    intro i hi
    rw [lp_step (envV A) 67 (c0 := bd67) (lv := lvF67) rfl rfl]
    have h1 : A.lt (Int.ofNat i) (Int.ofNat (A.siz s)) = true := by rw [hA.lt]; simp; omega
    obtain ⟨b, hb⟩ := hA.at_ s i (by omega)
    have h2 := hA.inc i (by omega)
    have h3 := ih (i + 1) (by omega)
    have h75 := eq_name_letter A b
    rw [lp_split (lpOf (envV A) 67 bd67) 4]
    generalize lpOf (envV A) 67 bd67 4 = L2 at h3 ⊢
    generalize lpOf (envV A) 67 bd67 = LP
    generalize evl (envV A) = E at h75 ⊢
    rw [allL_s hb]
    generalize allL A s m (i + 1) = rest at h3 ⊢
    generalize (A.le 97 b && A.le b 122) = letter at h75 ⊢
    clear hA hs hi ih
    obtain ⟨aadd, asub, amul, arem, aquo, awr, ashr, aeq, alt, ale, aseq, aslt, acat, acut, asiz, aat, anle, aneq, afit⟩ := A
    simp only at h1 hb h2 h3 h75
    cbv
    rw [h1]
    cbv
    rw [hb]
    cbv
    rw [h75]
    cbv
    cases letter <;> cbv
    · cases alt b 48 <;> cbv
      · cases alt 57 b <;> cbv
        · rw [h2, h3]
          cbv
        · cases aeq b 45 <;> cbv
          rw [h2, h3]
          cbv
      · cases aeq b 45 <;> cbv
        rw [h2, h3]
        cbv
    · rw [h2, h3]
      cbv
theorem eq_name_May (A : Ar) (hA : ArOk A) (s : ByteArray) (hs : A.siz s ≤ 9223372036854775807) {e : Bool} (he : A.seq s ⟨#[]⟩ = e) {letter : Bool} (h75 : e = false → ∃ b, A.at_ s 0 = some b ∧ (A.le 97 b && A.le b 122) = letter) :
    evl (envV A) (.call 67 [.s (.string s)] []) = some (.ret (.s (.bool (bif e then false else bif A.lt 12 (.ofNat (A.siz s)) then false else bif letter then allL A s (A.siz s) 0 else false))) []) := by
  rw [evl_fn (envV A) 67 [.s (.string s)] [] (fn := Try.f67) (c := bd67) (lv := lvF67) rfl rfl rfl rfl rfl rfl]
  have h3 := lp_name_May A hA s hs (A.siz s) 0 (by omega)
  have hl : e = false → ∃ b, A.at_ s 0 = some b ∧ evl (envV A) (.call 104 [.s (.int .u8 b)] []) = some (.ret (.s (.bool letter)) []) := fun q => by
    obtain ⟨b, k1, k2⟩ := h75 q
    exact ⟨b, k1, by rw [eq_name_letter, k2]⟩
  rw [lp_split (lpOf (envV A) 67 bd67) 4]
  generalize lpOf (envV A) 67 bd67 4 = L2 at h3 ⊢
  generalize lpOf (envV A) 67 bd67 = LP
  generalize evl (envV A) = E at hl ⊢
  generalize allL A s (A.siz s) 0 = all at h3 ⊢
  clear hA hs h75
  obtain ⟨aadd, asub, amul, arem, aquo, awr, ashr, aeq, alt, ale, aseq, aslt, acat, acut, asiz, aat, anle, aneq, afit⟩ := A
  simp only [show Int.ofNat 0 = 0 from rfl] at h3
  simp only at he hl
  cbv
  rw [he]
  cases e with
  | true => cbv
  | false =>
    obtain ⟨b, hb, hq⟩ := hl rfl
    cbv
    cases alt 12 (Int.ofNat (asiz s)) <;> cbv
    rw [hb]
    cbv
    rw [hq]
    cbv
    cases letter <;> cbv
    rw [h3]
    cases all <;> cbv
theorem allRL (s : ByteArray) : ∀ (m i : Nat), 0 < i → allR realAr s m i = allL realAr s m i
  | 0, i, _ => rfl
  | m + 1, i, hi => by
    have h0 : realAr.eq (Int.ofNat i) 0 = false := by simp [realAr]; omega
    unfold allR allL
    cases realAr.at_ s i with
    | none => rfl
    | some b => simp only [allRL s m (i + 1) (by omega), h0, cond_false]
/-- what name.May and the document's Name come to -/
def nameP (s : ByteArray) : Bool := bif realAr.lt (.ofNat (realAr.siz s)) 1 then false else bif realAr.lt 12 (.ofNat (realAr.siz s)) then false else allR realAr s (realAr.siz s) 0
def textP (s : ByteArray) : Bool := bif allT realAr s (realAr.siz s) 0 then realAr.le (.ofNat (realAr.siz s)) 60 else false
theorem seq_empty (s : ByteArray) : realAr.seq s ⟨#[]⟩ = decide (s.size = 0) := by
  have e : s.size = s.data.toList.length := by rw [Array.length_toList]; rfl
  rw [e]
  show (s.data.toList == []) = _
  cases s.data.toList <;> rfl
theorem name16 (s : ByteArray) (hs : s.size ≤ 9223372036854775807) : evl (envV realAr) (.call 67 [.s (.string s)] []) = some (.ret (.s (.bool (nameP s))) []) := by
  by_cases h0 : s.size = 0
  · have he : realAr.seq s ⟨#[]⟩ = true := by rw [seq_empty, h0]; rfl
    rw [eq_name_May realAr realAr_ok s hs he (letter := false) (by simp)]
    have : realAr.lt (Int.ofNat (realAr.siz s)) 1 = true := by simp [realAr, h0]
    simp only [nameP, this, cond_true]
  · have he : realAr.seq s ⟨#[]⟩ = false := by rw [seq_empty]; simp [h0]
    obtain ⟨b, hb⟩ := realAr_ok.at_ s 0 (by show 0 < s.size; omega)
    rw [eq_name_May realAr realAr_ok s hs he (letter := realAr.le 97 b && realAr.le b 122) (fun _ => ⟨b, hb, rfl⟩)]
    have h1 : realAr.lt (Int.ofNat (realAr.siz s)) 1 = false := by simp [realAr]; omega
    simp only [nameP, h1, cond_false]
    obtain ⟨m, hm⟩ : ∃ m, realAr.siz s = m + 1 := ⟨s.size - 1, by show s.size = _; omega⟩
    rw [hm]
    have e0 : realAr.eq (Int.ofNat 0) 0 = true := rfl
    rw [allR_s hb, allL_s hb, e0, allRL s m (0 + 1) (by omega)]
    cases realAr.le 97 b && realAr.le b 122 <;> rfl
end Go.Va
