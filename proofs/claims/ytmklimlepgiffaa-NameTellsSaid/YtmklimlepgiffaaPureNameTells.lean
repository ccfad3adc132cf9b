/- For every text the statement NameTells of layer 1 returns true: name.May, name.Text and name.Void agree with the document's answer. No condition. -/
import Derived.Test.YtmklimlepgiffaaPNameTellsx2
namespace Go.Proofs.Ytmklimlepgiffaa.Pure
open Go.RowKit Go.Proofs.Ytmklimlepgiffaa.PNameTells Go.Proofs.YtmklimlepgiffaaW.PrintWords Go.Proofs.YtmklimlepgiffaaW.PrintLast

theorem wrap_next {i n : Int} (h0 : 0 ≤ i) (h : i < n) (hn : n ≤ 140737488351232) : wrap64 (i + 1) = i + 1 := by
  unfold wrap64
  omega

/-- All bytes from i on, d of them. -/
def allFrom (p : Int → Bool) (s : ByteArray) : Nat → Int → Bool
  | 0, _ => true
  | d + 1, i => p (bt s i) && allFrom p s d (i + 1)
def isLetter (c : Int) : Bool := decide (97 ≤ c) && decide (c ≤ 122)
def isNameByte (c : Int) : Bool := isLetter c || (decide (48 ≤ c) && decide (c ≤ 57)) || decide (c = 45)
def isTextByte (c : Int) : Bool := decide (32 ≤ c) && decide (c ≤ 126)
def mayB (s : ByteArray) : Bool := decide (0 < s.size) && decide (s.size ≤ 12) && isLetter (bt s 0) && allFrom isNameByte s s.size 0
def textB (s : ByteArray) : Bool := allFrom isTextByte s s.size 0 && decide (s.size ≤ 60)

theorem letter_f (c : Int) : name_letter.f c = some (isLetter c) := by
  unfold name_letter.f isLetter
  by_cases h : c ≥ 97
  · rw [if_pos h]; simp [show 97 ≤ c from h]
  · rw [if_neg h]; simp [show ¬ 97 ≤ c from h]
theorem rletter_f (c : Int) : placketref01_letter.f c = some (isLetter c) := by
  unfold placketref01_letter.f isLetter
  by_cases h : c ≥ 97
  · rw [if_pos h]; simp [show 97 ≤ c from h]
  · rw [if_neg h]; simp [show ¬ 97 ≤ c from h]

theorem may_l0 (s : ByteArray) (hn : s.size ≤ 140737488351232) (d : Nat) : ∀ (k : Nat) (i : Int), 0 ≤ i → i + d = s.size → d < k →
    name_May.l0 k s (s.size : Int) i = some (allFrom isNameByte s d i) := by
  induction d with
  | zero =>
    intro k i h0 h1 hk
    obtain ⟨k, rfl⟩ : ∃ m, k = m + 1 := ⟨k - 1, by omega⟩
    simp only [name_May.l0]; rw [if_neg (by omega)]; rfl
  | succ d ih =>
    intro k i h0 h1 hk
    obtain ⟨k, rfl⟩ : ∃ m, k = m + 1 := ⟨k - 1, by omega⟩
    have e := ih k (i + 1) (by omega) (by omega) (by omega)
    simp only [name_May.l0]
    rw [if_pos (by omega), if_pos h0, if_pos (by omega), letter_f]
    simp only [Option.bind_some]
    rw [wrap_next (n := (s.size : Int)) h0 (by omega) (by omega), e]
    simp only [allFrom, isNameByte]
    by_cases hl : isLetter (bt s i) = true
    · rw [if_pos hl]; simp [hl]
    · rw [if_neg hl]
      have hl' : isLetter (bt s i) = false := by simpa using hl
      by_cases a : bt s i < 48
      · rw [if_pos a]
        by_cases b : bt s i = 45
        · rw [if_pos b]; simp [b]
        · rw [if_neg b]; simp [hl', b]; intro h; omega
      · rw [if_neg a]
        by_cases b : bt s i > 57
        · rw [if_pos b]
          by_cases c : bt s i = 45
          · rw [if_pos c]; simp [c]
          · rw [if_neg c]; simp [hl', c]; intro h h'; omega
        · rw [if_neg b]; simp [show 48 ≤ bt s i by omega, show bt s i ≤ 57 by omega]

theorem rname_l0 (s : ByteArray) (hn : s.size ≤ 140737488351232) (d : Nat) : ∀ (k : Nat) (i : Int), 0 < i → i + d = s.size → d < k →
    placketref01_Name.l0 k s i = some (allFrom isNameByte s d i) := by
  induction d with
  | zero =>
    intro k i h0 h1 hk
    obtain ⟨k, rfl⟩ : ∃ m, k = m + 1 := ⟨k - 1, by omega⟩
    simp only [placketref01_Name.l0]; rw [if_neg (by omega)]; rfl
  | succ d ih =>
    intro k i h0 h1 hk
    obtain ⟨k, rfl⟩ : ∃ m, k = m + 1 := ⟨k - 1, by omega⟩
    have e := ih k (i + 1) (by omega) (by omega) (by omega)
    simp only [placketref01_Name.l0]
    rw [if_pos (by omega), if_pos (by omega), rletter_f]
    simp only [Option.bind_some]
    rw [wrap_next (n := (s.size : Int)) (by omega) (by omega) (by omega), e]
    simp only [allFrom, isNameByte]
    by_cases hl : isLetter (bt s i) = true
    · rw [if_pos hl]; simp [hl]
    · rw [if_neg hl, if_neg (by omega)]
      have hl' : isLetter (bt s i) = false := by simpa using hl
      by_cases a : bt s i < 48
      · rw [if_pos a]
        by_cases b : bt s i = 45
        · rw [if_pos b]; simp [b]
        · rw [if_neg b]; simp [hl', b]; intro h; omega
      · rw [if_neg a]
        by_cases b : bt s i > 57
        · rw [if_pos b]
          by_cases c : bt s i = 45
          · rw [if_pos c]; simp [c]
          · rw [if_neg c]; simp [hl', c]; intro h h'; omega
        · rw [if_neg b]; simp [show 48 ≤ bt s i by omega, show bt s i ≤ 57 by omega]

theorem toList_nil (s : ByteArray) : s.toList = [] ↔ s.size = 0 := by
  rw [ByteArray.toList_eq]
  show s.data.toList = [] ↔ s.data.size = 0
  rw [← Array.length_toList]
  exact List.length_eq_zero_iff.symm

theorem may_f (s : ByteArray) (hn : s.size ≤ 140737488351232) (k : Nat) (hk : s.size + 2 ≤ k) : name_May.f k s = some (mayB s) := by
  obtain ⟨k, rfl⟩ : ∃ m, k = m + 1 := ⟨k - 1, by omega⟩
  have e := may_l0 s hn s.size k 0 (by omega) (by omega) (by omega)
  unfold name_May.f mayB
  by_cases h0 : s.toList = []
  · rw [if_pos h0]
    have := (toList_nil s).1 h0
    simp [name_May.j0, this]
  · rw [if_neg h0]
    have h0' : s.size ≠ 0 := fun h => h0 ((toList_nil s).2 h)
    by_cases h1 : (s.size : Int) > 12
    · rw [if_pos h1]
      simp [name_May.j0, show ¬ s.size ≤ 12 by omega]
    · rw [if_neg h1, if_pos (by omega), letter_f]
      simp only [Option.bind_some, name_May.j0]
      rw [e]
      simp only [show 0 < s.size by omega, show s.size ≤ 12 by omega, decide_true, Bool.true_and]
      cases isLetter (bt s 0) <;> simp
theorem rname_f (s : ByteArray) (hn : s.size ≤ 140737488351232) (k : Nat) (hk : s.size + 2 ≤ k) : placketref01_Name.f k s = some (mayB s) := by
  obtain ⟨k, rfl⟩ : ∃ m, k = m + 1 := ⟨k - 1, by omega⟩
  unfold placketref01_Name.f mayB
  by_cases h0 : (s.size : Int) < 1
  · rw [if_pos h0]
    simp [placketref01_Name.j0, show s.size = 0 by omega]
  · rw [if_neg h0]
    by_cases h1 : (s.size : Int) > 12
    · simp [placketref01_Name.j0, h1, show ¬ s.size ≤ 12 by omega]
    · obtain ⟨k, rfl⟩ : ∃ m, k = m + 1 := ⟨k - 1, by omega⟩
      obtain ⟨d, hd⟩ : ∃ d, s.size = d + 1 := ⟨s.size - 1, by omega⟩
      have e := rname_l0 s hn d k 1 (by omega) (by omega) (by omega)
      simp only [placketref01_Name.j0, h1, decide_false]
      rw [if_neg (by simp)]
      simp only [placketref01_Name.l0]
      rw [if_pos (by omega), if_pos (by omega), rletter_f]
      simp only [Option.bind_some]
      rw [show wrap64 (0 + 1) = 1 from by unfold wrap64; omega]
      rw [e]
      simp only [show 0 < s.size by omega, show s.size ≤ 12 by omega, decide_true, Bool.true_and]
      rw [hd]
      simp only [allFrom, isNameByte]
      cases h : isLetter (bt s 0)
      · simp
      · simp

theorem text_l0 (s : ByteArray) (hn : s.size ≤ 140737488351232) (d : Nat) : ∀ (k : Nat) (i : Int), 0 ≤ i → i + d = s.size → d < k →
    name_Text.l0 k s (s.size : Int) i = some (allFrom isTextByte s d i && decide (s.size ≤ 60)) := by
  induction d with
  | zero =>
    intro k i h0 h1 hk
    obtain ⟨k, rfl⟩ : ∃ m, k = m + 1 := ⟨k - 1, by omega⟩
    simp only [name_Text.l0]; rw [if_neg (by omega)]; simp [allFrom]; omega
  | succ d ih =>
    intro k i h0 h1 hk
    obtain ⟨k, rfl⟩ : ∃ m, k = m + 1 := ⟨k - 1, by omega⟩
    have e := ih k (i + 1) (by omega) (by omega) (by omega)
    simp only [name_Text.l0]
    rw [if_pos (by omega), if_pos h0, if_pos (by omega)]
    rw [wrap_next (n := (s.size : Int)) h0 (by omega) (by omega), e]
    simp only [allFrom, isTextByte]
    by_cases a : bt s i < 32
    · rw [if_pos a]; simp [show ¬ 32 ≤ bt s i by omega]
    · rw [if_neg a]
      by_cases b : bt s i > 126
      · rw [if_pos b]; simp [show ¬ bt s i ≤ 126 by omega]
      · rw [if_neg b]; simp [show 32 ≤ bt s i by omega, show bt s i ≤ 126 by omega]
theorem rtext_l0 (s : ByteArray) (hn : s.size ≤ 140737488351232) (d : Nat) : ∀ (k : Nat) (i : Int), 0 ≤ i → i + d = s.size → d < k →
    placketref01_Text.l0 k s i = some (allFrom isTextByte s d i && decide (s.size ≤ 60)) := by
  induction d with
  | zero =>
    intro k i h0 h1 hk
    obtain ⟨k, rfl⟩ : ∃ m, k = m + 1 := ⟨k - 1, by omega⟩
    simp only [placketref01_Text.l0]; rw [if_neg (by omega)]; simp [allFrom]; omega
  | succ d ih =>
    intro k i h0 h1 hk
    obtain ⟨k, rfl⟩ : ∃ m, k = m + 1 := ⟨k - 1, by omega⟩
    have e := ih k (i + 1) (by omega) (by omega) (by omega)
    simp only [placketref01_Text.l0]
    rw [if_pos (by omega), if_pos h0]
    rw [wrap_next (n := (s.size : Int)) h0 (by omega) (by omega), e]
    simp only [allFrom, isTextByte]
    by_cases a : bt s i < 32
    · rw [if_pos a]; simp [show ¬ 32 ≤ bt s i by omega]
    · rw [if_neg a]
      by_cases b : bt s i > 126
      · rw [if_pos b]; simp [show ¬ bt s i ≤ 126 by omega]
      · rw [if_neg b]; simp [show 32 ≤ bt s i by omega, show bt s i ≤ 126 by omega]
theorem text_f (s : ByteArray) (hn : s.size ≤ 140737488351232) (k : Nat) (hk : s.size + 1 ≤ k) : name_Text.f k s = some (textB s) :=
  text_l0 s hn s.size k 0 (by omega) (by omega) (by omega)
theorem rtext_f (s : ByteArray) (hn : s.size ≤ 140737488351232) (k : Nat) (hk : s.size + 1 ≤ k) : placketref01_Text.f k s = some (textB s) :=
  rtext_l0 s hn s.size k 0 (by omega) (by omega) (by omega)
theorem void_same (s : ByteArray) : ∃ b, name_Void.f s = some b ∧ placketref01_Void.f s = some b := by
  unfold name_Void.f placketref01_Void.f
  by_cases a : s.toList = ([98, 114] : List UInt8)
  · exact ⟨true, by rw [if_pos a], by rw [if_pos a]⟩
  · by_cases b : s.toList = ([104, 114] : List UInt8)
    · exact ⟨true, by rw [if_neg a, if_pos b], by rw [if_neg a, if_pos b]⟩
    · by_cases c : s.toList = ([105, 109, 103] : List UInt8)
      · exact ⟨true, by rw [if_neg a, if_neg b, if_pos c], by rw [if_neg a, if_neg b, if_pos c]⟩
      · by_cases d : s.toList = ([105, 110, 112, 117, 116] : List UInt8)
        · exact ⟨true, by rw [if_neg a, if_neg b, if_neg c, if_pos d], by rw [if_neg a, if_neg b, if_neg c]; simp [d]⟩
        · exact ⟨false, by rw [if_neg a, if_neg b, if_neg c, if_neg d], by rw [if_neg a, if_neg b, if_neg c]; simp [d]⟩

theorem up_f (k : Nat) (hk : 20 ≤ k) : placketlaw01_up.f k = some true := by
  unfold placketlaw01_up.f
  rw [may_f _ (by decide) k (by show 2 + 2 ≤ k; omega), may_f _ (by decide) k (by show 2 + 2 ≤ k; omega), may_f _ (by decide) k (by show 0 + 2 ≤ k; omega), text_f _ (by decide) k (by show 0 + 1 ≤ k; omega)]
  rw [show mayB (⟨#[97, 49]⟩ : ByteArray) = true from by decide, show mayB (⟨#[49, 97]⟩ : ByteArray) = false from by decide, show mayB (⟨#[]⟩ : ByteArray) = false from by decide, show textB (⟨#[]⟩ : ByteArray) = true from by decide, show name_Void.f (⟨#[98, 114]⟩ : ByteArray) = some true from by unfold name_Void.f; rw [if_pos (ByteArray.toList_eq _)]]
  rfl

theorem NameTells : placketlaw01_NameTells.Pure := by
  intro s hn
  refine ⟨s.size + 20, ?_⟩
  obtain ⟨b, v, rv⟩ := void_same s
  unfold placketlaw01_NameTells.f
  rw [up_f _ (by omega), may_f s hn _ (by omega), rname_f s hn _ (by omega), text_f s hn _ (by omega), rtext_f s hn _ (by omega), v, rv]
  simp

end Go.Proofs.Ytmklimlepgiffaa.Pure
