/- For every text the statement NameGrows of layer 1 returns true: a name is a text; with a letter or a sign behind it it is one as long as it fits; each beginning but the empty one is one. No condition. -/
import Derived.Test.YtmklimlepgiffaaPNameGrowsx2
namespace Go.Proofs.Ytmklimlepgiffaa.Pure
open Go.RowKit Go.Proofs.Ytmklimlepgiffaa.PNameGrows Go.Proofs.YtmklimlepgiffaaW.PrintWords Go.Proofs.YtmklimlepgiffaaW.PrintLast

theorem wrap_next {i n : Int} (h0 : 0 ≤ i) (h : i < n) (hn : n ≤ 140737488351232) : wrap64 (i + 1) = i + 1 := by
  unfold wrap64
  omega

/-- All bytes from i on, d of them. -/
def allFrom (p : Int → Bool) (s : ByteArray) : Nat → Int → Bool
  | 0, _ => true
  | d + 1, i => p (bt s i) && allFrom p s d (i + 1)
def isLetter (c : Int) : Bool := decide (97 ≤ c) && decide (c ≤ 122)
def isNameByte (c : Int) : Bool := isLetter c || (decide (48 ≤ c) && decide (c ≤ 57)) || decide (c = 45)
def isTextByte (c : Int) : Bool := decide (32 ≤ c) && decide (c ≤ 126)
def mayB (s : ByteArray) : Bool := decide (0 < s.size) && decide (s.size ≤ 12) && isLetter (bt s 0) && allFrom isNameByte s s.size 0
def textB (s : ByteArray) : Bool := allFrom isTextByte s s.size 0 && decide (s.size ≤ 60)

theorem letter_f (c : Int) : name_letter.f c = some (isLetter c) := by
  unfold name_letter.f isLetter
  by_cases h : c ≥ 97
  · rw [if_pos h]; simp [show 97 ≤ c from h]
  · rw [if_neg h]; simp [show ¬ 97 ≤ c from h]
theorem may_l0 (s : ByteArray) (hn : s.size ≤ 140737488351232) (d : Nat) : ∀ (k : Nat) (i : Int), 0 ≤ i → i + d = s.size → d < k →
    name_May.l0 k s (s.size : Int) i = some (allFrom isNameByte s d i) := by
  induction d with
  | zero =>
    intro k i h0 h1 hk
    obtain ⟨k, rfl⟩ : ∃ m, k = m + 1 := ⟨k - 1, by omega⟩
    simp only [name_May.l0]; rw [if_neg (by omega)]; rfl
  | succ d ih =>
    intro k i h0 h1 hk
    obtain ⟨k, rfl⟩ : ∃ m, k = m + 1 := ⟨k - 1, by omega⟩
    have e := ih k (i + 1) (by omega) (by omega) (by omega)
    simp only [name_May.l0]
    rw [if_pos (by omega), if_pos h0, if_pos (by omega), letter_f]
    simp only [Option.bind_some]
    rw [wrap_next (n := (s.size : Int)) h0 (by omega) (by omega), e]
    simp only [allFrom, isNameByte]
    by_cases hl : isLetter (bt s i) = true
    · rw [if_pos hl]; simp [hl]
    · rw [if_neg hl]
      have hl' : isLetter (bt s i) = false := by simpa using hl
      by_cases a : bt s i < 48
      · rw [if_pos a]
        by_cases b : bt s i = 45
        · rw [if_pos b]; simp [b]
        · rw [if_neg b]; simp [hl', b]; intro h; omega
      · rw [if_neg a]
        by_cases b : bt s i > 57
        · rw [if_pos b]
          by_cases c : bt s i = 45
          · rw [if_pos c]; simp [c]
          · rw [if_neg c]; simp [hl', c]; intro h h'; omega
        · rw [if_neg b]; simp [show 48 ≤ bt s i by omega, show bt s i ≤ 57 by omega]

theorem toList_nil (s : ByteArray) : s.toList = [] ↔ s.size = 0 := by
  rw [ByteArray.toList_eq]
  show s.data.toList = [] ↔ s.data.size = 0
  rw [← Array.length_toList]
  exact List.length_eq_zero_iff.symm

theorem may_f (s : ByteArray) (hn : s.size ≤ 140737488351232) (k : Nat) (hk : s.size + 2 ≤ k) : name_May.f k s = some (mayB s) := by
  obtain ⟨k, rfl⟩ : ∃ m, k = m + 1 := ⟨k - 1, by omega⟩
  have e := may_l0 s hn s.size k 0 (by omega) (by omega) (by omega)
  unfold name_May.f mayB
  by_cases h0 : s.toList = []
  · rw [if_pos h0]
    have := (toList_nil s).1 h0
    simp [name_May.j0, this]
  · rw [if_neg h0]
    have h0' : s.size ≠ 0 := fun h => h0 ((toList_nil s).2 h)
    by_cases h1 : (s.size : Int) > 12
    · rw [if_pos h1]
      simp [name_May.j0, show ¬ s.size ≤ 12 by omega]
    · rw [if_neg h1, if_pos (by omega), letter_f]
      simp only [Option.bind_some, name_May.j0]
      rw [e]
      simp only [show 0 < s.size by omega, show s.size ≤ 12 by omega, decide_true, Bool.true_and]
      cases isLetter (bt s 0) <;> simp
theorem text_l0 (s : ByteArray) (hn : s.size ≤ 140737488351232) (d : Nat) : ∀ (k : Nat) (i : Int), 0 ≤ i → i + d = s.size → d < k →
    name_Text.l0 k s (s.size : Int) i = some (allFrom isTextByte s d i && decide (s.size ≤ 60)) := by
  induction d with
  | zero =>
    intro k i h0 h1 hk
    obtain ⟨k, rfl⟩ : ∃ m, k = m + 1 := ⟨k - 1, by omega⟩
    simp only [name_Text.l0]; rw [if_neg (by omega)]; simp [allFrom]; omega
  | succ d ih =>
    intro k i h0 h1 hk
    obtain ⟨k, rfl⟩ : ∃ m, k = m + 1 := ⟨k - 1, by omega⟩
    have e := ih k (i + 1) (by omega) (by omega) (by omega)
    simp only [name_Text.l0]
    rw [if_pos (by omega), if_pos h0, if_pos (by omega)]
    rw [wrap_next (n := (s.size : Int)) h0 (by omega) (by omega), e]
    simp only [allFrom, isTextByte]
    by_cases a : bt s i < 32
    · rw [if_pos a]; simp [show ¬ 32 ≤ bt s i by omega]
    · rw [if_neg a]
      by_cases b : bt s i > 126
      · rw [if_pos b]; simp [show ¬ bt s i ≤ 126 by omega]
      · rw [if_neg b]; simp [show 32 ≤ bt s i by omega, show bt s i ≤ 126 by omega]
theorem text_f (s : ByteArray) (hn : s.size ≤ 140737488351232) (k : Nat) (hk : s.size + 1 ≤ k) : name_Text.f k s = some (textB s) :=
  text_l0 s hn s.size k 0 (by omega) (by omega) (by omega)
theorem up_f (k : Nat) (hk : 20 ≤ k) : placketlaw01_up.f k = some true := by
  unfold placketlaw01_up.f
  rw [may_f _ (by decide) k (by show 2 + 2 ≤ k; omega), may_f _ (by decide) k (by show 2 + 2 ≤ k; omega), may_f _ (by decide) k (by show 0 + 2 ≤ k; omega), text_f _ (by decide) k (by show 0 + 1 ≤ k; omega)]
  rw [show mayB (⟨#[97, 49]⟩ : ByteArray) = true from by decide, show mayB (⟨#[49, 97]⟩ : ByteArray) = false from by decide, show mayB (⟨#[]⟩ : ByteArray) = false from by decide, show textB (⟨#[]⟩ : ByteArray) = true from by decide, show name_Void.f (⟨#[98, 114]⟩ : ByteArray) = some true from by unfold name_Void.f; rw [if_pos (ByteArray.toList_eq _)]]
  rfl


theorem all_iff (p : Int → Bool) (s : ByteArray) (d : Nat) : ∀ i : Int, allFrom p s d i = true ↔ ∀ j : Nat, j < d → p (bt s (i + j)) = true := by
  induction d with
  | zero => intro i; simp [allFrom]
  | succ d ih =>
    intro i
    simp only [allFrom, Bool.and_eq_true, ih]
    constructor
    · rintro ⟨a, b⟩ j hj
      cases j with
      | zero => simpa using a
      | succ j =>
        have := b j (by omega)
        rwa [show i + 1 + (j : Int) = i + ((j + 1 : Nat) : Int) by omega] at this
    · intro h
      refine ⟨by simpa using h 0 (by omega), fun j hj => ?_⟩
      have := h (j + 1) (by omega)
      rwa [show i + 1 + (j : Int) = i + ((j + 1 : Nat) : Int) by omega]
theorem may_iff (s : ByteArray) : mayB s = true ↔ 0 < s.size ∧ s.size ≤ 12 ∧ isLetter (bt s 0) = true ∧ ∀ j : Nat, j < s.size → isNameByte (bt s j) = true := by
  unfold mayB
  simp only [Bool.and_eq_true, decide_eq_true_eq, all_iff, Int.zero_add]
  constructor
  · rintro ⟨⟨⟨a, b⟩, c⟩, d⟩; exact ⟨a, b, c, d⟩
  · rintro ⟨a, b, c, d⟩; exact ⟨⟨⟨a, b⟩, c⟩, d⟩
theorem bt_left (a b : ByteArray) (j : Nat) (h : j < a.size) : bt (a ++ b) j = bt a j := by
  unfold bt
  have h' : j < (a ++ b).size := by rw [ByteArray.size_append]; omega
  simp only [Int.toNat_natCast]
  rw [dif_pos h', dif_pos h, ByteArray.getElem_append_left h]
theorem bt_right (a b : ByteArray) (j : Nat) (h : j < b.size) : bt (a ++ b) ((a.size + j : Nat) : Int) = bt b j := by
  unfold bt
  have h' : a.size + j < (a ++ b).size := by rw [ByteArray.size_append]; omega
  simp only [Int.toNat_natCast]
  rw [dif_pos h', dif_pos h, ByteArray.getElem_append_right (by omega)]
  simp
theorem bt_front (a : ByteArray) (n j : Nat) (h : j < n) (hn : n ≤ a.size) : bt (a.extract 0 n) j = bt a j := by
  unfold bt
  have h' : j < (a.extract 0 n).size := by rw [ByteArray.size_extract]; omega
  simp only [Int.toNat_natCast]
  rw [dif_pos h', dif_pos (by omega), ByteArray.getElem_extract]
  simp
theorem name_text (s : ByteArray) (h : mayB s = true) : textB s = true := by
  obtain ⟨a, b, c, d⟩ := (may_iff s).1 h
  unfold textB
  simp only [Bool.and_eq_true, decide_eq_true_eq, all_iff, Int.zero_add]
  refine ⟨fun j hj => ?_, by omega⟩
  have := d j hj
  simp only [isNameByte, isLetter, Bool.or_eq_true, Bool.and_eq_true, decide_eq_true_eq] at this
  simp only [isTextByte, Bool.and_eq_true, decide_eq_true_eq]
  omega
theorem one_more (s : ByteArray) (h : mayB s = true) (c : UInt8) : mayB (s ++ (⟨#[c]⟩ : ByteArray)) = (decide (s.size < 12) && isNameByte c.toNat) := by
  obtain ⟨a, b, hc, d⟩ := (may_iff s).1 h
  have hs : (⟨#[c]⟩ : ByteArray).size = 1 := rfl
  have e : bt (⟨#[c]⟩ : ByteArray) ((0 : Nat) : Int) = c.toNat := rfl
  rw [Bool.eq_iff_iff, may_iff, ByteArray.size_append, hs]
  simp only [Bool.and_eq_true, decide_eq_true_eq]
  have e0 : bt (s ++ (⟨#[c]⟩ : ByteArray)) 0 = bt s 0 := bt_left s _ 0 a
  have e1 : bt (s ++ (⟨#[c]⟩ : ByteArray)) (s.size : Int) = c.toNat := by
    have := bt_right s (⟨#[c]⟩ : ByteArray) 0 (by rw [hs]; omega)
    rw [e] at this
    simpa using this
  constructor
  · rintro ⟨_, x, _, y⟩
    refine ⟨by omega, ?_⟩
    have := y s.size (by omega)
    rwa [e1] at this
  · rintro ⟨x, y⟩
    refine ⟨by omega, by omega, by rw [e0]; exact hc, fun j hj => ?_⟩
    by_cases hj' : j < s.size
    · rw [bt_left _ _ _ hj']; exact d j hj'
    · obtain rfl : j = s.size := by omega
      rw [e1]; exact y
theorem sign_first (s : ByteArray) : mayB ((⟨#[45]⟩ : ByteArray) ++ s) = false := by
  rw [Bool.eq_false_iff]
  intro h
  obtain ⟨_, _, c, _⟩ := (may_iff _).1 h
  have : bt ((⟨#[45]⟩ : ByteArray) ++ s) 0 = bt (⟨#[45]⟩ : ByteArray) 0 := bt_left (⟨#[45]⟩ : ByteArray) s 0 (by decide)
  rw [this] at c
  exact absurd c (by decide)
theorem front_may (s : ByteArray) (h : mayB s = true) (i : Nat) (hi : i ≤ s.size) : mayB (s.extract 0 i) = decide (0 < i) := by
  obtain ⟨a, b, c, d⟩ := (may_iff s).1 h
  have hs : (s.extract 0 i).size = i := by rw [ByteArray.size_extract]; omega
  rw [Bool.eq_iff_iff, may_iff, hs, decide_eq_true_eq]
  constructor
  · rintro ⟨x, _⟩; exact x
  · intro x
    have e0 : bt (s.extract 0 i) 0 = bt s 0 := bt_front s i 0 x hi
    exact ⟨x, by omega, by rw [e0]; exact c, fun j hj => by rw [bt_front s i j hj hi]; exact d j (by omega)⟩

theorem grows_l0 (s : ByteArray) (h : mayB s = true) (u : Bool) (d : Nat) : ∀ (k i : Nat), i + d = s.size + 1 → d + 20 < k →
    placketlaw01_NameGrows.l0 k s u (i : Int) = some u := by
  obtain ⟨_, hs, _, _⟩ := (may_iff s).1 h
  induction d with
  | zero =>
    intro k i h1 hk
    obtain ⟨k, rfl⟩ : ∃ m, k = m + 1 := ⟨k - 1, by omega⟩
    simp only [placketlaw01_NameGrows.l0]; rw [if_neg (by omega)]
  | succ d ih =>
    intro k i h1 hk
    obtain ⟨k, rfl⟩ : ∃ m, k = m + 1 := ⟨k - 1, by omega⟩
    have hs' : (s.extract 0 i).size = i := by rw [ByteArray.size_extract]; omega
    simp only [placketlaw01_NameGrows.l0]
    rw [if_pos (by omega), if_pos (by omega), Int.toNat_natCast, may_f _ (by omega) k (by omega), front_may s h i (by omega)]
    simp only [Option.bind_some]
    rw [show wrap64 ((i : Int) + 1) = ((i + 1 : Nat) : Int) from by rw [wrap_next (n := 1000) (by omega) (by omega) (by omega)]; omega]
    rw [ih k (i + 1) (by omega) (by omega)]
    rw [show decide ((i : Int) > 0) = decide (0 < i) from by simp]
    simp

theorem NameGrows : placketlaw01_NameGrows.Pure := by
  intro s hn
  refine ⟨s.size + 40, ?_⟩
  unfold placketlaw01_NameGrows.f
  rw [up_f _ (by omega), may_f s hn _ (by omega)]
  simp only [Option.bind_some]
  cases h : mayB s with
  | false => simp
  | true =>
    obtain ⟨_, hs, _, _⟩ := (may_iff s).1 h
    have e1 : ∀ c : UInt8, (s ++ (⟨#[c]⟩ : ByteArray)).size = s.size + 1 := fun c => by rw [ByteArray.size_append]; rfl
    have e2 : ((⟨#[45]⟩ : ByteArray) ++ s).size = 1 + s.size := by rw [ByteArray.size_append]; rfl
    rw [if_pos rfl, text_f s hn _ (by omega), name_text s h]
    simp only [Option.bind_some]
    rw [if_pos trivial, if_pos (by omega), may_f _ (by rw [e1]; omega) _ (by rw [e1]; omega), one_more s h, show isNameByte ((122 : UInt8).toNat) = true from by decide]
    simp only [Option.bind_some, Bool.and_true]
    rw [show decide ((s.size : Int) < 12) = decide (s.size < 12) from by simp; omega]
    rw [if_neg (by simp), may_f _ (by rw [e1]; omega) _ (by rw [e1]; omega), one_more s h, show isNameByte ((45 : UInt8).toNat) = true from by decide]
    simp only [Option.bind_some, Bool.and_true]
    rw [if_neg (by simp), may_f _ (by rw [e1]; omega) _ (by rw [e1]; omega), one_more s h, show isNameByte ((90 : UInt8).toNat) = false from by decide]
    simp only [Option.bind_some, Bool.and_false]
    rw [if_neg (by simp), if_pos (by omega), may_f _ (by rw [e2]; omega) _ (by rw [e2]; omega), sign_first]
    simp only [Option.bind_some, placketlaw01_NameGrows.j0]
    rw [if_neg (by simp)]
    exact grows_l0 s h true (s.size + 1) _ 0 (by omega) (by omega)

end Go.Proofs.Ytmklimlepgiffaa.Pure
