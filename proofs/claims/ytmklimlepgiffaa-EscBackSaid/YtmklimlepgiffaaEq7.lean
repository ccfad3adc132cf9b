/- The functions that the statement reaches, by equations: no statement of its own. -/
import Derived.Test.YtmklimlepgiffaaEq6
import Derived.LoopTactic
set_option linter.unusedVariables false
set_option linter.unusedSimpArgs false
set_option linter.unusedSectionVars false
set_option linter.unusedVariables false
namespace Go.Va.Es
open Go.Va
open Go.Proofs Go.RowKit
/-- a builder lives on, if nothing of what is there turns -/
theorem isB_below {B b : Nat} {bs : List Value} {w w' : World} (h : Lib.IsBuilder TB 5 B b bs w) (k : Below w.heap.size w w') : Lib.IsBuilder TB 5 B b bs w' := by
  have key : ∀ p, Lib.BuilderAt TB 5 B b p bs w → Lib.BuilderAt TB 5 B b p bs w' := by
    intro p hp
    have hlt := hp.lt
    obtain ⟨hB, v, hb, hown, hne⟩ := hp
    refine ⟨hB, v, by rw [k.block b hlt]; exact hb, ?_, hne⟩
    refine hown.kept (row := none) ⟨k.os, k.tape, k.output, k.size, fun i hi _ => k.block i hi⟩ ?_
    exact Classical.em _
  exact h.imp (key _) (key _)
theorem r_s {γ : Gh} {w : World} {l : Loc} {v r : Value} (h : R γ w l (.s v) r) : r = v := by simp only [R] at h; exact h.1
theorem r_tup2 {γ : Gh} {w : World} {l : Loc} {a b r : Value} (h : R γ w l (.tup [.s a, .s b]) r) : r = .tuple #[a, b] := by
  simp only [R] at h
  obtain ⟨cs, rfl, hl⟩ := h
  simp only [Rl, R] at hl
  obtain ⟨v, vs, e1, ⟨rfl, -⟩, v2, vs2, rfl, ⟨rfl, -⟩, rfl⟩ := hl
  cases cs
  simp at e1
  rw [e1]
theorem R_s (γ : Gh) (w : World) (l : Loc) (v : Value) (h : one v) : R γ w l (.s v) v := by simp only [R]; exact ⟨trivial, h⟩
theorem c_plain (c : UInt8) (w : World) : Calls Try.prog 86 #[.int .u8 c.toNat] w fun e w' => e = .returned (.bool (plainB c)) ∧ Below w.heap.size w w' := by
  have h := calls_of env_ok ext_ok (s_plain c) (us := [.int .u8 c.toNat]) rfl ?_ ?_ (fun us w => enters Try.func86 rfl (by kernel_rfl) us w) w
  · refine h.mono ?_
    rintro e w' ⟨r, rfl, ⟨γ, hr⟩, hb⟩
    exact ⟨by rw [r_s hr], hb⟩
  · intro γ w j y u h1 h2
    match j with
    | 0 => cases h1; cases h2; exact R_s _ _ _ _ trivial
    | j + 1 => simp at h1
  · intro j y h1
    match j with
    | 0 => cases h1; rfl
    | j + 1 => simp at h1
theorem c_word (c : UInt8) (w : World) : Calls Try.prog 88 #[.int .u8 c.toNat] w fun e w' => e = .returned (.string (baOf (wordL c))) ∧ Below w.heap.size w w' := by
  have h := calls_of env_ok ext_ok (s_word c) (us := [.int .u8 c.toNat]) rfl ?_ ?_ (fun us w => enters Try.func88 rfl (by kernel_rfl) us w) w
  · refine h.mono ?_
    rintro e w' ⟨r, rfl, ⟨γ, hr⟩, hb⟩
    exact ⟨by rw [r_s hr], hb⟩
  · intro γ w j y u h1 h2
    match j with
    | 0 => cases h1; cases h2; exact R_s _ _ _ _ trivial
    | j + 1 => simp at h1
  · intro j y h1
    match j with
    | 0 => cases h1; rfl
    | j + 1 => simp at h1
theorem c_first (s : ByteArray) (c : UInt8) (t : List UInt8) (hs : s.data.toList = c :: t) (w : World) : Calls Try.prog 82 #[.string s] w fun e w' => e = .returned (.tuple #[.int .u8 (escFirst (c :: t)).1.toNat, .int .i64 (escFirst (c :: t)).2]) ∧ Below w.heap.size w w' := by
  have h := calls_of env_ok ext_ok (s_first s c t hs) (us := [.string s]) rfl ?_ ?_ (fun us w => enters Try.func82 rfl (by kernel_rfl) us w) w
  · refine h.mono ?_
    rintro e w' ⟨r, rfl, ⟨γ, hr⟩, hb⟩
    exact ⟨by rw [r_tup2 hr]; rfl, hb⟩
  · intro γ w j y u h1 h2
    match j with
    | 0 => cases h1; cases h2; exact R_s _ _ _ _ trivial
    | j + 1 => simp at h1
  · intro j y h1
    match j with
    | 0 => cases h1; rfl
    | j + 1 => simp at h1
end Go.Va.Es
set_option linter.unusedVariables false
namespace Go.Va.Es
open Go.Va
open Go.Proofs Go.RowKit
theorem putL_append : ∀ (a b : List UInt8), escPutL (a ++ b) = escPutL a ++ escPutL b
  | [], b => rfl
  | c :: a, b => by simp [escPutL, putL_append a b]
theorem putL_len : ∀ (a : List UInt8), (escPutL a).length ≤ 6 * a.length
  | [] => by simp [escPutL]
  | c :: a => by
    have := putL_len a
    have h : (if plainB c then [c] else wordL c).length ≤ 6 := by
      unfold wordL
      split
      · simp
      · split
        · simp
        · split
          · simp
          · split <;> simp
    simp only [escPutL, List.length_append, List.length_cons]
    omega
theorem take_succ' (s : ByteArray) (k : Nat) (h : k < s.size) : s.data.toList.take (k + 1) = s.data.toList.take k ++ [s[k]] := by
  have hl : k < s.data.toList.length := by simpa using h
  rw [List.take_succ_eq_append_getElem hl]
  congr 2
theorem bc_append (a b : List UInt8) : Lib.byteCells (a ++ b) = Lib.byteCells a ++ Lib.byteCells b := by simp [Lib.byteCells]
theorem bc_str (l : List UInt8) : Lib.strCells (baOf l) = Lib.byteCells l := by rfl
set_option maxHeartbeats 4000000 in
set_option maxRecDepth 100000 in
theorem put_walk (s : ByteArray) (hs : s.size ≤ 100000) (w : World) : Calls Try.prog 48 #[.string s] w fun e w' => e = .returned (.string (baOf (escPutL s.data.toList))) ∧ Below w.heap.size w w' := by
  have hI0 : Lib.IsBuilder TB 5 w.heap.size w.heap.size [] (w.alloc (.cells #[.pointer none, .slice none 0 0] TB)) := Lib.fresh_isBuilder TB 5 w
  have hb0 : Below w.heap.size w (w.alloc (.cells #[.pointer none, .slice none 0 0] TB)) := (Below.refl _ w).alloc (Nat.le_refl _) _
  go_enter Try.func48, Try.ntmps48
  go_wp2
  go_loopw [7] (fun i wr => ∃ k : Nat, k ≤ s.size ∧ i = .int .i64 k ∧ Lib.IsBuilder TB 5 w.heap.size w.heap.size (Lib.byteCells (escPutL (s.data.toList.take k))) wr ∧ Below w.heap.size w wr)
    (fun i _ => s.size - (Lib.intOf i).toNat)
  case atStart => exact ⟨0, Nat.zero_le _, rfl, by simpa [escPutL, Lib.byteCells] using hI0, hb0⟩
  case round =>
    obtain ⟨k, hk, rfl, hI, hnx⟩ := hrel
    clear hI0 hb0
    by_cases hkl : k < s.size
    · have hp := c_plain (s[k]'hkl)
      have hlen : (escPutL (s.data.toList.take k)).length ≤ 6 * k := by
        have := putL_len (s.data.toList.take k)
        rw [List.length_take] at this
        omega
      have hbl : (Lib.byteCells (escPutL (s.data.toList.take k))).length ≤ 600000 := by
        rw [Lib.byteCells_length]
        omega
      have hsz := hnx.size
      cases hq : plainB (s[k]'hkl) with
      | true =>
        rw [hq] at hp
        go_wp2_with (go_at_call 86; refine (hp _).mono ?_; rintro e w1 ⟨rfl, hb1⟩; have hI1 := isB_below hI hb1)
        go_wp2_with (go_at_call 83; refine (WriteByte w.heap.size w.heap.size _ _ w1 hI1 (by omega) (by have := hb1.size; omega)).mono ?_; rintro e w2 ⟨rfl, hI2, hb2⟩)
        go_wp2
        go_roundw
        case rel =>
          refine ⟨k + 1, by omega, by simp, ?_, (hnx.trans (hb1.mono hsz)).trans hb2⟩
          rw [take_succ' s k hkl, putL_append, bc_append]
          have e1 : escPutL [s[k]'hkl] = [s[k]'hkl] := by simp [escPutL, hq]
          rw [e1]
          exact .inr hI2
        case measure => simp [Lib.intOf]; omega
      | false =>
        rw [hq] at hp
        have hw := c_word (s[k]'hkl)
        go_wp2_with (go_at_call 86; refine (hp _).mono ?_; rintro e w1 ⟨rfl, hb1⟩; have hI1 := isB_below hI hb1)
        go_wp2_with (go_at_call 88; refine (hw _).mono ?_; rintro e w2 ⟨rfl, hb2⟩; have hI2 := isB_below hI1 hb2)
        have hws : (baOf (wordL (s[k]'hkl))).size ≤ 6 := by
          show (wordL (s[k]'hkl)).toArray.size ≤ 6
          unfold wordL
          split
          · simp
          · split
            · simp
            · split <;> simp
        go_wp2_with (go_at_call 87; refine (WriteString w.heap.size w.heap.size _ _ w2 hI2 (by omega) (by have := hb1.size; have := hb2.size; omega)).mono ?_; rintro e w3 ⟨rfl, hI3, hb3⟩)
        go_wp2
        go_roundw
        case rel =>
          refine ⟨k + 1, by omega, by simp, ?_, ((hnx.trans (hb1.mono hsz)).trans (hb2.mono (by have := hb1.size; omega))).trans hb3⟩
          rw [take_succ' s k hkl, putL_append, bc_append]
          have e1 : escPutL [s[k]'hkl] = wordL (s[k]'hkl) := by simp [escPutL, hq]
          rw [e1, ← bc_str]
          exact .inr hI3
        case measure => simp [Lib.intOf]; omega
    · have hke : k = s.size := by omega
      have hall : s.data.toList.take k = s.data.toList := List.take_of_length_le (by simp; show s.size ≤ k; omega)
      rw [hall] at hI
      have hsz := hnx.size
      go_wp2_with (go_at_call 84; refine (String_any w.heap.size w.heap.size (escPutL s.data.toList) wr hI hsz).mono ?_; rintro e w1 ⟨rfl, hb1⟩)
      go_wp2
      go_ret
      exact ⟨rfl, hnx.trans hb1⟩
end Go.Va.Es
set_option linter.unusedVariables false
namespace Go.Va.Es
open Go.Va
open Go.Proofs Go.RowKit
theorem first_len : ∀ (c : UInt8) (t : List UInt8), (escFirst (c :: t)).2 ≤ (c :: t).length := by
  intro c t
  have pre : ∀ w : List UInt8, w.isPrefixOf (c :: t) = true → w.length ≤ (c :: t).length := by
    intro w h
    exact (List.isPrefixOf_iff_prefix.1 h).length_le
  rw [show escFirst (c :: t) = (if plainB c then (c, 1) else if (wordL 38).isPrefixOf (c :: t) then (38, 5) else if (wordL 60).isPrefixOf (c :: t) then (60, 4) else if (wordL 62).isPrefixOf (c :: t) then (62, 4) else if (wordL 34).isPrefixOf (c :: t) then (34, 6) else (0, 0)) from rfl]
  split
  · simp
  · split
    · rename_i h; exact pre _ h
    · split
      · rename_i h; exact pre _ h
      · split
        · rename_i h; exact pre _ h
        · split
          · rename_i h; exact pre _ h
          · simp
theorem drop_list (s : ByteArray) (k : Nat) : (s.extract k s.size).data.toList = s.data.toList.drop k := by
  simp only [ByteArray.data_extract, Array.toList_extract, List.extract_eq_take_drop]
  rw [List.take_of_length_le]
  rw [List.length_drop, Array.length_toList]
  exact Nat.le_refl _
def strN : Value → Nat
  | .string r => r.size
  | _ => 0
def getRes : Option (List UInt8) → Value
  | some l => .tuple #[.string (baOf l), .bool true]
  | none => .tuple #[.string (baOf []), .bool false]
set_option maxHeartbeats 4000000 in
set_option maxRecDepth 100000 in
theorem get_walk (s : ByteArray) (hs : s.size ≤ 1000000) (w : World) : Calls Try.prog 46 #[.string s] w fun e w' => e = .returned (getRes (escGetL s.size s.data.toList)) ∧ Below w.heap.size w w' := by
  have hI0 : Lib.IsBuilder TB 5 w.heap.size w.heap.size [] (w.alloc (.cells #[.pointer none, .slice none 0 0] TB)) := Lib.fresh_isBuilder TB 5 w
  have hb0 : Below w.heap.size w (w.alloc (.cells #[.pointer none, .slice none 0 0] TB)) := (Below.refl _ w).alloc (Nat.le_refl _) _
  go_enter Try.func46, Try.ntmps46
  go_wp2
  go_loopw [0] (fun i wr => ∃ (r : ByteArray) (acc : List UInt8) (m : Nat), r.size ≤ m ∧ m ≤ s.size ∧ acc.length + r.size ≤ s.size ∧ i = .string r ∧ escGetL s.size s.data.toList = (escGetL m r.data.toList).map (acc ++ ·) ∧ Lib.IsBuilder TB 5 w.heap.size w.heap.size (Lib.byteCells acc) wr ∧ Below w.heap.size w wr)
    (fun i _ => strN i)
  case atStart => exact ⟨s, [], s.size, Nat.le_refl _, Nat.le_refl _, by simp, rfl, by simp, by simpa [Lib.byteCells] using hI0, hb0⟩
  case round =>
    obtain ⟨r, acc, m, hr, hms, hal, rfl, hg, hI, hnx⟩ := hrel
    clear hI0 hb0
    have hsz := hnx.size
    cases hl : r.data.toList with
    | nil =>
      have he : r = ⟨#[]⟩ := by
        cases r with
        | mk d =>
          have : d = #[] := by
            apply Array.ext'
            simpa using hl
          rw [this]
      subst he
      have hg1 : escGetL s.size s.data.toList = some acc := by
        rw [hg]
        cases m <;> simp [escGetL]
      go_wp2_with (go_at_call 84; refine (String_any w.heap.size w.heap.size acc wr hI hsz).mono ?_; rintro e w1 ⟨rfl, hb1⟩)
      go_wp2
      go_ret2
      exact ⟨by rw [hg1]; rfl, hnx.trans hb1⟩
    | cons c t =>
      have hrs : r.size = t.length + 1 := by
        have : r.data.toList.length = t.length + 1 := by rw [hl]; rfl
        rw [Array.length_toList] at this
        exact this
      have hne : r ≠ ⟨#[]⟩ := by
        rintro rfl
        simp at hl
      have hemp : (!r.toList.isEmpty) = true := by
        rw [ByteArray.toList_eq, hl]
        rfl
      have hf := c_first r c t hl
      have hfl := first_len c t
      obtain ⟨m', rfl⟩ : ∃ m', m = m' + 1 := ⟨m - 1, by omega⟩
      have hst : escGetL (m' + 1) (c :: t) = (match escFirst (c :: t) with
        | (_, 0) => none
        | (d, k + 1) => match escGetL m' ((c :: t).drop (k + 1)) with
          | some r => some (d :: r)
          | none => none) := rfl
      rw [hl, hst] at hg
      generalize escFirst (c :: t) = fk at hf hfl hg
      obtain ⟨d, k⟩ := fk
      cases k with
      | zero =>
        simp only [Option.map_none] at hg
        go_wp2_with (go_at_call 82; refine (hf _).mono ?_; rintro e w1 ⟨rfl, hb1⟩)
        go_wp2
        go_ret2
        exact ⟨by rw [hg]; rfl, hnx.trans (hb1.mono hsz)⟩
      | succ k =>
        go_wp2_with (go_at_call 82; refine (hf _).mono ?_; rintro e w1 ⟨rfl, hb1⟩; have hI1 := isB_below hI hb1)
        have hbl : (Lib.byteCells acc).length ≤ 1000000 := by
          rw [Lib.byteCells_length]
          omega
        have hkr : k + 1 ≤ r.size := by
          simp only [List.length_cons] at hfl
          omega
        go_wp2_with (go_at_call 83; refine (WriteByte w.heap.size w.heap.size _ _ w1 hI1 (by omega) (by have := hb1.size; omega)).mono ?_; rintro e w2 ⟨rfl, hI2, hb2⟩)
        go_wp2
        go_roundw
        case rel =>
          refine ⟨r.extract (k + 1) r.size, acc ++ [d], m', ?_, by omega, ?_, ?_, ?_, ?_, (hnx.trans (hb1.mono hsz)).trans hb2⟩
          · simp only [ByteArray.size_extract]
            omega
          · simp only [ByteArray.size_extract, List.length_append, List.length_cons, List.length_nil]
            omega
          · rw [hrs]
          · rw [hg, drop_list, hl]
            cases escGetL m' (List.drop (k + 1) (c :: t)) with
            | none => rfl
            | some z => simp
          · rw [bc_append]
            exact .inr hI2
        case measure =>
          simp only [strN, ByteArray.size_extract]
          omega
end Go.Va.Es
namespace Go.Va
open Go.Proofs Go.RowKit
theorem escPut_ok {w0 : World} {E : Task → Option Res} {ys : List AV} {O : Seg} {r : Res} (h : (yEscPut ys O).run E = some r) : TaskOk { P := Try.prog, w0 := w0 } (.call 48 ys O) r := by
  unfold yEscPut at h
  split at h
  · rename_i s
    cases hb : Nat.ble s.size 100000 with
    | false => rw [hb] at h; exact (noR_run h).elim
    | true =>
      rw [hb] at h
      cases okR_run h
      intro γ w us g
      match us, g.len, g with
      | [u], _, g =>
        have h0 := g.arg 0 _ u rfl rfl
        simp only [R] at h0
        obtain ⟨rfl, -⟩ := h0
        refine .inr ⟨enters Try.func48 rfl (by kernel_rfl) _ w, (Es.put_walk s (ble_t hb) w).mono ?_⟩
        rintro e w' ⟨rfl, hw⟩
        exact ⟨_, rfl, post_below g hw (Es.R_s _ _ _ _ trivial) rfl⟩
  · exact (noR_run h).elim
theorem escGet_ok {w0 : World} {E : Task → Option Res} {ys : List AV} {O : Seg} {r : Res} (h : (yEscGet ys O).run E = some r) : TaskOk { P := Try.prog, w0 := w0 } (.call 46 ys O) r := by
  have tup : ∀ (γ : Gh) (w : World) (l : Loc) (a b : Value), one a → one b → R γ w l (.tup [.s a, .s b]) (.tuple #[a, b]) := by
    intro γ w l a b ha hb
    simp only [R, Rl]
    exact ⟨#[a, b], rfl, a, [b], rfl, ⟨rfl, ha⟩, b, [], rfl, ⟨rfl, hb⟩, rfl⟩
  unfold yEscGet at h
  split at h
  · rename_i s
    cases hb : Nat.ble s.size 1000000 with
    | false => rw [hb] at h; exact (noR_run h).elim
    | true =>
      rw [hb] at h
      simp only [cond_true] at h
      have hw := fun w => Es.get_walk s (ble_t hb) w
      cases hg : escGetL s.size s.data.toList with
      | none =>
        rw [hg] at h hw
        cases okR_run h
        intro γ w us g
        match us, g.len, g with
        | [u], _, g =>
          have h0 := g.arg 0 _ u rfl rfl
          simp only [R] at h0
          obtain ⟨rfl, -⟩ := h0
          refine .inr ⟨enters Try.func46 rfl (by kernel_rfl) _ w, (hw w).mono ?_⟩
          rintro e w' ⟨rfl, hw⟩
          exact ⟨_, rfl, post_below g hw (tup _ _ _ _ _ trivial trivial) rfl⟩
      | some l =>
        rw [hg] at h hw
        cases okR_run h
        intro γ w us g
        match us, g.len, g with
        | [u], _, g =>
          have h0 := g.arg 0 _ u rfl rfl
          simp only [R] at h0
          obtain ⟨rfl, -⟩ := h0
          refine .inr ⟨enters Try.func46 rfl (by kernel_rfl) _ w, (hw w).mono ?_⟩
          rintro e w' ⟨rfl, hw⟩
          exact ⟨_, rfl, post_below g hw (tup _ _ _ _ _ trivial trivial) rfl⟩
  · exact (noR_run h).elim
end Go.Va
