-- PRINTED BY print.sh 35421559b90ae4d0a3588c463048766b98c2df88dd9212a6774a882060cdf62d: not written by this session
import Derived.Test.YtmklimlepgiffaaPNameGrowsx0
import Derived.Test.YtmklimlepgiffaaPNameGrowsx1
namespace Go.Proofs.Ytmklimlepgiffaa.PNameGrows
open Go.RowKit Go.Proofs.YtmklimlepgiffaaW.PrintWords Go.Proofs.YtmklimlepgiffaaW.PrintLast Go.Proofs.YtmklimlepgiffaaW.PrintMore
attribute [local go_sem] max2_int min2_int max_two min_two max_three min_three max_four min_four   -- for this text's walks alone
set_option linter.unusedVariables false
set_option linter.unusedSimpArgs false

/-! ### placketlaw01_NameGrows: function 4 -/
mutual
def placketlaw01_NameGrows.j0 : Nat → ByteArray → Bool → Bool → Option (Bool)
  | 0, _, _, _ => none
  | k + 1, x0, x3, x40 => if x40 = true then (some false) else (placketlaw01_NameGrows.l0 k x0 x3 0)
def placketlaw01_NameGrows.l0 : Nat → ByteArray → Bool → Int → Option (Bool)
  | 0, _, _, _ => none
  | k + 1, x0, x3, x5 => if x5 ≤ (x0.size : Int) then (if 0 ≤ x5 then ((name_May.f k (x0.extract 0 (x5 : Int).toNat)).bind fun t115 => (if (t115 != (decide (x5 > 0))) = true then (some false) else (placketlaw01_NameGrows.l0 k x0 x3 (wrap64 (x5 + 1))))) else (none)) else (some x3)
end
def placketlaw01_NameGrows.f (k : Nat) (a0 : ByteArray) : Option (Bool) := (placketlaw01_up.f k).bind fun t108 => ((name_May.f k a0).bind fun t109 => (if t109 = true then ((name_Text.f k a0).bind fun t110 => (if t110 = true then (if a0.size + 1 ≤ 9223372036854775807 then ((name_May.f k (a0 ++ (⟨#[122]⟩ : ByteArray))).bind fun t111 => (if (t111 != (decide ((a0.size : Int) < 12))) = true then (placketlaw01_NameGrows.j0 k a0 t108 true) else ((name_May.f k (a0 ++ (⟨#[45]⟩ : ByteArray))).bind fun t112 => (if (t112 != (decide ((a0.size : Int) < 12))) = true then (placketlaw01_NameGrows.j0 k a0 t108 true) else ((name_May.f k (a0 ++ (⟨#[90]⟩ : ByteArray))).bind fun t113 => (if t113 = true then (placketlaw01_NameGrows.j0 k a0 t108 true) else (if 1 + a0.size ≤ 9223372036854775807 then ((name_May.f k ((⟨#[45]⟩ : ByteArray) ++ a0)).bind fun t114 => (placketlaw01_NameGrows.j0 k a0 t108 t114)) else (none)))))))) else (none)) else (placketlaw01_NameGrows.j0 k a0 t108 true))) else (some t108)))
theorem placketlaw01_NameGrows.mono_l : ∀ k, (∀ y0 y1 y2, LeO (placketlaw01_NameGrows.j0 k y0 y1 y2) (placketlaw01_NameGrows.j0 (k + 1) y0 y1 y2)) ∧ (∀ y0 y1 y2, LeO (placketlaw01_NameGrows.l0 k y0 y1 y2) (placketlaw01_NameGrows.l0 (k + 1) y0 y1 y2))
  | 0 => ⟨fun _ _ _ r h => by simp [placketlaw01_NameGrows.j0] at h, fun _ _ _ r h => by simp [placketlaw01_NameGrows.l0] at h⟩
  | k + 1 => by
    obtain ⟨ih0, ih1⟩ := placketlaw01_NameGrows.mono_l k
    refine ⟨?_, ?_⟩
    · intro y0 y1 y2
      unfold placketlaw01_NameGrows.j0
      repeat' first
      | (with_reducible exact ih0 _ _ _)
      | (with_reducible exact ih1 _ _ _)
      | (with_reducible exact name_May.mono _ _)
      | (with_reducible exact name_Text.mono _ _)
      | (with_reducible exact placketlaw01_up.mono _)
      | (with_reducible exact LeO.refl _)
      | (with_reducible exact LeO.none _)
      | (with_reducible refine LeO.ite ?_ ?_)
      | (with_reducible refine LeO.bind ?_ (fun _ => ?_))
      | exact ih0 _ _ _
      | exact ih1 _ _ _
      | exact name_May.mono _ _
      | exact name_Text.mono _ _
      | exact placketlaw01_up.mono _
      | exact LeO.none _
      | refine LeO.ite ?_ ?_
      | refine LeO.bind ?_ (fun _ => ?_)
    · intro y0 y1 y2
      unfold placketlaw01_NameGrows.l0
      repeat' first
      | (with_reducible exact ih0 _ _ _)
      | (with_reducible exact ih1 _ _ _)
      | (with_reducible exact name_May.mono _ _)
      | (with_reducible exact name_Text.mono _ _)
      | (with_reducible exact placketlaw01_up.mono _)
      | (with_reducible exact LeO.refl _)
      | (with_reducible exact LeO.none _)
      | (with_reducible refine LeO.ite ?_ ?_)
      | (with_reducible refine LeO.bind ?_ (fun _ => ?_))
      | exact ih0 _ _ _
      | exact ih1 _ _ _
      | exact name_May.mono _ _
      | exact name_Text.mono _ _
      | exact placketlaw01_up.mono _
      | exact LeO.none _
      | refine LeO.ite ?_ ?_
      | refine LeO.bind ?_ (fun _ => ?_)
theorem placketlaw01_NameGrows.mono : ∀ a0 k, LeO (placketlaw01_NameGrows.f k a0) (placketlaw01_NameGrows.f (k + 1) a0) := by
  intro a0 k
  obtain ⟨ih0, ih1⟩ := placketlaw01_NameGrows.mono_l k
  unfold placketlaw01_NameGrows.f
  repeat' first
      | (with_reducible exact ih0 _ _ _)
      | (with_reducible exact ih1 _ _ _)
      | (with_reducible exact name_May.mono _ _)
      | (with_reducible exact name_Text.mono _ _)
      | (with_reducible exact placketlaw01_up.mono _)
      | (with_reducible exact LeO.refl _)
      | (with_reducible exact LeO.none _)
      | (with_reducible refine LeO.ite ?_ ?_)
      | (with_reducible refine LeO.bind ?_ (fun _ => ?_))
      | exact ih0 _ _ _
      | exact ih1 _ _ _
      | exact name_May.mono _ _
      | exact name_Text.mono _ _
      | exact placketlaw01_up.mono _
      | exact LeO.none _
      | refine LeO.ite ?_ ?_
      | refine LeO.bind ?_ (fun _ => ?_)
set_option maxHeartbeats 8000000 in
set_option maxRecDepth 100000 in
theorem placketlaw01_NameGrows.calls (k : Nat) (a0 : ByteArray) (r : Bool) (w : World) (h : placketlaw01_NameGrows.f k a0 = some r) :
    Calls Try.prog 4 #[.string a0] w fun e w' => e = .returned (.bool r) ∧ Drawn0 w w' := by
  have H : ((placketlaw01_up.f k).bind fun t108 => ((name_May.f k a0).bind fun t109 => (if t109 = true then ((name_Text.f k a0).bind fun t110 => (if t110 = true then (if a0.size + 1 ≤ 9223372036854775807 then ((name_May.f k (a0 ++ (⟨#[122]⟩ : ByteArray))).bind fun t111 => (if (t111 != (decide ((a0.size : Int) < 12))) = true then (placketlaw01_NameGrows.j0 k a0 t108 true) else ((name_May.f k (a0 ++ (⟨#[45]⟩ : ByteArray))).bind fun t112 => (if (t112 != (decide ((a0.size : Int) < 12))) = true then (placketlaw01_NameGrows.j0 k a0 t108 true) else ((name_May.f k (a0 ++ (⟨#[90]⟩ : ByteArray))).bind fun t113 => (if t113 = true then (placketlaw01_NameGrows.j0 k a0 t108 true) else (if 1 + a0.size ≤ 9223372036854775807 then ((name_May.f k ((⟨#[45]⟩ : ByteArray) ++ a0)).bind fun t114 => (placketlaw01_NameGrows.j0 k a0 t108 t114)) else (none)))))))) else (none)) else (placketlaw01_NameGrows.j0 k a0 t108 true))) else (some t108)))) = some r := h
  clear h
  replace H := Option.bind_eq_some_iff.mp H
  obtain ⟨t108, A20, H⟩ := H
  replace H : ((name_May.f k a0).bind fun t109 => (if t109 = true then ((name_Text.f k a0).bind fun t110 => (if t110 = true then (if a0.size + 1 ≤ 9223372036854775807 then ((name_May.f k (a0 ++ (⟨#[122]⟩ : ByteArray))).bind fun t111 => (if (t111 != (decide ((a0.size : Int) < 12))) = true then (placketlaw01_NameGrows.j0 k a0 t108 true) else ((name_May.f k (a0 ++ (⟨#[45]⟩ : ByteArray))).bind fun t112 => (if (t112 != (decide ((a0.size : Int) < 12))) = true then (placketlaw01_NameGrows.j0 k a0 t108 true) else ((name_May.f k (a0 ++ (⟨#[90]⟩ : ByteArray))).bind fun t113 => (if t113 = true then (placketlaw01_NameGrows.j0 k a0 t108 true) else (if 1 + a0.size ≤ 9223372036854775807 then ((name_May.f k ((⟨#[45]⟩ : ByteArray) ++ a0)).bind fun t114 => (placketlaw01_NameGrows.j0 k a0 t108 t114)) else (none)))))))) else (none)) else (placketlaw01_NameGrows.j0 k a0 t108 true))) else (some t108))) = some r := H
  have A2 := Aside0.mk A20
  clear A20
  replace H := Option.bind_eq_some_iff.mp H
  obtain ⟨t109, A30, H⟩ := H
  replace H : (if t109 = true then ((name_Text.f k a0).bind fun t110 => (if t110 = true then (if a0.size + 1 ≤ 9223372036854775807 then ((name_May.f k (a0 ++ (⟨#[122]⟩ : ByteArray))).bind fun t111 => (if (t111 != (decide ((a0.size : Int) < 12))) = true then (placketlaw01_NameGrows.j0 k a0 t108 true) else ((name_May.f k (a0 ++ (⟨#[45]⟩ : ByteArray))).bind fun t112 => (if (t112 != (decide ((a0.size : Int) < 12))) = true then (placketlaw01_NameGrows.j0 k a0 t108 true) else ((name_May.f k (a0 ++ (⟨#[90]⟩ : ByteArray))).bind fun t113 => (if t113 = true then (placketlaw01_NameGrows.j0 k a0 t108 true) else (if 1 + a0.size ≤ 9223372036854775807 then ((name_May.f k ((⟨#[45]⟩ : ByteArray) ++ a0)).bind fun t114 => (placketlaw01_NameGrows.j0 k a0 t108 t114)) else (none)))))))) else (none)) else (placketlaw01_NameGrows.j0 k a0 t108 true))) else (some t108)) = some r := H
  have A3 := Aside0.mk A30
  clear A30
  by_cases c4 : t109 = true
  · subst c4
    have H1 : ((name_Text.f k a0).bind fun t110 => (if t110 = true then (if a0.size + 1 ≤ 9223372036854775807 then ((name_May.f k (a0 ++ (⟨#[122]⟩ : ByteArray))).bind fun t111 => (if (t111 != (decide ((a0.size : Int) < 12))) = true then (placketlaw01_NameGrows.j0 k a0 t108 true) else ((name_May.f k (a0 ++ (⟨#[45]⟩ : ByteArray))).bind fun t112 => (if (t112 != (decide ((a0.size : Int) < 12))) = true then (placketlaw01_NameGrows.j0 k a0 t108 true) else ((name_May.f k (a0 ++ (⟨#[90]⟩ : ByteArray))).bind fun t113 => (if t113 = true then (placketlaw01_NameGrows.j0 k a0 t108 true) else (if 1 + a0.size ≤ 9223372036854775807 then ((name_May.f k ((⟨#[45]⟩ : ByteArray) ++ a0)).bind fun t114 => (placketlaw01_NameGrows.j0 k a0 t108 t114)) else (none)))))))) else (none)) else (placketlaw01_NameGrows.j0 k a0 t108 true))) = some r := by rw [if_pos rfl] at H; exact H
    clear H
    have H := H1
    clear H1
    have HC5 := Aside0.mk H
    clear H
    go_enter Try.func4, Try.ntmps4
    go_upto_region 5 with (first | ((with_reducible refine gate_callee (f := 15) rfl ?_); refine goesL_ (some 6) rfl rfl Try.func15 (by kernel_rfl) rfl #[] rfl (by (try simp only [List.map_toArray, List.map_cons, List.map_nil]); first | done | rfl | (simp only [List.length_drop, List.length_take]; rfl)) ?_; (with_reducible refine (placketlaw01_up.calls k  t108 _ A2.out).mono ?_); rintro e w' ⟨rfl, ⟨nd, rfl⟩⟩; refine ⟨_, rfl, ?_⟩) | ((with_reducible refine gate_callee (f := 16) rfl ?_); refine goesL_ (some 8) rfl rfl Try.func16 (by kernel_rfl) rfl #[.string a0] rfl (by (try simp only [List.map_toArray, List.map_cons, List.map_nil]); first | done | rfl | (simp only [List.length_drop, List.length_take]; rfl)) ?_; (with_reducible refine (name_May.calls k a0 true _ A3.out).mono ?_); rintro e w' ⟨rfl, ⟨nd, rfl⟩⟩; refine ⟨_, rfl, ?_⟩))
    (try simp only [Act.put, List.setIfInBounds_toArray, List.set_cons_zero, List.set_cons_succ])
    go_cut [40] (fun v40 wc => ∃ (kq : Nat) (x40_4 : Bool), v40 = .bool x40_4 ∧ Aside0 (placketlaw01_NameGrows.j0 kq a0 t108 x40_4 = some r) ∧ Aside0 (kq ≤ k) ∧ Drawn0 w wc)
    case first =>
      have H := HC5.out
      clear HC5
      replace H := Option.bind_eq_some_iff.mp H
      obtain ⟨t110, A60, H⟩ := H
      replace H : (if t110 = true then (if a0.size + 1 ≤ 9223372036854775807 then ((name_May.f k (a0 ++ (⟨#[122]⟩ : ByteArray))).bind fun t111 => (if (t111 != (decide ((a0.size : Int) < 12))) = true then (placketlaw01_NameGrows.j0 k a0 t108 true) else ((name_May.f k (a0 ++ (⟨#[45]⟩ : ByteArray))).bind fun t112 => (if (t112 != (decide ((a0.size : Int) < 12))) = true then (placketlaw01_NameGrows.j0 k a0 t108 true) else ((name_May.f k (a0 ++ (⟨#[90]⟩ : ByteArray))).bind fun t113 => (if t113 = true then (placketlaw01_NameGrows.j0 k a0 t108 true) else (if 1 + a0.size ≤ 9223372036854775807 then ((name_May.f k ((⟨#[45]⟩ : ByteArray) ++ a0)).bind fun t114 => (placketlaw01_NameGrows.j0 k a0 t108 t114)) else (none)))))))) else (none)) else (placketlaw01_NameGrows.j0 k a0 t108 true)) = some r := H
      have A6 := Aside0.mk A60
      clear A60
      by_cases c7 : t110 = true
      · subst c7
        have H1 : (if a0.size + 1 ≤ 9223372036854775807 then ((name_May.f k (a0 ++ (⟨#[122]⟩ : ByteArray))).bind fun t111 => (if (t111 != (decide ((a0.size : Int) < 12))) = true then (placketlaw01_NameGrows.j0 k a0 t108 true) else ((name_May.f k (a0 ++ (⟨#[45]⟩ : ByteArray))).bind fun t112 => (if (t112 != (decide ((a0.size : Int) < 12))) = true then (placketlaw01_NameGrows.j0 k a0 t108 true) else ((name_May.f k (a0 ++ (⟨#[90]⟩ : ByteArray))).bind fun t113 => (if t113 = true then (placketlaw01_NameGrows.j0 k a0 t108 true) else (if 1 + a0.size ≤ 9223372036854775807 then ((name_May.f k ((⟨#[45]⟩ : ByteArray) ++ a0)).bind fun t114 => (placketlaw01_NameGrows.j0 k a0 t108 t114)) else (none)))))))) else (none)) = some r := by rw [if_pos rfl] at H; exact H
        clear H
        have H := H1
        clear H1
        by_cases c8 : a0.size + 1 ≤ 9223372036854775807
        · rw [if_pos c8] at H
          have c8b0 := eq_true c8
          have c8b1 : decide (a0.size + 1 ≤ 9223372036854775807) = true := decide_eq_true c8
          try have c8b2 : (9223372036854775807 < a0.size + 1) = False := eq_false (Nat.not_lt.2 c8)
          replace H := Option.bind_eq_some_iff.mp H
          obtain ⟨t111, A90, H⟩ := H
          replace H : (if (t111 != (decide ((a0.size : Int) < 12))) = true then (placketlaw01_NameGrows.j0 k a0 t108 true) else ((name_May.f k (a0 ++ (⟨#[45]⟩ : ByteArray))).bind fun t112 => (if (t112 != (decide ((a0.size : Int) < 12))) = true then (placketlaw01_NameGrows.j0 k a0 t108 true) else ((name_May.f k (a0 ++ (⟨#[90]⟩ : ByteArray))).bind fun t113 => (if t113 = true then (placketlaw01_NameGrows.j0 k a0 t108 true) else (if 1 + a0.size ≤ 9223372036854775807 then ((name_May.f k ((⟨#[45]⟩ : ByteArray) ++ a0)).bind fun t114 => (placketlaw01_NameGrows.j0 k a0 t108 t114)) else (none))))))) = some r := H
          have A9 := Aside0.mk A90
          clear A90
          by_cases c10 : (t111 != (decide ((a0.size : Int) < 12))) = true
          · rw [if_pos c10] at H
            have c10b0 : (t111 != (decide ((a0.size : Int) < 12))) = true := c10
            (try (have c10b1 : decide (t111 = (decide ((a0.size : Int) < 12))) = false := by simpa using c10))
            (try (have c10b2 : (t111 == (decide ((a0.size : Int) < 12))) = false := by simpa using c10))
            (try (have c10b3 : ¬ (t111 = (decide ((a0.size : Int) < 12))) := by simpa using c10))
            clear c10
            (first | rw [c10b0] | (simp only [i64_w, i32_w]; rw [c10b0]) | skip)
            have H' := Aside0.mk H
            clear H
            go_wp2_with (first | ((with_reducible refine gate_callee (f := 18) rfl ?_); refine goesL_ (some 15) rfl rfl Try.func18 (by kernel_rfl) rfl #[.string a0] rfl (by (try simp only [List.map_toArray, List.map_cons, List.map_nil]); first | done | rfl | (simp only [List.length_drop, List.length_take]; rfl)) ?_; (with_reducible refine (name_Text.calls k a0 true _ A6.out).mono ?_); rintro e w' ⟨rfl, ⟨nd, rfl⟩⟩; refine ⟨_, rfl, ?_⟩) | (go_at_call 16; (with_reducible refine (name_May.calls k (a0 ++ (⟨#[122]⟩ : ByteArray)) t111 _ A9.out).mono ?_); rintro e w' ⟨rfl, ⟨nd, rfl⟩⟩))
            go_meet
            case rel => exact ⟨_, (true), (by first | rfl | (simp; done) | (simp [*]; done)), H', ⟨by first | omega | exact Nat.le_refl _⟩, by repeat (first | exact Drawn0.refl _ | apply Drawn0.step)⟩
          · rw [if_neg c10] at H
            have c10b0 : (t111 != (decide ((a0.size : Int) < 12))) = false := by simpa using c10
            (try (have c10b1 : decide (t111 = (decide ((a0.size : Int) < 12))) = true := by simpa using c10))
            (try (have c10b2 : (t111 == (decide ((a0.size : Int) < 12))) = true := by simpa using c10))
            clear c10
            (first | rw [c10b0] | (simp only [i64_w, i32_w]; rw [c10b0]) | skip)
            replace H := Option.bind_eq_some_iff.mp H
            obtain ⟨t112, A110, H⟩ := H
            replace H : (if (t112 != (decide ((a0.size : Int) < 12))) = true then (placketlaw01_NameGrows.j0 k a0 t108 true) else ((name_May.f k (a0 ++ (⟨#[90]⟩ : ByteArray))).bind fun t113 => (if t113 = true then (placketlaw01_NameGrows.j0 k a0 t108 true) else (if 1 + a0.size ≤ 9223372036854775807 then ((name_May.f k ((⟨#[45]⟩ : ByteArray) ++ a0)).bind fun t114 => (placketlaw01_NameGrows.j0 k a0 t108 t114)) else (none))))) = some r := H
            have A11 := Aside0.mk A110
            clear A110
            by_cases c12 : (t112 != (decide ((a0.size : Int) < 12))) = true
            · rw [if_pos c12] at H
              have c12b0 : (t112 != (decide ((a0.size : Int) < 12))) = true := c12
              (try (have c12b1 : decide (t112 = (decide ((a0.size : Int) < 12))) = false := by simpa using c12))
              (try (have c12b2 : (t112 == (decide ((a0.size : Int) < 12))) = false := by simpa using c12))
              (try (have c12b3 : ¬ (t112 = (decide ((a0.size : Int) < 12))) := by simpa using c12))
              clear c12
              have H' := Aside0.mk H
              clear H
              go_wp2_with (first | ((with_reducible refine gate_callee (f := 18) rfl ?_); refine goesL_ (some 15) rfl rfl Try.func18 (by kernel_rfl) rfl #[.string a0] rfl (by (try simp only [List.map_toArray, List.map_cons, List.map_nil]); first | done | rfl | (simp only [List.length_drop, List.length_take]; rfl)) ?_; (with_reducible refine (name_Text.calls k a0 true _ A6.out).mono ?_); rintro e w' ⟨rfl, ⟨nd, rfl⟩⟩; refine ⟨_, rfl, ?_⟩) | (go_at_call 16; (with_reducible refine (name_May.calls k (a0 ++ (⟨#[122]⟩ : ByteArray)) t111 _ A9.out).mono ?_); rintro e w' ⟨rfl, ⟨nd, rfl⟩⟩) | (go_at_call 16; (with_reducible refine (name_May.calls k (a0 ++ (⟨#[45]⟩ : ByteArray)) t112 _ A11.out).mono ?_); rintro e w' ⟨rfl, ⟨nd, rfl⟩⟩))
              go_meet
              case rel => exact ⟨_, (true), (by first | rfl | (simp; done) | (simp [*]; done)), H', ⟨by first | omega | exact Nat.le_refl _⟩, by repeat (first | exact Drawn0.refl _ | apply Drawn0.step)⟩
            · rw [if_neg c12] at H
              have c12b0 : (t112 != (decide ((a0.size : Int) < 12))) = false := by simpa using c12
              (try (have c12b1 : decide (t112 = (decide ((a0.size : Int) < 12))) = true := by simpa using c12))
              (try (have c12b2 : (t112 == (decide ((a0.size : Int) < 12))) = true := by simpa using c12))
              clear c12
              replace H := Option.bind_eq_some_iff.mp H
              obtain ⟨t113, A130, H⟩ := H
              replace H : (if t113 = true then (placketlaw01_NameGrows.j0 k a0 t108 true) else (if 1 + a0.size ≤ 9223372036854775807 then ((name_May.f k ((⟨#[45]⟩ : ByteArray) ++ a0)).bind fun t114 => (placketlaw01_NameGrows.j0 k a0 t108 t114)) else (none))) = some r := H
              have A13 := Aside0.mk A130
              clear A130
              by_cases c14 : t113 = true
              · subst c14
                have H1 : (placketlaw01_NameGrows.j0 k a0 t108 true) = some r := by rw [if_pos rfl] at H; exact H
                clear H
                have H := H1
                clear H1
                have H' := Aside0.mk H
                clear H
                go_wp2_with (first | ((with_reducible refine gate_callee (f := 18) rfl ?_); refine goesL_ (some 15) rfl rfl Try.func18 (by kernel_rfl) rfl #[.string a0] rfl (by (try simp only [List.map_toArray, List.map_cons, List.map_nil]); first | done | rfl | (simp only [List.length_drop, List.length_take]; rfl)) ?_; (with_reducible refine (name_Text.calls k a0 true _ A6.out).mono ?_); rintro e w' ⟨rfl, ⟨nd, rfl⟩⟩; refine ⟨_, rfl, ?_⟩) | (go_at_call 16; (with_reducible refine (name_May.calls k (a0 ++ (⟨#[122]⟩ : ByteArray)) t111 _ A9.out).mono ?_); rintro e w' ⟨rfl, ⟨nd, rfl⟩⟩) | (go_at_call 16; (with_reducible refine (name_May.calls k (a0 ++ (⟨#[45]⟩ : ByteArray)) t112 _ A11.out).mono ?_); rintro e w' ⟨rfl, ⟨nd, rfl⟩⟩) | (go_at_call 16; (with_reducible refine (name_May.calls k (a0 ++ (⟨#[90]⟩ : ByteArray)) true _ A13.out).mono ?_); rintro e w' ⟨rfl, ⟨nd, rfl⟩⟩))
                go_meet
                case rel => exact ⟨_, (true), (by first | rfl | (simp; done) | (simp [*]; done)), H', ⟨by first | omega | exact Nat.le_refl _⟩, by repeat (first | exact Drawn0.refl _ | apply Drawn0.step)⟩
              · replace c14 := Bool.eq_false_iff.mpr c14
                subst c14
                have H1 : (if 1 + a0.size ≤ 9223372036854775807 then ((name_May.f k ((⟨#[45]⟩ : ByteArray) ++ a0)).bind fun t114 => (placketlaw01_NameGrows.j0 k a0 t108 t114)) else (none)) = some r := by rw [if_neg (show ¬ (false = true) by decide)] at H; exact H
                clear H
                have H := H1
                clear H1
                by_cases c15 : 1 + a0.size ≤ 9223372036854775807
                · rw [if_pos c15] at H
                  have c15b0 := eq_true c15
                  have c15b1 : decide (1 + a0.size ≤ 9223372036854775807) = true := decide_eq_true c15
                  try have c15b2 : (9223372036854775807 < 1 + a0.size) = False := eq_false (Nat.not_lt.2 c15)
                  replace H := Option.bind_eq_some_iff.mp H
                  obtain ⟨t114, A160, H⟩ := H
                  replace H : (placketlaw01_NameGrows.j0 k a0 t108 t114) = some r := H
                  have A16 := Aside0.mk A160
                  clear A160
                  have H' := Aside0.mk H
                  clear H
                  go_wp2_with (first | ((with_reducible refine gate_callee (f := 18) rfl ?_); refine goesL_ (some 15) rfl rfl Try.func18 (by kernel_rfl) rfl #[.string a0] rfl (by (try simp only [List.map_toArray, List.map_cons, List.map_nil]); first | done | rfl | (simp only [List.length_drop, List.length_take]; rfl)) ?_; (with_reducible refine (name_Text.calls k a0 true _ A6.out).mono ?_); rintro e w' ⟨rfl, ⟨nd, rfl⟩⟩; refine ⟨_, rfl, ?_⟩) | (go_at_call 16; (with_reducible refine (name_May.calls k (a0 ++ (⟨#[122]⟩ : ByteArray)) t111 _ A9.out).mono ?_); rintro e w' ⟨rfl, ⟨nd, rfl⟩⟩) | (go_at_call 16; (with_reducible refine (name_May.calls k (a0 ++ (⟨#[45]⟩ : ByteArray)) t112 _ A11.out).mono ?_); rintro e w' ⟨rfl, ⟨nd, rfl⟩⟩) | (go_at_call 16; (with_reducible refine (name_May.calls k (a0 ++ (⟨#[90]⟩ : ByteArray)) false _ A13.out).mono ?_); rintro e w' ⟨rfl, ⟨nd, rfl⟩⟩) | (go_at_call 16; (with_reducible refine (name_May.calls k ((⟨#[45]⟩ : ByteArray) ++ a0) t114 _ A16.out).mono ?_); rintro e w' ⟨rfl, ⟨nd, rfl⟩⟩))
                  go_meet
                  case rel => exact ⟨_, (t114), (by first | rfl | (simp; done) | (simp [*]; done)), H', ⟨by first | omega | exact Nat.le_refl _⟩, by repeat (first | exact Drawn0.refl _ | apply Drawn0.step)⟩
                · rw [if_neg c15] at H
                  exact absurd H (by simp)
        · rw [if_neg c8] at H
          exact absurd H (by simp)
      · replace c7 := Bool.eq_false_iff.mpr c7
        subst c7
        have H1 : (placketlaw01_NameGrows.j0 k a0 t108 true) = some r := by rw [if_neg (show ¬ (false = true) by decide)] at H; exact H
        clear H
        have H := H1
        clear H1
        have H' := Aside0.mk H
        clear H
        go_wp2_with (first | ((with_reducible refine gate_callee (f := 18) rfl ?_); refine goesL_ (some 15) rfl rfl Try.func18 (by kernel_rfl) rfl #[.string a0] rfl (by (try simp only [List.map_toArray, List.map_cons, List.map_nil]); first | done | rfl | (simp only [List.length_drop, List.length_take]; rfl)) ?_; (with_reducible refine (name_Text.calls k a0 false _ A6.out).mono ?_); rintro e w' ⟨rfl, ⟨nd, rfl⟩⟩; refine ⟨_, rfl, ?_⟩))
        go_meet
        case rel => exact ⟨_, (true), (by first | rfl | (simp; done) | (simp [*]; done)), H', ⟨by first | omega | exact Nat.le_refl _⟩, by repeat (first | exact Drawn0.refl _ | apply Drawn0.step)⟩
    case rest =>
      clear HC5
      try clear c1
      try clear p2
      try clear c4
      try clear c7
      try clear c8
      try clear c8b0
      try clear c8b1
      try clear c8b2
      try clear c10
      try clear c10b0
      try clear c10b1
      try clear c10b2
      try clear c12
      try clear c12b0
      try clear c12b1
      try clear c12b2
      try clear c14
      try clear c15
      try clear c15b0
      try clear c15b1
      try clear c15b2
      try clear c16
      obtain ⟨kq, x40_4, rfl, HA, HJ4, ⟨mc4, rfl⟩⟩ := hcut
      cases kq with
      | zero => exact absurd HA.out (by simp [placketlaw01_NameGrows.j0])
      | succ kj4 =>
        have H := HA.out
        clear HA
        simp only [placketlaw01_NameGrows.j0] at H
        by_cases c17 : x40_4 = true
        · subst c17
          have H1 : (some false) = some r := by rw [if_pos rfl] at H; exact H
          clear H
          have H := H1
          clear H1
          obtain rfl := Option.some.inj H
          go_wp2
          go_ret
          exact ⟨by first | rfl | (simp; done) | (simp [*]; done), by repeat (first | exact Drawn0.refl _ | apply Drawn0.step)⟩
        · replace c17 := Bool.eq_false_iff.mpr c17
          subst c17
          have H1 : (placketlaw01_NameGrows.l0 kj4 a0 t108 0) = some r := by rw [if_neg (show ¬ (false = true) by decide)] at H; exact H
          clear H
          have H := H1
          clear H1
          have H' := Aside0.mk H
          clear H
          go_wp2
          go_loopg [5] kj4 (fun kq v5 w' => ∃ (x5_2 : Int), v5 = .int .i64 x5_2 ∧ Aside0 (placketlaw01_NameGrows.l0 kq a0 t108 x5_2 = some r) ∧ Aside0 (kq ≤ kj4) ∧ Drawn0 w w')
          case atStart => exact ⟨(0), (by first | rfl | (simp; done) | (simp [*]; done)), H', ⟨Nat.le_refl _⟩, by repeat (first | exact Drawn0.refl _ | apply Drawn0.step)⟩
          case round =>
            clear H'
            try clear c1
            try clear p2
            try clear c4
            try clear c7
            try clear c8
            try clear c8b0
            try clear c8b1
            try clear c8b2
            try clear c10
            try clear c10b0
            try clear c10b1
            try clear c10b2
            try clear c12
            try clear c12b0
            try clear c12b1
            try clear c12b2
            try clear c14
            try clear c15
            try clear c15b0
            try clear c15b1
            try clear c15b2
            try clear c16
            try clear c17
            try clear p2
            obtain ⟨x5_2, rfl, HA, HK2, ⟨m2, rfl⟩⟩ := hrel
            cases gk with
            | zero => exact absurd HA.out (by simp [placketlaw01_NameGrows.l0])
            | succ k2 =>
              have H := HA.out
              clear HA
              simp only [placketlaw01_NameGrows.l0] at H
              by_cases c18 : x5_2 ≤ (a0.size : Int)
              · rw [if_pos c18] at H
                have c18b0 : decide (x5_2 ≤ (a0.size : Int)) = true := decide_eq_true c18
                clear c18
                by_cases c19 : 0 ≤ x5_2
                · rw [if_pos c19] at H
                  have c19b0 := eq_true c19
                  have c19b1 : decide (0 ≤ x5_2) = true := decide_eq_true c19
                  clear c19
                  have c20b0 := eq_true (of_decide_eq_true (by first | (with_reducible assumption) | assumption) : x5_2 ≤ (a0.size : Int))
                  replace H := Option.bind_eq_some_iff.mp H
                  obtain ⟨t115, A210, H⟩ := H
                  replace H : (if (t115 != (decide (x5_2 > 0))) = true then (some false) else (placketlaw01_NameGrows.l0 k2 a0 t108 (wrap64 (x5_2 + 1)))) = some r := H
                  have A21 := Aside0.mk A210
                  clear A210
                  by_cases c22 : (t115 != (decide (x5_2 > 0))) = true
                  · rw [if_pos c22] at H
                    have c22b0 : (t115 != (decide (x5_2 > 0))) = true := c22
                    (try (have c22b1 : decide (t115 = (decide (x5_2 > 0))) = false := by simpa using c22))
                    (try (have c22b2 : (t115 == (decide (x5_2 > 0))) = false := by simpa using c22))
                    (try (have c22b3 : ¬ (t115 = (decide (x5_2 > 0))) := by simpa using c22))
                    clear c22
                    obtain rfl := Option.some.inj H
                    go_wp2_with (first | ((with_reducible refine gate_callee (f := 16) rfl ?_); refine goesL_ (some 50) rfl rfl Try.func16 (by kernel_rfl) rfl #[.string (a0.extract 0 (x5_2 : Int).toNat)] rfl (by (try simp only [List.map_toArray, List.map_cons, List.map_nil]); first | done | rfl | (simp only [List.length_drop, List.length_take]; rfl)) ?_; (with_reducible refine (name_May.calls k2 (a0.extract 0 (x5_2 : Int).toNat) t115 _ A21.out).mono ?_); rintro e w' ⟨rfl, ⟨nd, rfl⟩⟩; refine ⟨_, rfl, ?_⟩))
                    go_ret
                    exact ⟨by first | rfl | (simp; done) | (simp [*]; done), by repeat (first | exact Drawn0.refl _ | apply Drawn0.step)⟩
                  · rw [if_neg c22] at H
                    have c22b0 : (t115 != (decide (x5_2 > 0))) = false := by simpa using c22
                    (try (have c22b1 : decide (t115 = (decide (x5_2 > 0))) = true := by simpa using c22))
                    (try (have c22b2 : (t115 == (decide (x5_2 > 0))) = true := by simpa using c22))
                    clear c22
                    have H' := Aside0.mk H
                    clear H
                    go_wp2_with (first | ((with_reducible refine gate_callee (f := 16) rfl ?_); refine goesL_ (some 50) rfl rfl Try.func16 (by kernel_rfl) rfl #[.string (a0.extract 0 (x5_2 : Int).toNat)] rfl (by (try simp only [List.map_toArray, List.map_cons, List.map_nil]); first | done | rfl | (simp only [List.length_drop, List.length_take]; rfl)) ?_; (with_reducible refine (name_May.calls k2 (a0.extract 0 (x5_2 : Int).toNat) t115 _ A21.out).mono ?_); rintro e w' ⟨rfl, ⟨nd, rfl⟩⟩; refine ⟨_, rfl, ?_⟩))
                    go_roundg k2
                    case measure => have := HJ4.out; have := HK2.out; omega
                    case rel => exact ⟨(wrap64 (x5_2 + 1)), (by first | rfl | (simp; done) | (simp [*]; done)), H', ⟨by have := HJ4.out; have := HK2.out; omega⟩, by repeat (first | exact Drawn0.refl _ | apply Drawn0.step)⟩
                · rw [if_neg c19] at H
                  exact absurd H (by simp)
              · rw [if_neg c18] at H
                have c18b0 : decide (x5_2 ≤ (a0.size : Int)) = false := decide_eq_false c18
                clear c18
                obtain rfl := Option.some.inj H
                go_wp2
                go_ret
                exact ⟨by first | rfl | (simp; done) | (simp [*]; done), by repeat (first | exact Drawn0.refl _ | apply Drawn0.step)⟩
  · replace c4 := Bool.eq_false_iff.mpr c4
    subst c4
    have H1 : (some t108) = some r := by rw [if_neg (show ¬ (false = true) by decide)] at H; exact H
    clear H
    have H := H1
    clear H1
    obtain rfl := Option.some.inj H
    go_enter Try.func4, Try.ntmps4
    go_wp2_with (first | ((with_reducible refine gate_callee (f := 15) rfl ?_); refine goesL_ (some 6) rfl rfl Try.func15 (by kernel_rfl) rfl #[] rfl (by (try simp only [List.map_toArray, List.map_cons, List.map_nil]); first | done | rfl | (simp only [List.length_drop, List.length_take]; rfl)) ?_; (with_reducible refine (placketlaw01_up.calls k  t108 _ A2.out).mono ?_); rintro e w' ⟨rfl, ⟨nd, rfl⟩⟩; refine ⟨_, rfl, ?_⟩) | ((with_reducible refine gate_callee (f := 16) rfl ?_); refine goesL_ (some 8) rfl rfl Try.func16 (by kernel_rfl) rfl #[.string a0] rfl (by (try simp only [List.map_toArray, List.map_cons, List.map_nil]); first | done | rfl | (simp only [List.length_drop, List.length_take]; rfl)) ?_; (with_reducible refine (name_May.calls k a0 false _ A3.out).mono ?_); rintro e w' ⟨rfl, ⟨nd, rfl⟩⟩; refine ⟨_, rfl, ?_⟩))
    go_ret
    exact ⟨by first | rfl | (simp; done) | (simp [*]; done), by repeat (first | exact Drawn0.refl _ | apply Drawn0.step)⟩

/-- THE ONE PURE STATEMENT of placketlaw01_NameGrows: yours. -/
def placketlaw01_NameGrows.Pure : Prop := ∀ (a0 : ByteArray), a0.size ≤ 140737488351232 → ∃ k, placketlaw01_NameGrows.f k a0 = some true
theorem placketlaw01_NameGrows.walk (P : placketlaw01_NameGrows.Pure) (a0 : ByteArray) (w : World) (w0 : a0.size ≤ 140737488351232) :
    Calls Try.prog 4 #[.string a0] w fun e w' => e = .returned (.bool true) ∧ Below w.heap.size w w' := by
  obtain ⟨k, h⟩ := P a0 w0
  refine (placketlaw01_NameGrows.calls k a0 true w h).mono ?_
  rintro e w' ⟨rfl, hd⟩
  exact ⟨rfl, hd.below⟩

end Go.Proofs.Ytmklimlepgiffaa.PNameGrows
