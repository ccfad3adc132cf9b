-- PRINTED BY print.sh 35421559b90ae4d0a3588c463048766b98c2df88dd9212a6774a882060cdf62d: not written by this session
import Derived.Test.YtmklimlepgiffaaPNameTellsx0
import Derived.Test.YtmklimlepgiffaaPNameTellsx1
namespace Go.Proofs.Ytmklimlepgiffaa.PNameTells
open Go.RowKit Go.Proofs.YtmklimlepgiffaaW.PrintWords Go.Proofs.YtmklimlepgiffaaW.PrintLast Go.Proofs.YtmklimlepgiffaaW.PrintMore
attribute [local go_sem] max2_int min2_int max_two min_two max_three min_three max_four min_four   -- for this text's walks alone
set_option linter.unusedVariables false
set_option linter.unusedSimpArgs false

/-! ### placketref01_Name: function 17 -/
mutual
def placketref01_Name.j0 : Nat → ByteArray → Bool → Option (Bool)
  | 0, _, _ => none
  | k + 1, x0, x12 => if x12 = true then (some false) else (placketref01_Name.l0 k x0 0)
def placketref01_Name.l0 : Nat → ByteArray → Int → Option (Bool)
  | 0, _, _ => none
  | k + 1, x0, x3 => if x3 < (x0.size : Int) then (if 0 ≤ x3 then ((placketref01_letter.f (bt x0 x3)).bind fun t108 => (if t108 = true then (placketref01_Name.l0 k x0 (wrap64 (x3 + 1))) else (if x3 = 0 then (some false) else (if (bt x0 x3) < 48 then (if (bt x0 x3) = 45 then (placketref01_Name.l0 k x0 (wrap64 (x3 + 1))) else (some false)) else (if (bt x0 x3) > 57 then (if (bt x0 x3) = 45 then (placketref01_Name.l0 k x0 (wrap64 (x3 + 1))) else (some false)) else (placketref01_Name.l0 k x0 (wrap64 (x3 + 1)))))))) else (none)) else (some true)
end
def placketref01_Name.f (k : Nat) (a0 : ByteArray) : Option (Bool) := if (a0.size : Int) < 1 then (placketref01_Name.j0 k a0 true) else (placketref01_Name.j0 k a0 (decide ((a0.size : Int) > 12)))
theorem placketref01_Name.mono_l : ∀ k, (∀ y0 y1, LeO (placketref01_Name.j0 k y0 y1) (placketref01_Name.j0 (k + 1) y0 y1)) ∧ (∀ y0 y1, LeO (placketref01_Name.l0 k y0 y1) (placketref01_Name.l0 (k + 1) y0 y1))
  | 0 => ⟨fun _ _ r h => by simp [placketref01_Name.j0] at h, fun _ _ r h => by simp [placketref01_Name.l0] at h⟩
  | k + 1 => by
    obtain ⟨ih0, ih1⟩ := placketref01_Name.mono_l k
    refine ⟨?_, ?_⟩
    · intro y0 y1
      unfold placketref01_Name.j0
      repeat' first
      | (with_reducible exact ih0 _ _)
      | (with_reducible exact ih1 _ _)
      | (with_reducible exact LeO.refl _)
      | (with_reducible exact LeO.none _)
      | (with_reducible refine LeO.ite ?_ ?_)
      | (with_reducible refine LeO.bind ?_ (fun _ => ?_))
      | exact ih0 _ _
      | exact ih1 _ _
      | exact LeO.none _
      | refine LeO.ite ?_ ?_
      | refine LeO.bind ?_ (fun _ => ?_)
    · intro y0 y1
      unfold placketref01_Name.l0
      repeat' first
      | (with_reducible exact ih0 _ _)
      | (with_reducible exact ih1 _ _)
      | (with_reducible exact LeO.refl _)
      | (with_reducible exact LeO.none _)
      | (with_reducible refine LeO.ite ?_ ?_)
      | (with_reducible refine LeO.bind ?_ (fun _ => ?_))
      | exact ih0 _ _
      | exact ih1 _ _
      | exact LeO.none _
      | refine LeO.ite ?_ ?_
      | refine LeO.bind ?_ (fun _ => ?_)
theorem placketref01_Name.mono : ∀ a0 k, LeO (placketref01_Name.f k a0) (placketref01_Name.f (k + 1) a0) := by
  intro a0 k
  obtain ⟨ih0, ih1⟩ := placketref01_Name.mono_l k
  unfold placketref01_Name.f
  repeat' first
      | (with_reducible exact ih0 _ _)
      | (with_reducible exact ih1 _ _)
      | (with_reducible exact LeO.refl _)
      | (with_reducible exact LeO.none _)
      | (with_reducible refine LeO.ite ?_ ?_)
      | (with_reducible refine LeO.bind ?_ (fun _ => ?_))
      | exact ih0 _ _
      | exact ih1 _ _
      | exact LeO.none _
      | refine LeO.ite ?_ ?_
      | refine LeO.bind ?_ (fun _ => ?_)
set_option maxHeartbeats 8000000 in
set_option maxRecDepth 100000 in
theorem placketref01_Name.calls (k : Nat) (a0 : ByteArray) (r : Bool) (w : World) (h : placketref01_Name.f k a0 = some r) :
    Calls Try.prog 17 #[.string a0] w fun e w' => e = .returned (.bool r) ∧ Drawn0 w w' := by
  have H : (if (a0.size : Int) < 1 then (placketref01_Name.j0 k a0 true) else (placketref01_Name.j0 k a0 (decide ((a0.size : Int) > 12)))) = some r := h
  clear h
  have HC2 := Aside0.mk H
  clear H
  go_enter Try.func17, Try.ntmps17
  go_upto_region 1 with (fail)
  go_cut [12] (fun v12 wc => ∃ (kq : Nat) (x12_1 : Bool), v12 = .bool x12_1 ∧ Aside0 (placketref01_Name.j0 kq a0 x12_1 = some r) ∧ Aside0 (kq ≤ k) ∧ Drawn0 w wc)
  case first =>
    have H := HC2.out
    clear HC2
    by_cases c3 : (a0.size : Int) < 1
    · rw [if_pos c3] at H
      have c3b0 : decide ((a0.size : Int) < 1) = true := decide_eq_true c3
      have c3b1 : decide (a0.size < 1) = true := decide_eq_true (by omega)
      clear c3
      (first | rw [c3b0] | (simp only [i64_w, i32_w]; rw [c3b0]) | skip)
      have H' := Aside0.mk H
      clear H
      go_wp2
      go_meet
      case rel => exact ⟨_, (true), (by first | rfl | (simp; done) | (simp [*]; done)), H', ⟨by first | omega | exact Nat.le_refl _⟩, by repeat (first | exact Drawn0.refl _ | apply Drawn0.step)⟩
    · rw [if_neg c3] at H
      have c3b0 : decide ((a0.size : Int) < 1) = false := decide_eq_false c3
      have c3b1 : decide (a0.size < 1) = false := decide_eq_false (by omega)
      clear c3
      (first | rw [c3b0] | (simp only [i64_w, i32_w]; rw [c3b0]) | skip)
      have H' := Aside0.mk H
      clear H
      go_wp2
      go_meet
      case rel => exact ⟨_, (decide ((a0.size : Int) > 12)), (by first | rfl | (simp; done) | (simp [*]; done)), H', ⟨by first | omega | exact Nat.le_refl _⟩, by repeat (first | exact Drawn0.refl _ | apply Drawn0.step)⟩
  case rest =>
    clear HC2
    try clear c1
    try clear p2
    try clear c3
    try clear c3b0
    try clear c3b1
    obtain ⟨kq, x12_1, rfl, HA, HJ1, ⟨mc1, rfl⟩⟩ := hcut
    cases kq with
    | zero => exact absurd HA.out (by simp [placketref01_Name.j0])
    | succ kj1 =>
      have H := HA.out
      clear HA
      simp only [placketref01_Name.j0] at H
      by_cases c4 : x12_1 = true
      · subst c4
        have H1 : (some false) = some r := by rw [if_pos rfl] at H; exact H
        clear H
        have H := H1
        clear H1
        obtain rfl := Option.some.inj H
        go_wp2
        go_ret
        exact ⟨by first | rfl | (simp; done) | (simp [*]; done), by repeat (first | exact Drawn0.refl _ | apply Drawn0.step)⟩
      · replace c4 := Bool.eq_false_iff.mpr c4
        subst c4
        have H1 : (placketref01_Name.l0 kj1 a0 0) = some r := by rw [if_neg (show ¬ (false = true) by decide)] at H; exact H
        clear H
        have H := H1
        clear H1
        have H' := Aside0.mk H
        clear H
        go_wp2
        go_loopg [3] kj1 (fun kq v3 w' => ∃ (x3_2 : Int), v3 = .int .i64 x3_2 ∧ Aside0 (placketref01_Name.l0 kq a0 x3_2 = some r) ∧ Aside0 (kq ≤ kj1) ∧ Drawn0 w w')
        case atStart => exact ⟨(0), (by first | rfl | (simp; done) | (simp [*]; done)), H', ⟨Nat.le_refl _⟩, by repeat (first | exact Drawn0.refl _ | apply Drawn0.step)⟩
        case round =>
          clear H'
          try clear c1
          try clear p2
          try clear c3
          try clear c3b0
          try clear c3b1
          try clear c4
          try clear p2
          obtain ⟨x3_2, rfl, HA, HK2, ⟨m2, rfl⟩⟩ := hrel
          cases gk with
          | zero => exact absurd HA.out (by simp [placketref01_Name.l0])
          | succ k2 =>
            have H := HA.out
            clear HA
            simp only [placketref01_Name.l0] at H
            by_cases c5 : x3_2 < (a0.size : Int)
            · rw [if_pos c5] at H
              have c5b0 : decide (x3_2 < (a0.size : Int)) = true := decide_eq_true c5
              clear c5
              by_cases c6 : 0 ≤ x3_2
              · rw [if_pos c6] at H
                have c6b0 : decide (0 ≤ x3_2) = true := decide_eq_true c6
                clear c6
                replace H := Option.bind_eq_some_iff.mp H
                obtain ⟨t108, A80, H⟩ := H
                replace H : (if t108 = true then (placketref01_Name.l0 k2 a0 (wrap64 (x3_2 + 1))) else (if x3_2 = 0 then (some false) else (if (bt a0 x3_2) < 48 then (if (bt a0 x3_2) = 45 then (placketref01_Name.l0 k2 a0 (wrap64 (x3_2 + 1))) else (some false)) else (if (bt a0 x3_2) > 57 then (if (bt a0 x3_2) = 45 then (placketref01_Name.l0 k2 a0 (wrap64 (x3_2 + 1))) else (some false)) else (placketref01_Name.l0 k2 a0 (wrap64 (x3_2 + 1))))))) = some r := H
                have A8 := Aside0.mk A80
                clear A80
                by_cases c9 : t108 = true
                · subst c9
                  have H1 : (placketref01_Name.l0 k2 a0 (wrap64 (x3_2 + 1))) = some r := by rw [if_pos rfl] at H; exact H
                  clear H
                  have H := H1
                  clear H1
                  have H' := Aside0.mk H
                  clear H
                  have p7 : 0 ≤ (x3_2 : Int) := of_decide_eq_true (by first | (with_reducible assumption) | assumption)
                  have q7 : x3_2 < (a0.size : Int) := of_decide_eq_true (by first | (with_reducible assumption) | assumption)
                  have hx7 := bt_at a0 x3_2
                  replace p7 := eq_true p7
                  replace q7 := eq_true q7
                  go_wp2_with (first | ((with_reducible refine gate_callee (f := 76) rfl ?_); refine goesL_ (some 22) rfl rfl Try.func76 (by kernel_rfl) rfl #[.int .u8 (bt a0 x3_2)] rfl (by (try simp only [List.map_toArray, List.map_cons, List.map_nil]); first | done | rfl | (simp only [List.length_drop, List.length_take]; rfl)) ?_; (with_reducible refine (placketref01_letter.calls (bt a0 x3_2) true _ A8.out).mono ?_); rintro e w' ⟨rfl, ⟨nd, rfl⟩⟩; refine ⟨_, rfl, ?_⟩))
                  go_roundg k2
                  case measure => have := HJ1.out; have := HK2.out; omega
                  case rel => exact ⟨(wrap64 (x3_2 + 1)), (by first | rfl | (simp; done) | (simp [*]; done)), H', ⟨by have := HJ1.out; have := HK2.out; omega⟩, by repeat (first | exact Drawn0.refl _ | apply Drawn0.step)⟩
                · replace c9 := Bool.eq_false_iff.mpr c9
                  subst c9
                  have H1 : (if x3_2 = 0 then (some false) else (if (bt a0 x3_2) < 48 then (if (bt a0 x3_2) = 45 then (placketref01_Name.l0 k2 a0 (wrap64 (x3_2 + 1))) else (some false)) else (if (bt a0 x3_2) > 57 then (if (bt a0 x3_2) = 45 then (placketref01_Name.l0 k2 a0 (wrap64 (x3_2 + 1))) else (some false)) else (placketref01_Name.l0 k2 a0 (wrap64 (x3_2 + 1)))))) = some r := by rw [if_neg (show ¬ (false = true) by decide)] at H; exact H
                  clear H
                  have H := H1
                  clear H1
                  by_cases c10 : x3_2 = 0
                  · rw [if_pos c10] at H
                    have c10b0 : (x3_2 == 0) = true := beq_iff_eq.mpr c10
                    have c10b1 : (x3_2 != 0) = false := bne_eq_false_iff_eq.mpr c10
                    clear c10
                    obtain rfl := Option.some.inj H
                    have p7 : 0 ≤ (x3_2 : Int) := of_decide_eq_true (by first | (with_reducible assumption) | assumption)
                    have q7 : x3_2 < (a0.size : Int) := of_decide_eq_true (by first | (with_reducible assumption) | assumption)
                    have hx7 := bt_at a0 x3_2
                    replace p7 := eq_true p7
                    replace q7 := eq_true q7
                    go_wp2_with (first | ((with_reducible refine gate_callee (f := 76) rfl ?_); refine goesL_ (some 22) rfl rfl Try.func76 (by kernel_rfl) rfl #[.int .u8 (bt a0 x3_2)] rfl (by (try simp only [List.map_toArray, List.map_cons, List.map_nil]); first | done | rfl | (simp only [List.length_drop, List.length_take]; rfl)) ?_; (with_reducible refine (placketref01_letter.calls (bt a0 x3_2) false _ A8.out).mono ?_); rintro e w' ⟨rfl, ⟨nd, rfl⟩⟩; refine ⟨_, rfl, ?_⟩))
                    go_ret
                    exact ⟨by first | rfl | (simp; done) | (simp [*]; done), by repeat (first | exact Drawn0.refl _ | apply Drawn0.step)⟩
                  · rw [if_neg c10] at H
                    have c10b0 : (x3_2 == 0) = false := beq_eq_false_iff_ne.mpr c10
                    have c10b1 : (x3_2 != 0) = true := bne_iff_ne.mpr c10
                    by_cases c12 : (bt a0 x3_2) < 48
                    · rw [if_pos c12] at H
                      have c12b0 : decide ((bt a0 x3_2) < 48) = true := decide_eq_true c12
                      clear c12
                      by_cases c14 : (bt a0 x3_2) = 45
                      · rw [if_pos c14] at H
                        have c14b0 : ((bt a0 x3_2) == 45) = true := beq_iff_eq.mpr c14
                        have c14b1 : ((bt a0 x3_2) != 45) = false := bne_eq_false_iff_eq.mpr c14
                        clear c14
                        have H' := Aside0.mk H
                        clear H
                        have p7 : 0 ≤ (x3_2 : Int) := of_decide_eq_true (by first | (with_reducible assumption) | assumption)
                        have q7 : x3_2 < (a0.size : Int) := of_decide_eq_true (by first | (with_reducible assumption) | assumption)
                        have hx7 := bt_at a0 x3_2
                        replace p7 := eq_true p7
                        replace q7 := eq_true q7
                        go_wp2_with (first | ((with_reducible refine gate_callee (f := 76) rfl ?_); refine goesL_ (some 22) rfl rfl Try.func76 (by kernel_rfl) rfl #[.int .u8 (bt a0 x3_2)] rfl (by (try simp only [List.map_toArray, List.map_cons, List.map_nil]); first | done | rfl | (simp only [List.length_drop, List.length_take]; rfl)) ?_; (with_reducible refine (placketref01_letter.calls (bt a0 x3_2) false _ A8.out).mono ?_); rintro e w' ⟨rfl, ⟨nd, rfl⟩⟩; refine ⟨_, rfl, ?_⟩; have p11 : 0 ≤ (x3_2 : Int) := of_decide_eq_true (by first | (with_reducible assumption) | assumption); have q11 : x3_2 < (a0.size : Int) := of_decide_eq_true (by first | (with_reducible assumption) | assumption); have hx11 := bt_at a0 x3_2; replace p11 := eq_true p11; replace q11 := eq_true q11; have p13 : 0 ≤ (x3_2 : Int) := of_decide_eq_true (by first | (with_reducible assumption) | assumption); have q13 : x3_2 < (a0.size : Int) := of_decide_eq_true (by first | (with_reducible assumption) | assumption); have hx13 := bt_at a0 x3_2; replace p13 := eq_true p13; replace q13 := eq_true q13))
                        go_roundg k2
                        case measure => have := HJ1.out; have := HK2.out; omega
                        case rel => exact ⟨(wrap64 (x3_2 + 1)), (by first | rfl | (simp; done) | (simp [*]; done)), H', ⟨by have := HJ1.out; have := HK2.out; omega⟩, by repeat (first | exact Drawn0.refl _ | apply Drawn0.step)⟩
                      · rw [if_neg c14] at H
                        have c14b0 : ((bt a0 x3_2) == 45) = false := beq_eq_false_iff_ne.mpr c14
                        have c14b1 : ((bt a0 x3_2) != 45) = true := bne_iff_ne.mpr c14
                        obtain rfl := Option.some.inj H
                        have p7 : 0 ≤ (x3_2 : Int) := of_decide_eq_true (by first | (with_reducible assumption) | assumption)
                        have q7 : x3_2 < (a0.size : Int) := of_decide_eq_true (by first | (with_reducible assumption) | assumption)
                        have hx7 := bt_at a0 x3_2
                        replace p7 := eq_true p7
                        replace q7 := eq_true q7
                        go_wp2_with (first | ((with_reducible refine gate_callee (f := 76) rfl ?_); refine goesL_ (some 22) rfl rfl Try.func76 (by kernel_rfl) rfl #[.int .u8 (bt a0 x3_2)] rfl (by (try simp only [List.map_toArray, List.map_cons, List.map_nil]); first | done | rfl | (simp only [List.length_drop, List.length_take]; rfl)) ?_; (with_reducible refine (placketref01_letter.calls (bt a0 x3_2) false _ A8.out).mono ?_); rintro e w' ⟨rfl, ⟨nd, rfl⟩⟩; refine ⟨_, rfl, ?_⟩; have p11 : 0 ≤ (x3_2 : Int) := of_decide_eq_true (by first | (with_reducible assumption) | assumption); have q11 : x3_2 < (a0.size : Int) := of_decide_eq_true (by first | (with_reducible assumption) | assumption); have hx11 := bt_at a0 x3_2; replace p11 := eq_true p11; replace q11 := eq_true q11; have p13 : 0 ≤ (x3_2 : Int) := of_decide_eq_true (by first | (with_reducible assumption) | assumption); have q13 : x3_2 < (a0.size : Int) := of_decide_eq_true (by first | (with_reducible assumption) | assumption); have hx13 := bt_at a0 x3_2; replace p13 := eq_true p13; replace q13 := eq_true q13))
                        go_ret
                        exact ⟨by first | rfl | (simp; done) | (simp [*]; done), by repeat (first | exact Drawn0.refl _ | apply Drawn0.step)⟩
                    · rw [if_neg c12] at H
                      have c12b0 : decide ((bt a0 x3_2) < 48) = false := decide_eq_false c12
                      clear c12
                      by_cases c16 : (bt a0 x3_2) > 57
                      · rw [if_pos c16] at H
                        have c16b0 : decide (57 < (bt a0 x3_2)) = true := decide_eq_true c16
                        clear c16
                        by_cases c18 : (bt a0 x3_2) = 45
                        · rw [if_pos c18] at H
                          have c18b0 : ((bt a0 x3_2) == 45) = true := beq_iff_eq.mpr c18
                          have c18b1 : ((bt a0 x3_2) != 45) = false := bne_eq_false_iff_eq.mpr c18
                          clear c18
                          have H' := Aside0.mk H
                          clear H
                          have p7 : 0 ≤ (x3_2 : Int) := of_decide_eq_true (by first | (with_reducible assumption) | assumption)
                          have q7 : x3_2 < (a0.size : Int) := of_decide_eq_true (by first | (with_reducible assumption) | assumption)
                          have hx7 := bt_at a0 x3_2
                          replace p7 := eq_true p7
                          replace q7 := eq_true q7
                          go_wp2_with (first | ((with_reducible refine gate_callee (f := 76) rfl ?_); refine goesL_ (some 22) rfl rfl Try.func76 (by kernel_rfl) rfl #[.int .u8 (bt a0 x3_2)] rfl (by (try simp only [List.map_toArray, List.map_cons, List.map_nil]); first | done | rfl | (simp only [List.length_drop, List.length_take]; rfl)) ?_; (with_reducible refine (placketref01_letter.calls (bt a0 x3_2) false _ A8.out).mono ?_); rintro e w' ⟨rfl, ⟨nd, rfl⟩⟩; refine ⟨_, rfl, ?_⟩; have p11 : 0 ≤ (x3_2 : Int) := of_decide_eq_true (by first | (with_reducible assumption) | assumption); have q11 : x3_2 < (a0.size : Int) := of_decide_eq_true (by first | (with_reducible assumption) | assumption); have hx11 := bt_at a0 x3_2; replace p11 := eq_true p11; replace q11 := eq_true q11; have p15 : 0 ≤ (x3_2 : Int) := of_decide_eq_true (by first | (with_reducible assumption) | assumption); have q15 : x3_2 < (a0.size : Int) := of_decide_eq_true (by first | (with_reducible assumption) | assumption); have hx15 := bt_at a0 x3_2; replace p15 := eq_true p15; replace q15 := eq_true q15; have p17 : 0 ≤ (x3_2 : Int) := of_decide_eq_true (by first | (with_reducible assumption) | assumption); have q17 : x3_2 < (a0.size : Int) := of_decide_eq_true (by first | (with_reducible assumption) | assumption); have hx17 := bt_at a0 x3_2; replace p17 := eq_true p17; replace q17 := eq_true q17))
                          go_roundg k2
                          case measure => have := HJ1.out; have := HK2.out; omega
                          case rel => exact ⟨(wrap64 (x3_2 + 1)), (by first | rfl | (simp; done) | (simp [*]; done)), H', ⟨by have := HJ1.out; have := HK2.out; omega⟩, by repeat (first | exact Drawn0.refl _ | apply Drawn0.step)⟩
                        · rw [if_neg c18] at H
                          have c18b0 : ((bt a0 x3_2) == 45) = false := beq_eq_false_iff_ne.mpr c18
                          have c18b1 : ((bt a0 x3_2) != 45) = true := bne_iff_ne.mpr c18
                          obtain rfl := Option.some.inj H
                          have p7 : 0 ≤ (x3_2 : Int) := of_decide_eq_true (by first | (with_reducible assumption) | assumption)
                          have q7 : x3_2 < (a0.size : Int) := of_decide_eq_true (by first | (with_reducible assumption) | assumption)
                          have hx7 := bt_at a0 x3_2
                          replace p7 := eq_true p7
                          replace q7 := eq_true q7
                          go_wp2_with (first | ((with_reducible refine gate_callee (f := 76) rfl ?_); refine goesL_ (some 22) rfl rfl Try.func76 (by kernel_rfl) rfl #[.int .u8 (bt a0 x3_2)] rfl (by (try simp only [List.map_toArray, List.map_cons, List.map_nil]); first | done | rfl | (simp only [List.length_drop, List.length_take]; rfl)) ?_; (with_reducible refine (placketref01_letter.calls (bt a0 x3_2) false _ A8.out).mono ?_); rintro e w' ⟨rfl, ⟨nd, rfl⟩⟩; refine ⟨_, rfl, ?_⟩; have p11 : 0 ≤ (x3_2 : Int) := of_decide_eq_true (by first | (with_reducible assumption) | assumption); have q11 : x3_2 < (a0.size : Int) := of_decide_eq_true (by first | (with_reducible assumption) | assumption); have hx11 := bt_at a0 x3_2; replace p11 := eq_true p11; replace q11 := eq_true q11; have p15 : 0 ≤ (x3_2 : Int) := of_decide_eq_true (by first | (with_reducible assumption) | assumption); have q15 : x3_2 < (a0.size : Int) := of_decide_eq_true (by first | (with_reducible assumption) | assumption); have hx15 := bt_at a0 x3_2; replace p15 := eq_true p15; replace q15 := eq_true q15; have p17 : 0 ≤ (x3_2 : Int) := of_decide_eq_true (by first | (with_reducible assumption) | assumption); have q17 : x3_2 < (a0.size : Int) := of_decide_eq_true (by first | (with_reducible assumption) | assumption); have hx17 := bt_at a0 x3_2; replace p17 := eq_true p17; replace q17 := eq_true q17))
                          go_ret
                          exact ⟨by first | rfl | (simp; done) | (simp [*]; done), by repeat (first | exact Drawn0.refl _ | apply Drawn0.step)⟩
                      · rw [if_neg c16] at H
                        have c16b0 : decide (57 < (bt a0 x3_2)) = false := decide_eq_false c16
                        clear c16
                        have H' := Aside0.mk H
                        clear H
                        have p7 : 0 ≤ (x3_2 : Int) := of_decide_eq_true (by first | (with_reducible assumption) | assumption)
                        have q7 : x3_2 < (a0.size : Int) := of_decide_eq_true (by first | (with_reducible assumption) | assumption)
                        have hx7 := bt_at a0 x3_2
                        replace p7 := eq_true p7
                        replace q7 := eq_true q7
                        go_wp2_with (first | ((with_reducible refine gate_callee (f := 76) rfl ?_); refine goesL_ (some 22) rfl rfl Try.func76 (by kernel_rfl) rfl #[.int .u8 (bt a0 x3_2)] rfl (by (try simp only [List.map_toArray, List.map_cons, List.map_nil]); first | done | rfl | (simp only [List.length_drop, List.length_take]; rfl)) ?_; (with_reducible refine (placketref01_letter.calls (bt a0 x3_2) false _ A8.out).mono ?_); rintro e w' ⟨rfl, ⟨nd, rfl⟩⟩; refine ⟨_, rfl, ?_⟩; have p11 : 0 ≤ (x3_2 : Int) := of_decide_eq_true (by first | (with_reducible assumption) | assumption); have q11 : x3_2 < (a0.size : Int) := of_decide_eq_true (by first | (with_reducible assumption) | assumption); have hx11 := bt_at a0 x3_2; replace p11 := eq_true p11; replace q11 := eq_true q11; have p15 : 0 ≤ (x3_2 : Int) := of_decide_eq_true (by first | (with_reducible assumption) | assumption); have q15 : x3_2 < (a0.size : Int) := of_decide_eq_true (by first | (with_reducible assumption) | assumption); have hx15 := bt_at a0 x3_2; replace p15 := eq_true p15; replace q15 := eq_true q15))
                        go_roundg k2
                        case measure => have := HJ1.out; have := HK2.out; omega
                        case rel => exact ⟨(wrap64 (x3_2 + 1)), (by first | rfl | (simp; done) | (simp [*]; done)), H', ⟨by have := HJ1.out; have := HK2.out; omega⟩, by repeat (first | exact Drawn0.refl _ | apply Drawn0.step)⟩
              · rw [if_neg c6] at H
                exact absurd H (by simp)
            · rw [if_neg c5] at H
              have c5b0 : decide (x3_2 < (a0.size : Int)) = false := decide_eq_false c5
              clear c5
              obtain rfl := Option.some.inj H
              go_wp2
              go_ret
              exact ⟨by first | rfl | (simp; done) | (simp [*]; done), by repeat (first | exact Drawn0.refl _ | apply Drawn0.step)⟩

/-! ### placketref01_Text: function 19 -/
def placketref01_Text.l0 : Nat → ByteArray → Int → Option (Bool)
  | 0, _, _ => none
  | k + 1, x0, x3 => if x3 < (x0.size : Int) then (if 0 ≤ x3 then (if (bt x0 x3) < 32 then (some false) else (if (bt x0 x3) > 126 then (some false) else (placketref01_Text.l0 k x0 (wrap64 (x3 + 1))))) else (none)) else (some (decide ((x0.size : Int) ≤ 60)))
def placketref01_Text.f (k : Nat) (a0 : ByteArray) : Option (Bool) := placketref01_Text.l0 k a0 0
theorem placketref01_Text.mono_l : ∀ k, (∀ y0 y1, LeO (placketref01_Text.l0 k y0 y1) (placketref01_Text.l0 (k + 1) y0 y1))
  | 0 => fun _ _ r h => by simp [placketref01_Text.l0] at h
  | k + 1 => by
    have ih0 := placketref01_Text.mono_l k
    · intro y0 y1
      unfold placketref01_Text.l0
      repeat' first
      | (with_reducible exact ih0 _ _)
      | (with_reducible exact LeO.refl _)
      | (with_reducible exact LeO.none _)
      | (with_reducible refine LeO.ite ?_ ?_)
      | (with_reducible refine LeO.bind ?_ (fun _ => ?_))
      | exact ih0 _ _
      | exact LeO.none _
      | refine LeO.ite ?_ ?_
      | refine LeO.bind ?_ (fun _ => ?_)
theorem placketref01_Text.mono : ∀ a0 k, LeO (placketref01_Text.f k a0) (placketref01_Text.f (k + 1) a0) := by
  intro a0 k
  have ih0 := placketref01_Text.mono_l k
  unfold placketref01_Text.f
  repeat' first
      | (with_reducible exact ih0 _ _)
      | (with_reducible exact LeO.refl _)
      | (with_reducible exact LeO.none _)
      | (with_reducible refine LeO.ite ?_ ?_)
      | (with_reducible refine LeO.bind ?_ (fun _ => ?_))
      | exact ih0 _ _
      | exact LeO.none _
      | refine LeO.ite ?_ ?_
      | refine LeO.bind ?_ (fun _ => ?_)
set_option maxHeartbeats 8000000 in
set_option maxRecDepth 100000 in
theorem placketref01_Text.calls (k : Nat) (a0 : ByteArray) (r : Bool) (w : World) (h : placketref01_Text.f k a0 = some r) :
    Calls Try.prog 19 #[.string a0] w fun e w' => e = .returned (.bool r) ∧ Drawn0 w w' := by
  have H : (placketref01_Text.l0 k a0 0) = some r := h
  clear h
  have H' := Aside0.mk H
  clear H
  go_enter Try.func19, Try.ntmps19
  go_wp2
  go_loopg [3] k (fun kq v3 w' => ∃ (x3_1 : Int), v3 = .int .i64 x3_1 ∧ Aside0 (placketref01_Text.l0 kq a0 x3_1 = some r) ∧ Aside0 (kq ≤ k) ∧ Drawn0 w w')
  case atStart => exact ⟨(0), (by first | rfl | (simp; done) | (simp [*]; done)), H', ⟨Nat.le_refl _⟩, by repeat (first | exact Drawn0.refl _ | apply Drawn0.step)⟩
  case round =>
    clear H'
    try clear c1
    obtain ⟨x3_1, rfl, HA, HK1, ⟨m1, rfl⟩⟩ := hrel
    cases gk with
    | zero => exact absurd HA.out (by simp [placketref01_Text.l0])
    | succ k1 =>
      have H := HA.out
      clear HA
      simp only [placketref01_Text.l0] at H
      by_cases c2 : x3_1 < (a0.size : Int)
      · rw [if_pos c2] at H
        have c2b0 : decide (x3_1 < (a0.size : Int)) = true := decide_eq_true c2
        clear c2
        by_cases c3 : 0 ≤ x3_1
        · rw [if_pos c3] at H
          have c3b0 : decide (0 ≤ x3_1) = true := decide_eq_true c3
          clear c3
          by_cases c5 : (bt a0 x3_1) < 32
          · rw [if_pos c5] at H
            have c5b0 : decide ((bt a0 x3_1) < 32) = true := decide_eq_true c5
            clear c5
            obtain rfl := Option.some.inj H
            have p4 : 0 ≤ (x3_1 : Int) := of_decide_eq_true (by first | (with_reducible assumption) | assumption)
            have q4 : x3_1 < (a0.size : Int) := of_decide_eq_true (by first | (with_reducible assumption) | assumption)
            have hx4 := bt_at a0 x3_1
            replace p4 := eq_true p4
            replace q4 := eq_true q4
            go_wp2
            go_ret
            exact ⟨by first | rfl | (simp; done) | (simp [*]; done), by repeat (first | exact Drawn0.refl _ | apply Drawn0.step)⟩
          · rw [if_neg c5] at H
            have c5b0 : decide ((bt a0 x3_1) < 32) = false := decide_eq_false c5
            clear c5
            by_cases c7 : (bt a0 x3_1) > 126
            · rw [if_pos c7] at H
              have c7b0 : decide (126 < (bt a0 x3_1)) = true := decide_eq_true c7
              clear c7
              obtain rfl := Option.some.inj H
              have p4 : 0 ≤ (x3_1 : Int) := of_decide_eq_true (by first | (with_reducible assumption) | assumption)
              have q4 : x3_1 < (a0.size : Int) := of_decide_eq_true (by first | (with_reducible assumption) | assumption)
              have hx4 := bt_at a0 x3_1
              replace p4 := eq_true p4
              replace q4 := eq_true q4
              have p6 : 0 ≤ (x3_1 : Int) := of_decide_eq_true (by first | (with_reducible assumption) | assumption)
              have q6 : x3_1 < (a0.size : Int) := of_decide_eq_true (by first | (with_reducible assumption) | assumption)
              have hx6 := bt_at a0 x3_1
              replace p6 := eq_true p6
              replace q6 := eq_true q6
              go_wp2
              go_ret
              exact ⟨by first | rfl | (simp; done) | (simp [*]; done), by repeat (first | exact Drawn0.refl _ | apply Drawn0.step)⟩
            · rw [if_neg c7] at H
              have c7b0 : decide (126 < (bt a0 x3_1)) = false := decide_eq_false c7
              clear c7
              have H' := Aside0.mk H
              clear H
              have p4 : 0 ≤ (x3_1 : Int) := of_decide_eq_true (by first | (with_reducible assumption) | assumption)
              have q4 : x3_1 < (a0.size : Int) := of_decide_eq_true (by first | (with_reducible assumption) | assumption)
              have hx4 := bt_at a0 x3_1
              replace p4 := eq_true p4
              replace q4 := eq_true q4
              have p6 : 0 ≤ (x3_1 : Int) := of_decide_eq_true (by first | (with_reducible assumption) | assumption)
              have q6 : x3_1 < (a0.size : Int) := of_decide_eq_true (by first | (with_reducible assumption) | assumption)
              have hx6 := bt_at a0 x3_1
              replace p6 := eq_true p6
              replace q6 := eq_true q6
              go_wp2
              go_roundg k1
              case measure => have := HK1.out; omega
              case rel => exact ⟨(wrap64 (x3_1 + 1)), (by first | rfl | (simp; done) | (simp [*]; done)), H', ⟨by have := HK1.out; omega⟩, by repeat (first | exact Drawn0.refl _ | apply Drawn0.step)⟩
        · rw [if_neg c3] at H
          exact absurd H (by simp)
      · rw [if_neg c2] at H
        have c2b0 : decide (x3_1 < (a0.size : Int)) = false := decide_eq_false c2
        clear c2
        obtain rfl := Option.some.inj H
        go_wp2
        go_ret
        exact ⟨by first | rfl | (simp; done) | (simp [*]; done), by repeat (first | exact Drawn0.refl _ | apply Drawn0.step)⟩

/-! ### placketref01_Void: function 21 -/
def placketref01_Void.f (a0 : ByteArray) : Option (Bool) := if a0.toList = ([98, 114] : List UInt8) then (some true) else (if a0.toList = ([104, 114] : List UInt8) then (some true) else (if a0.toList = ([105, 109, 103] : List UInt8) then (some true) else (some (a0.toList == ([105, 110, 112, 117, 116] : List UInt8)))))
set_option maxHeartbeats 8000000 in
set_option maxRecDepth 100000 in
theorem placketref01_Void.calls (a0 : ByteArray) (r : Bool) (w : World) (h : placketref01_Void.f a0 = some r) :
    Calls Try.prog 21 #[.string a0] w fun e w' => e = .returned (.bool r) ∧ Drawn0 w w' := by
  have H : (if a0.toList = ([98, 114] : List UInt8) then (some true) else (if a0.toList = ([104, 114] : List UInt8) then (some true) else (if a0.toList = ([105, 109, 103] : List UInt8) then (some true) else (some (a0.toList == ([105, 110, 112, 117, 116] : List UInt8)))))) = some r := h
  clear h
  by_cases c2 : a0.toList = ([98, 114] : List UInt8)
  · rw [if_pos c2] at H
    have c2b0 : (a0.toList == ([98, 114] : List UInt8)) = true := beq_iff_eq.mpr c2
    have c2b1 : (a0.toList != ([98, 114] : List UInt8)) = false := bne_eq_false_iff_eq.mpr c2
    clear c2
    obtain rfl := Option.some.inj H
    go_enter Try.func21, Try.ntmps21
    go_wp2
    go_ret
    exact ⟨by first | rfl | (simp; done) | (simp [*]; done), by repeat (first | exact Drawn0.refl _ | apply Drawn0.step)⟩
  · rw [if_neg c2] at H
    have c2b0 : (a0.toList == ([98, 114] : List UInt8)) = false := beq_eq_false_iff_ne.mpr c2
    have c2b1 : (a0.toList != ([98, 114] : List UInt8)) = true := bne_iff_ne.mpr c2
    by_cases c3 : a0.toList = ([104, 114] : List UInt8)
    · rw [if_pos c3] at H
      have c3b0 : (a0.toList == ([104, 114] : List UInt8)) = true := beq_iff_eq.mpr c3
      have c3b1 : (a0.toList != ([104, 114] : List UInt8)) = false := bne_eq_false_iff_eq.mpr c3
      clear c3
      obtain rfl := Option.some.inj H
      go_enter Try.func21, Try.ntmps21
      go_wp2
      go_ret
      exact ⟨by first | rfl | (simp; done) | (simp [*]; done), by repeat (first | exact Drawn0.refl _ | apply Drawn0.step)⟩
    · rw [if_neg c3] at H
      have c3b0 : (a0.toList == ([104, 114] : List UInt8)) = false := beq_eq_false_iff_ne.mpr c3
      have c3b1 : (a0.toList != ([104, 114] : List UInt8)) = true := bne_iff_ne.mpr c3
      by_cases c4 : a0.toList = ([105, 109, 103] : List UInt8)
      · rw [if_pos c4] at H
        have c4b0 : (a0.toList == ([105, 109, 103] : List UInt8)) = true := beq_iff_eq.mpr c4
        have c4b1 : (a0.toList != ([105, 109, 103] : List UInt8)) = false := bne_eq_false_iff_eq.mpr c4
        clear c4
        obtain rfl := Option.some.inj H
        go_enter Try.func21, Try.ntmps21
        go_wp2
        go_ret
        exact ⟨by first | rfl | (simp; done) | (simp [*]; done), by repeat (first | exact Drawn0.refl _ | apply Drawn0.step)⟩
      · rw [if_neg c4] at H
        have c4b0 : (a0.toList == ([105, 109, 103] : List UInt8)) = false := beq_eq_false_iff_ne.mpr c4
        have c4b1 : (a0.toList != ([105, 109, 103] : List UInt8)) = true := bne_iff_ne.mpr c4
        obtain rfl := Option.some.inj H
        go_enter Try.func21, Try.ntmps21
        go_wp2
        go_ret
        exact ⟨by first | rfl | (simp; done) | (simp [*]; done), by repeat (first | exact Drawn0.refl _ | apply Drawn0.step)⟩

/-! ### placketlaw01_NameTells: function 3 -/
def placketlaw01_NameTells.f (k : Nat) (a0 : ByteArray) : Option (Bool) := (placketlaw01_up.f k).bind fun t109 => (if (a0.size : Int) > 1000 then (some t109) else (if t109 = true then ((name_May.f k a0).bind fun t110 => ((placketref01_Name.f k a0).bind fun t111 => (if (t110 == t111) = true then ((name_Text.f k a0).bind fun t112 => ((placketref01_Text.f k a0).bind fun t113 => (if (t112 == t113) = true then ((name_Void.f a0).bind fun t114 => ((placketref01_Void.f a0).bind fun t115 => (some (t114 == t115)))) else (some false)))) else (some false)))) else (some false)))
theorem placketlaw01_NameTells.mono : ∀ a0 k, LeO (placketlaw01_NameTells.f k a0) (placketlaw01_NameTells.f (k + 1) a0) := by
  intro a0 k
  unfold placketlaw01_NameTells.f
  repeat' first
      | (with_reducible exact name_May.mono _ _)
      | (with_reducible exact name_Text.mono _ _)
      | (with_reducible exact placketlaw01_up.mono _)
      | (with_reducible exact placketref01_Name.mono _ _)
      | (with_reducible exact placketref01_Text.mono _ _)
      | (with_reducible exact LeO.refl _)
      | (with_reducible exact LeO.none _)
      | (with_reducible refine LeO.ite ?_ ?_)
      | (with_reducible refine LeO.bind ?_ (fun _ => ?_))
      | exact name_May.mono _ _
      | exact name_Text.mono _ _
      | exact placketlaw01_up.mono _
      | exact placketref01_Name.mono _ _
      | exact placketref01_Text.mono _ _
      | exact LeO.none _
      | refine LeO.ite ?_ ?_
      | refine LeO.bind ?_ (fun _ => ?_)
set_option maxHeartbeats 8000000 in
set_option maxRecDepth 100000 in
theorem placketlaw01_NameTells.calls (k : Nat) (a0 : ByteArray) (r : Bool) (w : World) (h : placketlaw01_NameTells.f k a0 = some r) :
    Calls Try.prog 3 #[.string a0] w fun e w' => e = .returned (.bool r) ∧ Drawn0 w w' := by
  have H : ((placketlaw01_up.f k).bind fun t109 => (if (a0.size : Int) > 1000 then (some t109) else (if t109 = true then ((name_May.f k a0).bind fun t110 => ((placketref01_Name.f k a0).bind fun t111 => (if (t110 == t111) = true then ((name_Text.f k a0).bind fun t112 => ((placketref01_Text.f k a0).bind fun t113 => (if (t112 == t113) = true then ((name_Void.f a0).bind fun t114 => ((placketref01_Void.f a0).bind fun t115 => (some (t114 == t115)))) else (some false)))) else (some false)))) else (some false)))) = some r := h
  clear h
  replace H := Option.bind_eq_some_iff.mp H
  obtain ⟨t109, A20, H⟩ := H
  replace H : (if (a0.size : Int) > 1000 then (some t109) else (if t109 = true then ((name_May.f k a0).bind fun t110 => ((placketref01_Name.f k a0).bind fun t111 => (if (t110 == t111) = true then ((name_Text.f k a0).bind fun t112 => ((placketref01_Text.f k a0).bind fun t113 => (if (t112 == t113) = true then ((name_Void.f a0).bind fun t114 => ((placketref01_Void.f a0).bind fun t115 => (some (t114 == t115)))) else (some false)))) else (some false)))) else (some false))) = some r := H
  have A2 := Aside0.mk A20
  clear A20
  by_cases c3 : (a0.size : Int) > 1000
  · rw [if_pos c3] at H
    have c3b0 : decide (1000 < (a0.size : Int)) = true := decide_eq_true c3
    have c3b1 : decide (1000 < a0.size) = true := decide_eq_true (by omega)
    clear c3
    obtain rfl := Option.some.inj H
    go_enter Try.func3, Try.ntmps3
    go_wp2_with (first | ((with_reducible refine gate_callee (f := 15) rfl ?_); refine goesL_ (some 4) rfl rfl Try.func15 (by kernel_rfl) rfl #[] rfl (by (try simp only [List.map_toArray, List.map_cons, List.map_nil]); first | done | rfl | (simp only [List.length_drop, List.length_take]; rfl)) ?_; (with_reducible refine (placketlaw01_up.calls k  t109 _ A2.out).mono ?_); rintro e w' ⟨rfl, ⟨nd, rfl⟩⟩; refine ⟨_, rfl, ?_⟩))
    go_ret
    exact ⟨by first | rfl | (simp; done) | (simp [*]; done), by repeat (first | exact Drawn0.refl _ | apply Drawn0.step)⟩
  · rw [if_neg c3] at H
    have c3b0 : decide (1000 < (a0.size : Int)) = false := decide_eq_false c3
    have c3b1 : decide (1000 < a0.size) = false := decide_eq_false (by omega)
    clear c3
    by_cases c4 : t109 = true
    · subst c4
      have H1 : ((name_May.f k a0).bind fun t110 => ((placketref01_Name.f k a0).bind fun t111 => (if (t110 == t111) = true then ((name_Text.f k a0).bind fun t112 => ((placketref01_Text.f k a0).bind fun t113 => (if (t112 == t113) = true then ((name_Void.f a0).bind fun t114 => ((placketref01_Void.f a0).bind fun t115 => (some (t114 == t115)))) else (some false)))) else (some false)))) = some r := by rw [if_pos rfl] at H; exact H
      clear H
      have H := H1
      clear H1
      replace H := Option.bind_eq_some_iff.mp H
      obtain ⟨t110, A50, H⟩ := H
      replace H : ((placketref01_Name.f k a0).bind fun t111 => (if (t110 == t111) = true then ((name_Text.f k a0).bind fun t112 => ((placketref01_Text.f k a0).bind fun t113 => (if (t112 == t113) = true then ((name_Void.f a0).bind fun t114 => ((placketref01_Void.f a0).bind fun t115 => (some (t114 == t115)))) else (some false)))) else (some false))) = some r := H
      have A5 := Aside0.mk A50
      clear A50
      replace H := Option.bind_eq_some_iff.mp H
      obtain ⟨t111, A60, H⟩ := H
      replace H : (if (t110 == t111) = true then ((name_Text.f k a0).bind fun t112 => ((placketref01_Text.f k a0).bind fun t113 => (if (t112 == t113) = true then ((name_Void.f a0).bind fun t114 => ((placketref01_Void.f a0).bind fun t115 => (some (t114 == t115)))) else (some false)))) else (some false)) = some r := H
      have A6 := Aside0.mk A60
      clear A60
      by_cases c7 : (t110 == t111) = true
      · rw [if_pos c7] at H
        have c7b0 : (t110 == t111) = true := c7
        (try (have c7b1 : decide (t110 = t111) = true := by simpa using c7))
        (try (have c7b2 : (t110 == t111) = true := by simpa using c7))
        clear c7
        replace H := Option.bind_eq_some_iff.mp H
        obtain ⟨t112, A80, H⟩ := H
        replace H : ((placketref01_Text.f k a0).bind fun t113 => (if (t112 == t113) = true then ((name_Void.f a0).bind fun t114 => ((placketref01_Void.f a0).bind fun t115 => (some (t114 == t115)))) else (some false))) = some r := H
        have A8 := Aside0.mk A80
        clear A80
        replace H := Option.bind_eq_some_iff.mp H
        obtain ⟨t113, A90, H⟩ := H
        replace H : (if (t112 == t113) = true then ((name_Void.f a0).bind fun t114 => ((placketref01_Void.f a0).bind fun t115 => (some (t114 == t115)))) else (some false)) = some r := H
        have A9 := Aside0.mk A90
        clear A90
        by_cases c10 : (t112 == t113) = true
        · rw [if_pos c10] at H
          have c10b0 : (t112 == t113) = true := c10
          (try (have c10b1 : decide (t112 = t113) = true := by simpa using c10))
          (try (have c10b2 : (t112 == t113) = true := by simpa using c10))
          clear c10
          replace H := Option.bind_eq_some_iff.mp H
          obtain ⟨t114, A110, H⟩ := H
          replace H : ((placketref01_Void.f a0).bind fun t115 => (some (t114 == t115))) = some r := H
          have A11 := Aside0.mk A110
          clear A110
          replace H := Option.bind_eq_some_iff.mp H
          obtain ⟨t115, A120, H⟩ := H
          replace H : (some (t114 == t115)) = some r := H
          have A12 := Aside0.mk A120
          clear A120
          obtain rfl := Option.some.inj H
          go_enter Try.func3, Try.ntmps3
          go_wp2_with (first | ((with_reducible refine gate_callee (f := 15) rfl ?_); refine goesL_ (some 4) rfl rfl Try.func15 (by kernel_rfl) rfl #[] rfl (by (try simp only [List.map_toArray, List.map_cons, List.map_nil]); first | done | rfl | (simp only [List.length_drop, List.length_take]; rfl)) ?_; (with_reducible refine (placketlaw01_up.calls k  true _ A2.out).mono ?_); rintro e w' ⟨rfl, ⟨nd, rfl⟩⟩; refine ⟨_, rfl, ?_⟩) | (go_at_call 16; (with_reducible refine (name_May.calls k a0 t110 _ A5.out).mono ?_); rintro e w' ⟨rfl, ⟨nd, rfl⟩⟩) | (go_at_call 17; (with_reducible refine (placketref01_Name.calls k a0 t111 _ A6.out).mono ?_); rintro e w' ⟨rfl, ⟨nd, rfl⟩⟩) | (go_at_call 18; (with_reducible refine (name_Text.calls k a0 t112 _ A8.out).mono ?_); rintro e w' ⟨rfl, ⟨nd, rfl⟩⟩) | (go_at_call 19; (with_reducible refine (placketref01_Text.calls k a0 t113 _ A9.out).mono ?_); rintro e w' ⟨rfl, ⟨nd, rfl⟩⟩) | (go_at_call 20; (with_reducible refine (name_Void.calls a0 t114 _ A11.out).mono ?_); rintro e w' ⟨rfl, ⟨nd, rfl⟩⟩) | (go_at_call 21; (with_reducible refine (placketref01_Void.calls a0 t115 _ A12.out).mono ?_); rintro e w' ⟨rfl, ⟨nd, rfl⟩⟩))
          go_ret
          exact ⟨by first | rfl | (simp; done) | (simp [*]; done), by repeat (first | exact Drawn0.refl _ | apply Drawn0.step)⟩
        · rw [if_neg c10] at H
          have c10b0 : (t112 == t113) = false := by simpa using c10
          (try (have c10b1 : decide (t112 = t113) = false := by simpa using c10))
          (try (have c10b2 : (t112 == t113) = false := by simpa using c10))
          (try (have c10b3 : ¬ (t112 = t113) := by simpa using c10))
          clear c10
          obtain rfl := Option.some.inj H
          go_enter Try.func3, Try.ntmps3
          go_wp2_with (first | ((with_reducible refine gate_callee (f := 15) rfl ?_); refine goesL_ (some 4) rfl rfl Try.func15 (by kernel_rfl) rfl #[] rfl (by (try simp only [List.map_toArray, List.map_cons, List.map_nil]); first | done | rfl | (simp only [List.length_drop, List.length_take]; rfl)) ?_; (with_reducible refine (placketlaw01_up.calls k  true _ A2.out).mono ?_); rintro e w' ⟨rfl, ⟨nd, rfl⟩⟩; refine ⟨_, rfl, ?_⟩) | (go_at_call 16; (with_reducible refine (name_May.calls k a0 t110 _ A5.out).mono ?_); rintro e w' ⟨rfl, ⟨nd, rfl⟩⟩) | (go_at_call 17; (with_reducible refine (placketref01_Name.calls k a0 t111 _ A6.out).mono ?_); rintro e w' ⟨rfl, ⟨nd, rfl⟩⟩) | (go_at_call 18; (with_reducible refine (name_Text.calls k a0 t112 _ A8.out).mono ?_); rintro e w' ⟨rfl, ⟨nd, rfl⟩⟩) | (go_at_call 19; (with_reducible refine (placketref01_Text.calls k a0 t113 _ A9.out).mono ?_); rintro e w' ⟨rfl, ⟨nd, rfl⟩⟩))
          go_ret
          exact ⟨by first | rfl | (simp; done) | (simp [*]; done), by repeat (first | exact Drawn0.refl _ | apply Drawn0.step)⟩
      · rw [if_neg c7] at H
        have c7b0 : (t110 == t111) = false := by simpa using c7
        (try (have c7b1 : decide (t110 = t111) = false := by simpa using c7))
        (try (have c7b2 : (t110 == t111) = false := by simpa using c7))
        (try (have c7b3 : ¬ (t110 = t111) := by simpa using c7))
        clear c7
        obtain rfl := Option.some.inj H
        go_enter Try.func3, Try.ntmps3
        go_wp2_with (first | ((with_reducible refine gate_callee (f := 15) rfl ?_); refine goesL_ (some 4) rfl rfl Try.func15 (by kernel_rfl) rfl #[] rfl (by (try simp only [List.map_toArray, List.map_cons, List.map_nil]); first | done | rfl | (simp only [List.length_drop, List.length_take]; rfl)) ?_; (with_reducible refine (placketlaw01_up.calls k  true _ A2.out).mono ?_); rintro e w' ⟨rfl, ⟨nd, rfl⟩⟩; refine ⟨_, rfl, ?_⟩) | (go_at_call 16; (with_reducible refine (name_May.calls k a0 t110 _ A5.out).mono ?_); rintro e w' ⟨rfl, ⟨nd, rfl⟩⟩) | (go_at_call 17; (with_reducible refine (placketref01_Name.calls k a0 t111 _ A6.out).mono ?_); rintro e w' ⟨rfl, ⟨nd, rfl⟩⟩))
        go_ret
        exact ⟨by first | rfl | (simp; done) | (simp [*]; done), by repeat (first | exact Drawn0.refl _ | apply Drawn0.step)⟩
    · replace c4 := Bool.eq_false_iff.mpr c4
      subst c4
      have H1 : (some false) = some r := by rw [if_neg (show ¬ (false = true) by decide)] at H; exact H
      clear H
      have H := H1
      clear H1
      obtain rfl := Option.some.inj H
      go_enter Try.func3, Try.ntmps3
      go_wp2_with (first | ((with_reducible refine gate_callee (f := 15) rfl ?_); refine goesL_ (some 4) rfl rfl Try.func15 (by kernel_rfl) rfl #[] rfl (by (try simp only [List.map_toArray, List.map_cons, List.map_nil]); first | done | rfl | (simp only [List.length_drop, List.length_take]; rfl)) ?_; (with_reducible refine (placketlaw01_up.calls k  false _ A2.out).mono ?_); rintro e w' ⟨rfl, ⟨nd, rfl⟩⟩; refine ⟨_, rfl, ?_⟩))
      go_ret
      exact ⟨by first | rfl | (simp; done) | (simp [*]; done), by repeat (first | exact Drawn0.refl _ | apply Drawn0.step)⟩

/-- THE ONE PURE STATEMENT of placketlaw01_NameTells: yours. -/
def placketlaw01_NameTells.Pure : Prop := ∀ (a0 : ByteArray), a0.size ≤ 140737488351232 → ∃ k, placketlaw01_NameTells.f k a0 = some true
theorem placketlaw01_NameTells.walk (P : placketlaw01_NameTells.Pure) (a0 : ByteArray) (w : World) (w0 : a0.size ≤ 140737488351232) :
    Calls Try.prog 3 #[.string a0] w fun e w' => e = .returned (.bool true) ∧ Below w.heap.size w w' := by
  obtain ⟨k, h⟩ := P a0 w0
  refine (placketlaw01_NameTells.calls k a0 true w h).mono ?_
  rintro e w' ⟨rfl, hd⟩
  exact ⟨rfl, hd.below⟩

end Go.Proofs.Ytmklimlepgiffaa.PNameTells
