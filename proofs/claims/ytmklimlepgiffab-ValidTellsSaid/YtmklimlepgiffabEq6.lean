/- The functions that the statement reaches, by equations: no statement of its own. -/
import Derived.Test.YtmklimlepgiffabEq5
set_option linter.unusedVariables false
set_option linter.unusedSimpArgs false
set_option linter.unusedSectionVars false
set_option linter.unusedVariables false
namespace Go.Va.Vc
open Go.Va
open Go.Proofs Go.RowKit
theorem CkAt.up {w : World} {B b : Nat} {c : CkS} {N N' : Int} {pl : List PlT} {g cap : Nat} {cur : Array Value} {nm : Value} (h : CkAt w B b c N pl g cap cur nm) (hN : N ≤ N') : CkAt w B b c N' pl g cap cur nm :=
  ⟨h.hB, h.hb, h.hg, h.hr, h.hcap, h.hmax, h.hsz, h.hcur, h.hl, h.hne, h.hfew, fun p hp => ⟨(h.hm p hp).1, (h.hm p hp).2.mono rfl hN⟩, h.hnd, h.hel, h.hnm.imp id fun ⟨m, k1, k2, k3, k4⟩ => ⟨m, k1, k2, k3.mono rfl hN, k4⟩⟩
theorem CkIs.up {w : World} {B b : Nat} {c : CkS} {N N' : Int} (h : CkIs w B b c N) (hN : N ≤ N') : CkIs w B b c N' := by
  obtain ⟨pl, g, cap, cur, nm, h⟩ := h
  exact ⟨pl, g, cap, cur, nm, h.up hN⟩
theorem CkIs.below {w w' : World} {B b : Nat} {c : CkS} {N : Int} (h : CkIs w B b c N) (k : Below w.heap.size w w') : CkIs w' B b c N := by
  obtain ⟨pl, g, cap, cur, nm, h⟩ := h
  have ltb := h.lt
  have ltg : g < w.heap.size := (Array.getElem?_eq_some_iff.1 h.hr).1
  exact ⟨pl, g, cap, cur, nm, h.hB, (k.block b ltb).trans h.hb, h.hg, (k.block g ltg).trans h.hr, h.hcap, h.hmax, h.hsz, h.hcur, h.hl, h.hne, h.hfew, fun p hp => ⟨(h.hm p hp).1, (h.hm p hp).2.mono (k.block _ (h.hm p hp).2.lt) (Int.le_refl _)⟩, h.hnd, h.hel, h.hnm.imp id fun ⟨m, k1, k2, k3, k4⟩ => ⟨m, k1, k2, k3.mono (k.block _ k3.lt) (Int.le_refl _), k4⟩⟩
theorem CkIs.lt {w : World} {B b : Nat} {c : CkS} {N : Int} (h : CkIs w B b c N) : b < w.heap.size := by
  obtain ⟨pl, g, cap, cur, nm, h⟩ := h
  exact h.lt
theorem c_attr (w : World) (B b : Nat) (c : CkS) (N : Int) (o : Int) (a k : ByteArray) (hw : B ≤ w.heap.size) (h : CkIs w B b c N) (hN : 0 ≤ N) : Calls Try.prog 98 #[.pointer (some ⟨b, 0, none⟩), .agg #[.int .i64 o, .string a, .string k]] w fun e w' => e = .returned (errV (ckAttr c a).1) ∧ ((ckAttr c a).1 = 0 → CkIsQ w' B b (ckAttr c a).2 (N + 1) ∧ K38 w w') ∧ Below B w w' := by
  unfold ckAttr
  cases he : (elemB c.ahead || tellsB c.ahead) with
  | false =>
    simp only [Bool.not_false, if_true]
    exact (c_attr_no w B b c N o a k hw h he).mono fun e w' q => ⟨q.1, (fun z => by cases z), q.2⟩
  | true =>
    simp only [Bool.not_true, Bool.false_eq_true, if_false]
    cases hk : hasK a c.names with
    | true =>
      simp only [if_true]
      exact (c_attr_has w B b c N o a k hw h he hN hk).mono fun e w' q => ⟨q.1, (fun z => by cases z), q.2⟩
    | false =>
      simp only [Bool.false_eq_true, if_false]
      by_cases hl : 8 ≤ c.names.length
      · simp only [hl, if_true]
        exact (c_attr_many w B b c N o a k hw h he hN hk hl).mono fun e w' q => ⟨q.1, (fun z => by cases z), q.2⟩
      · simp only [hl, if_false]
        exact (c_attr_ok w B b c N o a k hw h he hN hk (by omega)).mono fun e w' q => ⟨q.1, (fun _ => ⟨q.2.1, q.2.2.2⟩), q.2.2.1⟩
theorem c_stands (w : World) (B b : Nat) (c : CkS) (N : Int) (o : Int) (a k : ByteArray) (hw : B ≤ w.heap.size) (h : CkIs w B b c N) (hN : 0 ≤ N) (hN2 : N ≤ 1000000) : Calls Try.prog 100 #[.pointer (some ⟨b, 0, none⟩), .agg #[.int .i64 o, .string a, .string k]] w fun e w' => e = .returned (errV (ckStands c (o, a, k)).1) ∧ ((ckStands c (o, a, k)).1 = 0 → CkIs w' B b (ckStands c (o, a, k)).2 (N + 1) ∧ (elemB o = true → CkIsQ w' B b (ckStands c (o, a, k)).2 (N + 1)) ∧ K38 w w') ∧ Below B w w' := by
  obtain ⟨pl, g, cap, cur, nm, h⟩ := h
  cases hp : pl with
  | nil => exact (h.hne hp).elim
  | cons p r =>
    subst hp
    have hl : c.l = (p.2.1, p.2.2) :: r.map Prod.snd := h.hl
    have e : ckStands c (o, a, k) = (if p.2.2 then (11, c)
      else if elemB o && (!(k.data.toList == []) && hasK k p.2.1) then (10, c)
      else if decide (o = 1) && decide (8 < (r.map Prod.snd).length + 1) then (12, c)
      else if elemB o then (0, { c with l := (if o = 1 then ([], false) :: (addK k p.2.1, false) :: r.map Prod.snd else (addK k p.2.1, false) :: r.map Prod.snd), names := [] })
      else (0, { c with l := (p.2.1, decide (o = 7)) :: r.map Prod.snd })) := by
      unfold ckStands
      rw [hl]
    rw [e]
    have no : ∀ {n : Nat} {P : Ending → World → Prop}, True := fun {_} {_} => trivial
    by_cases h1 : o = 1
    · subst h1
      cases hp2 : p.2.2 with
      | true =>
        simp only [if_true]
        exact (st_all_A w B b c N a k hw p r g cap cur nm h hp2).mono fun e w' q => ⟨q.1, (fun z => by cases z), q.2⟩
      | false =>
        simp only [Bool.false_eq_true, if_false, show elemB 1 = true from rfl, Bool.true_and, decide_true, List.length_map, if_true]
        by_cases hk0 : k = ⟨#[]⟩
        · subst hk0
          simp only [show ((⟨#[]⟩ : ByteArray).data.toList == []) = true from rfl, Bool.not_true, Bool.false_and, Bool.false_eq_true, if_false]
          by_cases hd : 8 < r.length + 1
          · simp only [hd, decide_true, if_true]
            exact (st_deep_0 w B b c N a ⟨#[]⟩ hw p r g cap cur nm h hp2 (by omega)).mono fun e w' q => ⟨q.1, (fun z => by cases z), q.2⟩
          · simp only [hd, decide_false, Bool.false_eq_true, if_false]
            exact (st_ok_A0 w B b c N a ⟨#[]⟩ hw p r g cap cur nm h hp2 hN hN2 (by omega)).mono fun e w' q => ⟨q.1, (fun _ => ⟨q.2.1.is, fun _ => q.2.1, q.2.2.2⟩), q.2.2.1⟩
        · have hke : (k.data.toList == []) = false := by
            cases q : (k.data.toList == []) with
            | false => rfl
            | true =>
              exfalso
              apply hk0
              cases k with
              | mk d =>
                have : d.toList = [] := by simpa using q
                rw [show d = #[] from Array.ext' this]
          simp only [hke, Bool.not_false, Bool.true_and]
          cases hk : hasK k p.2.1 with
          | true =>
            simp only [if_true]
            exact (st_key_A w B b c N a k hw p r g cap cur nm h hp2 hk0 hN hk).mono fun e w' q => ⟨q.1, (fun z => by cases z), q.2⟩
          | false =>
            simp only [Bool.false_eq_true, if_false]
            by_cases hd : 8 < r.length + 1
            · simp only [hd, decide_true, if_true]
              exact (st_deep_k w B b c N a k hw p r g cap cur nm h hp2 (by omega) hk0 hN hk).mono fun e w' q => ⟨q.1, (fun z => by cases z), q.2⟩
            · simp only [hd, decide_false, Bool.false_eq_true, if_false]
              exact (st_ok_Ak w B b c N a k hw p r g cap cur nm h hp2 hN hN2 hk0 hk (by omega)).mono fun e w' q => ⟨q.1, (fun _ => ⟨q.2.1.is, fun _ => q.2.1, q.2.2.2⟩), q.2.2.1⟩
    · by_cases h3 : o = 3
      · subst h3
        cases hp2 : p.2.2 with
        | true =>
          simp only [if_true]
          exact (st_all_B w B b c N a k hw p r g cap cur nm h hp2).mono fun e w' q => ⟨q.1, (fun z => by cases z), q.2⟩
        | false =>
          simp only [Bool.false_eq_true, if_false, show elemB 3 = true from rfl, Bool.true_and, show decide ((3 : Int) = 1) = false from rfl, Bool.false_and, if_true, show ¬ ((3 : Int) = 1) by decide]
          by_cases hk0 : k = ⟨#[]⟩
          · subst hk0
            simp only [show ((⟨#[]⟩ : ByteArray).data.toList == []) = true from rfl, Bool.not_true, Bool.false_and, Bool.false_eq_true, if_false]
            exact (st_ok_B0 w B b c N a ⟨#[]⟩ hw p r g cap cur nm h hp2 hN hN2).mono fun e w' q => ⟨q.1, (fun _ => ⟨q.2.1.is, fun _ => q.2.1, q.2.2.2⟩), q.2.2.1⟩
          · have hke : (k.data.toList == []) = false := by
              cases q : (k.data.toList == []) with
              | false => rfl
              | true =>
                exfalso
                apply hk0
                cases k with
                | mk d =>
                  have : d.toList = [] := by simpa using q
                  rw [show d = #[] from Array.ext' this]
            simp only [hke, Bool.not_false, Bool.true_and]
            cases hk : hasK k p.2.1 with
            | true =>
              simp only [if_true]
              exact (st_key_B w B b c N a k hw p r g cap cur nm h hp2 hk0 hN hk).mono fun e w' q => ⟨q.1, (fun z => by cases z), q.2⟩
            | false =>
              simp only [Bool.false_eq_true, if_false]
              exact (st_ok_Bk w B b c N a k hw p r g cap cur nm h hp2 hN hN2 hk0 hk).mono fun e w' q => ⟨q.1, (fun _ => ⟨q.2.1.is, fun _ => q.2.1, q.2.2.2⟩), q.2.2.1⟩
      · have hel : elemB o = false := by simp [elemB, h1, h3]
        have ho1 : (o == 1) = false := by simp [h1]
        have ho3 : (o == 3) = false := by simp [h3]
        cases hp2 : p.2.2 with
        | true =>
          simp only [if_true]
          exact (st_all_C w B b c N o a k hw p r g cap cur nm h ho1 ho3 hp2).mono fun e w' q => ⟨q.1, (fun z => by cases z), q.2⟩
        | false =>
          simp only [Bool.false_eq_true, if_false, hel, Bool.false_and, h1, decide_false]
          refine (st_ok_C w B b c N o a k hw p r g cap cur nm h ho1 ho3 hp2).mono fun e w' q => ⟨q.1, fun _ => ?_, q.2.2.1⟩
          have := q.2.1.up (show N ≤ N + 1 by omega)
          rw [show (o == 7) = decide (o = 7) from Bool.beq_eq_decide_eq o 7] at this
          exact ⟨this, (fun z => z.elim), q.2.2.2⟩
end Go.Va.Vc
set_option linter.unusedVariables false
namespace Go.Va.Vc
open Go.Va
open Go.Proofs Go.RowKit
/-- what one instruction comes to -/
def OnePost (w : World) (B b : Nat) (N o : Int) (r : Nat × CkS) (e : Ending) (w' : World) : Prop := e = .returned (errV r.1) ∧ (r.1 = 0 → CkIs w' B b r.2 (N + 1) ∧ ((elemB o || tellsB o) = true → CkIsQ w' B b r.2 (N + 1)) ∧ K38 w w') ∧ Below B w w'
set_option maxHeartbeats 4000000 in
set_option maxRecDepth 100000 in
theorem c_one (w : World) (B b : Nat) (c : CkS) (N : Int) (o : Int) (a k : ByteArray) (may : Bool) (hw : B ≤ w.heap.size) (h : CkIs w B b c N) (hN : 0 ≤ N) (hN2 : N ≤ 1000000)
    (hMay : ∀ w1, Below B w w1 → Calls Try.prog 59 #[.agg #[.int .i64 o, .string a, .string k]] w1 fun e w' => e = .returned (.bool may) ∧ Below w1.heap.size w1 w') :
    Calls Try.prog 61 #[.pointer (some ⟨b, 0, none⟩), .agg #[.int .i64 o, .string a, .string k]] w (OnePost w B b N o (ckOne c may (o, a, k))) := by
  have hb1 : Below B w (insW w o a k) := (Below.refl B w).alloc hw _
  have h1 : CkIs (insW w o a k) B b c N := h.below ((Below.refl _ w).alloc (Nat.le_refl _) _)
  have hsz : (insW w o a k).heap.size = w.heap.size + 1 := alloc_size _ _
  have hins : (insW w o a k).heap[w.heap.size]? = some (.cells #[.int .i64 o, .string a, .string k] 38 (0, 0)) := heap_alloc_new w _
  have hk1 : K38 w (insW w o a k) := K38.of ((Below.refl _ w).alloc (Nat.le_refl _) _)
  have cells : ∀ w2, Below (insW w o a k).heap.size (insW w o a k) w2 → w2.cell? ⟨w.heap.size, 0, none⟩ = some (.int .i64 o) ∧ w2.cell? ⟨w.heap.size, 1, none⟩ = some (.string a) ∧ w2.cell? ⟨w.heap.size, 2, none⟩ = some (.string k) := by
    intro w2 hw2
    have := (hw2.block w.heap.size (by rw [hsz]; omega)).trans hins
    refine ⟨?_, ?_, ?_⟩ <;> (rw [Lib.cell_of_heap this]; rfl)
  cases may with
  | false =>
    have e : ckOne c false (o, a, k) = (7, c) := rfl
    rw [e]
    go_enter Try.func61, Try.ntmps61
    go_wp2_with (go_at_call 59; refine (hMay _ hb1).mono ?_; rintro e w2 ⟨rfl, hb2⟩)
    go_wp2
    go_ret
    exact ⟨rfl, (fun z => by cases z), hb1.trans (hb2.mono (by rw [hsz]; omega))⟩
  | true =>
    by_cases ht : o = 5 ∨ o = 6
    · have e : ckOne c true (o, a, k) = ckAttr c a := by
        unfold ckOne
        rw [show tellsB (o, a, k).1 = true from by unfold tellsB; rcases ht with rfl | rfl <;> rfl]
        rfl
      rw [e]
      rcases ht with rfl | rfl
      · go_enter Try.func61, Try.ntmps61
        go_wp2_with (first
          | (go_at_call 59; refine (hMay _ hb1).mono ?_; rintro e w2 ⟨rfl, hb2⟩; obtain ⟨q0, q1, q2⟩ := cells w2 hb2; have hbw2 := hb1.trans (hb2.mono (show B ≤ _ by rw [hsz]; omega)); have h2 := h1.below hb2; have hk2 := hk1.trans (K38.of hb2))
          | (go_at_call 98; refine (c_attr w2 B b c N _ a k (by have := hbw2.size; omega) h2 hN).mono ?_; rintro e w3 ⟨rfl, r1, r2⟩)
          | go_in)
        go_ret
        exact ⟨rfl, (fun z => ⟨(r1 z).1.is, fun _ => (r1 z).1, hk2.trans (r1 z).2⟩), hbw2.trans r2⟩
      · go_enter Try.func61, Try.ntmps61
        go_wp2_with (first
          | (go_at_call 59; refine (hMay _ hb1).mono ?_; rintro e w2 ⟨rfl, hb2⟩; obtain ⟨q0, q1, q2⟩ := cells w2 hb2; have hbw2 := hb1.trans (hb2.mono (show B ≤ _ by rw [hsz]; omega)); have h2 := h1.below hb2; have hk2 := hk1.trans (K38.of hb2))
          | (go_at_call 98; refine (c_attr w2 B b c N _ a k (by have := hbw2.size; omega) h2 hN).mono ?_; rintro e w3 ⟨rfl, r1, r2⟩)
          | go_in)
        go_ret
        exact ⟨rfl, (fun z => ⟨(r1 z).1.is, fun _ => (r1 z).1, hk2.trans (r1 z).2⟩), hbw2.trans r2⟩
    · have hte : tellsB (o, a, k).1 = false := by
        unfold tellsB
        simp only [not_or] at ht
        simp [ht.1, ht.2]
      have ho5 : (o == 5) = false := by simp only [not_or] at ht; simp [ht.1]
      have ho6 : (o == 6) = false := by simp only [not_or] at ht; simp [ht.2]
      by_cases h2 : o = 2
      · subst h2
        have e : ckOne c true (2, a, k) = ckEnds c := rfl
        rw [e]
        go_enter Try.func61, Try.ntmps61
        go_wp2_with (first
          | (go_at_call 59; refine (hMay _ hb1).mono ?_; rintro e w2 ⟨rfl, hb2⟩; obtain ⟨q0, q1, q2⟩ := cells w2 hb2; have hbw2 := hb1.trans (hb2.mono (show B ≤ _ by rw [hsz]; omega)); have h2 := h1.below hb2; have hk2 := hk1.trans (K38.of hb2))
          | (go_at_call 99; refine (c_ends w2 B b c N h2).mono ?_; rintro e w3 ⟨rfl, r1, r2⟩)
          | go_in)
        go_ret
        exact ⟨rfl, (fun _ => ⟨r1.up (by omega), (fun z => by cases z), hk2.trans r2.2⟩), hbw2.trans r2.1⟩
      · have ho2 : (o == 2) = false := by simp [h2]
        have e : ckOne c true (o, a, k) = ckStands c (o, a, k) := by
          unfold ckOne
          rw [hte]
          simp [h2]
        rw [e]
        go_enter Try.func61, Try.ntmps61
        go_wp2_with (first
          | (go_at_call 59; refine (hMay _ hb1).mono ?_; rintro e w2 ⟨rfl, hb2⟩; obtain ⟨q0, q1, q2⟩ := cells w2 hb2; have hbw2 := hb1.trans (hb2.mono (show B ≤ _ by rw [hsz]; omega)); have h2 := h1.below hb2; have hk2 := hk1.trans (K38.of hb2))
          | (go_at_call 100; refine (c_stands w2 B b c N o a k (by have := hbw2.size; omega) h2 hN hN2).mono ?_; rintro e w3 ⟨rfl, r1, r2⟩)
          | go_in)
        go_ret
        exact ⟨rfl, (fun z => ⟨(r1 z).1, fun y => (r1 z).2.1 (by rw [show tellsB o = false from hte, Bool.or_false] at y; exact y), hk2.trans (r1 z).2.2⟩), hbw2.trans r2⟩
end Go.Va.Vc
