/- The functions that the statement reaches, by equations: no statement of its own. -/
import Derived.Test.YtmklimlepgiffabEq5
set_option linter.unusedVariables false
set_option linter.unusedSimpArgs false
set_option linter.unusedSectionVars false
set_option linter.unusedVariables false
namespace Go.Va.Vc
open Go.Va
open Go.Proofs Go.RowKit
/-- the new checker -/
abbrev newW (w : World) : World := ((w.alloc (.map #[] 0)).alloc (.cells #[.map (some w.heap.size), .bool false] 98)).alloc (.cells #[.slice (some ⟨w.heap.size + 1, 0, none⟩) 1 1, .int .i64 0, .map none] 101)
theorem new_ck (w : World) : CkIs (newW w) w.heap.size (w.heap.size + 1 + 1) ck0 0 ∧ Below w.heap.size w (newW w) := by
  have h1 : (w.alloc (.map #[] 0)).heap.size = w.heap.size + 1 := alloc_size _ _
  have h2 : ((w.alloc (.map #[] 0)).alloc (.cells #[.map (some w.heap.size), .bool false] 98)).heap.size = w.heap.size + 1 + 1 := by rw [alloc_size, h1]
  have hb := heap_alloc_new ((w.alloc (.map #[] 0)).alloc (.cells #[.map (some w.heap.size), .bool false] 98)) (.cells #[.slice (some ⟨w.heap.size + 1, 0, none⟩) 1 1, .int .i64 0, .map none] 101)
  rw [h2] at hb
  have hg : (newW w).heap[w.heap.size + 1]? = some (.cells #[.map (some w.heap.size), .bool false] 98 (0, 0)) := by
    rw [Lib.alloc_old _ _ _ (by rw [h2]; omega)]
    have := heap_alloc_new (w.alloc (.map #[] 0)) (.cells #[.map (some w.heap.size), .bool false] 98)
    rw [h1] at this
    exact this
  have hm : (newW w).heap[w.heap.size]? = some (.map #[] 0) := by
    rw [Lib.alloc_old _ _ _ (by rw [h2]; omega), Lib.alloc_old _ _ _ (by rw [h1]; omega)]
    exact heap_alloc_new w _
  refine ⟨⟨[(w.heap.size, [], false)], w.heap.size + 1, 1, #[.map (some w.heap.size), .bool false], .map none, ⟨by omega, hb, by omega, hg, Nat.le_refl _, by unfold maxLen; decide, rfl, rfl, rfl, by simp, by simp, ?_, by simp, (fun z => by cases z), .inl ⟨rfl, rfl⟩⟩⟩, ?_⟩
  · intro p hp
    simp at hp
    subst hp
    exact ⟨Nat.le_refl _, MapIs.empty hm _⟩
  · exact (((Below.refl _ w).alloc (Nat.le_refl _) _).alloc (by rw [h1]; omega) _).alloc (by rw [h2]; omega) _
/-- the op ahead is told -/
theorem CkIs.ahead {w : World} {B b : Nat} {c : CkS} {N : Int} (h : CkIs w B b c N) (o : Int) (hq : (elemB o || tellsB o) = true → CkIsQ w B b c N) : CkIs (w.setCell ⟨b, 1, none⟩ (.int .i64 o)) B b { c with ahead := o } N := by
  have key : ∀ pl g cap cur nm, CkAt w B b c N pl g cap cur nm → ((elemB o || tellsB o) = true → nm ≠ .map none) → CkIs (w.setCell ⟨b, 1, none⟩ (.int .i64 o)) B b { c with ahead := o } N := by
    intro pl g cap cur nm h hn
    obtain ⟨s1, s2⟩ := set_b h.hb 1 (.int .i64 o)
    exact ⟨pl, g, cap, cur, nm, h.hB, s1, h.hg, (s2 g h.ne.symm).trans h.hr, h.hcap, h.hmax, h.hsz, h.hcur, h.hl, h.hne, h.hfew, fun p hp => ⟨(h.hm p hp).1, (h.hm p hp).2.mono (s2 _ (mapNe (h.hm p hp).2 h.hb)) (Int.le_refl _)⟩, h.hnd, hn, h.hnm.imp id fun ⟨m, k1, k2, k3, k4⟩ => ⟨m, k1, k2, k3.mono (s2 _ (mapNe k3 h.hb)) (Int.le_refl _), k4⟩⟩
  cases e : elemB o || tellsB o with
  | false =>
    obtain ⟨pl, g, cap, cur, nm, h⟩ := h
    exact key pl g cap cur nm h (fun z => by rw [e] at z; cases z)
  | true =>
    obtain ⟨pl, g, cap, cur, nm, h, hn⟩ := hq e
    exact key pl g cap cur nm h (fun _ => hn)
theorem CkIs.facts {w : World} {B b : Nat} {c : CkS} {N : Int} (h : CkIs w B b c N) : (∃ g cap, w.cell? ⟨b, 0, none⟩ = some (.slice (some ⟨g, 0, none⟩) c.l.length cap)) ∧ w.cell? ⟨b, 1, none⟩ = some (.int .i64 c.ahead) ∧ (∀ j, w.frozen? ⟨b, j, none⟩ = false) ∧ 1 ≤ c.l.length := by
  obtain ⟨pl, g, cap, cur, nm, h⟩ := h
  have e : c.l.length = pl.length := by rw [h.hl]; simp
  refine ⟨⟨g, cap, by rw [e]; exact h.c0⟩, h.c1, h.f, ?_⟩
  rw [e]
  have := h.hne
  cases pl with
  | nil => exact (this rfl).elim
  | cons a l => simp
def intN : Value → Int
  | .int _ n => n
  | _ => 0
def insC (w : World) (x : Addr) (i : InsV) : Prop := w.cell? ⟨x.block, x.off, none⟩ = some (.int .i64 i.1) ∧ w.cell? ⟨x.block, x.off + 1, none⟩ = some (.string i.2.1) ∧ w.cell? ⟨x.block, x.off + 2, none⟩ = some (.string i.2.2)
set_option maxHeartbeats 4000000 in
set_option maxRecDepth 100000 in
theorem check_many (w : World) (ad : Option Addr) (n cap : Nat) (h : 120 < n) : Calls Try.prog 23 #[.slice ad n cap] w fun e w' => e = .returned (errV 13) ∧ Below w.heap.size w w' := by
  have hn : (120 : Int) < n := by omega
  go_enter Try.func23, Try.ntmps23
  go_wp2
  go_ret
  exact ⟨rfl, Below.refl _ _⟩
theorem ck_step {T f : Nat} {E : Task → Option Res} {i : InsV} {is : List InsV} {c : CkS} {r : Res} (h : (ckProg T f (i :: is) c).run E = some r) : ∃ b, E (.call f [insAV i] []) = some (.ret (.s (.bool b)) []) ∧
    (∀ c2, ckOne c b i = (0, c2) → (ckProg T f is { c2 with ahead := i.1 }).run E = some r) ∧ (∀ n c2, ckOne c b i = (n + 1, c2) → r = .ret (codeN T (n + 1)) []) := by
  unfold ckProg at h
  simp only [Prog.run] at h
  split at h
  · rename_i r0 hr0
    split at h
    · rename_i b
      refine ⟨b, hr0, fun c2 e => ?_, fun n c2 e => ?_⟩
      · rw [e] at h
        exact h
      · rw [e] at h
        exact okR_run h
    · exact (noR_run h).elim
  · cases h
set_option maxHeartbeats 4000000 in
set_option maxRecDepth 100000 in
theorem check_walk (w : World) (E : Task → Option Res) (is : List InsV) (r : Res) (ad : Option Addr) (cap : Nat) (hcap : is.length ≤ cap) (hn : is.length ≤ 120) (had : is ≠ [] → ∃ blk off, ad = some ⟨blk, off, none⟩ ∧ blk < w.heap.size ∧ ∀ j i, is[j]? = some i → insC w ⟨blk, off + j * 3, none⟩ i)
    (hr : (ckProg 39 59 is ck0).run E = some r)
    (hMay : ∀ i ∈ is, ∀ b, E (.call 59 [insAV i] []) = some (.ret (.s (.bool b)) []) → ∀ w1, Below w.heap.size w w1 → Calls Try.prog 59 #[.agg #[.int .i64 i.1, .string i.2.1, .string i.2.2]] w1 fun e w' => e = .returned (.bool b) ∧ Below w1.heap.size w1 w') :
    Calls Try.prog 23 #[.slice ad is.length cap] w fun e w' => ∃ n, r = .ret (codeN 39 n) [] ∧ e = .returned (errV n) ∧ Below w.heap.size w w' := by
  obtain ⟨hC0, hB0⟩ := new_ck w
  have hmm := @run_makeMap Try.prog
  have hn2 : (is.length : Int) ≤ 120 := by omega
  go_enter Try.func23, Try.ntmps23
  go_wp2
  go_loopw [18] (fun i wr => ∃ (j : Nat) (c : CkS), j ≤ is.length ∧ i = .int .i64 j ∧ CkIs wr w.heap.size (w.heap.size + 1 + 1) c j ∧ Below w.heap.size w wr ∧ (ckProg 39 59 (is.drop j) c).run E = some r)
    (fun i _ => is.length - (intN i).toNat)
  case atStart => exact ⟨0, ck0, Nat.zero_le _, rfl, hC0, hB0, hr⟩
  case round =>
    obtain ⟨j, c, hj, rfl, hC, hB, hrun⟩ := hrel
    by_cases hjl : j < is.length
    · have hjn : (j : Int) < is.length := by omega
      have hg : is[j]? = some is[j] := List.getElem?_eq_getElem hjl
      obtain ⟨blk, off, rfl, hblk, hcell⟩ := had (by rintro rfl; simp at hjl)
      obtain ⟨k0, k1, k2⟩ := hcell j is[j] hg
      have tr : ∀ x, wr.cell? ⟨blk, x, none⟩ = w.cell? ⟨blk, x, none⟩ := fun x => World.cell?_of_block (hB.block blk hblk)
      have l0 := (tr _).trans k0
      have l1 := (tr _).trans k1
      have l2 := (tr _).trans k2
      rw [List.drop_eq_getElem_cons hjl] at hrun
      obtain ⟨b, hE, st0, st1⟩ := ck_step hrun
      have hM := hMay is[j] (List.getElem_mem hjl) b hE
      generalize hi : is[j] = i at *
      obtain ⟨o, a, k⟩ := i
      have hwr := hB.size
      have hB2 : Below w.heap.size w (insW wr o a k) := hB.alloc hwr _
      have hC2 : CkIs (insW wr o a k) w.heap.size (w.heap.size + 1 + 1) c j := hC.below ((Below.refl _ wr).alloc (Nat.le_refl _) _)
      have hM2 : ∀ w1, Below w.heap.size (insW wr o a k) w1 → _ := fun w1 h1 => hM w1 (hB2.trans h1)
      have hone := c_one (insW wr o a k) w.heap.size (w.heap.size + 1 + 1) c j o a k b hB2.size hC2 (by omega) (by omega) hM2
      cases hck : ckOne c b (o, a, k) with
      | mk n c2 =>
        rw [hck] at hone
        cases n with
        | zero =>
          have hone : Calls _ _ _ _ fun e w' => e = .returned .nilIface ∧ _ ∧ _ := hone
          go_wp2_with (go_at_call 61; refine hone.mono ?_; rintro e w3 ⟨rfl, r1, r2⟩; obtain ⟨x1, x2, x3⟩ := r1 (by trivial); obtain ⟨-, f1, f2, -⟩ := x1.facts; have f3 := f2 1; have hI : w3.heap[wr.heap.size]? = some (.cells #[.int .i64 o, .string a, .string k] 38 (0, 0)) := (x3 _ _ (heap_alloc_new wr _)).trans (heap_alloc_new wr _); have q0 : w3.cell? ⟨wr.heap.size, 0, none⟩ = some (.int .i64 o) := (Lib.cell_of_heap hI 0).trans rfl)
          go_roundw
          case rel =>
            refine ⟨j + 1, { c2 with ahead := o }, by omega, by simp, x1.ahead o x2, (hB2.trans r2).setCell (p := ⟨w.heap.size + 1 + 1, 1, none⟩) (by show w.heap.size ≤ w.heap.size + 1 + 1; omega) _, st0 c2 hck⟩
          case measure => simp [intN]; omega
        | succ n =>
          have hone : Calls _ _ _ _ fun e w' => e = .returned (.iface 39 (.int .i64 (n + 1 : Nat))) ∧ _ ∧ _ := hone
          go_wp2_with (go_at_call 61; refine hone.mono ?_; rintro e w3 ⟨rfl, r1, r2⟩)
          go_wp2
          go_ret
          exact ⟨n + 1, by first | exact st1 n c2 hck | rfl, rfl, hB2.trans r2⟩
    · have hje : j = is.length := by omega
      have hjn : ¬ (j : Int) < is.length := by omega
      rw [hje, List.drop_length] at hrun
      have hrr := okR_run hrun
      obtain ⟨⟨g, cap2, f0⟩, -, -, f4⟩ := hC.facts
      by_cases hl : 1 < c.l.length
      · have hl2 : (1 : Int) < c.l.length := by omega
        rw [if_pos hl] at hrr
        go_wp2
        go_ret
        exact ⟨8, by first | rfl | exact hrr, rfl, hB⟩
      · have hl2 : ¬ (1 : Int) < c.l.length := by omega
        rw [if_neg hl] at hrr
        go_wp2
        go_ret
        exact ⟨0, by first | rfl | exact hrr, rfl, hB⟩
end Go.Va.Vc
set_option linter.unusedVariables false
namespace Go.Va
open Go.Proofs Go.RowKit
/-- of what a call was given only what never changes -/
def stripG (γ : Gh) : Gh := { cls := fun b => match γ.cls b with | .imm o => .imm o | .ro o => .ro o | _ => .other, ob := fun _ => none }
theorem strip_imm {γ : Gh} {b : Nat} {o : Go.Obj} : (stripG γ).cls b = .imm o ↔ γ.cls b = .imm o := by
  unfold stripG
  dsimp only
  split <;> simp_all
theorem strip_ro {γ : Gh} {b : Nat} {o : Go.Obj} : (stripG γ).cls b = .ro o ↔ γ.cls b = .ro o := by
  unfold stripG
  dsimp only
  split <;> simp_all
theorem strip_wd {c : Cx} {γ : Gh} {w w1 : World} (h : Wd c γ w) (k : Below w.heap.size w w1) : Wd c (stripG γ) w1 where
  still b o hb := by
    have hb' : γ.cls b = .imm o ∨ γ.cls b = .ro o := hb.imp strip_imm.1 strip_ro.1
    have hlt : b < w.heap.size := by
      rcases Nat.lt_or_ge b w.heap.size with q | q
      · exact q
      · rw [h.new b q] at hb'
        rcases hb' with z | z <;> cases z
    rw [k.block b hlt]
    exact h.still b o hb'
  low b hb := by
    obtain ⟨o, h1, h2⟩ := h.low b hb
    exact ⟨o, h1, strip_imm.2 h2⟩
  new b hb := by
    have := h.new b (Nat.le_trans k.size hb)
    unfold stripG
    dsimp only
    rw [this]
  size := Nat.le_trans h.size k.size
  os := k.os.trans h.os
  tape := k.tape.trans h.tape
  out := k.output.trans h.out
theorem strip_hp (γ : Gh) (w : World) : Hp (stripG γ) { n := 0, k := 0, fr := [], O := [] } w where
  obj i o h := by simp [objAt, lget] at h
  fresh i _ := rfl
  back i b h := by simp [stripG] at h
  k := Nat.le_refl _
/-- a call over no objects, in the midst of another -/
theorem calls_in {c : Cx} {γ : Gh} {w w1 : World} (h : Wd c γ w) (k : Below w.heap.size w w1) {f : Nat} {ys : List AV} {v : AV} (hc : CallOk c f ys [] v []) {us : List Value} (hl : ys.length = us.length)
    (ha : ∀ (γ : Gh) (w : World) (j : Nat) (y : AV) (u : Value), ys[j]? = some y → us[j]? = some u → R γ w ⟨.slot j, []⟩ y u) (hno : ∀ (j : Nat) (y : AV), ys[j]? = some y → y.isAl = false)
    (hent : ∀ (us : Array Value) (w : World), (callFunc f us).run c.P w = .ok (.enter f us) w) :
    Calls c.P f us.toArray w1 fun e w' => ∃ r, e = .returned r ∧ (∃ γ, R γ w' (lim 0) v r) ∧ Below w1.heap.size w1 w' := by
  have hw := strip_wd h k
  rcases hc (stripG γ) w1 us ⟨hw, strip_hp γ w1, hl, fun j y u h1 h2 => ha _ _ j y u h1 h2, hno⟩ with ⟨r, w', hr, -⟩ | ⟨-, hc⟩
  · rw [hent] at hr
    cases hr
  · refine hc.mono ?_
    rintro e w' ⟨r, rfl, γ', h1, h2, h3, h4, h5, h6⟩
    refine ⟨r, rfl, ⟨γ', h4⟩, h1.os.trans hw.os.symm, h1.tape.trans hw.tape.symm, h1.out.trans hw.out.symm, h3.size, fun x hx => ?_⟩
    have e1 : (∃ o, (stripG γ).cls x = .imm o) ∨ (∃ o, (stripG γ).cls x = .ro o) ∨ (stripG γ).cls x = .other := by
      unfold stripG
      dsimp only
      split
      · exact .inl ⟨_, rfl⟩
      · exact .inr (.inl ⟨_, rfl⟩)
      · exact .inr (.inr rfl)
    rcases e1 with ⟨o, e⟩ | ⟨o, e⟩ | e
    · rw [h1.still x o (.inl (h3.imm x o e)), hw.still x o (.inl e)]
    · rw [h1.still x o (.inr (h3.ro x o e)), hw.still x o (.inr e)]
    · exact (h3.other x hx e).2
theorem ins_of_agg {x : AV} {i : InsV} (h : insOf x = some i) : x = insAV i := by
  unfold insOf at h
  split at h
  · cases h
    rfl
  · cases h
theorem insL_len : ∀ {xs : List AV} {l : List InsV}, insL xs = some l → xs = l.map insAV
  | [], l, h => by
    simp [insL] at h
    subst h
    rfl
  | x :: xs, l, h => by
    unfold insL at h
    split at h
    · rename_i y ys h1 h2
      cases h
      rw [ins_of_agg h1, insL_len h2]
      rfl
    · cases h
theorem dn_ins {cls : Nat → Cls} {w : World} {blk : Nat} {o : Go.Obj} (hb : w.heap[blk]? = some o) : ∀ (l : List InsV) (off : Nat), Dn cls (l.map insAV) 3 o off → ∀ j i, l[j]? = some i → Vc.insC w ⟨blk, off + j * 3, none⟩ i
  | [], off, _, j, i, h => by simp at h
  | i0 :: l, off, hd, j, i, h => by
    rw [List.map_cons] at hd
    simp only [Dn] at hd
    obtain ⟨vs, h1, h2, h3, h4⟩ := hd
    cases j with
    | succ j =>
      have := dn_ins hb l (off + 3) h4 j i (by simpa using h)
      rw [show off + 3 + j * 3 = off + (j + 1) * 3 by omega] at this
      exact this
    | zero =>
      simp at h
      subst h
      unfold insAV at h1
      simp only [D, Dl] at h1
      obtain ⟨v0, vs0, e0, -, ⟨g0, -⟩, v1, vs1, e1, -, ⟨g1, -⟩, v2, vs2, e2, -, ⟨g2, -⟩, e3⟩ := h1
      simp at g0 g1 g2
      subst g0 g1 g2 e3 e2 e1 e0
      obtain ⟨c, e, fz, rfl, hc⟩ := h3
      refine ⟨?_, ?_, ?_⟩
      · simp [World.cell?, hb]; exact hc 0 _ rfl
      · simp [World.cell?, hb]; exact hc 1 _ rfl
      · simp [World.cell?, hb]; exact hc 2 _ rfl
theorem check_ok {w0 : World} {E : Task → Option Res} (hE : ∀ t r, E t = some r → TaskOk { P := Try.prog, w0 := w0 } t r) {ys : List AV} {O : Seg} {r : Res} (h : (yCheck 39 59 ys O).run E = some r) : TaskOk { P := Try.prog, w0 := w0 } (.call 23 ys O) r := by
  have post : ∀ n : Nat, (codeN 39 n).resOk = true ∧ ∀ γ w l, R γ w l (codeN 39 n) (Vc.errV n) := by
    intro n
    cases n with
    | zero => exact ⟨rfl, fun γ w l => by unfold codeN Vc.errV; simp only [R]; exact ⟨trivial, trivial⟩⟩
    | succ n => exact ⟨rfl, fun γ w l => by unfold codeN Vc.errV; simp only [R]; exact ⟨rfl, trivial⟩⟩
  have key : ∀ (l : List InsV) (p : Perm), (p = .imm ∨ p = .ro) → ∀ r, (bif Nat.blt 120 l.length then okR (codeN 39 13) [] else ckProg 39 59 l ck0).run E = some r → TaskOk { P := Try.prog, w0 := w0 } (.call 23 [.sl 3 (l.map insAV) p] []) r := by
    intro l p hp r h
    cases r with
    | code e st =>
      exfalso
      cases hb : Nat.blt 120 l.length with
      | true => rw [hb] at h; cases okR_run h
      | false =>
        rw [hb] at h
        simp only [cond_false] at h
        have : ∀ (l : List InsV) (c : CkS), (ckProg 39 59 l c).run E = some (.code e st) → False := by
          intro l
          induction l with
          | nil => intro c h; cases okR_run h
          | cons i l ih =>
            intro c h
            obtain ⟨b, -, h1, h2⟩ := Vc.ck_step h
            cases hk : ckOne c b i with
            | mk n c2 =>
              cases n with
              | zero => exact ih _ (h1 c2 hk)
              | succ n => cases h2 n c2 hk
        exact this l ck0 h
    | ret v O2 =>
      intro γ w us g
      match us, g.len, g with
      | [u], _, g =>
        have h0 := g.arg 0 _ u rfl rfl
        have hu : ∃ a cap, u = .slice a l.length cap ∧ l.length ≤ cap ∧ (l ≠ [] → ∃ blk off o, a = some ⟨blk, off, none⟩ ∧ w.heap[blk]? = some o ∧ Dn γ.cls (l.map insAV) 3 o off) := by
          rcases hp with rfl | rfl
          · simp only [R, V, D] at h0
            obtain ⟨a, cap, e, hc, hx⟩ := h0
            simp at e
            refine ⟨a, cap, by rw [e] <;> simp, by simpa using hc, fun hne => ?_⟩
            rcases hx with hx | ⟨b, off, o, ha, hb, hd⟩
            · exact (hne (by simpa using hx)).elim
            · exact ⟨b, off, o, ha, g.wd.still b o (.inl hb), hd⟩
          · simp only [R, V] at h0
            obtain ⟨a, cap, e, hc, hx⟩ := h0
            refine ⟨a, cap, by rw [e] <;> simp, by simpa using hc, fun hne => ?_⟩
            rcases hx with hx | ⟨b, off, o, ha, hb, hd⟩
            · exact (hne (by simpa using hx)).elim
            · exact ⟨b, off, o, ha, g.wd.still b o (.inr hb), hd⟩
        obtain ⟨a, cap, rfl, hcap, hel⟩ := hu
        refine .inr ⟨enters Try.func23 rfl (by kernel_rfl) _ w, ?_⟩
        cases hb : Nat.blt 120 l.length with
        | true =>
          rw [hb] at h
          cases okR_run h
          refine (Vc.check_many w a l.length cap (blt_t hb)).mono ?_
          rintro e w' ⟨rfl, hw⟩
          exact ⟨_, rfl, post_below g hw ((post 13).2 _ _ _) rfl⟩
        | false =>
          rw [hb] at h
          have hn := blt_f hb
          refine (Vc.check_walk w E l _ a cap hcap (by omega) (fun hne => ?_) h ?_).mono ?_
          · obtain ⟨blk, off, o, ha, ho, hd⟩ := hel hne
            exact ⟨blk, off, ha, (Array.getElem?_eq_some_iff.1 ho).1, fun j i hi => dn_ins ho l off hd j i hi⟩
          · intro i _ b hEb w1 hw1
            have hc := calls_in g.wd hw1 (hE _ _ hEb) (us := [.agg #[.int .i64 i.1, .string i.2.1, .string i.2.2]]) rfl ?_ ?_ (fun us w => enters Try.func59 rfl (by kernel_rfl) us w)
            · refine hc.mono ?_
              rintro e w' ⟨r, rfl, ⟨γ', hr⟩, hbel⟩
              refine ⟨?_, hbel⟩
              simp only [R] at hr
              rw [hr.1]
            · intro γ w j y u h1 h2
              match j with
              | 0 =>
                cases h1
                cases h2
                unfold insAV
                simp only [R, Rl]
                exact ⟨_, rfl, by simp [one], _, _, rfl, ⟨rfl, trivial⟩, _, _, rfl, ⟨rfl, trivial⟩, _, _, rfl, ⟨rfl, trivial⟩, rfl⟩
              | j + 1 => simp at h1
            · intro j y h1
              match j with
              | 0 => cases h1; rfl
              | j + 1 => simp at h1
          · rintro e w' ⟨n, hr, rfl, hw⟩
            cases hr
            exact ⟨_, rfl, post_below g hw ((post n).2 _ _ _) (post n).1⟩
  unfold yCheck at h
  split at h
  · rename_i xs
    unfold ckAll at h
    split at h
    · rename_i l hl
      rw [insL_len hl]
      exact key l .imm (.inl rfl) r h
    · exact (noR_run h).elim
  · rename_i xs
    unfold ckAll at h
    split at h
    · rename_i l hl
      rw [insL_len hl]
      exact key l .ro (.inr rfl) r h
    · exact (noR_run h).elim
  · exact (noR_run h).elim
end Go.Va
