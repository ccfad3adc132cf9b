/- The functions that the statement reaches, by equations: no statement of its own. -/
import Derived.Test.YtmklimlepgiffabEq5
import Derived.Below
import Derived.OwnWalk
import Derived.WalkKit
import Derived.ProofKit
import Derived.Shelf.RegionOpenPlain
import Derived.Deep.LoopGhost
import Derived.Deep.RegionLaw
import Derived.Lib.Walk
import Derived.Sort.WalkB12
import Derived.Lib.SliceRun
set_option linter.unusedVariables false
set_option linter.unusedSimpArgs false
set_option linter.unusedSectionVars false
namespace Go.Va
open Go.Proofs
set_option maxRecDepth 100000
theorem fn_all : fnT.Forall (fun f fn => Try.prog.funcs[f]? = some fn ∧ (fn.name == "runtime.NumGoroutine") = false) := by
  unfold fnT
  simp only [Tr.Forall]
  and_intros <;> first | trivial | kernel_rfl
theorem env_ok : EnvOk Try.prog (envV realAr) where
  A := rfl
  fn f fn h := Tr.get_of fn_all h
  ty t ty h := Tr.all_get (p := fun t ty => tyChk Try.prog t ty) (by kernel_rfl) h
  mixed := by kernel_rfl
theorem bytes_of {P : Program} {t e : Nat} {y : AV} (h : ArgWf P t y) (hu : P.underlying t = some (.slice e)) (he : P.underlying e = some (.int .u8)) (hc : P.cellsOf e = 1) : ∃ bs : List UInt8, y = .sl 1 (bl bs) .imm ∧ bs.length ≤ 9223372036854775807 := by
  obtain ⟨ys, rfl, hl, hy⟩ := arg_slice h hu
  have key : ∀ y, ArgWf P e y → ∃ b : UInt8, y = .s (.int .u8 (.ofNat b.toNat)) ∧ True := by
    intro y hy
    obtain ⟨n, rfl, hw⟩ := arg_int hy he
    have hn : 0 ≤ n ∧ n ≤ 255 := by
      simpa [Lit.wf, IntKind.min, IntKind.max, IntKind.bits, IntKind.signed] using hw
    refine ⟨UInt8.ofNat n.toNat, ?_, trivial⟩
    have : (UInt8.ofNat n.toNat).toNat = n.toNat := by
      simp
      omega
    rw [this]
    congr 2
    exact (Int.toNat_of_nonneg hn.1).symm
  obtain ⟨bs, rfl, -⟩ := list_map key hy
  rw [hc]
  exact ⟨bs, rfl, by simpa [maxLen] using hl⟩
theorem ins_of {P : Program} {t a b : Nat} {fs : Array Field} {y : AV} (h : ArgWf P t y) (hu : P.underlying t = some (.struct fs)) (hfs : fs.toList.map (fun f => (f.offset, f.type)) = [(0, a), (1, b), (2, b)]) (ha : P.underlying a = some (.int .i64)) (hb : P.underlying b = some .string)
    (hca : P.cellsOf a = 1) (hcb : P.cellsOf b = 1) (hct : P.cellsOf t = 3) : ∃ i : InsT, y = insA i ∧ (i.2.1.size ≤ 9223372036854775807 ∧ i.2.2.size ≤ 9223372036854775807) := by
  obtain ⟨xs, rfl, hl, hf⟩ := arg_struct h hu
  rw [hct] at hl
  match xs, hl with
  | [x, y, z], _ =>
    have hg : ∀ p ∈ fs.toList.map (fun f => (f.offset, f.type)), Wf P p.2 (([x, y, z].drop p.1).take (P.cellsOf p.2)) := by
      intro p hp
      obtain ⟨f, hf1, rfl⟩ := List.mem_map.1 hp
      exact hf f hf1
    rw [hfs] at hg
    have h0 := hg (0, a) (by simp)
    have h1 := hg (1, b) (by simp)
    have h2 := hg (2, b) (by simp)
    simp only [hca, hcb] at h0 h1 h2
    obtain ⟨o, e0, -⟩ := Wf_int h0 ha
    obtain ⟨s, e1, k1⟩ := Wf_str h1 hb
    obtain ⟨t, e2, k2⟩ := Wf_str h2 hb
    simp at e0 e1 e2
    subst e0 e1 e2
    exact ⟨(o, s, t), rfl, k1, k2⟩
theorem insl_of {P : Program} {t e a b : Nat} {fs : Array Field} {y : AV} (h : ArgWf P t y) (ht : P.underlying t = some (.slice e)) (hu : P.underlying e = some (.struct fs)) (hfs : fs.toList.map (fun f => (f.offset, f.type)) = [(0, a), (1, b), (2, b)]) (ha : P.underlying a = some (.int .i64)) (hb : P.underlying b = some .string)
    (hca : P.cellsOf a = 1) (hcb : P.cellsOf b = 1) (hct : P.cellsOf e = 3) : ∃ is : List InsT, y = .sl 3 (is.map insA) .imm ∧ is.length ≤ 9223372036854775807 := by
  obtain ⟨ys, rfl, hl, hy⟩ := arg_slice h ht
  obtain ⟨is, rfl, -⟩ := list_map (fun y h => ins_of h hu hfs ha hb hca hcb hct) hy
  rw [hct]
  exact ⟨is, rfl, by simpa [maxLen] using hl⟩
end Go.Va
namespace Go.Va
open Go.Proofs
set_option maxRecDepth 1000000
/-- cells that are put into a row -/
theorem setCells_row {b : Nat} {el : TypeId} : ∀ (vs : List Value) (o : Nat) (c : Array Value) (w : World), w.heap[b]? = some (.cells c el (0, 0)) → o + vs.length ≤ c.size →
    ∃ c2, w.setCells b o vs = w.setRow b c2 ∧ c2.size = c.size ∧ (∀ k, o ≤ k → k < o + vs.length → c2[k]? = vs[k - o]?) ∧ ∀ k, k < o ∨ o + vs.length ≤ k → c2[k]? = c[k]?
  | [], o, c, w, hh, _ => by
    refine ⟨c, ?_, rfl, fun k h1 h2 => absurd h2 (by simp; omega), fun k _ => rfl⟩
    exact (setRow_self w b c el (0, 0) hh).symm
  | v :: vs, o, c, w, hh, hl => by
    simp only [List.length_cons] at hl
    have h1 := setCell_eq_setRow w b o c el (0, 0) v hh
    have h2 := setRow_heap w b c (c.setIfInBounds o v) el (0, 0) hh
    obtain ⟨c2, k1, k2, k3, k4⟩ := setCells_row vs (o + 1) (c.setIfInBounds o v) (w.setRow b (c.setIfInBounds o v)) h2 (by simp; omega)
    refine ⟨c2, ?_, by rw [k2]; simp, fun k q1 q2 => ?_, fun k q => ?_⟩
    · show (w.setCell ⟨b, o, none⟩ v).setCells b (o + 1) vs = _
      rw [h1, k1, setRow_setRow]
    · simp only [List.length_cons] at q2
      by_cases hk : k = o
      · subst hk
        rw [k4 k (.inl (by omega)), Nat.sub_self]
        simp [Array.getElem?_setIfInBounds]
        omega
      · rw [k3 k (by omega) (by omega), show k - o = k - (o + 1) + 1 by omega, List.getElem?_cons_succ]
    · simp only [List.length_cons] at q
      rw [k4 k (by omega), Array.getElem?_setIfInBounds, if_neg (by omega)]
open Go.Shelf Go.Lib Go.Sort Go.RowKit in
set_option maxHeartbeats 4000000 in
/-- one element is deleted -/
theorem del_walk (b off cap n i : Nat) (w : World) (zs : List Value) (hz : zs.length = n) (h1 : ∀ u ∈ zs, u.oneCell' = true) (hH : ∀ j, j < n → w.cell? ⟨b, off + j, none⟩ = zs[j]? ∧ w.frozen? ⟨b, off + j, none⟩ = false) (hcap : n ≤ cap) (hi : i + 1 ≤ n) :
    Calls Try.prog 85 #[.slice (some ⟨b, off, none⟩) n cap, .int .i64 i, .int .i64 (i + 1 : Nat)] w fun e w' => e = .returned (.slice (some ⟨b, off, none⟩) (n - 1) cap) ∧
      w' = (w.drew.setCells b (off + i * 1) (zs.drop (i + 1))).setCells b (off + (i + (n - (i + 1)))) [.int .i64 0] := by
  have mixed : Try.prog.follows .mixedOrders = true := by kernel_rfl
  have t3 : (Try.prog.info? 3).map (fun i => (i.zero, i.size, i.bytes)) = some (some (Value.int IntKind.i64 0), 1, 8) := by kernel_rfl
  have v3 : ∀ w, (zeroValue 3).run Try.prog w = .ok (Value.int IntKind.i64 0) w := fun w => rfl
  have t71 : Try.prog.underlying 71 = some (TypeDesc.slice 3) := by kernel_rfl
  obtain ⟨i0, hi0, hz0, hz1, hz2⟩ := info_parts t3
  obtain ⟨news, hnews⟩ : ∃ news, news = zs.drop (i + 1) := ⟨_, rfl⟩
  have hlen : news.length = n - (i + 1) := by rw [hnews]; simp; omega
  rw [← hnews]
  have hget : ∀ t, t < n - (i + 1) → news[t]? = zs[i + 1 + t]? := fun t ht => by rw [hnews, List.getElem?_drop]
  obtain ⟨A, hA, hsrc⟩ : ∃ A : Addr, (if cap = i + 1 then some (⟨b, off, none⟩ : Addr) else some ⟨b, off + (i + 1), none⟩) = some A ∧ Hid (∀ t u, news[t]? = some u → w.drew.cell? (A.add t) = some u) := by
    by_cases h : cap = i + 1
    · refine ⟨⟨b, off, none⟩, by simp [h], fun t u hu => ?_⟩
      rw [List.getElem?_eq_none (by omega)] at hu
      cases hu
    · refine ⟨⟨b, off + (i + 1), none⟩, by simp [h], fun t u hu => ?_⟩
      have ht : t < n - (i + 1) := by
        by_cases q : t < n - (i + 1)
        · exact q
        · rw [List.getElem?_eq_none (by omega)] at hu; cases hu
      rw [hget t ht] at hu
      rw [Addr.add_lit, Nat.add_assoc]
      exact (hH (i + 1 + t) (by omega)).1.trans hu
  have s1 : Hid (news.length = (n - (i + 1)) * 1) := by rw [Nat.mul_one]; exact hlen
  have s2 : Hid (∀ u ∈ news, u.oneCell' = true) := fun u hu => h1 u (List.mem_of_mem_drop (by rw [hnews] at hu; exact hu))
  have some_at : ∀ j, j < n → (w.cell? ⟨b, off + j, none⟩).isSome = true := fun j hj => by
    rw [(hH j hj).1, List.getElem?_eq_getElem (by omega)]
    rfl
  have s3 : Hid (∀ t, t < news.length → (w.drew.cell? ⟨b, off + i * 1 + t, none⟩).isSome = true ∧ w.drew.frozen? ⟨b, off + i * 1 + t, none⟩ = false) := by
    intro t ht
    rw [hlen] at ht
    rw [Nat.mul_one, Nat.add_assoc]
    exact ⟨some_at (i + t) (by omega), (hH (i + t) (by omega)).2⟩
  obtain ⟨W1, hW1⟩ : ∃ W1, W1 = w.drew.setCells b (off + i * 1) news := ⟨_, rfl⟩
  rw [← hW1]
  have hcl : ∀ ty, (Builtin.clear_ #[71] ty #[.slice (some ⟨b, off + (i + (n - (i + 1))), none⟩) (n - (i + (n - (i + 1)))) (cap - (i + (n - (i + 1))))]).run Try.prog W1 = .ok (.tuple #[]) (W1.setCells b (off + (i + (n - (i + 1)))) [.int .i64 0]) := by
    intro ty
    have hn1 : n - (i + (n - (i + 1))) = 1 := by omega
    have := Lib.run_clear_slice (P := Try.prog) W1 71 3 ty (.int .i64 0) t71 v3 rfl rfl b (off + (i + (n - (i + 1)))) (n - (i + (n - (i + 1)))) (cap - (i + (n - (i + 1)))) (by omega) (fun j hj => ?_) (fun j hj => ?_)
    · rw [this, hn1]
      rfl
    · rw [hW1, World.cell?_setCells_out _ _ _ _ _ (fun _ _ => .inr (by simp only; rw [hlen]; omega)), show off + (i + (n - (i + 1))) + j = off + (n - 1) by omega]
      exact some_at (n - 1) (by omega)
    · rw [hW1, World.frozen?_setCells, show off + (i + (n - (i + 1))) + j = off + (n - 1) by omega]
      exact (hH (n - 1) (by omega)).2
  have hW : Hid (W1 = w.drew.setCells b (off + i * 1) news) := hW1
  have hic : i ≤ cap := by omega
  have hjc : i + 1 ≤ cap := by omega
  have hb1 : (0 : Int) ≤ (i : Int) + 1 := by omega
  have hb2 : (i : Int) + 1 ≤ (n : Int) := by omega
  clear hW1 hH hget hnews hlen some_at h1 hz
  go_enter Try.func85, Try.ntmps85
  go_wp2_with fail
  go_region_law_o (refine step_append_room rfl (.tmp 22) (.tmp 25) 71 rfl 3 i0 1 t71 hi0 hz1 b off i cap (by simp [Act.eval, Act.put]) A (n - (i + 1)) (cap - (i + 1)) news (by simp [Act.eval, Act.put]) s1.out hsrc.out s2.out (by omega) s3.out ?_; rw [← hW.out])
  go_wp2
  go_ret
  exact ⟨by rw [show n - 1 = i + (n - (i + 1)) by omega]; rfl, rfl⟩
theorem enter_del {P : Program} {f : Nat} {fn : Func} (hf : P.funcs[f]? = some fn) (hb : ∃ cd, fn.body = some cd) (hn : (fn.name == "runtime.NumGoroutine") = false) (us : Array Value) (w : World) : (callFunc f us).run P w = .ok (.enter f us) w := by
  have hn : ¬ fn.name = "runtime.NumGoroutine" := by simpa using hn
  obtain ⟨cd, hb⟩ := hb
  simp [callFunc, hf, hn, hb]
/-- the contract of slices.Delete -/
theorem del_ok {w0 : World} {E : Task → Option Res} {ys : List AV} {O : Seg} {r : Res} (h : (yDelete ys O).run E = some r) : TaskOk { P := Try.prog, w0 := w0 } (.call 85 ys O) r := by
  have hent := fun us w => enter_del (P := Try.prog) (f := 85) (fn := Try.f85) Try.func85 ⟨_, rfl⟩ (by kernel_rfl) us w
  unfold yDelete at h
  split at h
  · rename_i xs i j
    cases hb : Nat.beq j (Nat.succ i) && Nat.ble j xs.length with
    | false => rw [hb] at h; exact (noR_run h).elim
    | true =>
      rw [hb] at h
      cases okR_run h
      simp only [Bool.and_eq_true] at hb
      have hj := beq_t hb.1
      have hl := ble_t hb.2
      subst hj
      intro γ w us g
      match us, g.len, g with
      | [u, vi, vj], _, g =>
        have h0 := g.arg 0 _ u rfl rfl
        have h1 := g.arg 1 _ vi rfl rfl
        have h2 := g.arg 2 _ vj rfl rfl
        simp only [R] at h0 h1 h2
        obtain ⟨rfl, -⟩ := h1
        obtain ⟨rfl, -⟩ := h2
        rcases h0 with ⟨rfl, rfl⟩ | ⟨b, cap, c, e, rfl, hcls, hheap, hsize, hlen, hD⟩
        · exact absurd hl (by simp)
        · obtain ⟨zs, z1, z2, z3, z4⟩ := Dn_news xs hD
          rw [Nat.mul_one] at z1
          have hcell : ∀ k, k < xs.length → c[k]? = zs[k]? := fun k hk => by
            rcases z4 with rfl | z4 | ⟨c', e', fz', q1, q2⟩
            · exact absurd hk (by simp)
            · exact absurd z4 (by decide)
            · cases q1
              rw [List.getElem?_eq_getElem (by omega)]
              have := q2 k zs[k] (List.getElem?_eq_getElem (by omega))
              rwa [Nat.zero_add] at this
          have hil : i + 1 ≤ xs.length := hl
          refine .inr ⟨hent _ w, ?_⟩
          refine (del_walk b 0 cap xs.length i w zs z1 (fun u hu => one_cell' (z3 u hu)) (fun k hk => ⟨?_, ?_⟩) hlen hil).mono fun e' w' he => ?_
          · rw [Nat.zero_add, cell_of hheap, hcell k hk]
          · exact frozen_no hheap
          · obtain ⟨rfl, rfl⟩ := he
            have hdl : (zs.drop (i + 1)).length = xs.length - (i + 1) := by simp; omega
            rw [Nat.mul_one] at hsize
            obtain ⟨c1, k1, k2, k3, k4⟩ := setCells_row (b := b) (el := e) (zs.drop (i + 1)) (0 + i * 1) c w.drew hheap (by rw [hdl]; omega)
            have hh1 : (w.drew.setRow b c1).heap[b]? = some (.cells c1 e (0, 0)) := setRow_heap w.drew b c c1 e (0, 0) hheap
            obtain ⟨c2, l1, l2, l3, l4⟩ := setCells_row (b := b) (el := e) [.int .i64 0] (0 + (i + (xs.length - (i + 1)))) c1 (w.drew.setRow b c1) hh1 (by simp; omega)
            rw [k1, l1, setRow_setRow]
            have hnb : ∀ o, γ.cls b ≠ .imm o ∧ γ.cls b ≠ .ro o := fun o => by rw [hcls]; simp
            have hc2 : ∀ k, k < xs.length - 1 → c2[k]? = (zs.take i ++ zs.drop (i + 1))[k]? := fun k hk => by
              rw [l4 k (.inl (by omega))]
              by_cases q : k < i
              · rw [k4 k (.inl (by omega)), hcell k (by omega), List.getElem?_append_left (by simp; omega), List.getElem?_take, if_pos q]
              · rw [k3 k (by omega) (by rw [hdl]; omega), List.getElem?_append_right (by simp; omega)]
                simp only [List.length_take]
                congr 1
                omega
            have hE : El γ.cls (xs.take i ++ xs.drop (i + 1)) 1 c2 0 := by
              intro k x hx
              have hk : k < xs.length - 1 := by
                by_cases q : k < xs.length - 1
                · exact q
                · rw [List.getElem?_eq_none (by simp; omega)] at hx; cases hx
              have key : ∃ m : Nat, xs[m]? = some x ∧ zs[m]? = (zs.take i ++ zs.drop (i + 1))[k]? := by
                by_cases q : k < i
                · refine ⟨k, ?_, ?_⟩
                  · rwa [List.getElem?_append_left (by simp; omega), List.getElem?_take, if_pos q] at hx
                  · rw [List.getElem?_append_left (by simp; omega), List.getElem?_take, if_pos q]
                · refine ⟨i + 1 + (k - i), ?_, ?_⟩
                  · rw [List.getElem?_append_right (by simp; omega), List.getElem?_drop] at hx
                    simp only [List.length_take] at hx
                    rw [← hx]
                    congr 1
                    omega
                  · rw [List.getElem?_append_right (by simp; omega), List.getElem?_drop]
                    simp only [List.length_take]
                    congr 1
                    omega
              obtain ⟨m, m1, m2⟩ := key
              obtain ⟨vs, d1, d2, d3⟩ := z2 m x m1
              refine ⟨vs, d1, d2, fun t v hv => ?_⟩
              have ht : t = 0 := by
                by_cases q : t < vs.length
                · omega
                · rw [List.getElem?_eq_none (by omega)] at hv; cases hv
              subst ht
              have := d3 0 v hv
              simp only [List.getElem?_toArray, Nat.zero_add, Nat.mul_one, Nat.add_zero] at this ⊢
              rw [hc2 k hk, ← m2, this]
            have hd : ∀ x o, γ.cls x = .imm o → (γ.set b (.own (lim 0))).cls x = .imm o := fun x o q => by
              have : x ≠ b := by rintro rfl; exact (hnb o).1 q
              simp [Gh.set, this, q]
            have hd' : ∀ x, x ≠ b → (γ.set b (.own (lim 0))).cls x = γ.cls x := fun x q => by simp [Gh.set, q]
            have hwd : Wd { P := Try.prog, w0 := w0 } γ (w.drew.setRow b c2) := row_wd (w := w.drew) ⟨g.wd.still, g.wd.low, g.wd.new, g.wd.size, g.wd.os, g.wd.tape, g.wd.out⟩ hnb
            have hno : ∀ k, γ.ob k = none := fun k => g.hp.fresh k (Nat.zero_le _)
            refine ⟨_, rfl, γ.set b (.own (lim 0)), ?_, ⟨fun k o hk => ?_, fun k _ => hno k, fun k x hx => ?_, Nat.le_refl _⟩, ?_, ?_, rfl, rfl⟩
            · refine ⟨fun x o q => ?_, fun x hx => ?_, fun x hx => ?_, hwd.size, hwd.os, hwd.tape, hwd.out⟩
              · have hx : x ≠ b := by
                  rintro rfl
                  rw [set_new] at q
                  rcases q with q | q <;> cases q
                rw [hd' x hx] at q
                exact hwd.still x o q
              · obtain ⟨o, o1, o2⟩ := hwd.low x hx
                exact ⟨o, o1, hd x o o2⟩
              · have hx2 : x ≠ b := by
                  rintro rfl
                  have := hwd.new x hx
                  rw [hcls] at this
                  cases this
                rw [hd' x hx2]
                exact hwd.new x hx
            · simp [objAt, lget_eq] at hk
            · have : γ.ob k = some x := hx
              rw [hno k] at this
              cases this
            · refine ⟨hd, fun x o q => ?_, fun x o q => ?_, fun x hx q => ?_, by rw [setRow_size]; exact Nat.le_refl _, rfl, fun k _ => rfl⟩
              · have : x ≠ b := by rintro rfl; exact (hnb o).2 q
                rw [hd' x this]; exact q
              · have : x ≠ b := by rintro rfl; rw [set_new] at q; cases q
                rw [hd' x this] at q; exact q
              · have : x ≠ b := by rintro rfl; rw [hcls] at q; cases q
                exact ⟨by rw [hd' x this]; exact q, setRow_other w.drew b x c2 this⟩
            · simp only [R]
              right
              have hl2 : (xs.take i ++ xs.drop (i + 1)).length = xs.length - 1 := by simp; omega
              exact ⟨b, cap, c2, e, by rw [hl2], set_new _ _, setRow_heap w.drew b c c2 e (0, 0) hheap, by rw [l2, k2, hsize, Nat.mul_one], by rw [hl2]; omega, Dn_frame hd _ _ _ _ (El.dn _ _ hE)⟩
  · exact (noR_run h).elim
end Go.Va
namespace Go.Va
open Go.Proofs
set_option maxRecDepth 100000
theorem ext_ok (W : World) : ExtOk { P := Try.prog, w0 := W } (envV realAr) := by
  intro f e he E hE ys O r h
  have key : extT.Forall (fun f e => ∀ ys O r, (e ys O).run E = some r → TaskOk { P := Try.prog, w0 := W } (.call f ys O) r) := by
    unfold extT
    simp only [Tr.Forall]
    exact ⟨fun ys O r h => del_ok h, ⟨fun ys O r h => check_ok hE h, trivial, trivial⟩, trivial⟩
  exact Tr.get_of key he ys O r h
end Go.Va
