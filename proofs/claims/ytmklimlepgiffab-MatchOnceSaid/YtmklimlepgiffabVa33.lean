/- The verified abstract interpreter, a part of it: no statement of its own. -/
import Derived.Test.YtmklimlepgiffabVa32
set_option linter.unusedVariables false
set_option linter.unusedSimpArgs false
set_option linter.unusedVariables false
namespace Go.Va
theorem ranN_get : ∀ (n i j : Nat), j < n → (ranN n i)[j]? = some (i + j)
  | 0, i, j, h => by omega
  | n + 1, i, 0, h => by simp [ranN]
  | n + 1, i, j + 1, h => by
    simp only [ranN, List.getElem?_cons_succ]
    rw [ranN_get n (i + 1) j (by omega)]
    congr 1; omega
theorem ranN_len : ∀ (n i : Nat), (ranN n i).length = n
  | 0, i => rfl
  | n + 1, i => by simp [ranN, ranN_len n]
theorem ranN_mem : ∀ (n i x : Nat), x ∈ ranN n i → i ≤ x
  | 0, i, x, h => by simp [ranN] at h
  | n + 1, i, x, h => by
    simp only [ranN, List.mem_cons] at h
    rcases h with rfl | h
    · exact Nat.le_refl _
    · have := ranN_mem n (i + 1) x h; omega
theorem ranN_nodup : ∀ (n i : Nat), (ranN n i).Nodup
  | 0, i => by simp [ranN]
  | n + 1, i => by
    simp only [ranN, List.nodup_cons]
    exact ⟨fun h => by have := ranN_mem n (i + 1) i h; omega, ranN_nodup n (i + 1)⟩
theorem ren_cellOk {m : List Nat} {x y : AV} (h : x.cellOk = true) (e : x.ren m = some y) : y.cellOk = true := by
  cases x with
  | s => simp only [AV.ren] at e; cases e; rfl
  | ptr =>
    simp only [AV.ren] at e
    split at e
    · cases e; rfl
    · cases e
  | unk => simp only [AV.ren] at e; cases e; rfl
  | sl => simp only [AV.ren] at e; cases e; exact h
  | rp => simp only [AV.ren] at e; cases e; exact h
  | _ => cases h
theorem ren_cellsOk {m : List Nat} : ∀ {xs ys : List AV}, allCellOk xs = true → AV.ren.renL m xs = some ys → allCellOk ys = true
  | [], ys, _, e => by simp only [AV.ren.renL] at e; cases e; rfl
  | x :: xs, ys, h, e => by
    simp only [allCellOk, Bool.and_eq_true] at h
    simp only [AV.ren.renL] at e
    cases hx : x.ren m with
    | none => rw [hx] at e; cases e
    | some y =>
      cases hu : AV.ren.renL m xs with
      | none => rw [hx, hu] at e; cases e
      | some zs =>
        rw [hx, hu] at e; cases e
        simp only [allCellOk, ren_cellOk h.1 hx, ren_cellsOk h.2 hu, Bool.and_self]
theorem ren_outOk {m : List Nat} {x y : AV} (h : x.outOk = true) (e : x.ren m = some y) : y.outOk = true := by
  cases x with
  | agg xs =>
    simp only [AV.outOk] at h
    simp only [AV.ren] at e
    split at e
    · rename_i ys hy
      cases e
      simp only [AV.outOk]
      exact ren_cellsOk h hy
    · cases e
  | s => simp only [AV.ren] at e; cases e; rfl
  | ptr =>
    simp only [AV.ren] at e
    split at e
    · cases e; rfl
    · cases e
  | unk => simp only [AV.ren] at e; cases e; rfl
  | sl => simp only [AV.ren] at e; cases e; exact h
  | rp => simp only [AV.ren] at e; cases e; exact h
  | _ => cases h
theorem ren_outs {m : List Nat} : ∀ {xs ys : List AV}, allOut xs = true → AV.ren.renL m xs = some ys → allOut ys = true
  | [], ys, _, e => by simp only [AV.ren.renL] at e; cases e; rfl
  | x :: xs, ys, h, e => by
    simp only [allOut, Bool.and_eq_true] at h
    simp only [AV.ren.renL] at e
    cases hx : x.ren m with
    | none => rw [hx] at e; cases e
    | some y =>
      cases hu : AV.ren.renL m xs with
      | none => rw [hx, hu] at e; cases e
      | some zs =>
        rw [hx, hu] at e; cases e
        simp only [allOut, ren_outOk h.1 hx, ren_outs h.2 hu, Bool.and_self]
/-- a block behind a function's end -/
def outC (m : List Nat) (one : Bool) : Cls → Cls
  | .imm o => .imm o
  | .ro o => .ro o
  | .other => .other
  | .obj i => match posN i m with
    | some j => .obj j
    | none => .other
  | .own ⟨.cell i off, p⟩ => match posN i m with
    | some j => .own ⟨.cell j off, p⟩
    | none => .other
  | .own ⟨.limbo k, p⟩ => if one then .own ⟨.limbo k, p⟩ else .own ⟨.limbo 0, k :: p⟩
  | .own ⟨.slot _, _⟩ => .other
def Gh.out (γ : Gh) (m : List Nat) (one : Bool) : Gh := ⟨fun b => outC m one (γ.cls b), fun j => (lget m j).bind γ.ob⟩
section
variable {c : Cx} {γ : Gh} {st : St} {a : Act} {w : World} {o : Oper} {env : Env} {i : Nat}
theorem out_keeps {m : List Nat} {one : Bool} {l l' : Loc} (h : ∀ b q, γ.cls b = .own ⟨l.base, l.path ++ q⟩ → (γ.out m one).cls b = .own ⟨l'.base, l'.path ++ q⟩) : KeepsR γ (γ.out m one) w w l l' (fun i => posN i m) where
  imm b o e := by simp only [Gh.out, e, outC]
  ro b o e := by simp only [Gh.out, e, outC]
  own b q e := ⟨h b q e, rfl⟩
  ob i j b e1 e2 := by
    have := posN_some e1
    simp only [Gh.out, lget_eq, this, Option.bind_some]
    exact e2
theorem tupOf_two (x y : AV) (zs : List AV) : tupOf (x :: y :: zs) = .tup (x :: y :: zs) := rfl
theorem out_ok (hi : Inv c γ st a w) {vs vs' : List AV} {us : List Value} {O2 : Seg} (hl : vs.length = us.length)
    (hv : ∀ (j : Nat) (y : AV) (v : Value), vs[j]? = some y → us[j]? = some v → R γ w (lim j) y v) (h : outOf vs st = some (vs', O2)) :
    ∃ γ', Wd c γ' w ∧ Hp γ' { n := 0, k := st.k, fr := [], O := O2 } w ∧ Ext γ st w γ' { n := 0, k := st.k, fr := [], O := O2 } w ∧ R γ' w (lim 0) (tupOf vs') (oneOrTup us) ∧ (tupOf vs').resOk = true ∧ allSegOk O2 = true := by
  unfold outOf at h
  obtain ⟨hb, h⟩ := bif_t2 h
  rw [Bool.and_eq_true] at hb
  have hk := ble_t hb.2
  cases hre : reachF st.O 400 (allPtrs (st.O.take st.k) ++ AV.ptrs.ptrsL vs) (ranN st.k 0) with
  | none => rw [hre] at h; cases h
  | some m =>
    rw [hre] at h
    simp only at h
    cases hrn : AV.ren.renL m vs with
    | none => rw [hrn] at h; cases h
    | some ws =>
      cases hro : renObjs m st.O m with
      | none => rw [hrn, hro] at h; cases h
      | some O' =>
        rw [hrn, hro] at h
        simp only at h
        obtain ⟨hso, h⟩ := bif_t h
        cases h
        obtain ⟨hm, hpre⟩ := reachF_nodup 400 _ _ (ranN_nodup st.k 0) hre
        obtain ⟨hlO, hg⟩ := renObjs_get m hro
        have hlen := renL_len vs hrn
        have hmk : st.k ≤ m.length := by
          have := hpre.length_le
          rwa [ranN_len] at this
        have hmi : ∀ i, i < st.k → m[i]? = some i := by
          intro i h
          obtain ⟨t, rfl⟩ := hpre
          rw [List.getElem?_append_left (by rw [ranN_len]; exact h), ranN_get _ _ _ h]
          simp
        have hwd : ∀ one, Wd c (γ.out m one) w := by
          intro one
          refine ⟨fun b o e => ?_, fun b hb => ?_, fun b hb => ?_, hi.wd.size, hi.wd.os, hi.wd.tape, hi.wd.out⟩
          · have : γ.cls b = .imm o ∨ γ.cls b = .ro o := by
              simp only [Gh.out] at e
              cases hc : γ.cls b with
              | imm o' => rw [hc] at e; simpa [outC] using e
              | ro o' => rw [hc] at e; simpa [outC] using e
              | other => rw [hc] at e; simp [outC] at e
              | obj i =>
                rw [hc] at e
                simp only [outC] at e
                split at e <;> rcases e with e | e <;> cases e
              | own l =>
                rw [hc] at e
                obtain ⟨base, p⟩ := l
                cases base with
                | slot t => simp [outC] at e
                | limbo k => simp only [outC] at e; split at e <;> rcases e with e | e <;> cases e
                | cell i off =>
                  simp only [outC] at e
                  split at e <;> rcases e with e | e <;> cases e
            exact hi.wd.still b o this
          · obtain ⟨o, e1, e2⟩ := hi.wd.low b hb
            exact ⟨o, e1, by simp only [Gh.out, e2, outC]⟩
          · simp only [Gh.out, hi.wd.new b hb, outC]
        have hcell : ∀ one i j off, posN i m = some j → ∀ b q, γ.cls b = .own ⟨(⟨.cell i off, []⟩ : Loc).base, (⟨.cell i off, []⟩ : Loc).path ++ q⟩ → (γ.out m one).cls b = .own ⟨(⟨.cell j off, []⟩ : Loc).base, (⟨.cell j off, []⟩ : Loc).path ++ q⟩ := by
          intro one i j off h b q e
          simp only [Gh.out, e, outC, h]
        have hhp : ∀ one, Hp (γ.out m one) { n := 0, k := st.k, fr := [], O := O2 } w := by
          intro one
          refine ⟨fun j p e => ?_, fun j h => ?_, fun j b e => ?_, by show st.k ≤ O2.length; rw [hlO]; exact hmk⟩
          · simp only [objAt, lget_eq] at e
            obtain ⟨i, o, e1, e2, e3⟩ := hg j p e
            have hpos := posN_get hm e1
            obtain ⟨b, cs, el, h1, h2, h3, h4, hbe, h5⟩ := hi.hp.obj i o (by simp only [objAt, lget_eq]; exact e2)
            refine ⟨b, cs, el, by simp only [Gh.out, lget_eq, e1, Option.bind_some]; exact h1, by simp only [Gh.out, h2, outC, hpos], h3, by rw [h4]; exact renL_len o e3, by rw [← renL_len o e3]; exact hbe, fun q x hx => ?_⟩
            obtain ⟨x0, k1, k2⟩ := renL_get o e3 q x hx
            obtain ⟨v, v1, v2, v3⟩ := h5 q x0 k1
            exact ⟨v, v1, v2, R_ren x0 v k2 (out_keeps (hcell one i j q hpos)) v3⟩
          · have h : O2.length ≤ j := h
            simp only [Gh.out, lget_eq]
            rw [List.getElem?_eq_none (by rw [← hlO]; exact h)]
            rfl
          · simp only [Gh.out, lget_eq] at e
            cases e1 : m[j]? with
            | none => rw [e1] at e; cases e
            | some i =>
              rw [e1] at e
              simp only [Option.bind_some] at e
              simp only [Gh.out, hi.hp.back i b e, outC, posN_get hm e1]
        have hext : ∀ one, Ext γ st w (γ.out m one) { n := 0, k := st.k, fr := [], O := O2 } w := by
          intro one
          refine ⟨fun b o e => by simp only [Gh.out, e, outC], fun b o e => by simp only [Gh.out, e, outC], fun b o e => ?_, fun b _ e => ⟨by simp only [Gh.out, e, outC], rfl⟩, Nat.le_refl _, rfl, fun i h => ?_⟩
          · simp only [Gh.out] at e
            cases hc : γ.cls b with
            | ro o' => rw [hc] at e; simpa [outC] using e
            | imm o' => rw [hc] at e; simp [outC] at e
            | other => rw [hc] at e; simp [outC] at e
            | obj i => rw [hc] at e; simp only [outC] at e; split at e <;> cases e
            | own l =>
              rw [hc] at e
              obtain ⟨base, p⟩ := l
              cases base with
              | slot t => simp [outC] at e
              | limbo k => simp only [outC] at e; split at e <;> cases e
              | cell i off => simp only [outC] at e; split at e <;> cases e
          · simp only [Gh.out, lget_eq, hmi i h, Option.bind_some]
        have hout := ren_outs hb.1 hrn
        -- one result, or a tuple
        rcases vs with _ | ⟨x, vs⟩
        · have hus : us = [] := List.eq_nil_of_length_eq_zero (by simpa using hl.symm)
          subst hus
          simp only [AV.ren.renL] at hrn
          cases hrn
          refine ⟨γ.out m false, hwd _, hhp _, hext _, ?_, rfl, hso⟩
          show R _ w _ (.tup []) (.tuple #[])
          simp only [R, Rl]
          exact ⟨#[], rfl, rfl⟩
        · rcases vs with _ | ⟨x2, vs⟩
          · obtain ⟨u, rfl⟩ : ∃ u, us = [u] := by
              rcases us with _ | ⟨u, us⟩
              · simp at hl
              · rcases us with _ | ⟨u2, us⟩
                · exact ⟨u, rfl⟩
                · simp at hl
            simp only [AV.ren.renL] at hrn
            cases hx : x.ren m with
            | none => rw [hx] at hrn; cases hrn
            | some y =>
              rw [hx] at hrn
              cases hrn
              refine ⟨γ.out m true, hwd _, hhp _, hext _, ?_, ?_, hso⟩
              · exact R_ren x u hx (out_keeps (fun b q e => by simp only [Gh.out, e, outC, if_true])) (hv 0 x u rfl rfl)
              · simp only [allOut, Bool.and_eq_true] at hout
                have := hout.1
                show y.resOk = true
                cases y <;> first | exact this | cases this
          · have hws : ∃ y1 y2 ys, vs' = y1 :: y2 :: ys := by
              rcases vs' with _ | ⟨y1, vs'⟩
              · simp at hlen
              · rcases vs' with _ | ⟨y2, vs'⟩
                · simp at hlen
                · exact ⟨y1, y2, vs', rfl⟩
            obtain ⟨y1, y2, ys, rfl⟩ := hws
            have hu : oneOrTup us = .tuple us.toArray := by
              rcases us with _ | ⟨u1, us⟩
              · simp at hl
              · rcases us with _ | ⟨u2, us⟩
                · simp at hl
                · rfl
            refine ⟨γ.out m false, hwd _, hhp _, hext _, ?_, hout, hso⟩
            rw [hu]
            show R _ w _ (.tup (y1 :: y2 :: ys)) (.tuple us.toArray)
            simp only [R]
            refine ⟨_, rfl, ?_⟩
            refine Laid.rl _ _ 0 (by rw [← hlen, hl]) (fun j y e => ?_)
            obtain ⟨z, k1, k2⟩ := renL_get _ hrn j y e
            have hj : j < us.length := by
              rw [← hl]
              by_cases q : j < (x :: x2 :: vs).length
              · exact q
              · rw [List.getElem?_eq_none (by omega)] at k1; cases k1
            refine ⟨us[j], by simp [hj], ?_⟩
            refine R_ren z _ k2 (out_keeps (fun b q e => ?_)) (hv j z _ k1 (by simp [hj]))
            simp [Gh.out, e, outC, Loc.sub, lim]
end
end Go.Va
