/- The verified abstract interpreter, a part of it: no statement of its own. -/
import Derived.Test.YtmklimlepgiffabVa16
set_option linter.unusedVariables false
set_option linter.unusedSimpArgs false
set_option linter.unusedVariables false
namespace Go.Va

/-- cells that are laid over others -/
theorem foldl_zip (off : Nat) : ∀ (vs : List Value) (n : Nat) (cs : Array Value), off + n + vs.length ≤ cs.size → ∀ m,
    ((vs.zipIdx n).foldl (fun cs (p : Value × Nat) => cs.setIfInBounds (off + p.2) p.1) cs)[m]? = if off + n ≤ m ∧ m < off + n + vs.length then vs[m - (off + n)]? else cs[m]?
  | [], n, cs, _, m => by simp; omega
  | v :: vs, n, cs, h, m => by
    simp only [List.length_cons] at h
    simp only [List.zipIdx_cons, List.foldl_cons]
    rw [foldl_zip off vs (n + 1) _ (by simp; omega) m]
    by_cases h1 : off + (n + 1) ≤ m ∧ m < off + (n + 1) + vs.length
    · rw [if_pos h1, if_pos (by simp only [List.length_cons]; omega)]
      rw [show m - (off + n) = (m - (off + (n + 1))) + 1 by omega]
      simp
    · rw [if_neg h1, Array.getElem?_setIfInBounds]
      by_cases h2 : off + n = m
      · have hsz : off + n < cs.size := by omega
        rw [if_pos h2, if_pos hsz, if_pos (by simp only [List.length_cons]; omega)]
        subst h2
        simp
        try omega
      · rw [if_neg h2, if_neg (by simp only [List.length_cons]; omega)]
theorem foldl_zip_size (off : Nat) : ∀ (vs : List Value) (n : Nat) (cs : Array Value), ((vs.zipIdx n).foldl (fun cs (p : Value × Nat) => cs.setIfInBounds (off + p.2) p.1) cs).size = cs.size
  | [], n, cs => by simp
  | v :: vs, n, cs => by
    simp only [List.zipIdx_cons, List.foldl_cons]
    rw [foldl_zip_size off vs (n + 1)]
    simp
theorem splice_get (o xs : List AV) (off : Nat) (h : off + xs.length ≤ o.length) (m : Nat) : (splice o off xs)[m]? = if off ≤ m ∧ m < off + xs.length then xs[m - off]? else o[m]? := by
  simp only [splice, List.append_assoc]
  by_cases h1 : m < off
  · rw [List.getElem?_append_left (by simp; omega), List.getElem?_take, if_pos h1, if_neg (by omega)]
  · rw [List.getElem?_append_right (by simp; omega)]
    simp only [List.length_take]
    rw [show min off o.length = off by omega]
    by_cases h2 : m < off + xs.length
    · rw [List.getElem?_append_left (by omega), if_pos (by omega)]
    · rw [List.getElem?_append_right (by omega), if_neg (by omega), List.getElem?_drop]
      congr 1
      omega
theorem splice_len (o xs : List AV) (off : Nat) (h : off + xs.length ≤ o.length) : (splice o off xs).length = o.length := by
  simp [splice]; omega

/-- cells at l.sub 0, l.sub 1, .. -/
def Laid (γ : Gh) (w : World) (T : Nat → Loc) (xs : List AV) (vs : Array Value) : Prop :=
  vs.size = xs.length ∧ ∀ j x, xs[j]? = some x → ∃ u, vs[j]? = some u ∧ one u ∧ R γ w (T j) x u
theorem Laid.rl {γ : Gh} {w : World} {l : Loc} : ∀ (xs : List AV) (vs : List Value) (n : Nat), vs.length = xs.length → (∀ j x, xs[j]? = some x → ∃ u, vs[j]? = some u ∧ R γ w (l.sub (n + j)) x u) → Rl γ w l n xs vs
  | [], vs, n, hl, _ => by simp only [Rl]; simpa using hl
  | x :: xs, [], n, hl, _ => by simp at hl
  | x :: xs, v :: vs, n, hl, h => by
    simp only [Rl]
    obtain ⟨u, e1, e2⟩ := h 0 x (by simp)
    simp at e1
    subst e1
    refine ⟨v, vs, rfl, by simpa using e2, Laid.rl xs vs (n + 1) (by simpa using hl) (fun j x' hx => ?_)⟩
    obtain ⟨u, e1, e2⟩ := h (j + 1) x' (by simpa using hx)
    exact ⟨u, by simpa using e1, by rwa [show n + 1 + j = n + (j + 1) by omega]⟩
theorem Laid.agg {γ : Gh} {w : World} {k : Nat} {xs : List AV} {vs : Array Value} (h : Laid γ w (fun j => (lim k).sub j) xs vs) : R γ w (lim k) (.agg xs) (.agg vs) := by
  simp only [R]
  refine ⟨vs, rfl, ?_, Laid.rl xs vs.toList 0 (by simpa using h.1) (fun j x hx => ?_)⟩
  · intro u hu
    obtain ⟨j, hj, e⟩ := List.getElem_of_mem hu
    have hj' : j < xs.length := by rw [← h.1]; simpa using hj
    obtain ⟨u', e1, e2, _⟩ := h.2 j xs[j] (by simp [hj'])
    have : vs[j]? = some u := by
      rw [← e]
      simp at hj
      simp [hj]
    rw [this] at e1
    cases e1
    exact e2
  · obtain ⟨u, e1, _, e2⟩ := h.2 j x hx
    exact ⟨u, by simpa using e1, by simpa using e2⟩
theorem Laid.mono {γ γ' : Gh} {w w' : World} {T : Nat → Loc} {xs : List AV} {vs : Array Value} (h : Laid γ w T xs vs) (hk : ∀ j, Keeps γ γ' w w' (T j) (T j)) : Laid γ' w' T xs vs :=
  ⟨h.1, fun j x hx => by
    obtain ⟨u, e1, e2, e3⟩ := h.2 j x hx
    exact ⟨u, e1, e2, R_keep x (hk j) u e3⟩⟩
/-- a value is laid over cells -/
theorem Laid.over {γ : Gh} {w : World} {k off : Nat} {T : Nat → Loc} {xs : List AV} {vs : Array Value} {y : AV} {v : Value} (h : Laid γ w T xs vs) (hT : ∀ j, (T j).base ≠ .limbo k) (hr : R γ w (lim k) y v)
    (hu : y.isUnk = false) (hc : allCellOk y.cells = true) (hle : off + y.cells.length ≤ xs.length) :
    v.cells.size = y.cells.length ∧ Laid (γ.spread k (fun j => T (off + j))) w T (splice xs off y.cells) (v.cells.zipIdx.foldl (fun cs (p : Value × Nat) => cs.setIfInBounds (off + p.2) p.1) vs) := by
  obtain ⟨s1, s2⟩ := spread_cells (fun j => T (off + j)) hr hu hc
  have hb : off + v.cells.toList.length ≤ vs.size := by rw [h.1]; simp [s1]; omega
  have key : (v.cells.zipIdx.foldl (fun cs (p : Value × Nat) => cs.setIfInBounds (off + p.2) p.1) vs) = ((v.cells.toList.zipIdx 0).foldl (fun cs (p : Value × Nat) => cs.setIfInBounds (off + p.2) p.1) vs) := by
    rw [← Array.foldl_toList]; simp
  rw [key]
  refine ⟨s1, by rw [foldl_zip_size, splice_len _ _ _ hle]; exact h.1, fun m x hx => ?_⟩
  rw [splice_get _ _ _ hle] at hx
  rw [foldl_zip off _ 0 vs (by omega)]
  simp only [Nat.add_zero, Array.length_toList, s1]
  by_cases hm : off ≤ m ∧ m < off + y.cells.length
  · rw [if_pos hm] at hx ⊢
    obtain ⟨u, e1, e2, e3⟩ := s2 _ x hx
    refine ⟨u, by simpa using e1, e2, ?_⟩
    rwa [show off + (m - off) = m by omega] at e3
  · rw [if_neg hm] at hx ⊢
    obtain ⟨u, e1, e2, e3⟩ := h.2 m x hx
    exact ⟨u, e1, e2, R_keep x ((Frz.spread γ w k _).keeps (fun q r e => by injection e with e _; exact hT m e.symm)) u e3⟩
section
variable {c : Cx} {γ : Gh} {st : St} {a : Act} {w : World} {o : Oper} {env : Env}
/-- parts on their way under k, k + 1, .. -/
theorem fill_ok {ty : Ty} {places : Nat → Option (Nat × Nat)} (hp : ∀ n off sz, lget ty.offs n = some (some (off, sz)) → places n = some (off, sz)) : ∀ (ps : List (Nat × AV)) (vs : List (Nat × Value)) {γ : Gh} {st : St} (k : Nat) (xs xs' : List AV) (cs : Array Value),
    Inv c γ st a w → ps.length = vs.length → (∀ j n y, ps[j]? = some (n, y) → ∃ v, vs[j]? = some (n, v) ∧ R γ w (lim (k + j)) y v) → 0 < k → Laid γ w (fun j => (lim 0).sub j) xs cs → fillParts ty xs ps = some xs' →
    ∃ γ' cs', Inv c γ' st a w ∧ Ext γ st w γ' st w ∧ Laid γ' w (fun j => (lim 0).sub j) xs' cs' ∧ Instr.fill places cs vs = some cs'
  | [], vs, γ, st, k, xs, xs', cs, hi, hl, hv, hk, hL, h => by
    simp only [fillParts] at h
    cases h
    have : vs = [] := List.eq_nil_of_length_eq_zero (by simpa using hl.symm)
    subst this
    exact ⟨γ, cs, hi, .refl .., hL, rfl⟩
  | (n, y) :: ps, [], γ, st, k, xs, xs', cs, hi, hl, _, _, _, _ => by simp at hl
  | (n, y) :: ps, (n', v) :: vs, γ, st, k, xs, xs', cs, hi, hl, hv, hk, hL, h => by
    obtain ⟨v', e1, e2⟩ := hv 0 n y (by simp)
    simp at e1
    obtain ⟨rfl, rfl⟩ := e1
    rw [Nat.add_zero] at e2
    simp only [fillParts] at h
    split at h
    · rename_i off sz hof
      cases hb : Nat.beq y.cells.length sz && Nat.ble (off + y.cells.length) xs.length && !y.isUnk && allCellOk y.cells with
      | false => rw [hb] at h; cases h
      | true =>
        rw [hb] at h
        simp only [Bool.and_eq_true, Bool.not_eq_true'] at hb
        obtain ⟨⟨⟨b1, b2⟩, b3⟩, b4⟩ := hb
        have b1 := beq_t b1
        have b2 := ble_t b2
        obtain ⟨s1, hL'⟩ := hL.over (off := off) (k := k) (fun j e => by simp [Loc.sub] at e; omega) e2 b3 b4 b2
        have f := Frz.spread γ w k (fun j => (lim 0).sub (off + j))
        have hi' := lim_inv hi f
        obtain ⟨γ', cs', i1, i2, i3, i4⟩ := fill_ok hp ps vs (k + 1) _ xs' _ hi' (by simpa using hl) (fun j n y' e => by
          obtain ⟨v', e1, e2⟩ := hv (j + 1) n y' (by simpa using e)
          refine ⟨v', by simpa using e1, ?_⟩
          rw [show k + (j + 1) = k + 1 + j by omega] at e2
          exact R_keep _ (f.keeps (by intro q r e; injection e with e _; injection e with e; omega)) _ e2) (by omega) hL' h
        refine ⟨γ', cs', i1, (f.ext rfl).trans i2, i3, ?_⟩
        simp only [Instr.fill, hp _ _ _ hof]
        rw [if_neg]
        · exact i4
        · have := hL.1
          simp only [s1, b1, ne_eq, not_true, decide_eq_true_eq, Bool.or_eq_true]
          simp
          omega
    · cases h
theorem places_ok {P : Program} : ∀ (os : List (Option (Nat × Nat))) (fs : List Field), fChk P os fs = true →
    ∃ ps, fs.mapM (fun f => (P.info? f.type).map fun i => (f.offset, i.size)) = some ps ∧ ∀ n off sz, lget os n = some (some (off, sz)) → ps[n]? = some (off, sz)
  | [], [], _ => ⟨[], by simp, by simp [lget]⟩
  | [], _ :: _, h => by simp [fChk] at h
  | _ :: _, [], h => by simp [fChk] at h
  | o :: os, f :: fs, h => by
    simp only [fChk, Bool.and_eq_true] at h
    obtain ⟨ps, h1, h2⟩ := places_ok os fs h.2
    cases hi : P.info? f.type with
    | none => rw [hi] at h; simp at h
    | some i =>
      rw [hi] at h
      refine ⟨(f.offset, i.size) :: ps, by simp [List.mapM_cons, hi, h1], ?_⟩
      intro n off sz e
      cases n with
      | zero =>
        simp only [lget] at e
        cases e
        have := h.1
        simp only [Bool.and_eq_true, beq_iff_eq] at this
        simp [this.1.1, this.1.2]
      | succ n =>
        simp only [lget] at e
        simpa using h2 n off sz e
end
end Go.Va
