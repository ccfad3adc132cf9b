/- The verified abstract interpreter, a part of it: no statement of its own. -/
import Derived.Test.YtmklimlepgiffabVa36
import Derived.Laws.Externs
set_option linter.unusedVariables false
set_option linter.unusedSimpArgs false
set_option linter.unusedVariables false
namespace Go.Va
section
variable {c : Cx} {γ : Gh} {w : World}
theorem okR_run {E : Task → Option Res} {v : AV} {O : Seg} {r : Res} (h : (okR v O).run E = some r) : r = .ret v O := by
  simp only [okR, Prog.run, Option.some.injEq] at h
  exact h.symm
theorem noR_run {E : Task → Option Res} {r : Res} (h : noR.run E = some r) : False := by
  simp [noR, Prog.run] at h
/-- nothing has turned -/
theorem post_same {as : List AV} {us : List Value} {O : Seg} (g : Given c γ w as O us) {v : AV} {r : Value} (hr : R γ w (lim 0) v r) (hv : v.resOk = true) (ho : allSegOk O = true) : CallPost c γ w O v O r w :=
  ⟨γ, g.wd, g.hp, Ext.refl _ _ _, hr, hv, ho⟩
theorem firstIdx_eq (s : ByteArray) (x : UInt8) : firstIdx s x = idxByte s.data.toList x := by
  have key : ∀ (l : List UInt8) (n : Nat) (f : Nat → UInt8), (∀ i y, l[i]? = some y → f (n + i) = y) → (List.range' n l.length).find? (fun i => f i == x) = (l.findIdx? (· == x)).map (n + ·) := by
    intro l
    induction l with
    | nil => intro n f _; rfl
    | cons y l ih =>
      intro n f h
      simp only [List.length_cons, List.range'_succ, List.find?_cons, List.findIdx?_cons]
      have h0 : f n = y := by simpa using h 0 y rfl
      rw [h0]
      cases e : y == x with
      | true => simp
      | false =>
        simp only [Bool.false_eq_true, if_false]
        rw [ih (n + 1) f (fun i z hz => by rw [show n + 1 + i = n + (i + 1) by omega]; exact h (i + 1) z (by simpa using hz))]
        cases l.findIdx? (· == x) with
        | none => rfl
        | some k => simp; omega
  unfold firstIdx idxByte
  have hs : List.range s.size = List.range' 0 s.data.toList.length := by rw [List.range_eq_range', Array.length_toList]; rfl
  rw [hs, key s.data.toList 0 (fun i => s[i]!) (fun i y hy => by
    have hi : i < s.data.size := by
      by_cases h : i < s.data.size
      · exact h
      · rw [List.getElem?_eq_none (by simpa using Nat.le_of_not_lt h)] at hy; cases hy
    simp only [Nat.zero_add]
    rw [getElem!_pos s i hi]
    rw [Array.getElem?_toList, Array.getElem?_eq_getElem hi] at hy
    injection hy)]
  cases s.data.toList.findIdx? (· == x) with
  | none => rfl
  | some k => simp
/-- a byte is looked for in a string -/
theorem idx_ok {f : Nat} {fn : Func} (hf : c.P.funcs[f]? = some fn) (hname : (fn.name == "runtime.NumGoroutine") = false) (hb : fn.body.isNone = true) (hn : Extern.findNext fn = none)
    (he : Extern.find fn = some Extern.BytealgIndexByte.indexByte) {E : Task → Option Res} {as : List AV} {O : Seg} {r : Res} (h : (xIndexByteString as O).run E = some r) : TaskOk c (.call f as O) r := by
  unfold xIndexByteString at h
  split at h
  · rename_i s ch
    cases okR_run h
    intro γ w us g
    match us, g.len, g with
    | [u, v], _, g =>
      have h0 := g.arg 0 _ u rfl rfl
      have h1 := g.arg 1 _ v rfl rfl
      simp only [R] at h0 h1
      obtain ⟨rfl, -⟩ := h0
      obtain ⟨rfl, -⟩ := h1
      refine .inl ⟨_, w, ?_, post_same g (r := .int .i64 (idxByte s.data.toList (UInt8.ofNat ch.toNat))) (by simp [R, one]) rfl rfl⟩
      rw [run_callFunc_extern hf hname hb hn he]
      have := run_indexByte_string (P := c.P) s ch w
      rw [firstIdx_eq] at this
      rw [this]
      rfl
  · exact (noR_run h).elim
end
end Go.Va
