/- The verified abstract interpreter, a part of it: no statement of its own. -/
import Derived.Test.YtmklimlepgiffabVa23
import Derived.Laws.IdiomStrings
import Derived.Laws.BytesArg
set_option linter.unusedVariables false
set_option linter.unusedSimpArgs false
set_option linter.unusedVariables false
namespace Go.Va
theorem isByte_k {t : Ty} (h : t.isByte = true) : t.k = .int .u8 := by
  unfold Ty.isByte at h
  split at h
  · assumption
  · cases h
theorem bytesOf_ok : ∀ (xs : List AV) (bs : List UInt8), bytesOf xs = some bs → ∀ (j : Nat) (x : AV), xs[j]? = some x → ∃ n, x = .s (.int .u8 n) ∧ bs[j]? = some (UInt8.ofNat n.toNat)
  | [], bs, h, j, x, e => by simp at e
  | x :: xs, bs, h, j, y, e => by
    unfold bytesOf at h
    split at h
    · rename_i h0; cases h0
    · rename_i n l h0
      cases h0
      cases hb : bytesOf xs with
      | none => rw [hb] at h; cases h
      | some bs' =>
        rw [hb] at h
        cases h
        cases j with
        | zero => simp at e; subst e; exact ⟨n, rfl, by simp⟩
        | succ j => exact bytesOf_ok xs bs' hb j y (by simpa using e)
    · cases h
theorem bytesOf_len : ∀ (xs : List AV) (bs : List UInt8), bytesOf xs = some bs → bs.length = xs.length
  | [], bs, h => by simp [bytesOf] at h; simp [← h]
  | x :: xs, bs, h => by
    unfold bytesOf at h
    split at h
    · rename_i h0; cases h0
    · rename_i n l h0
      cases h0
      cases hb : bytesOf xs with
      | none => rw [hb] at h; cases h
      | some bs' =>
        rw [hb] at h
        cases h
        simp [bytesOf_len xs bs' hb]
    · cases h
section
variable {c : Cx} {γ : Gh} {st : St} {a : Act} {w : World} {o : Oper} {env : Env} {i : Nat}
theorem run_bytes_back {P : Program} (w : World) (src dst e : TypeId) (hs : P.underlying src = some (.slice e)) (he : P.underlying e = some (.int .u8)) (hd : P.underlying dst = some .string) {ad : Option Addr} {cap : Nat} {ns : List Int}
    (h : ns = [] ∨ ∃ b off, ad = some ⟨b, off, none⟩ ∧ ∀ i, i < ns.length → w.cell? ⟨b, off + i, none⟩ = some (.int .u8 (ns.getD i 0))) :
    (convert src dst (.slice ad ns.length cap)).run P w = .ok (.string ⟨(ns.map fun n => UInt8.ofNat n.toNat).toArray⟩) w := by
  rcases h with rfl | ⟨b, off, rfl, h⟩
  · rw [run_convert_bytes_string w src dst e _ _ cap hs he hd]
    cases ad with
    | none => simp [Conv.bytesToString]; rfl
    | some b => simp only [List.length_nil]; rw [run_bytesToString w b 0 cap [] (by simp [loadCells, loadCellsFrom])]; rfl
  · exact run_convert_bytes_arg w src e hs he b off ns.length cap ns rfl h dst hd
theorem run_s2b {P : Program} (w : World) (e : TypeId) (s : ByteArray) :
    (Conv.stringToBytes e s).run P w = .ok (.slice (some ⟨w.heap.size, 0, none⟩) s.size (grownCap w s.size 0 e))
      (w.drew.alloc (.cells (bytesRow s (grownCap w s.size 0 e)) e ((bytesRow s (grownCap w s.size 0 e)).size, (bytesRow s (grownCap w s.size 0 e)).size + 1))) := by
  have hsh : ∀ (C : Array Value), (w.drew.alloc (.cells C e)).shape? w.heap.size = some (e, C.size) := fun C => by
    have : (w.drew.alloc (.cells C e)).heap[w.heap.size]? = some (.cells C e) := (Pushed.drew w _).new
    unfold World.shape?
    rw [this]
  have hfr : ∀ (C : Array Value) (n : Nat), (w.drew.alloc (.cells C e)).freeze ⟨w.heap.size, n, none⟩ 1 = w.drew.alloc (.cells C e (n, n + 1)) := fun C n => by
    have hm : ∀ (a : Array Go.Obj) (x : Go.Obj) (f : Go.Obj → Go.Obj), (a.push x).modify a.size f = a.push (f x) := by
      intro a x f
      apply Array.ext
      · simp
      · intro i h1 h2
        simp only [Array.getElem_modify, Array.getElem_push]
        by_cases h : a.size = i
        · subst h
          simp
        · have hi : i < a.size := by simp at h1; omega
          simp [h, hi]
    unfold World.freeze
    rw [if_neg (by decide)]
    show ({ w.drew.alloc (.cells C e) with heap := (w.heap.push (.cells C e)).modify w.heap.size _ } : World) = _
    rw [hm]
    rfl
  simp [Conv.stringToBytes, Question.forced, newRow, markStringish, hsh, grownCap, bytesRow]
  exact hfr _ _
theorem val_convert (E : EnvOk c.P env) (hi : Inv c γ st a w) {s t : TypeId} {x : Operand} {y : AV} {st1 : St} (ho : o.op = .convert s t x) (h : stepV env st o.op = some (y, st1)) : Val c γ st st1 a w o y := by
  rw [ho] at h
  simp only [stepV] at h
  cases hs : env.ty s with
  | none => rw [hs] at h; cases h
  | some ts =>
    cases ht : env.ty t with
    | none => rw [hs, ht] at h; cases h
    | some tt =>
      rw [hs, ht, E.A] at h
      simp only [withSt] at h
      have S := E.tyOk hs
      have T := E.tyOk ht
      cases hv : convV realAr ts tt (env.ty ts.elem) (env.ty tt.elem) (opd st x) (elems realAr st (opd st x)) with
      | none => rw [hv] at h; cases h
      | some r =>
        rw [hv] at h
        cases h
        have run : ∀ {v w'}, (convert s t (a.eval x)).run c.P w = .ok v w' → (execOp a.eval o).run c.P w = .ok (.value v) w' := by
          intro v w' h
          simp only [execOp, ho, Sem.run_bind, h, Result.andThen_ok, Sem.run_pure]
        unfold convV at hv
        split at hv
        · rename_i k1 k n hk hx
          cases hv
          obtain ⟨e1, _⟩ := opd_s hi hx
          obtain ⟨d, hd, _⟩ := S.und
          refine val_same (y := .s (.int k1 (realAr.wr k1 n))) hi (run (v := .int k1 (realAr.wr k1 n)) ?_) (flow_s trivial)
          rw [e1]
          have hu := T.kint hk
          simp [convert, run_underlying hd, run_underlying hu, Conv.intToInt, realAr]
        · rename_i n hk hx
          cases hv
          obtain ⟨e1, _⟩ := opd_s hi hx
          obtain ⟨d, hd, _⟩ := S.und
          refine val_same hi (run (v := .string n) ?_) (flow_s trivial)
          rw [e1]
          have hu := T.kstr (by unfold Ty.isStr; rw [hk])
          cases d <;> simp [convert, run_underlying hd, run_underlying hu]
        · rename_i n hk hx
          split at hv
          · rename_i et he
            cases hb : et.isByte with
            | false => rw [hb] at hv; cases hv
            | true =>
              rw [hb] at hv
              cases hv
              obtain ⟨e1, _⟩ := opd_s hi hx
              obtain ⟨d, hd, _⟩ := S.und
              have hu := T.kslice (by unfold Ty.isSlice; rw [hk])
              have B := E.tyOk he
              have hub := B.kint (isByte_k hb)
              have hcv : (convert s t (.string n)).run c.P w = (Conv.stringToBytes tt.elem n).run c.P w := by
                cases d <;> simp [convert, run_underlying hd, run_underlying hu, run_underlying hub]
              rw [run_s2b] at hcv
              obtain ⟨hI, hX⟩ := push_ok hi (Pushed.drew w (.cells (bytesRow n (grownCap w n.size 0 tt.elem)) tt.elem ((bytesRow n (grownCap w n.size 0 tt.elem)).size, (bytesRow n (grownCap w n.size 0 tt.elem)).size + 1))) (.imm _) (.inr (.inr rfl))
              refine ⟨_, _, _, run (by rw [e1]; exact hcv), hI, hX, .free ?_ (by simp) (by simp)⟩
              have hl : (ofBytes n).length = n.size := by simp only [ofBytes, byteAVs, List.length_map, Array.length_toList]; rfl
              simp only [R, V, D]
              refine ⟨_, _, by rw [hl], by rw [hl]; exact grownCap_ge w n.size 0 tt.elem, .inr ⟨w.heap.size, 0, _, rfl, set_new .., El.dn _ _ ?_⟩⟩
              intro j z hz
              obtain ⟨vs, h1, h2, h3⟩ := El_bytes (γ.set w.heap.size (.imm (.cells (bytesRow n (grownCap w n.size 0 tt.elem)) tt.elem ((bytesRow n (grownCap w n.size 0 tt.elem)).size, (bytesRow n (grownCap w n.size 0 tt.elem)).size + 1)))).cls n j z hz
              refine ⟨vs, h1, h2, fun i v e => ?_⟩
              have := h3 i v e
              unfold bytesRow
              rw [Array.getElem?_append_left]
              · simpa [byteCells] using this
              · by_cases q : 0 + j * 1 + i < (byteCells n).toArray.size
                · simpa [byteCells] using q
                · rw [Array.getElem?_eq_none (by omega)] at this; cases this
          · cases hv
        · rename_i hk _
          split at hv
          · rename_i et z l he hl
            cases hb : et.isByte && ts.isSlice with
            | false => rw [hb] at hv; cases hv
            | true =>
              rw [hb] at hv
              simp only [cond_true] at hv
              rw [Bool.and_eq_true] at hb
              split at hv
              · rename_i bs hbs
                cases hv
                obtain ⟨ad, cap, e1, e2⟩ := elems_heap hi hl
                have hu := S.kslice hb.2
                have hub := (E.tyOk he).kint (isByte_k hb.1)
                have hd := T.kstr (by unfold Ty.isStr; rw [hk])
                -- the numbers
                have hns : ∃ ns : List Int, ns.length = l.length ∧ bs = ns.map (fun n => UInt8.ofNat n.toNat) ∧ ∀ j, j < ns.length → l[j]? = some (.s (.int .u8 (ns.getD j 0))) := by
                  clear e1 e2 hl
                  induction l generalizing bs with
                  | nil => exact ⟨[], rfl, by simpa [bytesOf] using hbs.symm, by simp⟩
                  | cons q l ih =>
                    obtain ⟨n, rfl, _⟩ := bytesOf_ok _ _ hbs 0 q rfl
                    simp only [bytesOf] at hbs
                    cases hq : bytesOf l with
                    | none => rw [hq] at hbs; cases hbs
                    | some bs' =>
                      rw [hq] at hbs
                      cases hbs
                      obtain ⟨ns, i1, i2, i3⟩ := ih bs' hq
                      refine ⟨n :: ns, by simp [i1], by simp [i2], fun j hj => ?_⟩
                      cases j with
                      | zero => simp
                      | succ j => simpa using i3 j (by simpa using hj)
                obtain ⟨ns, i1, i2, i3⟩ := hns
                rw [← i1] at e1
                have := run_bytes_back (P := c.P) w s t ts.elem hu hub hd (ad := ad) (cap := cap) (ns := ns) (by
                  rcases e2 with rfl | ⟨b, off, ob, k1, k2, k3⟩
                  · left; exact List.eq_nil_of_length_eq_zero (by simpa using i1)
                  · right
                    refine ⟨b, off, k1, fun j hj => ?_⟩
                    obtain ⟨vs, m1, m2, cs, el, fz, m3, m4⟩ := Dn_get _ k3 j _ (i3 j hj)
                    simp only [D] at m1
                    obtain ⟨rfl, _⟩ := m1
                    have hz : z = 1 := by simpa using m2.symm
                    subst hz
                    rw [m3] at k2
                    rw [cell_of k2]
                    have := m4 0 _ rfl
                    simpa using this)
                rw [i2]
                exact val_same hi (run (by rw [e1]; exact this)) (flow_s trivial)
              · cases hv
          · cases hv
        · cases hv
end
end Go.Va
