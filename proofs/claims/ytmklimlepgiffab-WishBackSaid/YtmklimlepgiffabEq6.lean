/- The functions that the statement reaches, by equations: no statement of its own. -/
import Derived.Test.YtmklimlepgiffabEq5
set_option linter.unusedVariables false
set_option linter.unusedSimpArgs false
set_option linter.unusedSectionVars false
namespace Go.Va
open Go.Proofs
set_option maxRecDepth 100000
theorem fn_all : fnT.Forall (fun f fn => Try.prog.funcs[f]? = some fn ∧ (fn.name == "runtime.NumGoroutine") = false) := by
  unfold fnT
  simp only [Tr.Forall]
  and_intros <;> first | trivial | kernel_rfl
theorem env_ok : EnvOk Try.prog (envV realAr) where
  A := rfl
  fn f fn h := Tr.get_of fn_all h
  ty t ty h := Tr.all_get (p := fun t ty => tyChk Try.prog t ty) (by kernel_rfl) h
  mixed := by kernel_rfl
theorem bytes_of {P : Program} {t e : Nat} {y : AV} (h : ArgWf P t y) (hu : P.underlying t = some (.slice e)) (he : P.underlying e = some (.int .u8)) (hc : P.cellsOf e = 1) : ∃ bs : List UInt8, y = .sl 1 (bl bs) .imm ∧ bs.length ≤ 9223372036854775807 := by
  obtain ⟨ys, rfl, hl, hy⟩ := arg_slice h hu
  have key : ∀ y, ArgWf P e y → ∃ b : UInt8, y = .s (.int .u8 (.ofNat b.toNat)) ∧ True := by
    intro y hy
    obtain ⟨n, rfl, hw⟩ := arg_int hy he
    have hn : 0 ≤ n ∧ n ≤ 255 := by
      simpa [Lit.wf, IntKind.min, IntKind.max, IntKind.bits, IntKind.signed] using hw
    refine ⟨UInt8.ofNat n.toNat, ?_, trivial⟩
    have : (UInt8.ofNat n.toNat).toNat = n.toNat := by
      simp
      omega
    rw [this]
    congr 2
    exact (Int.toNat_of_nonneg hn.1).symm
  obtain ⟨bs, rfl, -⟩ := list_map key hy
  rw [hc]
  exact ⟨bs, rfl, by simpa [maxLen] using hl⟩
theorem ins_of {P : Program} {t a b : Nat} {fs : Array Field} {y : AV} (h : ArgWf P t y) (hu : P.underlying t = some (.struct fs)) (hfs : fs.toList.map (fun f => (f.offset, f.type)) = [(0, a), (1, b), (2, b)]) (ha : P.underlying a = some (.int .i64)) (hb : P.underlying b = some .string)
    (hca : P.cellsOf a = 1) (hcb : P.cellsOf b = 1) (hct : P.cellsOf t = 3) : ∃ i : InsT, y = insA i ∧ (i.2.1.size ≤ 9223372036854775807 ∧ i.2.2.size ≤ 9223372036854775807) := by
  obtain ⟨xs, rfl, hl, hf⟩ := arg_struct h hu
  rw [hct] at hl
  match xs, hl with
  | [x, y, z], _ =>
    have hg : ∀ p ∈ fs.toList.map (fun f => (f.offset, f.type)), Wf P p.2 (([x, y, z].drop p.1).take (P.cellsOf p.2)) := by
      intro p hp
      obtain ⟨f, hf1, rfl⟩ := List.mem_map.1 hp
      exact hf f hf1
    rw [hfs] at hg
    have h0 := hg (0, a) (by simp)
    have h1 := hg (1, b) (by simp)
    have h2 := hg (2, b) (by simp)
    simp only [hca, hcb] at h0 h1 h2
    obtain ⟨o, e0, -⟩ := Wf_int h0 ha
    obtain ⟨s, e1, k1⟩ := Wf_str h1 hb
    obtain ⟨t, e2, k2⟩ := Wf_str h2 hb
    simp at e0 e1 e2
    subst e0 e1 e2
    exact ⟨(o, s, t), rfl, k1, k2⟩
theorem insl_of {P : Program} {t e a b : Nat} {fs : Array Field} {y : AV} (h : ArgWf P t y) (ht : P.underlying t = some (.slice e)) (hu : P.underlying e = some (.struct fs)) (hfs : fs.toList.map (fun f => (f.offset, f.type)) = [(0, a), (1, b), (2, b)]) (ha : P.underlying a = some (.int .i64)) (hb : P.underlying b = some .string)
    (hca : P.cellsOf a = 1) (hcb : P.cellsOf b = 1) (hct : P.cellsOf e = 3) : ∃ is : List InsT, y = .sl 3 (is.map insA) .imm ∧ is.length ≤ 9223372036854775807 := by
  obtain ⟨ys, rfl, hl, hy⟩ := arg_slice h ht
  obtain ⟨is, rfl, -⟩ := list_map (fun y h => ins_of h hu hfs ha hb hca hcb hct) hy
  rw [hct]
  exact ⟨is, rfl, by simpa [maxLen] using hl⟩
end Go.Va
namespace Go.Va
open Go.Proofs
set_option maxRecDepth 100000
theorem ext_ok (W : World) : ExtOk { P := Try.prog, w0 := W } (envV realAr) := by
  intro f e he E hE ys O r h
  have key : extT.Forall (fun f e => ∀ ys O r, (e ys O).run E = some r → TaskOk { P := Try.prog, w0 := W } (.call f ys O) r) := by
    unfold extT
    simp only [Tr.Forall]
    exact ⟨fun ys O r h => check_ok hE h, trivial, trivial⟩
  exact Tr.get_of key he ys O r h
end Go.Va
