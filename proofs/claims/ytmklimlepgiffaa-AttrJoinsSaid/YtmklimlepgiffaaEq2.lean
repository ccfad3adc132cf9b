/- The functions that the statement reaches, by equations: no statement of its own. -/
import Derived.Test.YtmklimlepgiffaaEq1
import Derived.WalkKit
import Derived.ProofKit
set_option linter.unusedVariables false
set_option linter.unusedSimpArgs false
set_option linter.unusedSectionVars false
namespace Go.Va
open Go.Proofs
set_option maxRecDepth 100000
set_option maxHeartbeats 4000000
theorem eq_s0 {P : Program} {w : World} {t e : TypeId} {n m : Nat} (d : Nat) (hu : P.underlying t = some (.slice e)) : (Op.equalIn (d + 1) t (.slice none n m) (.slice none 0 0)).run P w = .ok true w := by
  rw [Op.equalIn]; simp only [Sem.run_bind, run_underlying hu, Result.andThen_ok, Sem.run_pure, Option.isNone]
theorem clone_nil (w : World) (n cap : Nat) : Calls Try.prog 106 #[.slice none n cap] w fun e w' => e = .returned (.slice none 0 0) ∧ w' = w := by
  go_enter Try.func106, Try.ntmps106
  go_wp2
  rw [run_eql_of (x := .slice none n cap) (r := true) (by trivial) (equal_of fun d => eq_s0 _ Try.underlying59)]
  go_wp2
  go_ret
  exact ⟨rfl, rfl⟩
theorem clone_emp (w : World) (a : Addr) (cap : Nat) : Calls Try.prog 106 #[.slice (some a) 0 cap] w fun e w' => e = .returned (.slice (some ⟨w.heap.size, 0, none⟩) 0 0) ∧ w' = w.alloc (.cells #[] 73 (0, 0)) := by
  go_enter Try.func106, Try.ntmps106
  go_wp2
  rw [run_eql_of (x := .slice (some a) 0 cap) (r := false) (by trivial) (equal_of fun d => eq_sn _ Try.underlying59)]
  go_wp2
  go_ret
  exact ⟨rfl, rfl⟩
end Go.Va
namespace Go.Va.Cl
open Go.Va
open Go.Proofs
set_option maxRecDepth 100000
set_option maxHeartbeats 4000000
theorem eq_clone (A : Ar) (hA : ArOk A) (x : AV) (xs : List AV) (n : Nat) (p : Perm) (hp : p = .ro ∨ p = .imm) (e0 : xs.length = n) (e1 : 0 + n = n) (h1 : A.fit (Nat.succ n) 40 = true) :
    evl (envV A) (.call 106 [.sl 3 (x :: xs) p] []) = some (.ret (.sl 3 (x :: xs) .full) []) := by
  rcases hp with rfl | rfl
  ·
    rw [evl_fn (envV A) 106 _ _ (fn := Try.f106) (c := bd106) (lv := lvF106) rfl rfl rfl rfl rfl rfl]
    have hnle := hA.nleE; have hneq := hA.neqE
    generalize lpOf (envV A) 106 bd106 = LP
    generalize evl (envV A) = E at e0 e1 h1 ⊢
    obtain ⟨aadd, asub, amul, arem, aquo, awr, ashr, aeq, alt, ale, aseq, aslt, acat, acut, asiz, aat, anle, aneq, afit⟩ := A
    simp only at hnle hneq
    subst hnle hneq
    try simp only at h1
    conv at e0 => lhs; cbv
    conv at e1 => lhs; cbv
    cbv
    rewrite [e0]
    cbv
    rewrite [e1]
    cbv
    rewrite [h1]
    cbv
  ·
    rw [evl_fn (envV A) 106 _ _ (fn := Try.f106) (c := bd106) (lv := lvF106) rfl rfl rfl rfl rfl rfl]
    have hnle := hA.nleE; have hneq := hA.neqE
    generalize lpOf (envV A) 106 bd106 = LP
    generalize evl (envV A) = E at e0 e1 h1 ⊢
    obtain ⟨aadd, asub, amul, arem, aquo, awr, ashr, aeq, alt, ale, aseq, aslt, acat, acut, asiz, aat, anle, aneq, afit⟩ := A
    simp only at hnle hneq
    subst hnle hneq
    try simp only at h1
    conv at e0 => lhs; cbv
    conv at e1 => lhs; cbv
    cbv
    rewrite [e0]
    cbv
    rewrite [e1]
    cbv
    rewrite [h1]
    cbv
theorem fn_all : fnT.Forall (fun f fn => Try.prog.funcs[f]? = some fn ∧ (fn.name == "runtime.NumGoroutine") = false) := by
  unfold fnT
  simp only [Tr.Forall]
  and_intros <;> first | trivial | kernel_rfl
theorem env_ok : EnvOk Try.prog (envV realAr) where
  A := rfl
  fn f fn h := Tr.get_of fn_all h
  ty t ty h := Tr.all_get (p := fun t ty => tyChk Try.prog t ty) (by kernel_rfl) h
  mixed := by kernel_rfl
end Go.Va.Cl
namespace Go.Va
open Go.Proofs
theorem enter_of {P : Program} {f : Nat} {fn : Func} {cd : Code} (hf : P.funcs[f]? = some fn) (hb : fn.body = some cd) (hn : (fn.name == "runtime.NumGoroutine") = false) (us : Array Value) (w : World) : (callFunc f us).run P w = .ok (.enter f us) w := by
  have hn : ¬ fn.name = "runtime.NumGoroutine" := by simpa using hn
  simp [callFunc, hf, hn, hb]
theorem clone_ok {w0 : World} {E : Task → Option Res} {ys : List AV} {O : Seg} {r : Res} (h : (yClone 3 ys O).run E = some r) : TaskOk { P := Try.prog, w0 := w0 } (.call 106 ys O) r := by
  have hent := fun us w => enter_of (P := Try.prog) (f := 106) (fn := Try.f106) (cd := Cl.bd106) Try.func106 rfl (by kernel_rfl) us w
  have emp : ∀ (z : Nat) (p : Perm), (p = .ro ∨ p = .imm) → TaskOk { P := Try.prog, w0 := w0 } (.call 106 [.sl z [] p] []) (.ret (.sl z [] .full) []) := by
    intro z p hp γ w us g
    match us, g.len, g with
    | [u], _, g =>
      have h0 := g.arg 0 _ u rfl rfl
      have hu : ∃ a cap, u = .slice a 0 cap := by
        rcases hp with rfl | rfl
        · simp only [R, V] at h0
          obtain ⟨a, cap, e, _⟩ := h0
          exact ⟨a, cap, e⟩
        · simp only [R, V, D] at h0
          obtain ⟨a, cap, e, _⟩ := h0
          simp at e
          exact ⟨a, cap, e⟩
      obtain ⟨a, cap, rfl⟩ := hu
      refine .inr ⟨hent _ w, ?_⟩
      cases a with
      | none =>
        refine (clone_nil w 0 cap).mono fun e w' he => ?_
        obtain ⟨rfl, rfl⟩ := he
        exact ⟨_, rfl, post_same g (by simp only [R]; exact .inl ⟨trivial, trivial⟩) rfl rfl⟩
      | some a =>
        refine (clone_emp w a cap).mono fun e w' he => ?_
        obtain ⟨rfl, rfl⟩ := he
        have hi : Inv { P := Try.prog, w0 := w0 } γ { n := 0, k := 0, fr := [], O := [] } { tmps := #[], defers := [] } w := ⟨g.wd, g.hp, ⟨fun t => by simp [fget, R], fun t z h lo len e => by simp [fget] at e, fun t h i off e => by simp [fget] at e, rfl, rfl⟩⟩
        obtain ⟨hI, hX⟩ := push_ok hi (Pushed.alloc w (.cells #[] 73 (0, 0))) (.own (lim 0)) (.inl ⟨_, rfl⟩)
        refine ⟨_, rfl, γ.set w.heap.size (.own (lim 0)), hI.wd, hI.hp, hX, ?_, rfl, rfl⟩
        simp only [R]
        right
        exact ⟨w.heap.size, 0, #[], 73, rfl, set_new .., (Pushed.alloc w _).new, by simp, by simp, by simp [Dn]⟩
  have ne : ∀ (x : AV) (xs : List AV) (z : Nat) (p : Perm), (p = .ro ∨ p = .imm) → (Nat.beq z 3 && Nat.ble xs.length 1000000) = true → TaskOk { P := Try.prog, w0 := w0 } (.call 106 [.sl z (x :: xs) p] []) (.ret (.sl 3 (x :: xs) .full) []) := by
    intro x xs z p hp hb
    simp only [Bool.and_eq_true] at hb
    have hz := beq_t hb.1
    have hl := ble_t hb.2
    subst hz
    have := Cl.eq_clone realAr realAr_ok x xs xs.length p hp rfl (Nat.zero_add _) (by rw [realAr_ok.fit]; exact decide_eq_true (by show (xs.length + 1) * 40 ≤ _; omega))
    exact sound Cl.env_ok (fun f e h => by cases h) this
  unfold yClone at h
  split at h
  · cases okR_run h
    exact emp _ _ (.inr rfl)
  · cases okR_run h
    exact emp _ _ (.inl rfl)
  · rename_i z x xs
    cases hb : Nat.beq z 3 && Nat.ble xs.length 1000000 with
    | false => rw [hb] at h; exact (noR_run h).elim
    | true => rw [hb] at h; cases okR_run h; exact ne _ _ _ _ (.inr rfl) hb
  · rename_i z x xs
    cases hb : Nat.beq z 3 && Nat.ble xs.length 1000000 with
    | false => rw [hb] at h; exact (noR_run h).elim
    | true => rw [hb] at h; cases okR_run h; exact ne _ _ _ _ (.inl rfl) hb
  · exact (noR_run h).elim
end Go.Va
