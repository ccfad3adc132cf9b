/- The verified abstract interpreter, a part of it: no statement of its own. -/
import Derived.Test.YtmklimlepgiffabVa11
set_option linter.unusedVariables false
set_option linter.unusedSimpArgs false
set_option linter.unusedVariables false
namespace Go.Va

def isAggD : TypeDesc → Bool
  | .struct _ | .array _ _ => true
  | _ => false
/-- a constant zero -/
def zc : AV → Value → Bool
  | .s (.bool a), .bool b => a == b
  | .s (.int j a), .int k b => kindEq j k && a == b
  | .s (.string a), .string b => a.data.isEmpty && b.data.isEmpty
  | .s (.pointer none), .pointer none => true
  | .s .nilIface, .nilIface => true
  | .s .nilFunc, .nilFunc => true
  | .s (.map none), .map none => true
  | .sl _ [] .full, .slice none 0 0 => true
  | _, _ => false
def zl : List AV → List Value → Bool
  | [], [] => true
  | x :: xs, v :: vs => zc x v && zl xs vs
  | _, _ => false
def zChk (ty : Ty) : Option Value → Bool
  | some (.agg cs) => ty.isAgg && zl ty.zero cs.toList
  | some v => !ty.isAgg && zl ty.zero [v]
  | none => false
def fChk (P : Program) : List (Option (Nat × Nat)) → List Field → Bool
  | [], [] => true
  | o :: os, f :: fs => (match P.info? f.type with
      | some i => (match o with | some (off, sz) => f.offset == off && i.size == sz && sz != 0 | none => true)
      | none => false) && fChk P os fs
  | _, _ => false
def tkOk : Option TypeDesc → TK → Bool
  | some .bool, .bool => true
  | some (.int _), .int _ => true
  | some .string, .str => true
  | _, _ => false
def sChk (P : Program) : Nat → List TK → List Field → Bool
  | _, [], [] => true
  | n, k :: ks, f :: fs => f.name != "_" && f.offset == n && tkOk (P.underlying f.type) k && sChk P (n + 1) ks fs
  | _, _, _ => false
def TK.nil : List TK → Bool
  | [] => true
  | _ => false
def kChk (P : Program) (t : Nat) (ty : Ty) (cmp : Bool) : TypeDesc → Bool
  | .bool => match ty.k with | .bool => true | _ => false
  | .int k => match ty.k with | .int j => kindEq j k && cmp | _ => false
  | .string => match ty.k with | .str => true | _ => false
  | .interface _ => match ty.k with | .iface => true | _ => false
  | .pointer _ => match ty.k with | .ptr => true | _ => false
  | .slice e => match ty.k with | .slice => e == ty.elem | _ => false
  | .func .. => match ty.k with | .fn => true | _ => false
  | .struct fs => match ty.k with
    | .struct => fChk P ty.offs fs.toList && (TK.nil ty.eq || (sChk P 0 ty.eq fs.toList && !P.stoodInHeld t && !P.eqGuardType P.depth t))
    | _ => false
  | .map _ _ => match ty.k with | .map => true | _ => false
  | .array _ _ => false
  | _ => match ty.k with | .other => true | _ => false
def tyChk (P : Program) (t : Nat) (ty : Ty) : Bool :=
  match P.info? t, P.underlying t with
  | some i, some d => i.size == ty.size && i.bytes == ty.bytes && ty.zero.length == ty.size && zChk ty i.zero && kChk P t ty i.comparable d && (TK.nil ty.eq || ty.isAgg) && (ty.isAgg || ty.offs.isEmpty)
  | _, _ => false

structure EnvOk (P : Program) (env : Env) : Prop where
  mixed : P.follows .mixedOrders = true
  A : env.A = realAr
  fn : ∀ f fn, env.fn f = some fn → P.funcs[f]? = some fn ∧ (fn.name == "runtime.NumGoroutine") = false
  ty : ∀ t ty, env.ty t = some ty → tyChk P t ty = true

theorem kindEq_t {j k : IntKind} (h : kindEq j k = true) : j = k := by
  cases j <;> cases k <;> first | rfl | cases h
structure TyOk (P : Program) (t : Nat) (ty : Ty) : Prop where
  info : ∃ i, P.info? t = some i ∧ i.size = ty.size ∧ i.bytes = ty.bytes ∧ (∀ k, ty.k = .int k → i.comparable = true) ∧ (TK.nil ty.eq = false → ty.isAgg = true) ∧ ∃ z, i.zero = some z ∧ zChk ty (some z) = true
  und : ∃ d, P.underlying t = some d ∧ isAggD d = ty.isAgg ∧ ∃ cmp, kChk P t ty cmp d = true
  zlen : ty.zero.length = ty.size
  offs : ty.isAgg = true ∨ ty.offs = []
theorem tyOk_of {P : Program} {t : Nat} {ty : Ty} (h : tyChk P t ty = true) : TyOk P t ty := by
  unfold tyChk at h
  cases hi : P.info? t with
  | none => rw [hi] at h; cases h
  | some i =>
    cases hu : P.underlying t with
    | none => rw [hi, hu] at h; cases h
    | some d =>
      rw [hi, hu] at h
      simp only [Bool.and_eq_true, beq_iff_eq] at h
      obtain ⟨⟨⟨⟨⟨⟨h1, h2⟩, h3⟩, h4⟩, h5⟩, h6⟩, h7⟩ := h
      have hagg : isAggD d = ty.isAgg := by
        unfold Ty.isAgg
        cases d <;> cases hk : ty.k <;> simp_all [kChk, isAggD]
      refine ⟨⟨i, hi, h1, h2, ?_, ?_, ?_⟩, ⟨d, hu, hagg, i.comparable, h5⟩, h3, by simpa using h7⟩
      · intro k hk
        cases d <;> simp_all [kChk]
      · intro he; rw [he] at h6; simpa using h6
      · cases hz : i.zero with
        | none => rw [hz] at h4; cases h4
        | some z => exact ⟨z, rfl, by rw [hz] at h4; exact h4⟩
theorem EnvOk.tyOk {P : Program} {env : Env} (E : EnvOk P env) {t : Nat} {ty : Ty} (h : env.ty t = some ty) : TyOk P t ty := tyOk_of (E.ty t ty h)

theorem elemOf_some {env : Env} {t : Nat} {e : Ty} (h : env.elemOf t = some e) : ∃ ty, env.ty t = some ty ∧ ty.isSlice = true ∧ env.ty ty.elem = some e := by
  unfold Env.elemOf at h
  cases ht : env.ty t with
  | none => rw [ht] at h; cases h
  | some ty =>
    rw [ht] at h
    cases hs : ty.isSlice with
    | false => simp only [hs, cond_false] at h; cases h
    | true => simp only [hs, cond_true] at h; exact ⟨ty, rfl, hs, h⟩
section
variable {P : Program} {t : Nat} {ty : Ty}
theorem TyOk.kslice (h : TyOk P t ty) (hk : ty.isSlice = true) : P.underlying t = some (.slice ty.elem) := by
  obtain ⟨d, hu, _, cmp, hc⟩ := h.und
  unfold Ty.isSlice at hk
  rw [hu]
  cases d <;> cases hk' : ty.k <;> simp_all [kChk]
theorem TyOk.kstr (h : TyOk P t ty) (hk : ty.isStr = true) : P.underlying t = some .string := by
  obtain ⟨d, hu, _, cmp, hc⟩ := h.und
  unfold Ty.isStr at hk
  rw [hu]
  cases d <;> cases hk' : ty.k <;> simp_all [kChk]
theorem TyOk.kbool (h : TyOk P t ty) (hk : ty.isBool = true) : P.underlying t = some .bool := by
  obtain ⟨d, hu, _, cmp, hc⟩ := h.und
  unfold Ty.isBool at hk
  rw [hu]
  cases d <;> cases hk' : ty.k <;> simp_all [kChk]
theorem TyOk.kint (h : TyOk P t ty) {k : IntKind} (hk : ty.k = .int k) : P.underlying t = some (.int k) := by
  obtain ⟨d, hu, _, cmp, hc⟩ := h.und
  rw [hu]
  cases d <;> simp_all [kChk]
  exact (kindEq_t hc.1).symm
theorem TyOk.kptr (h : TyOk P t ty) (hk : ty.isPtr = true) : ∃ e, P.underlying t = some (.pointer e) := by
  obtain ⟨d, hu, _, cmp, hc⟩ := h.und
  unfold Ty.isPtr at hk
  rw [hu]
  cases d <;> cases hk' : ty.k <;> simp_all [kChk]
theorem TyOk.kiface (h : TyOk P t ty) (hk : ty.isIface = true) : ∃ e, P.underlying t = some (.interface e) := by
  obtain ⟨d, hu, _, cmp, hc⟩ := h.und
  unfold Ty.isIface at hk
  rw [hu]
  cases d <;> cases hk' : ty.k <;> simp_all [kChk]
theorem TyOk.kstruct (h : TyOk P t ty) (hk : ty.isAgg = true) : ∃ fs, P.underlying t = some (.struct fs) ∧ fChk P ty.offs fs.toList = true ∧ (TK.nil ty.eq = false → sChk P 0 ty.eq fs.toList = true ∧ P.stoodInHeld t = false ∧ P.eqGuardType P.depth t = false) := by
  obtain ⟨d, hu, _, cmp, hc⟩ := h.und
  unfold Ty.isAgg at hk
  rw [hu]
  cases d <;> cases hk' : ty.k <;> simp_all [kChk]
  intro he
  have hc2 := hc.2
  rw [he] at hc2
  simpa [and_assoc] using hc2
theorem TyOk.plain (h : TyOk P t ty) (hk : ty.plainK = true) : ∃ d, P.underlying t = some d ∧ ∀ ms, d ≠ .interface ms := by
  obtain ⟨d, hu, _, cmp, hc⟩ := h.und
  refine ⟨d, hu, ?_⟩
  rintro ms rfl
  unfold Ty.plainK at hk
  cases hk' : ty.k <;> simp_all [kChk]
theorem TyOk.elem_not (h : TyOk P t ty) (hk : ty.isAgg = false) : ∃ d, P.underlying t = some d ∧ isAggD d = false := by
  obtain ⟨d, hu, ha, _⟩ := h.und
  exact ⟨d, hu, ha.trans hk⟩

theorem run_typeInfo' (h : TyOk P t ty) (w : World) : ∃ i, (typeInfo t).run P w = .ok i w ∧ i.size = ty.size ∧ i.bytes = ty.bytes := by
  obtain ⟨i, hi, h1, h2, _⟩ := h.info
  exact ⟨i, by simp [typeInfo, hi], h1, h2⟩
theorem run_sizeOf' (h : TyOk P t ty) (w : World) : (sizeOf t).run P w = .ok ty.size w := by
  obtain ⟨i, hi, h1, h2, _⟩ := h.info
  simp [sizeOf, typeInfo, hi, h1]
theorem run_isAgg' (h : TyOk P t ty) (w : World) : (isAgg t).run P w = .ok ty.isAgg w := by
  obtain ⟨d, hu, ha, _⟩ := h.und
  simp only [isAgg, Sem.run_bind, run_underlying hu, Result.andThen_ok]
  cases d <;> simp_all [isAggD]
/-- the zero value and its cells -/
theorem run_zero' (h : TyOk P t ty) (w : World) : ∃ z, (zeroValue t).run P w = .ok z w ∧ zChk ty (some z) = true ∧ zl ty.zero z.cells.toList = true := by
  obtain ⟨i, hi, h1, h2, _, _, z, hz, hc⟩ := h.info
  refine ⟨z, by simp [zeroValue, typeInfo, hi, hz], hc, ?_⟩
  unfold zChk at hc
  cases z <;> simp_all [Value.cells]
end

theorem EnvOk.elem {P : Program} {env : Env} (E : EnvOk P env) {t : Nat} {te : Ty} (h : env.elemOf t = some te) : ∃ e, P.underlying t = some (.slice e) ∧ TyOk P e te := by
  obtain ⟨ty, h1, h2, h3⟩ := elemOf_some h
  exact ⟨ty.elem, (E.tyOk h1).kslice h2, E.tyOk h3⟩
theorem zl_len : ∀ (xs : List AV) (vs : List Value), zl xs vs = true → vs.length = xs.length
  | [], [], _ => rfl
  | [], _ :: _, h => by simp [zl] at h
  | _ :: _, [], h => by simp [zl] at h
  | x :: xs, v :: vs, h => by
    simp only [zl, Bool.and_eq_true] at h
    simp [zl_len xs vs h.2]
theorem bytes_empty {a : ByteArray} (h : a.data.isEmpty = true) : a = ⟨#[]⟩ := by
  cases a
  simp at h
  subst h
  rfl
theorem zc_one {x : AV} {v : Value} (h : zc x v = true) : one v := by
  unfold zc at h
  split at h <;> first | trivial | cases h
theorem zc_ok {x : AV} {v : Value} (h : zc x v = true) (γ : Gh) (w : World) (l : Loc) : R γ w l x v := by
  unfold zc at h
  split at h
  · simp at h; subst h; simp [R, one]
  · simp only [Bool.and_eq_true, beq_iff_eq] at h
    obtain ⟨h1, h2⟩ := h
    have := kindEq_t h1
    subst this h2
    simp [R, one]
  · simp only [Bool.and_eq_true] at h
    rw [bytes_empty h.1, bytes_empty h.2]
    simp [R, one]
  · simp [R, one]
  · simp [R, one]
  · simp [R, one]
  · simp [R, one]
  · simp [R]
  · cases h
theorem zl_ok (γ : Gh) (w : World) : ∀ (xs : List AV) (vs : List Value) (l : Loc) (n : Nat), zl xs vs = true → Rl γ w l n xs vs
  | [], [], _, _, _ => by simp [Rl]
  | [], _ :: _, _, _, h => by simp [zl] at h
  | _ :: _, [], _, _, h => by simp [zl] at h
  | x :: xs, v :: vs, l, n, h => by
    simp only [zl, Bool.and_eq_true] at h
    simp only [Rl]
    exact ⟨v, vs, rfl, zc_ok h.1 γ w _, zl_ok γ w xs vs l (n + 1) h.2⟩
theorem zl_one : ∀ (xs : List AV) (vs : List Value), zl xs vs = true → ∀ v ∈ vs, one v
  | [], [], _ => by simp
  | [], _ :: _, h => by simp [zl] at h
  | _ :: _, [], h => by simp [zl] at h
  | x :: xs, v :: vs, h => by
    simp only [zl, Bool.and_eq_true] at h
    intro u hu
    rcases List.mem_cons.1 hu with rfl | hu
    · exact zc_one h.1
    · exact zl_one xs vs h.2 u hu
end Go.Va
set_option linter.unusedVariables false
namespace Go.Va

/-- An operation yields v, which is said to be y. -/
def Val (c : Cx) (γ : Gh) (st st1 : St) (a : Act) (w : World) (o : Oper) (y : AV) : Prop :=
  ∃ v w1 γ1, (execOp a.eval o).run c.P w = .ok (.value v) w1 ∧ Inv c γ1 st1 a w1 ∧ Ext γ st w γ1 st1 w1 ∧ Flow γ1 st1 a w1 0 y v

theorem Flow.free {γ : Gh} {st : St} {a : Act} {w : World} {k : Nat} {x : AV} {v : Value} (h : R γ w (lim k) x v) (h1 : ∀ z h lo len, x ≠ .al z h lo len) (h2 : ∀ h i off, x ≠ .ep h i off) : Flow γ st a w k x v :=
  ⟨h, fun _ _ _ _ e => (h1 _ _ _ _ e).elim, fun _ _ _ e => (h2 _ _ _ e).elim⟩
theorem flow_s {γ : Gh} {st : St} {a : Act} {w : World} {k : Nat} {v : Value} (h : one v) : Flow γ st a w k (.s v) v :=
  .free (by simp only [R]; exact ⟨trivial, h⟩) (by simp) (by simp)
section
variable {c : Cx} {γ : Gh} {st : St} {a : Act} {w : World}
theorem opd_s (hi : Inv c γ st a w) {x : Operand} {v : Value} (h : opd st x = .s v) : a.eval x = v ∧ one v := by
  have := opd_ok (l := lim 0) hi x (by rw [h]; rfl)
  rw [h] at this
  simpa only [R] using this
theorem opd_nat (hi : Inv c γ st a w) {x : Operand} {n : Nat} (h : natOf (opd st x) = some n) : ∃ k, a.eval x = .int k (n : Int) := by
  unfold natOf at h
  split at h
  · rename_i k m e
    cases h
    exact ⟨k, (opd_s hi e).1⟩
  · cases h
theorem opd_bool (hi : Inv c γ st a w) {x : Operand} {b : Bool} (h : boolOf (opd st x) = some b) : a.eval x = .bool b := by
  unfold boolOf at h
  split at h
  · rename_i b' e
    cases h
    exact (opd_s hi e).1
  · cases h

/-! ### A new block -/
def Gh.set (γ : Gh) (b : Nat) (k : Cls) : Gh := ⟨fun x => if x = b then k else γ.cls x, γ.ob⟩
/-- w' is w with a block more (and perhaps more draws) -/
structure Pushed (w : World) (o : Go.Obj) (w' : World) : Prop where
  heap : w'.heap = w.heap.push o
  os : w'.os = w.os
  tape : w'.tape = w.tape
  out : w'.output = w.output
theorem Pushed.old {w w' : World} {o : Go.Obj} (h : Pushed w o w') {b : Nat} (hb : b < w.heap.size) : w'.heap[b]? = w.heap[b]? := by
  rw [h.heap, Array.getElem?_push]
  simp [Nat.ne_of_lt hb]
theorem Pushed.new {w w' : World} {o : Go.Obj} (h : Pushed w o w') : w'.heap[w.heap.size]? = some o := by
  rw [h.heap]; simp
theorem Pushed.size {w w' : World} {o : Go.Obj} (h : Pushed w o w') : w'.heap.size = w.heap.size + 1 := by
  rw [h.heap]; simp
theorem Pushed.alloc (w : World) (o : Go.Obj) : Pushed w o (w.alloc o) := ⟨rfl, rfl, rfl, rfl⟩
theorem Pushed.drew (w : World) (o : Go.Obj) : Pushed w o (w.drew.alloc o) := ⟨rfl, rfl, rfl, rfl⟩
theorem cls_lt (hw : Wd c γ w) {b : Nat} (h : γ.cls b ≠ .other) : b < w.heap.size := by
  by_cases k : b < w.heap.size
  · exact k
  · exact (h (hw.new b (by omega))).elim
theorem set_old (hw : Wd c γ w) {b : Nat} {k q : Cls} (h : γ.cls b = q) (hq : q ≠ .other) : (γ.set w.heap.size k).cls b = q := by
  have := cls_lt hw (b := b) (by rw [h]; exact hq)
  simp only [Gh.set]
  rw [if_neg (by omega), h]
theorem set_new (b : Nat) (k : Cls) : (γ.set b k).cls b = k := by simp [Gh.set]
theorem set_keeps (hw : Wd c γ w) {w' : World} {o : Go.Obj} (hp : Pushed w o w') (k : Cls) (l : Loc) : Keeps γ (γ.set w.heap.size k) w w' l l where
  imm b o e := set_old hw e (by simp)
  ro b o e := set_old hw e (by simp)
  own b q e := ⟨set_old hw e (by simp), hp.old (cls_lt hw (by rw [e]; simp))⟩
  ob i b e := e
theorem push_ok (hi : Inv c γ st a w) {w' : World} {o : Go.Obj} (hp : Pushed w o w') (k : Cls) (hk : (∃ l, k = .own l) ∨ k = .other ∨ k = .imm o) :
    Inv c (γ.set w.heap.size k) st a w' ∧ Ext γ st w (γ.set w.heap.size k) st w' := by
  have hw := hi.wd
  have keep : ∀ l x v, R γ w l x v → R (γ.set w.heap.size k) w' l x v := fun l x v h => R_keep x (set_keeps hw hp k l) v h
  have obk : ∀ {i b}, γ.ob i = some b → b < w.heap.size := fun {i b} e => cls_lt hw (by rw [hi.hp.back i b e]; simp)
  have hV : ∀ h, homeGet st h ≠ .unk → homeVal (γ.set w.heap.size k) a w' h = homeVal γ a w h := by
    intro h _
    cases h with
    | slot => rfl
    | cell i off =>
      simp only [homeVal, Gh.set]
      cases hb : γ.ob i with
      | none => rfl
      | some b => simp only [Option.bind_some, World.cell?]; rw [hp.old (obk hb)]
  have hown : ∀ {h}, (homeGet st h).owner = true → homeGet st h ≠ .unk := fun {h} e k => by rw [k] at e; cases e
  refine ⟨⟨⟨?_, ?_, ?_, ?_, ?_, ?_, ?_⟩, ⟨?_, hi.hp.fresh, ?_, hi.hp.k⟩, ⟨?_, ?_, ?_, hi.fm.n, hi.fm.defers⟩⟩, ⟨?_, ?_, ?_, ?_, ?_, rfl, fun _ _ => rfl⟩⟩
  · intro b o' e
    by_cases hb : b = w.heap.size
    · subst hb
      rw [set_new] at e
      rcases hk with ⟨l, rfl⟩ | rfl | rfl
      · rcases e with e | e <;> cases e
      · rcases e with e | e <;> cases e
      · rcases e with e | e
        · injection e with e; rw [← e]; exact hp.new
        · cases e
    · simp only [Gh.set, if_neg hb] at e
      have h1 := hw.still b o' e
      rw [hp.old (cls_lt hw (by rcases e with e | e <;> rw [e] <;> simp))]
      exact h1
  · intro b hb
    obtain ⟨o', e1, e2⟩ := hw.low b hb
    exact ⟨o', e1, set_old hw e2 (by simp)⟩
  · intro b hb
    rw [hp.size] at hb
    simp only [Gh.set]
    rw [if_neg (by omega)]
    exact hw.new b (by omega)
  · rw [hp.size]; exact Nat.le_succ_of_le hw.size
  · rw [hp.os]; exact hw.os
  · rw [hp.tape]; exact hw.tape
  · rw [hp.out]; exact hw.out
  · intro i o' e
    obtain ⟨b, cs, el, h1, h2, h3, h4, hbe, h5⟩ := hi.hp.obj i o' e
    refine ⟨b, cs, el, h1, set_old hw h2 (by simp), by rw [hp.old (obk h1)]; exact h3, h4, hbe, fun j x hx => ?_⟩
    obtain ⟨v, k1, k2, k3⟩ := h5 j x hx
    exact ⟨v, k1, k2, keep _ _ _ k3⟩
  · intro i b e
    exact set_old hw (hi.hp.back i b e) (by simp)
  · exact fun t => keep _ _ _ (hi.fm.val t)
  · intro t z h lo len e
    obtain ⟨k1, k2⟩ := hi.fm.al t z h lo len e
    rw [hV h (hown k1)]
    exact ⟨k1, k2⟩
  · intro t h i off e
    obtain ⟨k1, k2⟩ := hi.fm.ep t h i off e
    rw [hV h (hown k1)]
    exact ⟨k1, k2⟩
  · exact fun b o e => set_old hw e (by simp)
  · exact fun b o e => set_old hw e (by simp)
  · intro b o' e
    by_cases hb : b = w.heap.size
    · subst hb
      rw [set_new] at e
      rcases hk with ⟨l, rfl⟩ | rfl | rfl <;> cases e
    · simpa only [Gh.set, if_neg hb] using e
  · intro b hb e
    refine ⟨?_, hp.old hb⟩
    simp only [Gh.set]
    rw [if_neg (by omega)]
    exact e
  · rw [hp.size]; omega
end
end Go.Va
