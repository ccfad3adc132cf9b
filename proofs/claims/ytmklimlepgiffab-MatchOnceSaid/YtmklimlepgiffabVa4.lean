/- The verified abstract interpreter, a part of it: no statement of its own. -/
import Derived.Test.YtmklimlepgiffabVa3
import Derived.WalkKit
set_option linter.unusedVariables false
set_option linter.unusedSimpArgs false
set_option linter.unusedVariables false
namespace Go.Va

inductive Base where
  | slot (t : Nat)
  | cell (i off : Nat)
  | limbo (k : Nat)
  deriving DecidableEq
structure Loc where
  base : Base
  path : List Nat
def Loc.sub (l : Loc) (n : Nat) : Loc := ⟨l.base, l.path ++ [n]⟩

/-- What a block is: it never changes (imm), it doesn't while this call runs (ro), it is an object, it belongs to a place, or nothing is said of it. -/
inductive Cls where
  | imm (o : Go.Obj)
  | ro (o : Go.Obj)
  | obj (i : Nat)
  | own (l : Loc)
  | other
structure Gh where
  cls : Nat → Cls
  ob : Nat → Option Nat

def one : Value → Prop
  | .agg _ | .tuple _ => False
  | _ => True
def CellsAt (o : Go.Obj) (off : Nat) (vs : List Value) : Prop := ∃ c e fz, o = .cells c e fz ∧ ∀ j v, vs[j]? = some v → c[off + j]? = some v
def AV.flat : AV → Bool
  | .agg _ => false
  | _ => true

mutual
def D (cls : Nat → Cls) : AV → List Value → Prop
  | .s v, vs => vs = [v] ∧ one v
  | .agg xs, vs => Dl cls xs vs
  | .sl z xs .imm, vs => ∃ a cap, vs = [.slice a xs.length cap] ∧ xs.length ≤ cap ∧ (xs = [] ∨ ∃ b off o, a = some ⟨b, off, none⟩ ∧ cls b = .imm o ∧ Dn cls xs z o off)
  | _, _ => False
def Dl (cls : Nat → Cls) : List AV → List Value → Prop
  | [], vs => vs = []
  | x :: xs, vs => ∃ v vs', vs = v :: vs' ∧ x.flat = true ∧ D cls x [v] ∧ Dl cls xs vs'
def Dn (cls : Nat → Cls) : List AV → Nat → Go.Obj → Nat → Prop
  | [], _, _, _ => True
  | x :: xs, z, o, off => ∃ vs, D cls x vs ∧ vs.length = z ∧ CellsAt o off vs ∧ Dn cls xs z o (off + z)
end

mutual
/-- what is lent, or never changes -/
def V (cls : Nat → Cls) : AV → Value → Prop
  | .s v, v' => v' = v ∧ one v
  | .sl z xs .imm, v' => D cls (.sl z xs .imm) [v']
  | .sl z xs .ro, v' => ∃ a cap, v' = .slice a xs.length cap ∧ xs.length ≤ cap ∧ (xs = [] ∨ ∃ b off o, a = some ⟨b, off, none⟩ ∧ cls b = .ro o ∧ Dn cls xs z o off)
  | .rp false xs, v' => ∃ b off o vs, v' = .pointer (some ⟨b, off, none⟩) ∧ cls b = .imm o ∧ Dl cls xs vs ∧ CellsAt o off vs
  | .rp true xs, v' => ∃ b off o vs, v' = .pointer (some ⟨b, off, none⟩) ∧ cls b = .ro o ∧ Vl cls xs vs ∧ CellsAt o off vs
  | .unk, v' => one v'
  | _, _ => False
def Vl (cls : Nat → Cls) : List AV → List Value → Prop
  | [], vs => vs = []
  | x :: xs, vs => ∃ v vs', vs = v :: vs' ∧ V cls x v ∧ Vl cls xs vs'
end

mutual
def R (γ : Gh) (w : World) : Loc → AV → Value → Prop
  | _, .s v, v' => v' = v ∧ one v
  | l, .agg xs, v' => ∃ cs : Array Value, v' = .agg cs ∧ (∀ u ∈ cs.toList, one u) ∧ Rl γ w l 0 xs cs.toList
  | l, .tup xs, v' => ∃ cs : Array Value, v' = .tuple cs ∧ Rl γ w l 0 xs cs.toList
  | _, .sl z xs .imm, v' => V γ.cls (.sl z xs .imm) v'
  | _, .sl z xs .ro, v' => V γ.cls (.sl z xs .ro) v'
  | l, .sl z xs .full, v' => (xs = [] ∧ v' = .slice none 0 0) ∨ ∃ b cap c e, v' = .slice (some ⟨b, 0, none⟩) xs.length cap ∧ γ.cls b = .own l ∧
      w.heap[b]? = some (.cells c e (0, 0)) ∧ c.size = cap * z ∧ xs.length ≤ cap ∧ Dn γ.cls xs z (.cells c e (0, 0)) 0
  | _, .rp r xs, v' => V γ.cls (.rp r xs) v'
  | _, .ptr i off, v' => ∃ b, γ.ob i = some b ∧ v' = .pointer (some ⟨b, off, none⟩)
  | l, .nb xs, v' => ∃ b cs e, v' = .pointer (some ⟨b, 0, none⟩) ∧ γ.cls b = .own l ∧ w.heap[b]? = some (.cells cs e (0, 0)) ∧ (∀ u ∈ cs.toList, one u) ∧ bldOk e xs.length = true ∧ Rl γ w l 0 xs cs.toList
  | l, .fn f first caps, v' => ∃ fa ca : Array Value, v' = .func (.func f) fa ca ∧ Rl γ w l 0 first fa.toList ∧ Rl γ w l first.length caps ca.toList
  | _, _, _ => True
def Rl (γ : Gh) (w : World) : Loc → Nat → List AV → List Value → Prop
  | _, _, [], vs => vs = []
  | l, n, x :: xs, vs => ∃ v vs', vs = v :: vs' ∧ R γ w (l.sub n) x v ∧ Rl γ w l (n + 1) xs vs'
end

mutual
theorem D_frame {cls cls' : Nat → Cls} (h : ∀ b o, cls b = .imm o → cls' b = .imm o) : ∀ (x : AV) (vs : List Value), D cls x vs → D cls' x vs
  | .s v, vs, hd => hd
  | .agg xs, vs, hd => Dl_frame h xs vs (by simpa only [D] using hd) |> fun q => by simpa only [D] using q
  | .sl z xs .imm, vs, hd => by
    simp only [D] at hd ⊢
    obtain ⟨a, cap, e, hc, hx⟩ := hd
    refine ⟨a, cap, e, hc, hx.imp id ?_⟩
    rintro ⟨b, off, o, ha, hb, hn⟩
    exact ⟨b, off, o, ha, h b o hb, Dn_frame h xs z o off hn⟩
  | .sl z xs .full, vs, hd => by simp only [D] at hd
  | .sl z xs .ro, vs, hd => by simp only [D] at hd
  | .tup _, vs, hd => by simp only [D] at hd
  | .al .., vs, hd => by simp only [D] at hd
  | .rp .., vs, hd => by simp only [D] at hd
  | .ep .., vs, hd => by simp only [D] at hd
  | .ptr .., vs, hd => by simp only [D] at hd
  | .nb _, vs, hd => by simp only [D] at hd
  | .fn .., vs, hd => by simp only [D] at hd
  | .gone, vs, hd => by simp only [D] at hd
  | .unk, vs, hd => by simp only [D] at hd
theorem Dl_frame {cls cls' : Nat → Cls} (h : ∀ b o, cls b = .imm o → cls' b = .imm o) : ∀ (xs : List AV) (vs : List Value), Dl cls xs vs → Dl cls' xs vs
  | [], vs, hd => hd
  | x :: xs, vs, hd => by
    simp only [Dl] at hd ⊢
    obtain ⟨v, vs', e, hf, h1, h2⟩ := hd
    exact ⟨v, vs', e, hf, D_frame h x [v] h1, Dl_frame h xs vs' h2⟩
theorem Dn_frame {cls cls' : Nat → Cls} (h : ∀ b o, cls b = .imm o → cls' b = .imm o) : ∀ (xs : List AV) (z : Nat) (o : Go.Obj) (off : Nat), Dn cls xs z o off → Dn cls' xs z o off
  | [], z, o, off, hd => hd
  | x :: xs, z, o, off, hd => by
    simp only [Dn] at hd ⊢
    obtain ⟨vs, h1, h2, h3, h4⟩ := hd
    exact ⟨vs, D_frame h x vs h1, h2, h3, Dn_frame h xs z o (off + z) h4⟩
end
mutual
theorem V_frame {cls cls' : Nat → Cls} (h : ∀ b o, cls b = .imm o → cls' b = .imm o) (hr : ∀ b o, cls b = .ro o → cls' b = .ro o) : ∀ (x : AV) (v : Value), V cls x v → V cls' x v
  | .s v, _, hd => hd
  | .sl z xs .imm, _, hd => by simp only [V] at hd ⊢; exact D_frame h _ _ hd
  | .sl z xs .ro, _, hd => by
    simp only [V] at hd ⊢
    obtain ⟨a, cap, e, hc, hx⟩ := hd
    refine ⟨a, cap, e, hc, hx.imp id ?_⟩
    rintro ⟨b, off, o, ha, hb, hn⟩
    exact ⟨b, off, o, ha, hr b o hb, Dn_frame h xs z o off hn⟩
  | .rp false xs, _, hd => by
    simp only [V] at hd ⊢
    obtain ⟨b, off, o, vs, e, hb, hl, hc⟩ := hd
    exact ⟨b, off, o, vs, e, h b o hb, Dl_frame h xs vs hl, hc⟩
  | .rp true xs, _, hd => by
    simp only [V] at hd ⊢
    obtain ⟨b, off, o, vs, e, hb, hl, hc⟩ := hd
    exact ⟨b, off, o, vs, e, hr b o hb, Vl_frame h hr xs vs hl, hc⟩
  | .unk, _, hd => by simp only [V] at hd ⊢; exact hd
  | .sl z xs .full, vs, hd => by simp only [V] at hd
  | .agg _, vs, hd => by simp only [V] at hd
  | .tup _, vs, hd => by simp only [V] at hd
  | .al .., vs, hd => by simp only [V] at hd
  | .ep .., vs, hd => by simp only [V] at hd
  | .ptr .., vs, hd => by simp only [V] at hd
  | .nb _, vs, hd => by simp only [V] at hd
  | .fn .., vs, hd => by simp only [V] at hd
  | .gone, vs, hd => by simp only [V] at hd
theorem Vl_frame {cls cls' : Nat → Cls} (h : ∀ b o, cls b = .imm o → cls' b = .imm o) (hr : ∀ b o, cls b = .ro o → cls' b = .ro o) : ∀ (xs : List AV) (vs : List Value), Vl cls xs vs → Vl cls' xs vs
  | [], vs, hd => hd
  | x :: xs, vs, hd => by
    simp only [Vl] at hd ⊢
    obtain ⟨v, vs', e, h1, h2⟩ := hd
    exact ⟨v, vs', e, V_frame h hr x v h1, Vl_frame h hr xs vs' h2⟩
end

/-- What is said of a value at a place l lives on at a place l', in another world, under other names. -/
structure Keeps (γ γ' : Gh) (w w' : World) (l l' : Loc) : Prop where
  imm : ∀ b o, γ.cls b = .imm o → γ'.cls b = .imm o
  ro : ∀ b o, γ.cls b = .ro o → γ'.cls b = .ro o
  own : ∀ b q, γ.cls b = .own ⟨l.base, l.path ++ q⟩ → γ'.cls b = .own ⟨l'.base, l'.path ++ q⟩ ∧ w'.heap[b]? = w.heap[b]?
  ob : ∀ i b, γ.ob i = some b → γ'.ob i = some b
theorem Keeps.sub {γ γ' : Gh} {w w' : World} {l l' : Loc} (h : Keeps γ γ' w w' l l') (n : Nat) : Keeps γ γ' w w' (l.sub n) (l'.sub n) :=
  ⟨h.imm, h.ro, fun b q e => by
    have := h.own b (n :: q) (by simpa [Loc.sub] using e)
    simpa [Loc.sub] using this, h.ob⟩

mutual
theorem R_keep {γ γ' : Gh} {w w' : World} : ∀ (x : AV) {l l' : Loc} (h : Keeps γ γ' w w' l l') (v : Value), R γ w l x v → R γ' w' l' x v
  | .s v, _, _, h, _, hr => by simp only [R] at hr ⊢; exact hr
  | .agg xs, _, _, h, _, hr => by
    simp only [R] at hr ⊢
    obtain ⟨cs, e, ho, hl⟩ := hr
    exact ⟨cs, e, ho, Rl_keep xs h 0 _ hl⟩
  | .tup xs, _, _, h, _, hr => by
    simp only [R] at hr ⊢
    obtain ⟨cs, e, hl⟩ := hr
    exact ⟨cs, e, Rl_keep xs h 0 _ hl⟩
  | .sl z xs .imm, _, _, h, _, hr => by
    simp only [R] at hr ⊢
    exact V_frame h.imm h.ro _ _ hr
  | .sl z xs .ro, _, _, h, _, hr => by
    simp only [R] at hr ⊢
    exact V_frame h.imm h.ro _ _ hr
  | .sl z xs .full, l, l', h, _, hr => by
    simp only [R] at hr ⊢
    refine hr.imp id ?_
    rintro ⟨b, cap, c, e, ev, hb, hh, hs, hl, hn⟩
    obtain ⟨k1, k2⟩ := h.own b [] (by simpa using hb)
    exact ⟨b, cap, c, e, ev, by simpa using k1, k2.trans hh, hs, hl, Dn_frame h.imm xs z _ 0 hn⟩
  | .rp r xs, _, _, h, _, hr => by
    simp only [R] at hr ⊢
    exact V_frame h.imm h.ro _ _ hr
  | .ptr i off, _, _, h, _, hr => by
    simp only [R] at hr ⊢
    obtain ⟨b, hb, e⟩ := hr
    exact ⟨b, h.ob i b hb, e⟩
  | .nb xs, l, l', h, _, hr => by
    simp only [R] at hr ⊢
    obtain ⟨b, cs, e, ev, hb, hh, ho, he, hl⟩ := hr
    obtain ⟨k1, k2⟩ := h.own b [] (by simpa using hb)
    exact ⟨b, cs, e, ev, by simpa using k1, k2.trans hh, ho, he, Rl_keep xs h 0 _ hl⟩
  | .fn f first caps, _, _, h, _, hr => by
    simp only [R] at hr ⊢
    obtain ⟨fa, ca, e, h1, h2⟩ := hr
    exact ⟨fa, ca, e, Rl_keep first h 0 _ h1, Rl_keep caps h _ _ h2⟩
  | .al .., _, _, h, _, hr => by simp only [R]
  | .ep .., _, _, h, _, hr => by simp only [R]
  | .gone, _, _, h, _, hr => by simp only [R]
  | .unk, _, _, h, _, hr => by simp only [R]
theorem Rl_keep {γ γ' : Gh} {w w' : World} : ∀ (xs : List AV) {l l' : Loc} (h : Keeps γ γ' w w' l l') (n : Nat) (vs : List Value), Rl γ w l n xs vs → Rl γ' w' l' n xs vs
  | [], _, _, h, n, vs, hr => by simp only [Rl] at hr ⊢; exact hr
  | x :: xs, _, _, h, n, vs, hr => by
    simp only [Rl] at hr ⊢
    obtain ⟨v, vs', e, h1, h2⟩ := hr
    exact ⟨v, vs', e, R_keep x (h.sub n) v h1, Rl_keep xs h (n + 1) vs' h2⟩
end

/-! ### What owns nothing -/
mutual
def AV.free : AV → Bool
  | .sl _ _ .full => false
  | .nb _ => false
  | .agg xs => freeL xs
  | .tup xs => freeL xs
  | .fn _ a b => freeL a && freeL b
  | _ => true
def freeL : List AV → Bool
  | [] => true
  | x :: xs => x.free && freeL xs
end
/-- what is said of objects by their numbers, under a change of the numbers -/
structure KeepsF (γ γ' : Gh) : Prop where
  imm : ∀ b o, γ.cls b = .imm o → γ'.cls b = .imm o
  ro : ∀ b o, γ.cls b = .ro o → γ'.cls b = .ro o
  ob : ∀ i b, γ.ob i = some b → γ'.ob i = some b
theorem KeepsF.refl (γ : Gh) : KeepsF γ γ := ⟨fun _ _ h => h, fun _ _ h => h, fun _ _ h => h⟩
mutual
theorem R_free {γ γ' : Gh} {w w' : World} (h : KeepsF γ γ') : ∀ (x : AV) {l l' : Loc} (v : Value), x.free = true → R γ w l x v → R γ' w' l' x v
  | .s v, _, _, _, hf, hr => by simp only [R] at hr ⊢; exact hr
  | .agg xs, _, _, _, hf, hr => by
    simp only [AV.free] at hf
    simp only [R] at hr ⊢
    obtain ⟨cs, e, ho, hl⟩ := hr
    exact ⟨cs, e, ho, Rl_free h xs 0 _ hf hl⟩
  | .tup xs, _, _, _, hf, hr => by
    simp only [AV.free] at hf
    simp only [R] at hr ⊢
    obtain ⟨cs, e, hl⟩ := hr
    exact ⟨cs, e, Rl_free h xs 0 _ hf hl⟩
  | .sl z xs .imm, _, _, _, hf, hr => by
    simp only [R] at hr ⊢
    exact V_frame h.imm h.ro _ _ hr
  | .sl z xs .ro, _, _, _, hf, hr => by
    simp only [R] at hr ⊢
    exact V_frame h.imm h.ro _ _ hr
  | .sl z xs .full, _, _, _, hf, hr => by simp [AV.free] at hf
  | .rp r xs, _, _, _, hf, hr => by
    simp only [R] at hr ⊢
    exact V_frame h.imm h.ro _ _ hr
  | .ptr i off, _, _, _, hf, hr => by
    simp only [R] at hr ⊢
    obtain ⟨b, hb, e⟩ := hr
    exact ⟨b, h.ob i b hb, e⟩
  | .nb xs, _, _, _, hf, hr => by simp [AV.free] at hf
  | .fn f first caps, _, _, _, hf, hr => by
    simp only [AV.free, Bool.and_eq_true] at hf
    simp only [R] at hr ⊢
    obtain ⟨fa, ca, e, h1, h2⟩ := hr
    exact ⟨fa, ca, e, Rl_free h first 0 _ hf.1 h1, Rl_free h caps _ _ hf.2 h2⟩
  | .al .., _, _, _, hf, hr => by simp only [R]
  | .ep .., _, _, _, hf, hr => by simp only [R]
  | .gone, _, _, _, hf, hr => by simp only [R]
  | .unk, _, _, _, hf, hr => by simp only [R]
theorem Rl_free {γ γ' : Gh} {w w' : World} (h : KeepsF γ γ') : ∀ (xs : List AV) {l l' : Loc} {n : Nat} (m : Nat) (vs : List Value), freeL xs = true → Rl γ w l n xs vs → Rl γ' w' l' m xs vs
  | [], _, _, _, m, vs, hf, hr => by simp only [Rl] at hr ⊢; exact hr
  | x :: xs, _, _, _, m, vs, hf, hr => by
    simp only [freeL, Bool.and_eq_true] at hf
    simp only [Rl] at hr ⊢
    obtain ⟨v, vs', e, h1, h2⟩ := hr
    exact ⟨v, vs', e, R_free h x v hf.1 h1, Rl_free h xs (m + 1) vs' hf.2 h2⟩
end
end Go.Va
set_option linter.unusedVariables false
namespace Go.Va

theorem blt_t {a b : Nat} (h : Nat.blt a b = true) : a < b := by simpa [Nat.blt_eq] using h
theorem blt_f {a b : Nat} (h : Nat.blt a b = false) : ¬ a < b := fun k => by
  have : Nat.blt a b = true := by simpa [Nat.blt_eq] using k
  rw [this] at h; cases h
theorem beq_t {a b : Nat} (h : Nat.beq a b = true) : a = b := Nat.eq_of_beq_eq_true h
theorem ble_t {a b : Nat} (h : Nat.ble a b = true) : a ≤ b := Nat.le_of_ble_eq_true h
theorem lget_eq {α : Type} : ∀ (l : List α) (i : Nat), lget l i = l[i]?
  | [], i => by simp [lget]
  | x :: l, 0 => by simp [lget]
  | x :: l, i + 1 => by simp [lget, lget_eq l i]
theorem lset_eq {α : Type} : ∀ (l : List α) (i : Nat) (y : α), lset l i y = l.set i y
  | [], i, y => by simp [lset]
  | x :: l, 0, y => by simp [lset]
  | x :: l, i + 1, y => by simp [lset, lset_eq l i y]
theorem fget_cons (t u : Nat) (v : AV) (fr : Fr) : fget ((t, v) :: fr) u = if t = u then v else fget fr u := by
  simp only [fget]
  by_cases h : t = u
  · subst h; simp [Nat.beq_refl]
  · rw [if_neg h]
    cases hb : Nat.beq t u with
    | true => exact absurd (Nat.eq_of_beq_eq_true hb) h
    | false => rfl
theorem fget_kill (t u : Nat) : ∀ fr : Fr, fget (killSlot t fr) u = (bif (fget fr u).atSlot t then .unk else fget fr u)
  | [] => by simp [killSlot, fget, AV.atSlot]
  | (s, v) :: fr => by
    simp only [killSlot, fget]
    cases Nat.beq s u with
    | true => rfl
    | false => exact fget_kill t u fr
theorem fget_fset (fr : Fr) (t u : Nat) (v : AV) : fget (fset fr t v) u = if t = u then v else if (fget fr t).owner = true ∧ (fget fr u).atSlot t = true then .unk else fget fr u := by
  unfold fset
  cases h : (fget fr t).owner with
  | true =>
    simp only [cond_true, fget_cons, fget_kill]
    by_cases e : t = u
    · simp [e]
    · simp only [if_neg e]
      cases (fget fr u).atSlot t <;> simp
  | false =>
    simp only [cond_false, fget_cons]
    by_cases e : t = u <;> simp [e]

def homeVal (γ : Gh) (a : Act) (w : World) : Home → Option Value
  | .slot t => some (a.tmps.getD t undef)
  | .cell i off => (γ.ob i).bind fun b => w.cell? ⟨b, off, none⟩
def AlOk (hx : AV) (hv : Option Value) (z lo len : Nat) (v : Value) : Prop :=
  (∃ a cap, v = .slice a len cap ∧ len ≤ cap ∧ (0 < len → ∃ b off, a = some ⟨b, off, none⟩)) ∧ ∀ z' xs p, hx = .sl z' xs p → ∀ u, hv = some u →
    z' = z ∧ lo + len ≤ xs.length ∧ ∃ ha cap a', u = .slice ha xs.length cap ∧ v = .slice a' len (cap - lo) ∧ (lo = 0 → a' = ha) ∧
      (0 < len → ∃ b off, ha = some ⟨b, off, none⟩ ∧ a' = some ⟨b, off + lo * z, none⟩)
def EpOk (hx : AV) (hv : Option Value) (i off : Nat) (v : Value) : Prop :=
  (∃ b o, v = .pointer (some ⟨b, o, none⟩)) ∧ ∀ z xs p, hx = .sl z xs p → ∀ u, hv = some u →
    i < xs.length ∧ ∃ b o0 cap, u = .slice (some ⟨b, o0, none⟩) xs.length cap ∧ v = .pointer (some ⟨b, o0 + i * z + off, none⟩)

/-- The run's own constants: the program, the world at the law's call, the number of blocks in it. -/
structure Cx where
  P : Program
  w0 : World

structure Wd (c : Cx) (γ : Gh) (w : World) : Prop where
  still : ∀ b o, γ.cls b = .imm o ∨ γ.cls b = .ro o → w.heap[b]? = some o
  low : ∀ b, b < c.w0.heap.size → ∃ o, c.w0.heap[b]? = some o ∧ γ.cls b = .imm o
  new : ∀ b, w.heap.size ≤ b → γ.cls b = .other
  size : c.w0.heap.size ≤ w.heap.size
  os : w.os = c.w0.os
  tape : w.tape = c.w0.tape
  out : w.output = c.w0.output

structure Hp (γ : Gh) (st : St) (w : World) : Prop where
  obj : ∀ i o, objAt st i = some o → ∃ b cs e, γ.ob i = some b ∧ γ.cls b = .obj i ∧ w.heap[b]? = some (.cells cs e (0, 0)) ∧ cs.size = o.length ∧ bldOk e o.length = true ∧
    ∀ j x, o[j]? = some x → ∃ v, cs[j]? = some v ∧ one v ∧ R γ w ⟨.cell i j, []⟩ x v
  fresh : ∀ i, st.O.length ≤ i → γ.ob i = none
  back : ∀ i b, γ.ob i = some b → γ.cls b = .obj i
  k : st.k ≤ st.O.length

structure Fm (γ : Gh) (st : St) (a : Act) (w : World) : Prop where
  val : ∀ t, R γ w ⟨.slot t, []⟩ (fget st.fr t) (a.tmps.getD t undef)
  al : ∀ t z h lo len, fget st.fr t = .al z h lo len → (homeGet st h).owner = true ∧ AlOk (homeGet st h) (homeVal γ a w h) z lo len (a.tmps.getD t undef)
  ep : ∀ t h i off, fget st.fr t = .ep h i off → (homeGet st h).owner = true ∧ EpOk (homeGet st h) (homeVal γ a w h) i off (a.tmps.getD t undef)
  n : a.tmps.size = st.n
  defers : a.defers = []

structure Inv (c : Cx) (γ : Gh) (st : St) (a : Act) (w : World) : Prop where
  wd : Wd c γ w
  hp : Hp γ st w
  fm : Fm γ st a w

/-- What lives on from one moment of a call to a later one. -/
structure Ext (γ : Gh) (st : St) (w : World) (γ' : Gh) (st' : St) (w' : World) : Prop where
  imm : ∀ b o, γ.cls b = .imm o → γ'.cls b = .imm o
  ro : ∀ b o, γ.cls b = .ro o → γ'.cls b = .ro o
  ro' : ∀ b o, γ'.cls b = .ro o → γ.cls b = .ro o
  other : ∀ b, b < w.heap.size → γ.cls b = .other → γ'.cls b = .other ∧ w'.heap[b]? = w.heap[b]?
  size : w.heap.size ≤ w'.heap.size
  k : st'.k = st.k
  ob : ∀ i, i < st.k → γ'.ob i = γ.ob i
theorem Ext.refl (γ : Gh) (st : St) (w : World) : Ext γ st w γ st w :=
  ⟨fun _ _ h => h, fun _ _ h => h, fun _ _ h => h, fun _ _ h => ⟨h, rfl⟩, Nat.le_refl _, rfl, fun _ _ => rfl⟩
theorem Ext.trans {γ γ1 γ2 : Gh} {st st1 st2 : St} {w w1 w2 : World} (h : Ext γ st w γ1 st1 w1) (k : Ext γ1 st1 w1 γ2 st2 w2) : Ext γ st w γ2 st2 w2 where
  imm b o e := k.imm b o (h.imm b o e)
  ro b o e := k.ro b o (h.ro b o e)
  ro' b o e := h.ro' b o (k.ro' b o e)
  other b hb e := by
    obtain ⟨e1, e2⟩ := h.other b hb e
    obtain ⟨e3, e4⟩ := k.other b (Nat.lt_of_lt_of_le hb h.size) e1
    exact ⟨e3, e4.trans e2⟩
  size := Nat.le_trans h.size k.size
  k := k.k.trans h.k
  ob i hi := (k.ob i (by rw [h.k]; exact hi)).trans (h.ob i hi)
/-- only the frame has turned -/
theorem Ext.fr (γ : Gh) (st : St) (w : World) {st' : St} (h : st'.k = st.k) : Ext γ st w γ st' w :=
  ⟨fun _ _ h => h, fun _ _ h => h, fun _ _ h => h, fun _ _ h => ⟨h, rfl⟩, Nat.le_refl _, h, fun _ _ => rfl⟩

end Go.Va
