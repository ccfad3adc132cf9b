/- The verified abstract interpreter, a part of it: no statement of its own. -/
import Derived.Test.YtmklimlepgiffabVa39
import Derived.Laws.BitsLemmas
set_option linter.unusedVariables false
set_option linter.unusedSimpArgs false
namespace Go.Va
theorem lp_split {α : Type} (LP : Nat → α) (k : Nat) : LP = fun n => bif Nat.beq n k then LP k else LP n := by
  funext n
  cases h : Nat.beq n k with
  | false => rfl
  | true => rw [Nat.eq_of_beq_eq_true h]; rfl
/-- what is used of the reckoning -/
structure ArOk (A : Ar) : Prop where
  lt : ∀ a b, A.lt a b = decide (a < b)
  le : ∀ a b, A.le a b = decide (a ≤ b)
  eq : ∀ a b, A.eq a b = decide (a = b)
  nle : ∀ a b, A.nle a b = decide (a ≤ b)
  nleE : A.nle = Nat.ble
  neqE : A.neq = Nat.beq
  neq : ∀ a b, A.neq a b = decide (a = b)
  add : ∀ k a b, A.add k a b = k.wrap (a + b)
  sub : ∀ k a b, A.sub k a b = k.wrap (a - b)
  wr : ∀ k a, A.wr k a = k.wrap a
  fit : ∀ n b, A.fit n b = decide (n * b ≤ 70368744177664)
  at_ : ∀ s i, i < A.siz s → ∃ b, A.at_ s i = some b
  inc : ∀ n : Nat, n < 9223372036854775807 → A.add .i64 (.ofNat n) 1 = .ofNat (n + 1)
theorem ble_fun : realAr.nle = Nat.ble := by
  funext a b
  show decide (a ≤ b) = Nat.ble a b
  cases h : Nat.ble a b with
  | true => exact decide_eq_true (Nat.le_of_ble_eq_true h)
  | false => exact decide_eq_false (fun k => by rw [Nat.ble_eq_true_of_le k] at h; cases h)
theorem beq_fun : realAr.neq = Nat.beq := by
  funext a b
  show (a == b) = Nat.beq a b
  cases h : Nat.beq a b with
  | true => rw [Nat.eq_of_beq_eq_true h]; exact beq_self_eq_true b
  | false => exact beq_false_of_ne (fun k => by rw [k, Nat.beq_refl] at h; cases h)
theorem realAr_ok : ArOk realAr := by
  refine ⟨fun a b => rfl, fun a b => rfl, fun a b => by show (a == b) = _; exact Bool.beq_eq_decide_eq a b, fun a b => rfl, ble_fun, beq_fun, fun a b => by show (a == b) = _; exact Bool.beq_eq_decide_eq a b, fun _ _ _ => rfl, fun _ _ _ => rfl, fun _ _ => rfl, fun _ _ => rfl, fun s i hi => ?_, fun n hn => ?_⟩
  · have hi : i < s.size := hi
    refine ⟨.ofNat s[i].toNat, ?_⟩
    simp only [realAr]
    rw [getElem?_pos s i hi]
  · show IntKind.i64.wrap ((n : Int) + 1) = ((n + 1 : Nat) : Int)
    rw [IntKind.wrap_i64]
    omega
end Go.Va
namespace Go.Va
theorem wrap_nat {n : Nat} (h : n ≤ 9223372036854775807) : IntKind.wrap .i64 (n : Int) = n := by
  rw [IntKind.wrap_i64]
  omega
/-- a list of bytes, of instructions -/
def bl (l : List UInt8) : List AV := l.map fun b => .s (.int .u8 (.ofNat b.toNat))
abbrev InsT := Int × ByteArray × ByteArray
def insA (i : InsT) : AV := .agg [.s (.int .i64 i.1), .s (.string i.2.1), .s (.string i.2.2)]
theorem bl_bytes : ∀ l : List UInt8, bytesOf (bl l) = some l
  | [] => rfl
  | b :: l => by
    have := bl_bytes l
    simp only [bl, List.map_cons, bytesOf] at this ⊢
    rw [this]
    simp
theorem bl_len (l : List UInt8) : (bl l).length = l.length := by simp [bl]
theorem bl_cut (l : List UInt8) (i n : Nat) : lcut (bl l) i n = bl ((l.drop i).take n) := by simp [lcut, bl, List.map_drop, List.map_take]
/-- a loop that goes through a list: each round yields a result, or goes on -/
def foldE {σ α : Type} (body : σ → α → Sum Res σ) (fin : σ → Res) : σ → List α → Res
  | s, [] => fin s
  | s, x :: xs => match body s x with
    | .inl r => r
    | .inr s' => foldE body fin s' xs
theorem lget_get {α : Type} : ∀ (l : List α) (i : Nat), lget l i = l[i]?
  | [], i => rfl
  | x :: l, 0 => rfl
  | x :: l, i + 1 => by rw [lget, lget_get l i]; rfl
theorem lp_list {σ α : Type} {L : St → Option Res} {st : σ → Nat → St} {xs : List α} {body : σ → α → Sum Res σ} {fin : σ → Res}
    (h1 : ∀ s i x, lget xs i = some x → i < xs.length → L (st s i) = match body s x with
      | .inl r => some r
      | .inr s' => L (st s' (i + 1)))
    (h2 : ∀ s, L (st s xs.length) = some (fin s)) : ∀ (m i : Nat) (s : σ), m + i = xs.length → L (st s i) = some (foldE body fin s (xs.drop i)) := by
  intro m
  induction m with
  | zero =>
    intro i s hi
    rw [show i = xs.length by omega, h2, List.drop_length]
    rfl
  | succ m ih =>
    intro i s hi
    have hl : i < xs.length := by omega
    rw [List.drop_eq_getElem_cons hl, foldE, h1 s i xs[i] (by rw [lget_get]; simp [hl]) hl]
    cases body s xs[i] with
    | inl r => rfl
    | inr s' => exact ih (i + 1) s' (by omega)
theorem lp_list0 {σ α : Type} {L : St → Option Res} {st : σ → Nat → St} {xs : List α} {body : σ → α → Sum Res σ} {fin : σ → Res}
    (h1 : ∀ s i x, lget xs i = some x → i < xs.length → L (st s i) = match body s x with
      | .inl r => some r
      | .inr s' => L (st s' (i + 1)))
    (h2 : ∀ s, L (st s xs.length) = some (fin s)) (s : σ) : L (st s 0) = some (foldE body fin s xs) := by
  have := lp_list h1 h2 xs.length 0 s (by omega)
  rwa [List.drop_zero] at this
end Go.Va
