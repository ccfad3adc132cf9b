/- The functions that the statement reaches, by equations: no statement of its own. -/
import Derived.Test.YtmklimlepgiffaaVa40
import Derived.Below
set_option linter.unusedVariables false
set_option linter.unusedSimpArgs false
set_option linter.unusedSectionVars false
set_option linter.unusedVariables false
namespace Go.Va
def signsL : List UInt8 := [38, 60, 62, 34]
def wordL (c : UInt8) : List UInt8 := if c = 38 then [38, 97, 109, 112, 59] else if c = 60 then [38, 108, 116, 59] else if c = 62 then [38, 103, 116, 59] else [38, 113, 117, 111, 116, 59]
def plainB (c : UInt8) : Bool := !(c == 38 || c == 60 || c == 62 || c == 34)
def escPutL : List UInt8 → List UInt8
  | [] => []
  | c :: l => (if plainB c then [c] else wordL c) ++ escPutL l
/-- the sign that a text begins with, and how many bytes stand for it -/
def escFirst : List UInt8 → UInt8 × Nat
  | [] => (0, 0)
  | c :: l => if plainB c then (c, 1) else if (wordL 38).isPrefixOf (c :: l) then (38, 5) else if (wordL 60).isPrefixOf (c :: l) then (60, 4) else if (wordL 62).isPrefixOf (c :: l) then (62, 4) else if (wordL 34).isPrefixOf (c :: l) then (34, 6) else (0, 0)
def escGetL : Nat → List UInt8 → Option (List UInt8)
  | _, [] => some []
  | 0, _ :: _ => none
  | n + 1, c :: l => match escFirst (c :: l) with
    | (_, 0) => none
    | (d, k + 1) => match escGetL n ((c :: l).drop (k + 1)) with
      | some r => some (d :: r)
      | none => none
def baOf (l : List UInt8) : ByteArray := ⟨l.toArray⟩
def yEscPut (args : List AV) (O : Seg) : Prog := match args, O with
  | [.s (.string s)], [] => bif Nat.ble s.size 100000 then okR (.s (.string (baOf (escPutL s.data.toList)))) [] else noR
  | _, _ => noR
def yEscGet (args : List AV) (O : Seg) : Prog := match args, O with
  | [.s (.string s)], [] => bif Nat.ble s.size 1000000 then (match escGetL s.size s.data.toList with
    | some l => okR (.tup [.s (.string (baOf l)), .s (.bool true)]) []
    | none => okR (.tup [.s (.string (baOf [])), .s (.bool false)]) []) else noR
  | _, _ => noR
end Go.Va
namespace Go.Va
theorem hlt (a b : Int) : realAr.lt a b = decide (a < b) := rfl
theorem hle (a b : Int) : realAr.le a b = decide (a ≤ b) := rfl
theorem heq (a b : Int) : realAr.eq a b = decide (a = b) := realAr_ok.eq a b
theorem hlt_t {a b : Int} (h : a < b) : realAr.lt a b = true := decide_eq_true h
theorem hlt_f {a b : Int} (h : b ≤ a) : realAr.lt a b = false := decide_eq_false (by omega)
theorem hle_t {a b : Int} (h : a ≤ b) : realAr.le a b = true := decide_eq_true h
theorem hle_f {a b : Int} (h : b < a) : realAr.le a b = false := decide_eq_false (by omega)
theorem heq_t {a b : Int} (h : a = b) : realAr.eq a b = true := by rw [heq]; exact decide_eq_true h
theorem heq_f {a b : Int} (h : a ≠ b) : realAr.eq a b = false := by rw [heq]; exact decide_eq_false h
theorem nlt_t {i j : Nat} (h : i < j) : realAr.lt (.ofNat i) (.ofNat j) = true := hlt_t (Int.ofNat_lt.2 h)
theorem nlt_f {i j : Nat} (h : j ≤ i) : realAr.lt (.ofNat i) (.ofNat j) = false := hlt_f (Int.ofNat_le.2 h)
theorem hwrap {a : Int} (h1 : -9223372036854775808 ≤ a) (h2 : a ≤ 9223372036854775807) : IntKind.wrap .i64 a = a := by
  rw [IntKind.wrap_i64]
  omega
theorem hadd {a b : Int} (h1 : -9223372036854775808 ≤ a + b) (h2 : a + b ≤ 9223372036854775807) : realAr.add .i64 a b = a + b := by
  rw [realAr_ok.add]
  exact hwrap h1 h2
theorem hsub {a b : Int} (h1 : -9223372036854775808 ≤ a - b) (h2 : a - b ≤ 9223372036854775807) : realAr.sub .i64 a b = a - b := by
  rw [realAr_ok.sub]
  exact hwrap h1 h2
theorem ninc {i : Nat} (h : i + 1 ≤ 9223372036854775807) : realAr.add .i64 (.ofNat i) 1 = .ofNat (Nat.succ i) := by
  show realAr.add .i64 (i : Int) 1 = ((i + 1 : Nat) : Int)
  rw [hadd (by omega) (by omega)]
  rfl
theorem nadd {i j : Nat} (h : i + j ≤ 9223372036854775807) : realAr.add .i64 (.ofNat i) (.ofNat j) = .ofNat (i + j) := by
  show realAr.add .i64 (i : Int) (j : Int) = ((i + j : Nat) : Int)
  rw [hadd (by omega) (by omega)]
  rfl
theorem nsub {i j : Nat} (h : j ≤ i) (h2 : i ≤ 9223372036854775807) : realAr.sub .i64 (.ofNat i) (.ofNat j) = .ofNat (i - j) := by
  show realAr.sub .i64 (i : Int) (j : Int) = ((i - j : Nat) : Int)
  rw [hsub (by omega) (by omega)]
  omega
theorem hble {a b : Nat} (h : a ≤ b) : Nat.ble a b = true := Nat.ble_eq_true_of_le h
theorem hbeq (n : Nat) : Nat.beq n n = true := Nat.beq_refl n
theorem hbne {a b : Nat} (h : a ≠ b) : Nat.beq a b = false := by
  cases q : Nat.beq a b with
  | false => rfl
  | true => exact (h (Nat.eq_of_beq_eq_true q)).elim
theorem hfit {n b : Nat} (h : n * b ≤ 70368744177664) : realAr.fit n b = true := by rw [realAr_ok.fit]; exact decide_eq_true h
theorem hseqr (s : ByteArray) : realAr.seq s s = true := by simp [realAr]
section
variable {α : Type} (f : α → AV) (l : List α)
theorem mlen : (l.map f).length = l.length := by simp
theorem mget {i : Nat} (h : i < l.length) : lget (l.map f) i = some (f l[i]) := by rw [lget_get]; simp [h]
theorem mget' {i : Nat} {x : α} (h : l[i]? = some x) : lget (l.map f) i = some (f x) := by rw [lget_get]; simp [h]
theorem msnoc (x : α) : l.map f ++ [f x] = (l ++ [x]).map f := by simp
theorem mset (i : Nat) (x : α) : lset (l.map f) i (f x) = (l.set i x).map f := by rw [lset_eq, List.map_set]
theorem mcut (i n : Nat) : lcut (l.map f) i n = ((l.drop i).take n).map f := by rw [lcut, List.map_take, List.map_drop]
theorem mtake (n : Nat) : (l.map f).take n = (l.take n).map f := by rw [List.map_take]
theorem mcut0 {n : Nat} (h : n = l.length) : lcut (l.map f) 0 n = l.map f := by
  subst h
  rw [mcut, List.drop_zero, List.take_length]
theorem mtakeall {n : Nat} (h : l.length ≤ n) : (l.map f).take n = l.map f := List.take_of_length_le (by simpa using h)
end
end Go.Va
namespace Go.Va
theorem ba_ext {a b : ByteArray} (h : a.data.toList = b.data.toList) : a = b := by
  cases a with
  | mk x => cases b with
    | mk y =>
      have : x = y := Array.ext' h
      rw [this]
theorem ba_of (s : ByteArray) : s = baOf s.data.toList := ba_ext rfl
theorem ba_list (l : List UInt8) : (baOf l).data.toList = l := rfl
theorem ba_siz (l : List UInt8) : realAr.siz (baOf l) = l.length := by
  show (l.toArray).size = l.length
  simp
theorem ba_cat (a b : List UInt8) : realAr.cat (baOf a) (baOf b) = baOf (a ++ b) := by
  apply ba_ext
  show ((baOf a) ++ (baOf b)).data.toList = a ++ b
  simp [baOf]
theorem ba_seq (a b : List UInt8) : realAr.seq (baOf a) (baOf b) = (a == b) := rfl
theorem ba_cut (l : List UInt8) (i j : Nat) : realAr.cut (baOf l) i j = baOf ((l.take j).drop i) := by
  apply ba_ext
  show ((baOf l).extract i j).data.toList = (l.take j).drop i
  simp only [ByteArray.data_extract, Array.toList_extract, List.extract_eq_take_drop, ba_list]
  rw [List.drop_take]
theorem ba_at {l : List UInt8} {i : Nat} (h : i < l.length) : realAr.at_ (baOf l) i = some (l[i].toNat : Int) := by
  have hs : i < (baOf l).size := by
    show i < (l.toArray).size
    simpa using h
  show (match (baOf l)[i]? with | some b => some (Int.ofNat b.toNat) | none => none) = _
  have e : (baOf l)[i]? = some l[i] := by
    rw [getElem?_pos (baOf l) i hs]
    rfl
  rw [e]
  rfl
end Go.Va
set_option linter.unusedVariables false
namespace Go.Va
open Go.RowKit
/-- all that is there never changes -/
def allImm (w : World) : Gh := { cls := fun b => match w.heap[b]? with | some o => .imm o | none => .other, ob := fun _ => none }
theorem allImm_wd (P : Program) (w : World) : Wd { P := P, w0 := w } (allImm w) w where
  still b o h := by
    unfold allImm at h
    dsimp only at h
    cases hb : w.heap[b]? with
    | none => rw [hb] at h; simp at h
    | some x => rw [hb] at h; simp at h; rw [h]
  low b hb := by
    refine ⟨w.heap[b], by simp [hb], ?_⟩
    unfold allImm
    simp [hb]
  new b hb := by
    unfold allImm
    simp [Array.getElem?_eq_none hb]
  size := Nat.le_refl _
  os := rfl
  tape := rfl
  out := rfl
theorem allImm_hp (w : World) : Hp (allImm w) { n := 0, k := 0, fr := [], O := [] } w where
  obj i o h := by simp [objAt, lget] at h
  fresh i _ := rfl
  back i b h := by simp [allImm] at h
  k := Nat.le_refl _
/-- a function's equation, over no objects, as a contract -/
theorem calls_of {P : Program} {env : Env} (EO : EnvOk P env) (EX : ∀ w0, ExtOk { P := P, w0 := w0 } env) {f : Nat} {as : List AV} {v : AV} (h : evl env (.call f as []) = some (.ret v [])) {us : List Value} (hl : as.length = us.length)
    (ha : ∀ (γ : Gh) (w : World) (j : Nat) (y : AV) (u : Value), as[j]? = some y → us[j]? = some u → R γ w ⟨.slot j, []⟩ y u) (hno : ∀ (j : Nat) (y : AV), as[j]? = some y → y.isAl = false)
    (hent : ∀ (us : Array Value) (w : World), (callFunc f us).run P w = .ok (.enter f us) w) (w : World) :
    Calls P f us.toArray w fun e w' => ∃ r, e = .returned r ∧ (∃ γ, R γ w' (lim 0) v r) ∧ Below w.heap.size w w' := by
  have hc := sound EO (EX w) h (allImm w) w us ⟨allImm_wd P w, allImm_hp w, hl, fun j y u h1 h2 => ha _ _ j y u h1 h2, hno⟩
  rcases hc with ⟨r, w', hr, -⟩ | ⟨-, hc⟩
  · rw [hent] at hr
    cases hr
  · refine hc.mono ?_
    rintro e w' ⟨r, rfl, γ', h1, h2, h3, h4, h5, h6⟩
    refine ⟨r, rfl, ⟨γ', h4⟩, h1.os, h1.tape, h1.out, h3.size, fun k hk => ?_⟩
    have e1 : (allImm w).cls k = .imm w.heap[k] := by
      unfold allImm
      simp [hk]
    rw [h1.still k _ (.inl (h3.imm k _ e1))]
    simp [hk]
theorem post_below {c : Cx} {γ : Gh} {w w' : World} {as : List AV} {us : List Value} (g : Given c γ w as [] us) {v : AV} {r : Value} (hb : Below w.heap.size w w') (hr : R γ w' (lim 0) v r) (hv : v.resOk = true) : CallPost c γ w [] v [] r w' := by
  have lt : ∀ b o, γ.cls b = .imm o ∨ γ.cls b = .ro o → b < w.heap.size := by
    intro b o h
    rcases Nat.lt_or_ge b w.heap.size with q | q
    · exact q
    · have := g.wd.new b q
      rw [this] at h
      rcases h with h | h <;> cases h
  refine ⟨γ, ⟨fun b o h => ?_, g.wd.low, fun b hb2 => g.wd.new b (Nat.le_trans hb.size hb2), Nat.le_trans g.wd.size hb.size, hb.os.trans g.wd.os, hb.tape.trans g.wd.tape, hb.output.trans g.wd.out⟩, ⟨fun i o h => by simp [objAt, lget] at h, g.hp.fresh, g.hp.back, g.hp.k⟩,
    ⟨fun _ _ h => h, fun _ _ h => h, fun _ _ h => h, fun b h1 h2 => ⟨h2, hb.block b h1⟩, hb.size, rfl, fun _ _ => rfl⟩, hr, hv, rfl⟩
  rw [hb.block b (lt b o h)]
  exact g.wd.still b o h
theorem enters {P : Program} {f : Nat} {fn : Func} {cd : Code} (hf : P.funcs[f]? = some fn) (hb : fn.body = some cd) (hn : (fn.name == "runtime.NumGoroutine") = false) (us : Array Value) (w : World) : (callFunc f us).run P w = .ok (.enter f us) w := by
  have hn : ¬ fn.name = "runtime.NumGoroutine" := by simpa using hn
  simp [callFunc, hf, hn, hb]
end Go.Va
