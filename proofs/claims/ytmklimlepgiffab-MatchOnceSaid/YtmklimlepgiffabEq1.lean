/- The functions that the statement reaches, by equations: no statement of its own. -/
import Derived.Test.YtmklimlepgiffabVa40
import Derived.Below
import Derived.MapKept
import Derived.WalkKit
set_option linter.unusedVariables false
set_option linter.unusedSimpArgs false
set_option linter.unusedSectionVars false
set_option linter.unusedVariables false
namespace Go.Va
def signsL : List UInt8 := [38, 60, 62, 34]
def wordL (c : UInt8) : List UInt8 := if c = 38 then [38, 97, 109, 112, 59] else if c = 60 then [38, 108, 116, 59] else if c = 62 then [38, 103, 116, 59] else [38, 113, 117, 111, 116, 59]
def plainB (c : UInt8) : Bool := !(c == 38 || c == 60 || c == 62 || c == 34)
def escPutL : List UInt8 → List UInt8
  | [] => []
  | c :: l => (if plainB c then [c] else wordL c) ++ escPutL l
/-- the sign that a text begins with, and how many bytes stand for it -/
def escFirst : List UInt8 → UInt8 × Nat
  | [] => (0, 0)
  | c :: l => if plainB c then (c, 1) else if (wordL 38).isPrefixOf (c :: l) then (38, 5) else if (wordL 60).isPrefixOf (c :: l) then (60, 4) else if (wordL 62).isPrefixOf (c :: l) then (62, 4) else if (wordL 34).isPrefixOf (c :: l) then (34, 6) else (0, 0)
def escGetL : Nat → List UInt8 → Option (List UInt8)
  | _, [] => some []
  | 0, _ :: _ => none
  | n + 1, c :: l => match escFirst (c :: l) with
    | (_, 0) => none
    | (d, k + 1) => match escGetL n ((c :: l).drop (k + 1)) with
      | some r => some (d :: r)
      | none => none
def baOf (l : List UInt8) : ByteArray := ⟨l.toArray⟩
def yEscPut (args : List AV) (O : Seg) : Prog := match args, O with
  | [.s (.string s)], [] => bif Nat.ble s.size 100000 then okR (.s (.string (baOf (escPutL s.data.toList)))) [] else noR
  | _, _ => noR
def yEscGet (args : List AV) (O : Seg) : Prog := match args, O with
  | [.s (.string s)], [] => bif Nat.ble s.size 1000000 then (match escGetL s.size s.data.toList with
    | some l => okR (.tup [.s (.string (baOf l)), .s (.bool true)]) []
    | none => okR (.tup [.s (.string (baOf [])), .s (.bool false)]) []) else noR
  | _, _ => noR
end Go.Va
set_option linter.unusedVariables false
namespace Go.Va
abbrev InsV := Int × ByteArray × ByteArray
/-- a checker's state: places (the one at hand first), the op ahead, the names told -/
structure CkS where
  l : List (List ByteArray × Bool)
  ahead : Int
  names : List ByteArray
def tellsB (o : Int) : Bool := decide (o = 5) || decide (o = 6)
def elemB (o : Int) : Bool := decide (o = 1) || decide (o = 3)
def hasK (x : ByteArray) (l : List ByteArray) : Bool := l.any fun y => y.data.toList == x.data.toList
def ckAttr (c : CkS) (a : ByteArray) : Nat × CkS :=
  if !(elemB c.ahead || tellsB c.ahead) then (9, c) else if hasK a c.names then (9, c) else if 8 ≤ c.names.length then (9, c) else (0, { c with names := c.names ++ [a] })
def ckEnds (c : CkS) : Nat × CkS := match c.l with
  | _ :: p :: l => (0, { c with l := p :: l })
  | _ => (8, c)
def addK (b : ByteArray) (ks : List ByteArray) : List ByteArray := if hasK b ks then ks else ks ++ [b]
def ckStands (c : CkS) (i : InsV) : Nat × CkS := match c.l with
  | [] => (8, c)
  | (keys, all) :: l =>
    if all then (11, c)
    else if elemB i.1 && (!(i.2.2.data.toList == []) && hasK i.2.2 keys) then (10, c)
    else if decide (i.1 = 1) && decide (8 < l.length + 1) then (12, c)
    else if elemB i.1 then (0, { c with l := (if i.1 = 1 then ([], false) :: (addK i.2.2 keys, false) :: l else (addK i.2.2 keys, false) :: l), names := [] })
    else (0, { c with l := (keys, decide (i.1 = 7)) :: l })
def ckOne (c : CkS) (may : Bool) (i : InsV) : Nat × CkS :=
  if !may then (7, c) else if tellsB i.1 then ckAttr c i.2.1 else if i.1 = 2 then ckEnds c else ckStands c i
def insAV (i : InsV) : AV := .agg [.s (.int .i64 i.1), .s (.string i.2.1), .s (.string i.2.2)]
def codeN (T n : Nat) : AV := match n with
  | 0 => .s .nilIface
  | n => .s (.iface T (.int .i64 (.ofNat n)))
def ckProg (T fMay : Nat) : List InsV → CkS → Prog
  | [], c => okR (codeN T (if 1 < c.l.length then 8 else 0)) []
  | i :: is, c => .ask (.call fMay [insAV i] []) fun
    | .ret (.s (.bool b)) [] => match ckOne c b i with
      | (0, c2) => ckProg T fMay is { c2 with ahead := i.1 }
      | (n + 1, _) => okR (codeN T (n + 1)) []
    | _ => noR
def ck0 : CkS := ⟨[([], false)], 0, []⟩
def ckAll (T fMay : Nat) (xs : List AV) : Prog := match insL xs with
  | some l => bif Nat.blt 120 l.length then okR (codeN T 13) [] else ckProg T fMay l ck0
  | none => noR
def yCheck (T fMay : Nat) (args : List AV) (O : Seg) : Prog := match args, O with
  | [.sl 3 xs .imm], [] => ckAll T fMay xs
  | [.sl 3 xs .ro], [] => ckAll T fMay xs
  | _, _ => noR
end Go.Va
set_option linter.unusedVariables false
namespace Go.Va
def yDelete (args : List AV) (O : Seg) : Prog := match args, O with
  | [.sl 1 xs .full, .s (.int .i64 (.ofNat i)), .s (.int .i64 (.ofNat j))], [] => bif Nat.beq j (Nat.succ i) && Nat.ble j xs.length then okR (.sl 1 (xs.take i ++ xs.drop j) .full) [] else noR
  | _, _ => noR
end Go.Va
namespace Go.Va
theorem hlt (a b : Int) : realAr.lt a b = decide (a < b) := rfl
theorem hle (a b : Int) : realAr.le a b = decide (a ≤ b) := rfl
theorem heq (a b : Int) : realAr.eq a b = decide (a = b) := realAr_ok.eq a b
theorem hlt_t {a b : Int} (h : a < b) : realAr.lt a b = true := decide_eq_true h
theorem hlt_f {a b : Int} (h : b ≤ a) : realAr.lt a b = false := decide_eq_false (by omega)
theorem hle_t {a b : Int} (h : a ≤ b) : realAr.le a b = true := decide_eq_true h
theorem hle_f {a b : Int} (h : b < a) : realAr.le a b = false := decide_eq_false (by omega)
theorem heq_t {a b : Int} (h : a = b) : realAr.eq a b = true := by rw [heq]; exact decide_eq_true h
theorem heq_f {a b : Int} (h : a ≠ b) : realAr.eq a b = false := by rw [heq]; exact decide_eq_false h
theorem nlt_t {i j : Nat} (h : i < j) : realAr.lt (.ofNat i) (.ofNat j) = true := hlt_t (Int.ofNat_lt.2 h)
theorem nlt_f {i j : Nat} (h : j ≤ i) : realAr.lt (.ofNat i) (.ofNat j) = false := hlt_f (Int.ofNat_le.2 h)
theorem hwrap {a : Int} (h1 : -9223372036854775808 ≤ a) (h2 : a ≤ 9223372036854775807) : IntKind.wrap .i64 a = a := by
  rw [IntKind.wrap_i64]
  omega
theorem hadd {a b : Int} (h1 : -9223372036854775808 ≤ a + b) (h2 : a + b ≤ 9223372036854775807) : realAr.add .i64 a b = a + b := by
  rw [realAr_ok.add]
  exact hwrap h1 h2
theorem hsub {a b : Int} (h1 : -9223372036854775808 ≤ a - b) (h2 : a - b ≤ 9223372036854775807) : realAr.sub .i64 a b = a - b := by
  rw [realAr_ok.sub]
  exact hwrap h1 h2
theorem ninc {i : Nat} (h : i + 1 ≤ 9223372036854775807) : realAr.add .i64 (.ofNat i) 1 = .ofNat (Nat.succ i) := by
  show realAr.add .i64 (i : Int) 1 = ((i + 1 : Nat) : Int)
  rw [hadd (by omega) (by omega)]
  rfl
theorem nadd {i j : Nat} (h : i + j ≤ 9223372036854775807) : realAr.add .i64 (.ofNat i) (.ofNat j) = .ofNat (i + j) := by
  show realAr.add .i64 (i : Int) (j : Int) = ((i + j : Nat) : Int)
  rw [hadd (by omega) (by omega)]
  rfl
theorem nsub {i j : Nat} (h : j ≤ i) (h2 : i ≤ 9223372036854775807) : realAr.sub .i64 (.ofNat i) (.ofNat j) = .ofNat (i - j) := by
  show realAr.sub .i64 (i : Int) (j : Int) = ((i - j : Nat) : Int)
  rw [hsub (by omega) (by omega)]
  omega
theorem hble {a b : Nat} (h : a ≤ b) : Nat.ble a b = true := Nat.ble_eq_true_of_le h
theorem hbeq (n : Nat) : Nat.beq n n = true := Nat.beq_refl n
theorem hbne {a b : Nat} (h : a ≠ b) : Nat.beq a b = false := by
  cases q : Nat.beq a b with
  | false => rfl
  | true => exact (h (Nat.eq_of_beq_eq_true q)).elim
theorem hfit {n b : Nat} (h : n * b ≤ 70368744177664) : realAr.fit n b = true := by rw [realAr_ok.fit]; exact decide_eq_true h
theorem hseqr (s : ByteArray) : realAr.seq s s = true := by simp [realAr]
section
variable {α : Type} (f : α → AV) (l : List α)
theorem mlen : (l.map f).length = l.length := by simp
theorem mget {i : Nat} (h : i < l.length) : lget (l.map f) i = some (f l[i]) := by rw [lget_get]; simp [h]
theorem mget' {i : Nat} {x : α} (h : l[i]? = some x) : lget (l.map f) i = some (f x) := by rw [lget_get]; simp [h]
theorem msnoc (x : α) : l.map f ++ [f x] = (l ++ [x]).map f := by simp
theorem mset (i : Nat) (x : α) : lset (l.map f) i (f x) = (l.set i x).map f := by rw [lset_eq, List.map_set]
theorem mcut (i n : Nat) : lcut (l.map f) i n = ((l.drop i).take n).map f := by rw [lcut, List.map_take, List.map_drop]
theorem mtake (n : Nat) : (l.map f).take n = (l.take n).map f := by rw [List.map_take]
theorem mcut0 {n : Nat} (h : n = l.length) : lcut (l.map f) 0 n = l.map f := by
  subst h
  rw [mcut, List.drop_zero, List.take_length]
theorem mtakeall {n : Nat} (h : l.length ≤ n) : (l.map f).take n = l.map f := List.take_of_length_le (by simpa using h)
end
end Go.Va
set_option linter.unusedVariables false
namespace Go.Va
open Go.RowKit
/-- all that is there never changes -/
def allImm (w : World) : Gh := { cls := fun b => match w.heap[b]? with | some o => .imm o | none => .other, ob := fun _ => none }
theorem allImm_wd (P : Program) (w : World) : Wd { P := P, w0 := w } (allImm w) w where
  still b o h := by
    unfold allImm at h
    dsimp only at h
    cases hb : w.heap[b]? with
    | none => rw [hb] at h; simp at h
    | some x => rw [hb] at h; simp at h; rw [h]
  low b hb := by
    refine ⟨w.heap[b], by simp [hb], ?_⟩
    unfold allImm
    simp [hb]
  new b hb := by
    unfold allImm
    simp [Array.getElem?_eq_none hb]
  size := Nat.le_refl _
  os := rfl
  tape := rfl
  out := rfl
theorem allImm_hp (w : World) : Hp (allImm w) { n := 0, k := 0, fr := [], O := [] } w where
  obj i o h := by simp [objAt, lget] at h
  fresh i _ := rfl
  back i b h := by simp [allImm] at h
  k := Nat.le_refl _
/-- a function's equation, over no objects, as a contract -/
theorem calls_of {P : Program} {env : Env} (EO : EnvOk P env) (EX : ∀ w0, ExtOk { P := P, w0 := w0 } env) {f : Nat} {as : List AV} {v : AV} (h : evl env (.call f as []) = some (.ret v [])) {us : List Value} (hl : as.length = us.length)
    (ha : ∀ (γ : Gh) (w : World) (j : Nat) (y : AV) (u : Value), as[j]? = some y → us[j]? = some u → R γ w ⟨.slot j, []⟩ y u) (hno : ∀ (j : Nat) (y : AV), as[j]? = some y → y.isAl = false)
    (hent : ∀ (us : Array Value) (w : World), (callFunc f us).run P w = .ok (.enter f us) w) (w : World) :
    Calls P f us.toArray w fun e w' => ∃ r, e = .returned r ∧ (∃ γ, R γ w' (lim 0) v r) ∧ Below w.heap.size w w' := by
  have hc := sound EO (EX w) h (allImm w) w us ⟨allImm_wd P w, allImm_hp w, hl, fun j y u h1 h2 => ha _ _ j y u h1 h2, hno⟩
  rcases hc with ⟨r, w', hr, -⟩ | ⟨-, hc⟩
  · rw [hent] at hr
    cases hr
  · refine hc.mono ?_
    rintro e w' ⟨r, rfl, γ', h1, h2, h3, h4, h5, h6⟩
    refine ⟨r, rfl, ⟨γ', h4⟩, h1.os, h1.tape, h1.out, h3.size, fun k hk => ?_⟩
    have e1 : (allImm w).cls k = .imm w.heap[k] := by
      unfold allImm
      simp [hk]
    rw [h1.still k _ (.inl (h3.imm k _ e1))]
    simp [hk]
theorem post_below {c : Cx} {γ : Gh} {w w' : World} {as : List AV} {us : List Value} (g : Given c γ w as [] us) {v : AV} {r : Value} (hb : Below w.heap.size w w') (hr : R γ w' (lim 0) v r) (hv : v.resOk = true) : CallPost c γ w [] v [] r w' := by
  have lt : ∀ b o, γ.cls b = .imm o ∨ γ.cls b = .ro o → b < w.heap.size := by
    intro b o h
    rcases Nat.lt_or_ge b w.heap.size with q | q
    · exact q
    · have := g.wd.new b q
      rw [this] at h
      rcases h with h | h <;> cases h
  refine ⟨γ, ⟨fun b o h => ?_, g.wd.low, fun b hb2 => g.wd.new b (Nat.le_trans hb.size hb2), Nat.le_trans g.wd.size hb.size, hb.os.trans g.wd.os, hb.tape.trans g.wd.tape, hb.output.trans g.wd.out⟩, ⟨fun i o h => by simp [objAt, lget] at h, g.hp.fresh, g.hp.back, g.hp.k⟩,
    ⟨fun _ _ h => h, fun _ _ h => h, fun _ _ h => h, fun b h1 h2 => ⟨h2, hb.block b h1⟩, hb.size, rfl, fun _ _ => rfl⟩, hr, hv, rfl⟩
  rw [hb.block b (lt b o h)]
  exact g.wd.still b o h
theorem enters {P : Program} {f : Nat} {fn : Func} {cd : Code} (hf : P.funcs[f]? = some fn) (hb : fn.body = some cd) (hn : (fn.name == "runtime.NumGoroutine") = false) (us : Array Value) (w : World) : (callFunc f us).run P w = .ok (.enter f us) w := by
  have hn : ¬ fn.name = "runtime.NumGoroutine" := by simpa using hn
  simp [callFunc, hf, hn, hb]
end Go.Va
set_option linter.unusedVariables false
namespace Go.Va
open Go.RowKit Go.MapKept
/-- a map holds keys, each of a number from 1 on -/
def MapIs (w : World) (m : Nat) (ks : List ByteArray) (B : Int) : Prop :=
  ∃ es clock, w.heap[m]? = some (.map es clock) ∧ es.toList.map (·.key) = ks.map Value.string ∧ ∀ e ∈ es.toList, ∃ v : Int, e.val = .int .i64 v ∧ 1 ≤ v ∧ v ≤ B
theorem MapIs.mono {w w' : World} {m : Nat} {ks : List ByteArray} {B B' : Int} (h : MapIs w m ks B) (hh : w'.heap[m]? = w.heap[m]?) (hb : B ≤ B') : MapIs w' m ks B' := by
  obtain ⟨es, cl, h1, h2, h3⟩ := h
  refine ⟨es, cl, hh.trans h1, h2, fun e he => ?_⟩
  obtain ⟨v, e1, e2, e3⟩ := h3 e he
  exact ⟨v, e1, e2, by omega⟩
theorem MapIs.lt {w : World} {m : Nat} {ks : List ByteArray} {B : Int} (h : MapIs w m ks B) : m < w.heap.size := by
  obtain ⟨es, cl, h1, -⟩ := h
  exact (Array.getElem?_eq_some_iff.1 h1).1
theorem hasK_iff (k : ByteArray) (ks : List ByteArray) : hasK k ks = true ↔ k ∈ ks := by
  unfold hasK
  rw [List.any_eq_true]
  constructor
  · rintro ⟨y, hy, e⟩
    have : y = k := by
      cases y with
      | mk a => cases k with
        | mk b =>
          have := Array.ext' (by simpa using e : a.toList = b.toList)
          rw [this]
    rw [← this]; exact hy
  · intro h
    exact ⟨k, h, by simp⟩
section
variable {P : Program} {w : World} {t kt et : TypeId} {m : Nat} {ks : List ByteArray} {B : Int}
theorem keys_str {es : Array MapEntry} (h : es.toList.map (·.key) = ks.map Value.string) : ∀ x ∈ es.toList, IsKey .string x.key := by
  intro x hx
  have : x.key ∈ ks.map Value.string := by rw [← h]; exact List.mem_map.2 ⟨x, hx, rfl⟩
  obtain ⟨s, -, e⟩ := List.mem_map.1 this
  rw [← e]
  trivial
theorem look (h : MapIs w m ks B) (hB : 0 ≤ B) (ht : P.underlying t = some (.map kt et)) (hk : P.underlying kt = some .string) (hz : ∀ w, (zeroValue et).run P w = .ok (.int .i64 0) w) (k : ByteArray) :
    ∃ v : Int, (∀ w', w'.heap[m]? = w.heap[m]? → (Instr.lookup t (.map (some m)) (.string k) false).run P w' = .ok (.int .i64 v) w') ∧ (0 < v ↔ hasK k ks = true) ∧ 0 ≤ v ∧ v ≤ B := by
  obtain ⟨es, cl, h1, h2, h3⟩ := h
  rcases findNow_spec (d := .string) (k := .string k) trivial es.toList 0 (keys_str h2) with ⟨e1, e2⟩ | ⟨j, e, e1, e2, e3⟩
  · refine ⟨0, fun w' hw' => ?_, ?_, Int.le_refl _, hB⟩
    · have hb : w'.heap[m]? = some (.map es cl) := hw'.trans h1
      simp [Instr.lookup, run_underlying ht, MapKept.run_getObj_map hb, MapKept.run_checkKey (d := .string) (k := .string k) hk trivial, MapKept.run_findKey hk e1, hz, Result.andThen]
    · rw [hasK_iff]
      constructor
      · intro q; omega
      · intro q
        exfalso
        have : Value.string k ∈ es.toList.map (·.key) := by rw [h2]; exact List.mem_map.2 ⟨k, q, rfl⟩
        obtain ⟨x, hx, hxe⟩ := List.mem_map.1 this
        exact e2 x hx hxe
  · have hm : e ∈ es.toList := List.mem_of_getElem? e2
    obtain ⟨v, v1, v2, v3⟩ := h3 e hm
    refine ⟨v, fun w' hw' => ?_, ?_, by omega, v3⟩
    · have hb : w'.heap[m]? = some (.map es cl) := hw'.trans h1
      simp [Instr.lookup, run_underlying ht, MapKept.run_getObj_map hb, MapKept.run_checkKey (d := .string) (k := .string k) hk trivial, MapKept.run_findKey hk e1, v1, Result.andThen]
    · rw [hasK_iff]
      constructor
      · intro _
        have : e.key ∈ ks.map Value.string := by rw [← h2]; exact List.mem_map.2 ⟨e, hm, rfl⟩
        rw [e3] at this
        obtain ⟨s, hs, hse⟩ := List.mem_map.1 this
        cases hse
        exact hs
      · intro _; omega
theorem look_nil (ht : P.underlying t = some (.map kt et)) (hk : P.underlying kt = some .string) (hz : ∀ w, (zeroValue et).run P w = .ok (.int .i64 0) w) (k : ByteArray) (w : World) :
    (Instr.lookup t (.map none) (.string k) false).run P w = .ok (.int .i64 0) w := by
  simp [Instr.lookup, run_underlying ht, MapKept.run_checkKey (d := .string) (k := .string k) hk trivial, Instr.findKey, run_underlying hk, Instr.findNow, hz, Result.andThen]
theorem update (h : MapIs w m ks B) (ht : P.underlying t = some (.map kt et)) (hk : P.underlying kt = some .string) (k : ByteArray) {v : Int} (hv1 : 1 ≤ v) (hv2 : v ≤ B + 1) :
    ∃ w2, (Instr.mapUpdate t (.map (some m)) (.string k) (.int .i64 v)).run P w = .ok () w2 ∧ MapIs w2 m (addK k ks) (B + 1) ∧ w2.heap.size = w.heap.size ∧ (∀ b, b ≠ m → w2.heap[b]? = w.heap[b]?) ∧ w2.os = w.os ∧ w2.tape = w.tape ∧ w2.output = w.output := by
  obtain ⟨es, cl, h1, h2, h3⟩ := h
  rcases findNow_spec (d := .string) (k := .string k) trivial es.toList 0 (keys_str h2) with ⟨e1, e2⟩ | ⟨j, e, e1, e2, e3⟩
  · have hn : hasK k ks = false := by
      cases q : hasK k ks with
      | false => rfl
      | true =>
        exfalso
        have : Value.string k ∈ es.toList.map (·.key) := by rw [h2]; exact List.mem_map.2 ⟨k, (hasK_iff k ks).1 q, rfl⟩
        obtain ⟨x, hx, hxe⟩ := List.mem_map.1 this
        exact e2 x hx hxe
    refine ⟨{ w with heap := w.heap.setIfInBounds m (.map (es.push { key := .string k, val := .int .i64 v, born := cl }) (cl + 1)) }, ?_, ⟨_, _, (heap_set h1).1, ?_, ?_⟩, by simp, (heap_set h1).2, rfl, rfl, rfl⟩
    · simp [Instr.mapUpdate, run_underlying ht, MapKept.run_getObj_map h1, MapKept.run_checkKey (d := .string) (k := .string k) hk trivial, MapKept.run_findKey hk e1, MapKept.run_setObj_map _ h1, Result.andThen]
    · simp [addK, hn, h2]
    · intro x hx
      simp only [Array.toList_push, List.mem_append, List.mem_singleton] at hx
      rcases hx with hx | rfl
      · obtain ⟨u, u1, u2, u3⟩ := h3 x hx
        exact ⟨u, u1, u2, by omega⟩
      · exact ⟨v, rfl, hv1, hv2⟩
  · have hm : e ∈ es.toList := List.mem_of_getElem? e2
    have hy : hasK k ks = true := by
      rw [hasK_iff]
      have : e.key ∈ ks.map Value.string := by rw [← h2]; exact List.mem_map.2 ⟨e, hm, rfl⟩
      rw [e3] at this
      obtain ⟨s, hs, hse⟩ := List.mem_map.1 this
      cases hse
      exact hs
    have hj : es[j]? = some e := by simpa using e2
    refine ⟨{ w with heap := w.heap.setIfInBounds m (.map (es.modify j fun e => { e with key := .string k, val := .int .i64 v }) cl) }, ?_, ⟨_, _, (heap_set h1).1, ?_, ?_⟩, by simp, (heap_set h1).2, rfl, rfl, rfl⟩
    · simp [Instr.mapUpdate, run_underlying ht, MapKept.run_getObj_map h1, MapKept.run_checkKey (d := .string) (k := .string k) hk trivial, MapKept.run_findKey hk e1, hj, e3, MapKept.run_keyThatStays (d := .string) (k := .string k) trivial, MapKept.run_setObj_map _ h1, Result.andThen]
    · rw [modify_keys j _ (fun e' he' => by rw [hj] at he'; cases he'; exact e3.symm)]
      simp [addK, hy, h2]
    · intro x hx
      rw [Array.mem_toList_iff, Array.mem_iff_getElem?] at hx
      obtain ⟨i, hi⟩ := hx
      rw [Array.getElem?_modify] at hi
      split at hi
      · rename_i q
        subst q
        rw [hj] at hi
        simp at hi
        subst hi
        exact ⟨v, rfl, hv1, hv2⟩
      · obtain ⟨u, u1, u2, u3⟩ := h3 x (by rw [Array.mem_toList_iff, Array.mem_iff_getElem?]; exact ⟨i, hi⟩)
        exact ⟨u, u1, u2, by omega⟩
end
end Go.Va
set_option linter.unusedVariables false
namespace Go.Va
def tailN : Nat → Code → Code
  | 0, c => c
  | n + 1, .seq a b => tailN n b
  | _, c => c
def putN : Nat → Code → Code
  | 0, _ => .skip
  | n + 1, .seq a b => .seq a (putN n b)
  | _, c => c
def isSeq : Nat → Code → Bool
  | 0, _ => true
  | n + 1, .seq a b => isSeq n b
  | _, _ => false
theorem evc_put (env : Env) (E : Task → Option Res) (LP : Nat → St → Option Res) (f : Nat) (lv : Nat → List Nat) : ∀ (n : Nat) (c : Code) (st : St), isSeq n c = true →
    evc env E LP f lv c st = match evc env E LP f lv (putN n c) st with
      | some (.code .normal st) => evc env E LP f lv (tailN n c) st
      | r => r
  | 0, c, st, _ => rfl
  | n + 1, .seq a b, st, h => by
    simp only [putN, tailN, evc]
    cases hx : evc env E LP f lv a st with
    | none => rfl
    | some r =>
      cases r with
      | ret v O => rfl
      | code ex st1 =>
        cases ex with
        | normal => exact evc_put env E LP f lv n b st1 h
        | ret => rfl
        | exit j => rfl
