/- The functions that the statement reaches, by equations: no statement of its own. -/
import Derived.Test.YtmklimlepgiffaaVa40
set_option linter.unusedVariables false
set_option linter.unusedSimpArgs false
set_option linter.unusedSectionVars false
set_option linter.unusedVariables false
namespace Go.Va
def signsL : List UInt8 := [38, 60, 62, 34]
def wordL (c : UInt8) : List UInt8 := if c = 38 then [38, 97, 109, 112, 59] else if c = 60 then [38, 108, 116, 59] else if c = 62 then [38, 103, 116, 59] else [38, 113, 117, 111, 116, 59]
def plainB (c : UInt8) : Bool := !(c == 38 || c == 60 || c == 62 || c == 34)
def escPutL : List UInt8 → List UInt8
  | [] => []
  | c :: l => (if plainB c then [c] else wordL c) ++ escPutL l
/-- the sign that a text begins with, and how many bytes stand for it -/
def escFirst : List UInt8 → UInt8 × Nat
  | [] => (0, 0)
  | c :: l => if plainB c then (c, 1) else if (wordL 38).isPrefixOf (c :: l) then (38, 5) else if (wordL 60).isPrefixOf (c :: l) then (60, 4) else if (wordL 62).isPrefixOf (c :: l) then (62, 4) else if (wordL 34).isPrefixOf (c :: l) then (34, 6) else (0, 0)
def escGetL : Nat → List UInt8 → Option (List UInt8)
  | _, [] => some []
  | 0, _ :: _ => none
  | n + 1, c :: l => match escFirst (c :: l) with
    | (_, 0) => none
    | (d, k + 1) => match escGetL n ((c :: l).drop (k + 1)) with
      | some r => some (d :: r)
      | none => none
def baOf (l : List UInt8) : ByteArray := ⟨l.toArray⟩
def yEscPut (args : List AV) (O : Seg) : Prog := match args, O with
  | [.s (.string s)], [] => bif Nat.ble s.size 100000 then okR (.s (.string (baOf (escPutL s.data.toList)))) [] else noR
  | _, _ => noR
def yEscGet (args : List AV) (O : Seg) : Prog := match args, O with
  | [.s (.string s)], [] => bif Nat.ble s.size 1000000 then (match escGetL s.size s.data.toList with
    | some l => okR (.tup [.s (.string (baOf l)), .s (.bool true)]) []
    | none => okR (.tup [.s (.string (baOf [])), .s (.bool false)]) []) else noR
  | _, _ => noR
end Go.Va
set_option linter.unusedVariables false
namespace Go.Va
abbrev InsV := Int × ByteArray × ByteArray
/-- a checker's state: places (the one at hand first), the op ahead, the names told -/
structure CkS where
  l : List (List ByteArray × Bool)
  ahead : Int
  names : List ByteArray
def tellsB (o : Int) : Bool := decide (o = 5) || decide (o = 6)
def elemB (o : Int) : Bool := decide (o = 1) || decide (o = 3)
def hasK (x : ByteArray) (l : List ByteArray) : Bool := l.any fun y => y.data.toList == x.data.toList
def ckAttr (c : CkS) (a : ByteArray) : Nat × CkS :=
  if !(elemB c.ahead || tellsB c.ahead) then (9, c) else if hasK a c.names then (9, c) else if 8 ≤ c.names.length then (9, c) else (0, { c with names := c.names ++ [a] })
def ckEnds (c : CkS) : Nat × CkS := match c.l with
  | _ :: p :: l => (0, { c with l := p :: l })
  | _ => (8, c)
def addK (b : ByteArray) (ks : List ByteArray) : List ByteArray := if hasK b ks then ks else ks ++ [b]
def ckStands (c : CkS) (i : InsV) : Nat × CkS := match c.l with
  | [] => (8, c)
  | (keys, all) :: l =>
    if all then (11, c)
    else if elemB i.1 && (!(i.2.2.data.toList == []) && hasK i.2.2 keys) then (10, c)
    else if decide (i.1 = 1) && decide (8 < l.length + 1) then (12, c)
    else if elemB i.1 then (0, { c with l := (if i.1 = 1 then ([], false) :: (addK i.2.2 keys, false) :: l else (addK i.2.2 keys, false) :: l), names := [] })
    else (0, { c with l := (keys, decide (i.1 = 7)) :: l })
def ckOne (c : CkS) (may : Bool) (i : InsV) : Nat × CkS :=
  if !may then (7, c) else if tellsB i.1 then ckAttr c i.2.1 else if i.1 = 2 then ckEnds c else ckStands c i
def insAV (i : InsV) : AV := .agg [.s (.int .i64 i.1), .s (.string i.2.1), .s (.string i.2.2)]
def codeN (T n : Nat) : AV := match n with
  | 0 => .s .nilIface
  | n => .s (.iface T (.int .i64 (.ofNat n)))
def ckProg (T fMay : Nat) : List InsV → CkS → Prog
  | [], c => okR (codeN T (if 1 < c.l.length then 8 else 0)) []
  | i :: is, c => .ask (.call fMay [insAV i] []) fun
    | .ret (.s (.bool b)) [] => match ckOne c b i with
      | (0, c2) => ckProg T fMay is { c2 with ahead := i.1 }
      | (n + 1, _) => okR (codeN T (n + 1)) []
    | _ => noR
def ck0 : CkS := ⟨[([], false)], 0, []⟩
def ckAll (T fMay : Nat) (xs : List AV) : Prog := match insL xs with
  | some l => bif Nat.blt 120 l.length then okR (codeN T 13) [] else ckProg T fMay l ck0
  | none => noR
def yCheck (T fMay : Nat) (args : List AV) (O : Seg) : Prog := match args, O with
  | [.sl 3 xs .imm], [] => ckAll T fMay xs
  | [.sl 3 xs .ro], [] => ckAll T fMay xs
  | _, _ => noR
end Go.Va
namespace Go.Va
theorem hlt (a b : Int) : realAr.lt a b = decide (a < b) := rfl
theorem hle (a b : Int) : realAr.le a b = decide (a ≤ b) := rfl
theorem heq (a b : Int) : realAr.eq a b = decide (a = b) := realAr_ok.eq a b
theorem hlt_t {a b : Int} (h : a < b) : realAr.lt a b = true := decide_eq_true h
theorem hlt_f {a b : Int} (h : b ≤ a) : realAr.lt a b = false := decide_eq_false (by omega)
theorem hle_t {a b : Int} (h : a ≤ b) : realAr.le a b = true := decide_eq_true h
theorem hle_f {a b : Int} (h : b < a) : realAr.le a b = false := decide_eq_false (by omega)
theorem heq_t {a b : Int} (h : a = b) : realAr.eq a b = true := by rw [heq]; exact decide_eq_true h
theorem heq_f {a b : Int} (h : a ≠ b) : realAr.eq a b = false := by rw [heq]; exact decide_eq_false h
theorem nlt_t {i j : Nat} (h : i < j) : realAr.lt (.ofNat i) (.ofNat j) = true := hlt_t (Int.ofNat_lt.2 h)
theorem nlt_f {i j : Nat} (h : j ≤ i) : realAr.lt (.ofNat i) (.ofNat j) = false := hlt_f (Int.ofNat_le.2 h)
theorem hwrap {a : Int} (h1 : -9223372036854775808 ≤ a) (h2 : a ≤ 9223372036854775807) : IntKind.wrap .i64 a = a := by
  rw [IntKind.wrap_i64]
  omega
theorem hadd {a b : Int} (h1 : -9223372036854775808 ≤ a + b) (h2 : a + b ≤ 9223372036854775807) : realAr.add .i64 a b = a + b := by
  rw [realAr_ok.add]
  exact hwrap h1 h2
theorem hsub {a b : Int} (h1 : -9223372036854775808 ≤ a - b) (h2 : a - b ≤ 9223372036854775807) : realAr.sub .i64 a b = a - b := by
  rw [realAr_ok.sub]
  exact hwrap h1 h2
theorem ninc {i : Nat} (h : i + 1 ≤ 9223372036854775807) : realAr.add .i64 (.ofNat i) 1 = .ofNat (Nat.succ i) := by
  show realAr.add .i64 (i : Int) 1 = ((i + 1 : Nat) : Int)
  rw [hadd (by omega) (by omega)]
  rfl
theorem nadd {i j : Nat} (h : i + j ≤ 9223372036854775807) : realAr.add .i64 (.ofNat i) (.ofNat j) = .ofNat (i + j) := by
  show realAr.add .i64 (i : Int) (j : Int) = ((i + j : Nat) : Int)
  rw [hadd (by omega) (by omega)]
  rfl
theorem nsub {i j : Nat} (h : j ≤ i) (h2 : i ≤ 9223372036854775807) : realAr.sub .i64 (.ofNat i) (.ofNat j) = .ofNat (i - j) := by
  show realAr.sub .i64 (i : Int) (j : Int) = ((i - j : Nat) : Int)
  rw [hsub (by omega) (by omega)]
  omega
theorem hble {a b : Nat} (h : a ≤ b) : Nat.ble a b = true := Nat.ble_eq_true_of_le h
theorem hbeq (n : Nat) : Nat.beq n n = true := Nat.beq_refl n
theorem hbne {a b : Nat} (h : a ≠ b) : Nat.beq a b = false := by
  cases q : Nat.beq a b with
  | false => rfl
  | true => exact (h (Nat.eq_of_beq_eq_true q)).elim
theorem hfit {n b : Nat} (h : n * b ≤ 70368744177664) : realAr.fit n b = true := by rw [realAr_ok.fit]; exact decide_eq_true h
theorem hseqr (s : ByteArray) : realAr.seq s s = true := by simp [realAr]
section
variable {α : Type} (f : α → AV) (l : List α)
theorem mlen : (l.map f).length = l.length := by simp
theorem mget {i : Nat} (h : i < l.length) : lget (l.map f) i = some (f l[i]) := by rw [lget_get]; simp [h]
theorem mget' {i : Nat} {x : α} (h : l[i]? = some x) : lget (l.map f) i = some (f x) := by rw [lget_get]; simp [h]
theorem msnoc (x : α) : l.map f ++ [f x] = (l ++ [x]).map f := by simp
theorem mset (i : Nat) (x : α) : lset (l.map f) i (f x) = (l.set i x).map f := by rw [lset_eq, List.map_set]
theorem mcut (i n : Nat) : lcut (l.map f) i n = ((l.drop i).take n).map f := by rw [lcut, List.map_take, List.map_drop]
theorem mtake (n : Nat) : (l.map f).take n = (l.take n).map f := by rw [List.map_take]
theorem mcut0 {n : Nat} (h : n = l.length) : lcut (l.map f) 0 n = l.map f := by
  subst h
  rw [mcut, List.drop_zero, List.take_length]
theorem mtakeall {n : Nat} (h : l.length ≤ n) : (l.map f).take n = l.map f := List.take_of_length_le (by simpa using h)
end
end Go.Va
namespace Go.Va
structure AS (α : Type) where
  ss : List (Int × α)
  fs : List Nat
  last : Nat
def nzP {α : Type} (p : Int × α) : Bool := decide (p.1 ≠ 0)
variable {α : Type}
/-- where an identity is -/
def atL (id : Int) (l : List (Int × α)) : Option Nat := l.findIdx? (fun p => decide (p.1 = id) && decide (0 < id))
structure ArRel (s : AS α) (l : List (Int × α)) : Prop where
  perm : (s.ss.filter nzP).Perm l
  keys : (l.map Prod.fst).Nodup
  pos : ∀ p ∈ l, 0 < p.1 ∧ p.1 ≤ s.last
  nodup : s.fs.Nodup
  free : ∀ i ∈ s.fs, ∃ x, s.ss[i]? = some (0, x)
  cnt : s.ss.length = s.fs.length + l.length
  len : s.ss.length ≤ s.last
def AS.put (s : AS α) (x : α) : AS α := match s.fs.getLast? with
  | some i => ⟨s.ss.set i (((s.last + 1 : Nat) : Int), x), s.fs.dropLast, s.last + 1⟩
  | none => ⟨s.ss ++ [(((s.last + 1 : Nat) : Int), x)], s.fs, s.last + 1⟩
def AS.set (s : AS α) (i : Nat) (id : Int) (x : α) : AS α := ⟨s.ss.set i (id, x), s.fs, s.last⟩
def AS.drop (s : AS α) (i : Nat) (d : α) : AS α := ⟨s.ss.set i (0, d), s.fs ++ [i], s.last⟩
theorem perm_erase {β : Type} : ∀ (l : List β) (i : Nat) (x : β), l[i]? = some x → l.Perm (x :: l.eraseIdx i)
  | [], i, x, h => by simp at h
  | a :: l, 0, x, h => by
    simp at h
    subst h
    simp
  | a :: l, i + 1, x, h => by
    have := perm_erase l i x (by simpa using h)
    rw [List.eraseIdx_cons_succ]
    exact (this.cons a).trans (.swap x a _)
theorem erase_set {β : Type} : ∀ (l : List β) (i : Nat) (x : β), (l.set i x).eraseIdx i = l.eraseIdx i
  | [], i, x => by simp
  | a :: l, 0, x => by simp
  | a :: l, i + 1, x => by simp [erase_set l i x]
theorem perm_set {β : Type} (l : List β) (i : Nat) (x : β) (h : i < l.length) : (l.set i x).Perm (x :: l.eraseIdx i) := by
  have := perm_erase (l.set i x) i x (by simp [h])
  rwa [erase_set] at this
theorem lt_of_get {β : Type} {l : List β} {i : Nat} {x : β} (h : l[i]? = some x) : i < l.length := by
  rcases Nat.lt_or_ge i l.length with q | q
  · exact q
  · rw [List.getElem?_eq_none q] at h; cases h
theorem put_rel {s : AS α} {l : List (Int × α)} (h : ArRel s l) (x : α) : ArRel (s.put x) (l ++ [(((s.last + 1 : Nat) : Int), x)]) := by
  have hk : ((l ++ [(((s.last + 1 : Nat) : Int), x)]).map Prod.fst).Nodup := by
    rw [List.map_append, List.nodup_append]
    refine ⟨h.keys, by simp, ?_⟩
    intro a ha b hb
    obtain ⟨p, hp, rfl⟩ := List.mem_map.1 ha
    have := (h.pos p hp).2
    simp at hb
    omega
  have hp : ∀ p ∈ l ++ [(((s.last + 1 : Nat) : Int), x)], 0 < p.1 ∧ p.1 ≤ ((s.last + 1 : Nat) : Int) := by
    intro p hp
    rcases List.mem_append.1 hp with q | q
    · have := h.pos p q
      omega
    · simp at q
      subst q
      exact ⟨by show 0 < ((s.last + 1 : Nat) : Int); omega, Int.le_refl _⟩
  have hnz : nzP ((((s.last + 1 : Nat) : Int), x)) = true := by simp [nzP]; omega
  unfold AS.put
  cases hf : s.fs.getLast? with
  | none =>
    have he : s.fs = [] := by simpa using hf
    refine ⟨?_, hk, hp, h.nodup, ?_, ?_, by have := h.len; simp; omega⟩
    · simp only [List.filter_append]
      refine List.Perm.append h.perm ?_
      rw [List.filter_cons, hnz]
      simp
    · rw [he]; simp
    · have := h.cnt
      simp
      omega
  | some i =>
    obtain ⟨q, hq⟩ := List.getLast?_eq_some_iff.1 hf
    have hi : i ∈ s.fs := by rw [hq]; simp
    obtain ⟨y, hy⟩ := h.free i hi
    have hil := lt_of_get hy
    refine ⟨?_, hk, hp, ?_, ?_, ?_, by have := h.len; simp; omega⟩
    · have e1 := (perm_erase _ _ _ hy).filter nzP
      have e2 := (perm_set s.ss i (((s.last + 1 : Nat) : Int), x) hil).filter nzP
      rw [List.filter_cons, hnz] at e2
      rw [List.filter_cons, show nzP ((0 : Int), y) = false by simp [nzP]] at e1
      simp only [if_true, Bool.false_eq_true, if_false] at e1 e2
      refine e2.trans ?_
      refine ((e1.symm.trans h.perm).cons _).trans ?_
      exact (List.perm_append_singleton _ _).symm
    · have := h.nodup
      rw [hq] at this ⊢
      simp only [List.dropLast_concat]
      exact (List.nodup_append.1 this).1
    · intro j hj
      rw [hq] at hj
      simp only [List.dropLast_concat] at hj
      have hne : i ≠ j := by
        have := h.nodup
        rw [hq] at this
        rintro rfl
        exact (List.nodup_append.1 this).2.2 i hj i (by simp) rfl
      obtain ⟨z, hz⟩ := h.free j (by rw [hq]; simp [hj])
      exact ⟨z, by rw [List.getElem?_set_ne hne]; exact hz⟩
    · have := h.cnt
      have hl := congrArg List.length hq
      simp at hl ⊢
      omega
theorem at_some {id : Int} {ss : List (Int × α)} {i : Nat} (h : atL id ss = some i) : 0 < id ∧ ∃ x, ss[i]? = some (id, x) := by
  unfold atL at h
  rw [List.findIdx?_eq_some_iff_getElem] at h
  obtain ⟨h1, h2, -⟩ := h
  simp at h2
  exact ⟨h2.2, ss[i].2, by rw [List.getElem?_eq_getElem h1, ← h2.1]⟩
theorem at_none {id : Int} {ss : List (Int × α)} (h : atL id ss = none) (hp : 0 < id) : ∀ p ∈ ss, p.1 ≠ id := by
  unfold atL at h
  rw [List.findIdx?_eq_none_iff] at h
  intro p hm hq
  have := h p hm
  simp [hp, hq] at this
theorem rel_mem {s : AS α} {l : List (Int × α)} (h : ArRel s l) {i : Nat} {id : Int} {x : α} (hi : s.ss[i]? = some (id, x)) (hp : 0 < id) : (id, x) ∈ l := by
  refine h.perm.subset ?_
  rw [List.mem_filter]
  exact ⟨List.mem_of_getElem? hi, by simp [nzP]; omega⟩
theorem rel_none {s : AS α} {l : List (Int × α)} (h : ArRel s l) {id : Int} (ha : atL id s.ss = none) : ∀ p ∈ l, p.1 ≠ id := by
  intro p hp hq
  have h1 := (h.pos p hp).1
  have h2 := h.perm.symm.subset hp
  exact at_none ha (by omega) p (List.mem_filter.1 h2).1 hq
/-- the rest, beside a slot -/
theorem rel_split {s : AS α} {l : List (Int × α)} (h : ArRel s l) {i : Nat} {id : Int} {x : α} (hi : s.ss[i]? = some (id, x)) (hp : 0 < id) :
    ∃ r : List (Int × α), l.Perm ((id, x) :: r) ∧ (∀ p ∈ r, p.1 ≠ id) ∧ ∀ q : Int × α, ((s.ss.set i q).filter nzP).Perm (if nzP q then q :: r else r) := by
  refine ⟨(s.ss.eraseIdx i).filter nzP, ?_, ?_, ?_⟩
  · have e1 := (perm_erase _ _ _ hi).filter nzP
    rw [List.filter_cons, show nzP (id, x) = true by simp [nzP]; omega] at e1
    exact h.perm.symm.trans e1
  · have e1 := (perm_erase _ _ _ hi).filter nzP
    rw [List.filter_cons, show nzP (id, x) = true by simp [nzP]; omega] at e1
    have e2 := (h.perm.symm.trans e1).map Prod.fst
    have e3 := e2.nodup_iff.1 h.keys
    simp only [if_true, List.map_cons, List.nodup_cons] at e3
    intro p hp hq
    exact e3.1 (List.mem_map.2 ⟨p, hp, hq⟩)
  · intro q
    have := (perm_set s.ss i q (lt_of_get hi)).filter nzP
    rw [List.filter_cons] at this
    exact this
theorem set_rel {s : AS α} {l : List (Int × α)} (h : ArRel s l) {i : Nat} {id : Int} {x : α} (hi : s.ss[i]? = some (id, x)) (hp : 0 < id) (y : α) :
    ArRel (s.set i id y) (l.map fun p => if p.1 = id then (id, y) else p) := by
  obtain ⟨r, h1, h2, h3⟩ := rel_split h hi hp
  have hk : (l.map fun p => if p.1 = id then (id, y) else p).map Prod.fst = l.map Prod.fst := by
    rw [List.map_map]
    apply List.map_congr_left
    intro p _
    by_cases q : p.1 = id
    · simp [q]
    · simp [q]
  refine ⟨?_, by rw [hk]; exact h.keys, ?_, h.nodup, ?_, by simpa [AS.set] using h.cnt, by simpa [AS.set] using h.len⟩
  · have e := h3 (id, y)
    rw [show nzP (id, y) = true by simp [nzP]; omega] at e
    refine e.trans ?_
    refine List.Perm.trans ?_ (h1.map _).symm
    simp only [List.map_cons, if_true]
    refine List.Perm.cons _ ?_
    rw [List.map_congr_left (g := _root_.id) (fun p hp => by simp [h2 p hp])]
    simp
  · intro p hp2
    obtain ⟨q, hq, rfl⟩ := List.mem_map.1 hp2
    by_cases e : q.1 = id
    · simp only [e, if_true]
      have := h.pos q hq
      rw [e] at this
      exact this
    · simp only [e, if_false]
      exact h.pos q hq
  · intro j hj
    obtain ⟨z, hz⟩ := h.free j hj
    have hne : i ≠ j := by
      rintro rfl
      rw [hi] at hz
      injection hz with hz
      injection hz with hz
      omega
    exact ⟨z, by simp only [AS.set]; rw [List.getElem?_set_ne hne]; exact hz⟩
theorem drop_rel {s : AS α} {l : List (Int × α)} (h : ArRel s l) {i : Nat} {id : Int} {x : α} (hi : s.ss[i]? = some (id, x)) (hp : 0 < id) (d : α) :
    ArRel (s.drop i d) (l.filter fun p => decide (p.1 ≠ id)) := by
  obtain ⟨r, h1, h2, h3⟩ := rel_split h hi hp
  have hr : (l.filter fun p => decide (p.1 ≠ id)).Perm r := by
    refine (h1.filter _).trans ?_
    rw [List.filter_cons]
    simp only [ne_eq, not_true_eq_false, decide_false, Bool.false_eq_true, if_false]
    rw [List.filter_eq_self.2 (fun p hp => by simp [h2 p hp])]
  have hni : i ∉ s.fs := by
    intro hm
    obtain ⟨z, hz⟩ := h.free i hm
    rw [hi] at hz
    injection hz with hz
    injection hz with hz
    omega
  refine ⟨?_, ?_, ?_, ?_, ?_, ?_, by simpa [AS.drop] using h.len⟩
  · have e := h3 (0, d)
    rw [show nzP ((0 : Int), d) = false by simp [nzP]] at e
    exact e.trans hr.symm
  · exact h.keys.sublist ((List.filter_sublist).map _)
  · intro p hp2
    exact h.pos p (List.mem_filter.1 hp2).1
  · simp only [AS.drop]
    rw [List.nodup_append]
    refine ⟨h.nodup, by simp, ?_⟩
    intro a ha b hb
    simp at hb
    subst hb
    rintro rfl
    exact hni ha
  · intro j hj
    simp only [AS.drop] at hj ⊢
    rcases List.mem_append.1 hj with q | q
    · have hne : i ≠ j := by rintro rfl; exact hni q
      obtain ⟨z, hz⟩ := h.free j q
      exact ⟨z, by rw [List.getElem?_set_ne hne]; exact hz⟩
    · simp at q
      subst q
      exact ⟨d, by simp [lt_of_get hi]⟩
  · have h4 := h.cnt
    have h5 := h1.length_eq
    have h6 := hr.length_eq
    simp only [AS.drop, List.length_set, List.length_append, List.length_cons, List.length_nil] at *
    omega
theorem new_rel : ArRel (⟨[], [], 0⟩ : AS α) [] := ⟨by simp, by simp, by simp, by simp, by simp, by simp, by simp⟩
theorem find_key {l : List (Int × α)} (hk : (l.map Prod.fst).Nodup) {id : Int} {x : α} (h : (id, x) ∈ l) : l.find? (fun p => decide (p.1 = id)) = some (id, x) := by
  induction l with
  | nil => cases h
  | cons a l ih =>
    rw [List.map_cons, List.nodup_cons] at hk
    rw [List.find?_cons]
    rcases List.mem_cons.1 h with q | q
    · subst q
      simp
    · have hne : a.1 ≠ id := by
        intro e
        exact hk.1 (List.mem_map.2 ⟨(id, x), q, e.symm⟩)
      simp only [hne, decide_false]
      exact ih hk.2 q
theorem find_none {l : List (Int × α)} {id : Int} (h : ∀ p ∈ l, p.1 ≠ id) : l.find? (fun p => decide (p.1 = id)) = none := by
  rw [List.find?_eq_none]
  intro p hp
  simp [h p hp]
/-- what has an identity -/
def AS.get (s : AS α) (id : Int) : Option α := match atL id s.ss with
  | some i => (s.ss[i]?).map Prod.snd
  | none => none
theorem get_rel {s : AS α} {l : List (Int × α)} (h : ArRel s l) (id : Int) : s.get id = (l.find? (fun p => decide (p.1 = id))).map Prod.snd := by
  unfold AS.get
  cases ha : atL id s.ss with
  | none => rw [find_none (rel_none h ha)]; rfl
  | some i =>
    obtain ⟨h1, x, h2⟩ := at_some ha
    rw [find_key h.keys (rel_mem h h2 h1)]
    simp [h2]
theorem at_iff {s : AS α} {l : List (Int × α)} (h : ArRel s l) (id : Int) : (atL id s.ss).isSome = (l.find? (fun p => decide (p.1 = id))).isSome := by
  cases ha : atL id s.ss with
  | none => rw [find_none (rel_none h ha)]; rfl
  | some i =>
    obtain ⟨h1, x, h2⟩ := at_some ha
    rw [find_key h.keys (rel_mem h h2 h1)]
    rfl
end Go.Va
