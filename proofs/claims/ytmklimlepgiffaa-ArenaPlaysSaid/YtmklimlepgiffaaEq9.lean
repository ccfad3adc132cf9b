/- The functions that the statement reaches, by equations: no statement of its own. -/
import Derived.Test.YtmklimlepgiffaaEq8
set_option linter.unusedVariables false
set_option linter.unusedSimpArgs false
set_option linter.unusedSectionVars false
namespace Go.Va
open Go.Proofs
set_option maxRecDepth 100000
set_option maxHeartbeats 4000000
namespace ArInt
abbrev X : Type := Int
def zx : X := 0
def cel (x : X) : List AV := [.s (.int .i64 x)]
def av (x : X) : AV := .s (.int .i64 x)
def zav : AV := .s (.int .i64 0)
def slotA (p : Int × X) : AV := .agg (.s (.int .i64 p.1) :: cel p.2)
def freeA (i : Nat) : AV := .s (.int .i64 (.ofNat i))
def obj (s : AS X) (room : Int) : List AV := arO (s.ss.map slotA) (s.fs.map freeA) room (.ofNat s.last)
def view (s : AS X) (room : Int) : AV := arV (s.ss.map slotA) (s.fs.map freeA) room (.ofNat s.last)
section
variable (room : Int) {s : AS X} {l : List (Int × X)} (h : ArRel s l) (hb : s.last ≤ 1000000)
include h hb
theorem s_Live : evl (envV realAr) (.call 41 [view s room] []) = some (.ret (.s (.int .i64 (.ofNat l.length))) []) := by
  have h1 := h.cnt
  have h2 := h.len
  exact eq_Live realAr realAr_ok _ _ s.ss.length s.fs.length room _ _ (mlen _ _) (mlen _ _) (by rw [nsub (by omega) (by omega)]; congr 1; omega)
theorem lp_at_all (id : Int) : ∀ (m i : Nat), m + i = s.ss.length →
    lpOf (envV realAr) 79 bd79 2 (stA (s.ss.map slotA) id s.ss.length i) = (match atL id (s.ss.drop i) with
      | some j => some (.code .ret { n := 27, k := 0, fr := [(4, .s (.int .i64 (.ofNat (i + j))))], O := [] })
      | none => some (.code (.exit 0) (stAe (s.ss.map slotA) id s.ss.length s.ss.length)))
  | 0, i, hi => by
    have : i = s.ss.length := by omega
    subst this
    rw [List.drop_length]
    exact lp_at_end realAr realAr_ok _ _ _ id (mlen _ _) (nlt_f (Nat.le_refl _))
  | m + 1, i, hi => by
    have hl := h.len
    have hil : i < s.ss.length := by omega
    generalize hp : s.ss[i] = e0
    obtain ⟨j, x⟩ := e0
    have := lp_at realAr realAr_ok (s.ss.map slotA) s.ss.length i id j x (mlen _ _) (mget' slotA s.ss (by rw [List.getElem?_eq_getElem hil, hp])) (hble hil) (nlt_t hil) (ninc (by omega)) (lp_at_all id m (i + 1) (by omega))
    rw [this, List.drop_eq_getElem_cons hil, hp]
    unfold atL
    rw [List.findIdx?_cons, heq, hlt]
    have e : (bif decide (j = id) then decide (0 < id) else false) = (decide (j = id) && decide (0 < id)) := by cases decide (j = id) <;> rfl
    rw [e]
    cases decide (j = id) && decide (0 < id) with
    | true => simp
    | false =>
      simp only [cond_false, Bool.false_eq_true, if_false]
      cases (s.ss.drop (i + 1)).findIdx? (fun p => decide (p.1 = id) && decide (0 < id)) with
      | none => rfl
      | some k =>
        simp only [Option.map_some]
        rw [show i + 1 + k = i + (k + 1) by omega]
theorem s_at (id : Int) : evl (envV realAr) (.call 79 [view s room, .s (.int .i64 id)] []) = some (.ret (.s (.int .i64 (match atL id s.ss with | some i => .ofNat i | none => -1))) []) := by
  have q := lp_at_all h hb id s.ss.length 0 (by omega)
  rw [List.drop_zero] at q
  cases ha : atL id s.ss with
  | none =>
    rw [ha] at q
    exact eq_at_none realAr realAr_ok _ _ _ _ room _ id (mlen _ _) q
  | some i =>
    rw [ha] at q
    simp only [Nat.zero_add] at q
    exact eq_at_some realAr realAr_ok _ _ _ _ room _ id (mlen _ _) q
theorem s_Get (id : Int) : evl (envV realAr) (.call 44 [view s room, .s (.int .i64 id)] []) = some (.ret (match s.get id with | some x => .tup [av x, .s (.bool true)] | none => .tup [zav, .s (.bool false)]) []) := by
  have q := s_at room h hb id
  unfold AS.get
  cases ha : atL id s.ss with
  | none =>
    rw [ha] at q
    exact eq_Get_no realAr realAr_ok _ _ room _ id q
  | some i =>
    rw [ha] at q
    obtain ⟨h1, x, h2⟩ := at_some ha
    simp only [h2, Option.map_some]
    exact eq_Get realAr realAr_ok _ _ s.ss.length i room _ id id x (mlen _ _) (mget' slotA s.ss h2) (hble (lt_of_get h2)) (hle_t (by simp)) q
theorem s_Set (id : Int) (x : X) : evl (envV realAr) (.call 39 [.ptr 0 0, .s (.int .i64 id), av x] [obj s room]) = some (match atL id s.ss with
    | some i => .ret (.s (.bool true)) [obj (s.set i id x) room]
    | none => .ret (.s (.bool false)) [obj s room]) := by
  have q := s_at room h hb id
  cases ha : atL id s.ss with
  | none =>
    rw [ha] at q
    exact eq_Set_no realAr realAr_ok _ _ room _ id x q
  | some i =>
    rw [ha] at q
    obtain ⟨h1, y, h2⟩ := at_some ha
    exact eq_Set realAr realAr_ok _ _ ((s.ss.set i (id, x)).map slotA) s.ss.length i room _ id id x y (mlen _ _) (mget' slotA s.ss h2) (hble (lt_of_get h2)) (Nat.zero_add _) (mset slotA s.ss i (id, x)) (hlt_f (by simp)) q
theorem s_Drop (id : Int) : evl (envV realAr) (.call 38 [.ptr 0 0, .s (.int .i64 id)] [obj s room]) = some (match atL id s.ss with
    | some i => .ret (.s (.bool true)) [obj (s.drop i zx) room]
    | none => .ret (.s (.bool false)) [obj s room]) := by
  have q := s_at room h hb id
  have h3 := h.cnt
  have h4 := h.len
  cases ha : atL id s.ss with
  | none =>
    rw [ha] at q
    exact eq_Drop_no realAr realAr_ok _ _ room _ id q
  | some i =>
    rw [ha] at q
    obtain ⟨h1, y, h2⟩ := at_some ha
    exact eq_Drop realAr realAr_ok _ _ ((s.ss.set i (0, zx)).map slotA) ((s.fs ++ [i]).map freeA) s.ss.length s.fs.length i room _ id id y (mlen _ _) (mget' slotA s.ss h2) (hble (lt_of_get h2)) (Nat.zero_add _) (mset slotA s.ss i (0, zx)) (mlen _ _) (hbeq _) (msnoc freeA s.fs i) (hfit (by rw [Nat.succ_eq_add_one]; omega)) (hlt_f (by simp)) q
theorem s_Put_full (x : X) (hr : room ≤ l.length) : evl (envV realAr) (.call 36 [.ptr 0 0, av x] [obj s room]) = some (.ret (.tup [.s (.int .i64 0), .s (.iface 45 (.int .i64 6))]) [obj s room]) :=
  eq_Put_full realAr realAr_ok _ _ room _ _ x (s_Live room h hb) (hle_t hr)
omit h in
theorem s_Add : evl (envV realAr) (.call 77 [.ptr 0 3, .s (.int .i64 1)] [obj s room]) = some (.ret (.s (.int .i64 (.ofNat (s.last + 1)))) [arO (s.ss.map slotA) (s.fs.map freeA) room (.ofNat (s.last + 1))]) := by
  refine eq_Add realAr realAr_ok _ _ room _ _ ?_
  rw [evl_ext (envV realAr) _ _ _ (e := xAddInt64) rfl]
  have : IntKind.wrap .i64 ((s.last : Int) + 1) = ((s.last + 1 : Nat) : Int) := by rw [hwrap (by omega) (by omega)]; rfl
  show (okS (.s (.int .i64 (IntKind.wrap .i64 ((s.last : Int) + 1)))) [[_, _, _, .s (.int .i64 (IntKind.wrap .i64 ((s.last : Int) + 1)))]]).run _ = _
  rw [this]
  rfl
theorem s_Put (x : X) (hr : (l.length : Int) < room) : evl (envV realAr) (.call 36 [.ptr 0 0, av x] [obj s room]) = some (.ret (.tup [.s (.int .i64 (.ofNat (s.last + 1))), .s .nilIface]) [obj (s.put x) room]) := by
  have hL := s_Live room h hb
  have hA := s_Add room hb
  have h1 := h.cnt
  have h2 := h.len
  unfold AS.put
  cases hf : s.fs.getLast? with
  | none =>
    have he : s.fs = [] := by simpa using hf
    exact eq_Put_new realAr realAr_ok _ _ ((s.ss ++ [(((s.last + 1 : Nat) : Int), x)]).map slotA) s.ss.length room _ _ x _ hL (hle_f hr) hA (mlen _ _) (by rw [he]; rfl) (hbeq _) (msnoc slotA s.ss (((s.last + 1 : Nat) : Int), x)) (hfit (by rw [Nat.succ_eq_add_one]; omega))
  | some q =>
    obtain ⟨fs, hq⟩ := List.getLast?_eq_some_iff.1 hf
    obtain ⟨y, hy⟩ := h.free q (by rw [hq]; simp)
    have hfl : s.fs.length = fs.length + 1 := by rw [hq]; simp
    refine eq_Put_free realAr realAr_ok _ _ ((s.ss.set q (((s.last + 1 : Nat) : Int), x)).map slotA) (s.fs.dropLast.map freeA) s.ss.length s.fs.length fs.length q room _ 0 _ x y _ hL (hle_f hr) hA (mlen _ _) (mlen _ _) (hlt_t (by rw [hfl]; simp only [Int.ofNat_eq_natCast]; omega)) ?_ (hble (by omega)) (mget' freeA s.fs (by rw [hq]; simp)) (Nat.zero_add _) (hble (lt_of_get hy)) (Nat.zero_add _) (mget' slotA s.ss hy) (mset slotA s.ss q (((s.last + 1 : Nat) : Int), x)) ?_ (Nat.sub_zero _) (hble (by omega))
    · show realAr.sub .i64 (s.fs.length : Int) ((1 : Nat) : Int) = _
      rw [hfl]
      exact nsub (by omega) (by omega)
    · rw [mtake, hq]
      simp
end
theorem s_New (room : Int) (h1 : 1 ≤ room) (h2 : room ≤ 200) : evl (envV realAr) (.call 34 [.s (.int .i64 room)] []) = some (.ret (.tup [.ptr 0 0, .s .nilIface]) [obj ⟨[], [], 0⟩ room]) :=
  eq_New realAr realAr_ok room (hlt_f h1) (hlt_f h2)
theorem s_New_no (room : Int) (h : room < 1 ∨ 200 < room) : evl (envV realAr) (.call 34 [.s (.int .i64 room)] []) = some (.ret (.tup [.s (.pointer none), .s (.iface 45 (.int .i64 1))]) []) := by
  refine eq_New_no realAr realAr_ok room ?_
  rw [hlt, hlt]
  rcases h with h | h
  · simp [h]
  · simp [h]
end ArInt
end Go.Va
namespace Go.Va
open Go.Proofs
set_option maxRecDepth 100000
set_option maxHeartbeats 4000000
namespace ArInt
section
variable (room : Int) {s : AS X} {l : List (Int × X)} (h : ArRel s l) (hb : s.last ≤ 1000000)
theorem s_Room : evl (envV realAr) (.call 43 [view s room] []) = some (.ret (.s (.int .i64 room)) []) := eq_Room realAr realAr_ok _ _ room _
theorem s_Load (last : Int) : evl (envV realAr) (.call 81 [.rp true [.s (.int .i64 last)]] []) = some (.ret (.s (.int .i64 last)) []) := by
  refine eq_Load realAr realAr_ok last ?_
  rw [evl_ext (envV realAr) _ _ _ (e := xLoadInt64) rfl]
  rfl
include hb in
theorem s_Next : evl (envV realAr) (.call 42 [view s room] []) = some (.ret (.s (.int .i64 (.ofNat (s.last + 1)))) []) :=
  eq_Next realAr realAr_ok _ _ room _ _ (s_Load _) (ninc (by omega))
theorem s_Store (ss fs : List AV) (last d : Int) (hs : (AV.sl 2 ss .full).cellOk = true) : evl (envV realAr) (.call 80 [.ptr 0 3, .s (.int .i64 d)] [arO ss fs room last]) = some (.ret (.tup []) [arO ss fs room d]) := by
  refine eq_Store realAr realAr_ok _ _ room _ _ ?_
  rw [evl_ext (envV realAr) _ _ _ (e := xStoreInt64) rfl]
  rfl
include h hb in
theorem s_Clone : evl (envV realAr) (.call 40 [.ptr 0 0] [obj s room]) = some (.ret (.ptr 1 0) [obj s room, obj s room]) := by
  have h1 := h.cnt
  have h2 := h.len
  exact eq_Clone realAr realAr_ok _ _ s.ss.length s.fs.length room _ (mlen _ _) (mlen _ _) (Nat.zero_add _) (Nat.zero_add _) (mcut0 _ _ rfl) (mcut0 _ _ rfl) (hble (Nat.le_refl _)) (hble (Nat.le_refl _)) (hfit (by omega)) (hfit (by omega)) (s_Load _) (s_Store room _ _ _ _ rfl)
end
end ArInt
end Go.Va
