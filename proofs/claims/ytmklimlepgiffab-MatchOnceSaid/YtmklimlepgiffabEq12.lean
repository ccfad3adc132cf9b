/- The functions that the statement reaches, by equations: no statement of its own. -/
import Derived.Test.YtmklimlepgiffabEq11
set_option linter.unusedVariables false
set_option linter.unusedSimpArgs false
set_option linter.unusedSectionVars false
namespace Go.Va
open Go.Proofs
set_option maxRecDepth 100000
abbrev OlT := ByteArray × ByteArray
def olA (o : OlT) : AV := .agg [.s (.string o.1), .s (.string o.2)]
def zA (z : Int) : AV := .s (.int .i64 z)
theorem seq_nil' {a : ByteArray} (h : realAr.seq a ⟨#[]⟩ = true) : a = ⟨#[]⟩ := by
  have h : (a.data.toList == ([] : List UInt8)) = true := h
  rw [beq_iff_eq] at h
  rcases a with ⟨⟨l⟩⟩
  cases h
  rfl
/-- does what is wanted take an old one? -/
def tkP : WT → OlT → Bool → Bool
  | .node k tag key _ _ _, o, first => if k = 1 then realAr.seq o.1 tag && (realAr.seq o.2 key && (first || !(realAr.seq key ⟨#[]⟩))) else if k = 2 then first && realAr.seq o.1 ⟨#[]⟩ else if k = 3 then first else false
/-- which is taken: what stands ahead, its number, what stands behind -/
def selP (olds : List OlT) (w : WT) : List Nat → Bool → Option (List Nat × Nat × List Nat)
  | [], _ => none
  | k :: ls, first => if tkP w (olds.getD k (⟨#[]⟩, ⟨#[]⟩)) first then some ([], k, ls) else match selP olds w ls false with
    | some (pre, v, post) => some (k :: pre, v, post)
    | none => none
theorem selP_eq {olds : List OlT} {w : WT} : ∀ {ls : List Nat} {first : Bool} {pre : List Nat} {v : Nat} {post : List Nat}, selP olds w ls first = some (pre, v, post) → ls = pre ++ v :: post
  | [], first, pre, v, post, h => by cases h
  | k :: ls, first, pre, v, post, h => by
    unfold selP at h
    split at h
    · cases h; rfl
    · split at h
      · rename_i h2
        cases h
        rw [selP_eq h2]
        rfl
      · cases h
def kdW : WT → Int
  | .node k _ _ _ _ _ => k
theorem tkP_4 {w : WT} (h : kdW w = 4) (o : OlT) (f : Bool) : tkP w o f = false := by
  rcases w with ⟨k, tag, key, text, ats, ks⟩
  simp only [kdW] at h
  subst h
  rfl
theorem selP_4 {olds : List OlT} {w : WT} (h : kdW w = 4) : ∀ (ls : List Nat) (f : Bool), selP olds w ls f = none
  | [], _ => rfl
  | k :: ls, f => by
    unfold selP
    rw [tkP_4 h, selP_4 h ls]
    rfl
/-- what is left, what is taken, what is kept -/
abbrev MSt := List Nat × List Int × List Nat
def mStep (olds : List OlT) (s : MSt) (w : WT) : MSt := match selP olds w s.1 true with
  | some (pre, v, post) => (pre ++ post, s.2.1 ++ [(v : Int)], s.2.2)
  | none => if kdW w = 4 then ([], s.2.1 ++ [-1], s.2.2 ++ s.1) else (s.1, s.2.1 ++ [-1], s.2.2)
def mRun (olds : List OlT) (ws : List WT) (s : MSt) : MSt := ws.foldl (mStep olds) s
theorem selP_false2 {olds : List OlT} {tag key text : ByteArray} {ats : List AtT} {ks : List WT} : ∀ ls : List Nat, selP olds (.node 2 tag key text ats ks) ls false = none
  | [] => rfl
  | k :: ls => by
    unfold selP
    rw [selP_false2 ls]
    rfl
theorem selP_false1 {olds : List OlT} {tag key text : ByteArray} {ats : List AtT} {ks : List WT} (h : realAr.seq key ⟨#[]⟩ = true) : ∀ ls : List Nat, selP olds (.node 1 tag key text ats ks) ls false = none
  | [] => rfl
  | k :: ls => by
    unfold selP
    rw [selP_false1 h ls]
    have : tkP (.node 1 tag key text ats ks) (olds.getD k (⟨#[]⟩, ⟨#[]⟩)) false = false := by
      simp [tkP, h]
    rw [this]
    rfl
theorem selP_falseo {olds : List OlT} {kd : Int} {tag key text : ByteArray} {ats : List AtT} {ks : List WT} (h1 : kd ≠ 1) (h2 : kd ≠ 2) (h3 : kd ≠ 3) : ∀ (ls : List Nat) (f : Bool), selP olds (.node kd tag key text ats ks) ls f = none
  | [], _ => rfl
  | k :: ls, f => by
    unfold selP
    rw [selP_falseo h1 h2 h3 ls]
    have : tkP (.node kd tag key text ats ks) (olds.getD k (⟨#[]⟩, ⟨#[]⟩)) f = false := by
      simp [tkP, h1, h2, h3]
    rw [this]
    rfl
theorem old_get {olds : List OlT} {k : Nat} (h : k < olds.length) : lget (olds.map olA) k = some (.agg [.s (.string (olds.getD k (⟨#[]⟩, ⟨#[]⟩)).1), .s (.string (olds.getD k (⟨#[]⟩, ⟨#[]⟩)).2)]) := by
  rw [mget olA olds h]
  rw [List.getD_eq_getElem?_getD, List.getElem?_eq_getElem h]
  rfl
/-- an index, as a number -/
def idxI : Option (List Nat × Nat × List Nat) → Int
  | some (pre, _, _) => .ofNat pre.length
  | none => -1
theorem lp_ifI (olds : List OlT) (ls : List Nat) (hl : ls.length ≤ 1000) (ho : ∀ k ∈ ls, k < olds.length) (kd : Int) (tag key text : ByteArray) (ats : List AtT) (ks : List WT) (hk : realAr.seq key ⟨#[]⟩ = false) : ∀ (rest done : List Nat), ls = done ++ rest →
    match selP olds (.node 1 tag key text ats ks) rest false with
    | some (pre, v, post) => lpOf (envV realAr) 110 bd110 2 (stIf (olds.map olA) (ls.map natA) kd tag key text (ats.map atA) (wtsA ks) ls.length done.length) = some (.code .ret (stIfr (olds.map olA) kd tag key text (ats.map atA) (wtsA ks) (done.length + pre.length)))
    | none => lpOf (envV realAr) 110 bd110 2 (stIf (olds.map olA) (ls.map natA) kd tag key text (ats.map atA) (wtsA ks) ls.length done.length) = some (.code (.exit 0) (stIfe (olds.map olA) (ls.map natA) kd tag key text (ats.map atA) (wtsA ks) ls.length ls.length))
  | [], done, h => by
    have : ls.length = done.length := by rw [h, List.append_nil]
    rw [this]
    exact lp_if_end realAr realAr_ok (olds := olds.map olA) (ls := ls.map natA) (ats := ats.map atA) (ks := wtsA ks) (n := done.length) (i := done.length) (kd := kd) (tag := tag) (key := key) (text := text) (h1 := nlt_f (Nat.le_refl _))
  | k :: rest, done, h => by
    have hi : done.length < ls.length := by rw [h]; simp
    have hik : ls[done.length] = k := by simp [h]
    have hg := mget natA ls hi
    rw [hik] at hg
    have hko := ho k (by rw [h]; simp)
    have hlt : realAr.lt (.ofNat done.length) (.ofNat ls.length) = true := nlt_t hi
    have hadd : realAr.add .i64 (.ofNat done.length) 1 = .ofNat (Nat.succ done.length) := ninc (by omega)
    have hcl := eq_cl realAr realAr_ok (olds := olds.map olA) (ats := ats.map atA) (ks := wtsA ks) (m := olds.length) (k := k) (kd := kd) (tag := tag) (key := key) (text := text) (a := (olds.getD k (⟨#[]⟩, ⟨#[]⟩)).1) (b := (olds.getD k (⟨#[]⟩, ⟨#[]⟩)).2) (e3 := mlen olA olds) (e4 := hble hko) (e5 := old_get hko)
    have htk : tkP (.node 1 tag key text ats ks) (olds.getD k (⟨#[]⟩, ⟨#[]⟩)) false = (realAr.seq (olds.getD k (⟨#[]⟩, ⟨#[]⟩)).1 tag && realAr.seq (olds.getD k (⟨#[]⟩, ⟨#[]⟩)).2 key) := by
      simp [tkP, hk]
    have ih := lp_ifI olds ls hl ho kd tag key text ats ks hk rest (done ++ [k]) (by rw [h]; simp)
    rw [List.length_append, List.length_singleton] at ih
    have on := fun r hr => lp_if_on realAr realAr_ok (r := r) (olds := olds.map olA) (ls := ls.map natA) (ats := ats.map atA) (ks := wtsA ks) (n := ls.length) (k := k) (i := done.length) (kd := kd) (tag := tag) (key := key) (text := text) (s := (realAr.seq (olds.getD k (⟨#[]⟩, ⟨#[]⟩)).1 tag && realAr.seq (olds.getD k (⟨#[]⟩, ⟨#[]⟩)).2 key)) (e0 := mlen natA ls) (e1 := hg) (e2 := hble hi) (h1 := hlt) (h2 := hadd) (h3 := hcl) (hr := hr)
    unfold selP
    rw [htk]
    cases hs : (realAr.seq (olds.getD k (⟨#[]⟩, ⟨#[]⟩)).1 tag && realAr.seq (olds.getD k (⟨#[]⟩, ⟨#[]⟩)).2 key) with
    | true =>
      rw [hs] at on
      exact on _ rfl
    | false =>
      rw [hs] at on
      simp only [Bool.false_eq_true, if_false]
      cases hsel : selP olds (.node 1 tag key text ats ks) rest false with
      | none =>
        rw [hsel] at ih
        exact on _ ih
      | some q =>
        obtain ⟨pre, v, post⟩ := q
        rw [hsel] at ih
        simp only at ih ⊢
        rw [show done.length + (k :: pre).length = done.length + 1 + pre.length by simp only [List.length_cons]; omega]
        exact on _ ih
theorem selP_first {olds : List OlT} {tag key text : ByteArray} {ats : List AtT} {ks : List WT} (hk : realAr.seq key ⟨#[]⟩ = false) (ls : List Nat) : selP olds (.node 1 tag key text ats ks) ls true = selP olds (.node 1 tag key text ats ks) ls false := by
  cases ls with
  | nil => rfl
  | cons k ls => simp [selP, tkP, hk]
theorem s_which (olds : List OlT) (ls : List Nat) (hl : ls.length ≤ 1000) (ho : ∀ k ∈ ls, k < olds.length) (kd : Int) (tag key text : ByteArray) (ats : List AtT) (ks : List WT) :
    evl (envV realAr) (.call 84 [.sl 2 (olds.map olA) .imm, .sl 1 (ls.map natA) .ro, .agg (wC .imm kd tag key text (ats.map atA) (wtsA ks))] []) = some (.ret (.s (.int .i64 (idxI (selP olds (.node kd tag key text ats ks) ls true)))) []) := by
  cases ls with
  | nil => exact eq_wh_nil realAr realAr_ok (olds := olds.map olA) (ats := ats.map atA) (ks := wtsA ks) (kd := kd) (tag := tag) (key := key) (text := text) (h0 := heq_t rfl)
  | cons k ls =>
    have hko := ho k (by simp)
    have hlen : ((k :: ls).map natA).length = Nat.succ ls.length := by simp
    have hg : lget ((k :: ls).map natA) 0 = some (natA k) := rfl
    have hb : Nat.ble (Nat.succ ls.length) (Nat.succ ls.length) = true := hble (Nat.le_refl _)
    have h0 : realAr.eq (.ofNat (Nat.succ ls.length)) 0 = false := heq_f (by show ((ls.length + 1 : Nat) : Int) ≠ 0; omega)
    by_cases h3 : kd = 3
    · subst h3
      refine (eq_wh_3 realAr realAr_ok (olds := olds.map olA) (ls := (k :: ls).map natA) (ats := ats.map atA) (ks := wtsA ks) (n := ls.length) (m := olds.length) (k := k) (kd := 3) (tag := tag) (key := key) (text := text) (a := (olds.getD k (⟨#[]⟩, ⟨#[]⟩)).1) (b := (olds.getD k (⟨#[]⟩, ⟨#[]⟩)).2) (e0 := hlen) (e1 := hg) (e2 := hb) (e3 := mlen olA olds) (e4 := hble hko) (e5 := old_get hko) (h0 := h0) (h1 := heq_t rfl)).trans ?_
      simp [selP, tkP, idxI]
    · by_cases h2 : kd = 2
      · subst h2
        refine (eq_wh_2 realAr realAr_ok (olds := olds.map olA) (ls := (k :: ls).map natA) (ats := ats.map atA) (ks := wtsA ks) (n := ls.length) (m := olds.length) (k := k) (kd := 2) (tag := tag) (key := key) (text := text) (a := (olds.getD k (⟨#[]⟩, ⟨#[]⟩)).1) (b := (olds.getD k (⟨#[]⟩, ⟨#[]⟩)).2) (e0 := hlen) (e1 := hg) (e2 := hb) (e3 := mlen olA olds) (e4 := hble hko) (e5 := old_get hko) (h0 := h0) (h1 := heq_f (by decide)) (h2 := heq_t rfl) (h3 := heq_f (by decide))).trans ?_
        unfold selP
        rw [selP_false2]
        have : tkP (.node 2 tag key text ats ks) (olds.getD k (⟨#[]⟩, ⟨#[]⟩)) true = realAr.seq (olds.getD k (⟨#[]⟩, ⟨#[]⟩)).1 ⟨#[]⟩ := by simp [tkP]
        rw [this]
        cases realAr.seq (olds.getD k (⟨#[]⟩, ⟨#[]⟩)).1 ⟨#[]⟩ <;> rfl
      · by_cases h1 : kd = 1
        · subst h1
          cases hk : realAr.seq key ⟨#[]⟩ with
          | true =>
            have hke := seq_nil' hk
            refine (eq_wh_1 realAr realAr_ok (olds := olds.map olA) (ls := (k :: ls).map natA) (ats := ats.map atA) (ks := wtsA ks) (n := ls.length) (m := olds.length) (k := k) (kd := 1) (tag := tag) (key := key) (text := text) (a := (olds.getD k (⟨#[]⟩, ⟨#[]⟩)).1) (b := (olds.getD k (⟨#[]⟩, ⟨#[]⟩)).2) (e0 := hlen) (e1 := hg) (e2 := hb) (e3 := mlen olA olds) (e4 := hble hko) (e5 := old_get hko) (h0 := h0) (h1 := heq_f (by decide)) (h2 := heq_f (by decide)) (h3 := heq_t rfl) (h4 := hk)).trans ?_
            unfold selP
            rw [selP_false1 hk]
            have : tkP (.node 1 tag key text ats ks) (olds.getD k (⟨#[]⟩, ⟨#[]⟩)) true = (realAr.seq (olds.getD k (⟨#[]⟩, ⟨#[]⟩)).1 tag && realAr.seq (olds.getD k (⟨#[]⟩, ⟨#[]⟩)).2 ⟨#[]⟩) := by
              rw [← hke]
              simp [tkP]
            rw [this]
            cases (realAr.seq (olds.getD k (⟨#[]⟩, ⟨#[]⟩)).1 tag && realAr.seq (olds.getD k (⟨#[]⟩, ⟨#[]⟩)).2 ⟨#[]⟩) <;> rfl
          | false =>
            have hlp := lp_ifI olds (k :: ls) hl ho 1 tag key text ats ks hk (k :: ls) [] rfl
            rw [← selP_first hk] at hlp
            have hif : evl (envV realAr) (.call 110 [.sl 1 ((k :: ls).map natA) .ro, .fn 111 [] [.ptr 0 0, .ptr 1 0]] [[.sl 2 (olds.map olA) .imm], wC .imm 1 tag key text (ats.map atA) (wtsA ks)]) = some (.ret (.s (.int .i64 (idxI (selP olds (.node 1 tag key text ats ks) (k :: ls) true)))) [[.sl 2 (olds.map olA) .imm], wC .imm 1 tag key text (ats.map atA) (wtsA ks)]) := by
              cases hsel : selP olds (.node 1 tag key text ats ks) (k :: ls) true with
              | none =>
                rw [hsel] at hlp
                exact eq_if_no realAr realAr_ok (olds := olds.map olA) (ls := (k :: ls).map natA) (ats := ats.map atA) (ks := wtsA ks) (n := (k :: ls).length) (i := (k :: ls).length) (kd := 1) (tag := tag) (key := key) (text := text) (e0 := mlen natA _) (h1 := hlp)
              | some q =>
                obtain ⟨pre, v, post⟩ := q
                rw [hsel] at hlp
                simp only [List.length_nil, Nat.zero_add] at hlp
                exact eq_if_hit realAr realAr_ok (olds := olds.map olA) (ls := (k :: ls).map natA) (ats := ats.map atA) (ks := wtsA ks) (n := (k :: ls).length) (i := pre.length) (kd := 1) (tag := tag) (key := key) (text := text) (e0 := mlen natA _) (h1 := hlp)
            exact eq_wh_k realAr realAr_ok (olds := olds.map olA) (ls := (k :: ls).map natA) (ats := ats.map atA) (ks := wtsA ks) (n := ls.length) (m := olds.length) (k := k) (kd := 1) (z := idxI (selP olds (.node 1 tag key text ats ks) (k :: ls) true)) (tag := tag) (key := key) (text := text) (a := (olds.getD k (⟨#[]⟩, ⟨#[]⟩)).1) (b := (olds.getD k (⟨#[]⟩, ⟨#[]⟩)).2) (e0 := hlen) (e1 := hg) (e2 := hb) (e3 := mlen olA olds) (e4 := hble hko) (e5 := old_get hko) (h0 := h0) (h1 := heq_f (by decide)) (h2 := heq_f (by decide)) (h3 := heq_t rfl) (h4 := hk) (h5 := hif)
        · refine (eq_wh_o realAr realAr_ok (olds := olds.map olA) (ls := (k :: ls).map natA) (ats := ats.map atA) (ks := wtsA ks) (n := ls.length) (m := olds.length) (k := k) (kd := kd) (tag := tag) (key := key) (text := text) (a := (olds.getD k (⟨#[]⟩, ⟨#[]⟩)).1) (b := (olds.getD k (⟨#[]⟩, ⟨#[]⟩)).2) (e0 := hlen) (e1 := hg) (e2 := hb) (e3 := mlen olA olds) (e4 := hble hko) (e5 := old_get hko) (h0 := h0) (h1 := heq_f h3) (h2 := heq_f h2) (h3 := heq_f h1)).trans ?_
          rw [selP_falseo h1 h2 h3]
          rfl
end Go.Va
namespace Go.Va
open Go.Proofs
set_option maxRecDepth 100000
theorem s_delete (xs : List AV) (i : Nat) (h : i < xs.length) : evl (envV realAr) (.call 85 [.sl 1 xs .full, .s (.int .i64 (.ofNat i)), .s (.int .i64 (.ofNat (Nat.succ i)))] []) = some (.ret (.sl 1 (xs.take i ++ xs.drop (i + 1)) .full) []) := by
  rw [evl_ext (envV realAr) _ _ _ (e := yDelete) rfl]
  show (bif Nat.beq (Nat.succ i) (Nat.succ i) && Nat.ble (Nat.succ i) xs.length then okR (.sl 1 (xs.take i ++ xs.drop (Nat.succ i)) .full) [] else noR).run _ = _
  rw [show Nat.beq (Nat.succ i) (Nat.succ i) = true from hbeq _, show Nat.ble (Nat.succ i) xs.length = true from hble h]
  unfold okR
  simp only [Bool.and_self, cond_true]
  rw [Prog.run_done]
section
variable (p : Perm) (hp : p = .ro ∨ p = .imm) (olds : List OlT) (ws : List WT)
include hp
theorem lp_m3I (n : Nat) (hn : n ≤ 1000) : ∀ (m i : Nat), m + i = n → lpOf (envV realAr) 46 bd46 3 (stM3 p (olds.map olA) (wtsA ws) ((List.range i).map natA) n i) = some (.code (.exit 0) (stM3e p (olds.map olA) (wtsA ws) ((List.range n).map natA) n n))
  | 0, i, h => by
    have : i = n := by omega
    subst this
    exact lp_m3_end realAr realAr_ok p hp (olds := olds.map olA) (ws := wtsA ws) (ls := (List.range i).map natA) (n := i) (i := i) (h1 := nlt_f (Nat.le_refl _))
  | m + 1, i, h => by
    have next := lp_m3I n hn m (i + 1) (by omega)
    rw [List.range_succ] at next
    have hlt : realAr.lt (.ofNat i) (.ofNat n) = true := nlt_t (by omega)
    have hadd : realAr.add .i64 (.ofNat i) 1 = .ofNat (Nat.succ i) := ninc (by omega)
    exact lp_m3 realAr realAr_ok p hp (olds := olds.map olA) (ws := wtsA ws) (ls := (List.range i).map natA) (ls2 := (List.range i ++ [i]).map natA) (n := n) (m := i) (i := i) (e1 := by simp) (e2 := msnoc natA _ i) (e3 := hbeq _) (h1 := hlt) (h2 := hadd) (h3 := hfit (by omega)) (hr := next)
theorem lp_m9I (hw : ws.length ≤ 1000) : ∀ (rest done : List WT) (s : MSt), ws = done ++ rest → (∀ k ∈ s.1, k < olds.length) → s.2.1.length = done.length → s.2.2.length + s.1.length ≤ 1000 →
    lpOf (envV realAr) 46 bd46 9 (stM9 p (olds.map olA) (wtsA ws) (s.1.map natA) (s.2.1.map zA) (s.2.2.map natA) ws.length done.length) = some (.code (.exit 2) (stM9e p (olds.map olA) (wtsA ws) ((mRun olds rest s).1.map natA) ((mRun olds rest s).2.1.map zA) ((mRun olds rest s).2.2.map natA) ws.length ws.length))
  | [], done, s, h, _, _, _ => by
    have : ws.length = done.length := by rw [h, List.append_nil]
    rw [this]
    exact lp_m9_end realAr realAr_ok p hp (olds := olds.map olA) (ws := wtsA ws) (ls := s.1.map natA) (take := s.2.1.map zA) (kept := s.2.2.map natA) (n := done.length) (i := done.length) (h1 := nlt_f (Nat.le_refl _))
  | w :: rest, done, s, h, ho, ht, hk => by
    have hi : done.length < ws.length := by rw [h]; simp
    have hwi : ws[done.length] = w := by simp [h]
    have hg := wts_get hi
    rw [hwi] at hg
    have hlt : realAr.lt (.ofNat done.length) (.ofNat ws.length) = true := nlt_t hi
    have hadd : realAr.add .i64 (.ofNat done.length) 1 = .ofNat (Nat.succ done.length) := ninc (by omega)
    have hb : Nat.ble (Nat.succ done.length) ws.length = true := hble hi
    obtain ⟨left, take, kept⟩ := s
    simp only at ho ht hk ⊢
    have ih := fun s2 h1 h2 h3 => lp_m9I hw rest (done ++ [w]) s2 (by rw [h]; simp) h1 (by rw [List.length_append, List.length_singleton]; exact h2) h3
    rw [List.length_append, List.length_singleton] at ih
    have hrun : mRun olds (w :: rest) (left, take, kept) = mRun olds rest (mStep olds (left, take, kept) w) := rfl
    rw [hrun]
    have hcut := mcut0 natA left rfl
    have hm1 : take.map zA ++ [.s (.int .i64 (-1))] = (take ++ [(-1 : Int)]).map zA := msnoc zA take (-1)
    rcases w with ⟨kd, tag, key, text, ats, ks⟩
    have hwh := s_which olds left (by omega) ho kd tag key text ats ks
    unfold wtA at hg
    unfold mStep
    simp only
    cases hsel : selP olds (.node kd tag key text ats ks) left true with
    | none =>
      rw [hsel] at hwh
      simp only
      by_cases h4 : kd = 4
      · rw [show kdW (.node kd tag key text ats ks) = kd from rfl, if_pos h4]
        have next := ih ([], take ++ [-1], kept ++ left) (by simp) (by simp [ht]) (by simp; omega)
        exact lp_m9_all realAr realAr_ok p hp (olds := olds.map olA) (ws := wtsA ws) (ls := left.map natA) (ats := ats.map atA) (ks := wtsA ks) (take := take.map zA) (take2 := (take ++ [(-1 : Int)]).map zA) (kept := kept.map natA) (kept2 := (kept ++ left).map natA) (n := ws.length) (k := left.length) (i := done.length) (t := done.length) (u := kept.length) (v := kept.length + left.length) (kd := kd) (tag := tag) (key := key) (text := text)
          (e0 := wts_len ws) (e1 := hg) (e2 := hb) (e3 := mlen natA left) (e4 := Nat.zero_add _) (e5 := hcut) (e6 := hble (Nat.le_refl _)) (e7 := by rw [List.length_map, ht]) (e8 := hbeq _) (h1 := hlt) (h2 := hadd) (h3 := hfit (by omega)) (e9 := hm1) (ea := mlen natA kept) (eb := (List.map_append ..).symm) (ec := rfl) (ed := by rw [mlen natA, List.length_append]) (ee := hbeq _) (ef := hbeq _) (h4 := hwh) (h5 := hle_f (by decide)) (h6 := heq_t h4) (h7 := hfit (by omega)) (hr := next)
      · rw [show kdW (.node kd tag key text ats ks) = kd from rfl, if_neg h4]
        have next := ih (left, take ++ [-1], kept) ho (by simp [ht]) hk
        exact lp_m9_no realAr realAr_ok p hp (olds := olds.map olA) (ws := wtsA ws) (ls := left.map natA) (ats := ats.map atA) (ks := wtsA ks) (take := take.map zA) (take2 := (take ++ [(-1 : Int)]).map zA) (kept := kept.map natA) (n := ws.length) (k := left.length) (i := done.length) (t := done.length) (kd := kd) (tag := tag) (key := key) (text := text)
          (e0 := wts_len ws) (e1 := hg) (e2 := hb) (e3 := mlen natA left) (e4 := Nat.zero_add _) (e5 := hcut) (e6 := hble (Nat.le_refl _)) (e7 := by rw [List.length_map, ht]) (e8 := hbeq _) (h1 := hlt) (h2 := hadd) (h3 := hfit (by omega)) (e9 := hm1) (h4 := hwh) (h5 := hle_f (by decide)) (h6 := heq_f h4) (hr := next)
    | some q =>
      obtain ⟨pre, v, post⟩ := q
      rw [hsel] at hwh
      simp only
      have h4 : kd ≠ 4 := by
        intro q
        rw [selP_4 (w := .node kd tag key text ats ks) q] at hsel
        cases hsel
      have hle := selP_eq hsel
      have hpl : pre.length < left.length := by rw [hle]; simp
      have hgv : lget (left.map natA) pre.length = some (natA v) := by
        rw [mget natA left hpl]
        simp [hle]
      have hdel := s_delete (left.map natA) pre.length (by rw [List.length_map]; exact hpl)
      have hls2 : (left.map natA).take pre.length ++ (left.map natA).drop (pre.length + 1) = (pre ++ post).map natA := by
        rw [hle, ← List.map_take, ← List.map_drop, ← List.map_append, List.take_left' rfl, ← List.drop_drop, List.drop_left' rfl]
        rfl
      rw [hls2] at hdel
      have next := ih (pre ++ post, take ++ [(v : Int)], kept) (fun k hk2 => ho k (by rw [hle]; simp only [List.mem_append, List.mem_cons] at hk2 ⊢; rcases hk2 with q | q; exact .inl q; exact .inr (.inr q))) (by simp [ht]) (by rw [hle] at hk; simp at hk ⊢; omega)
      exact lp_m9_hit realAr realAr_ok p hp (olds := olds.map olA) (ws := wtsA ws) (ls := left.map natA) (ls2 := (pre ++ post).map natA) (ats := ats.map atA) (ks := wtsA ks) (take := take.map zA) (take2 := (take ++ [(v : Int)]).map zA) (kept := kept.map natA) (n := ws.length) (k := left.length) (i := done.length) (t := done.length) (v := v) (at_ := pre.length) (kd := kd) (tag := tag) (key := key) (text := text)
        (e0 := wts_len ws) (e1 := hg) (e2 := hb) (e3 := mlen natA left) (e4 := Nat.zero_add _) (e5 := hcut) (e6 := hble (Nat.le_refl _)) (e7 := by rw [List.length_map, ht]) (e8 := hbeq _) (h1 := hlt) (h2 := hadd) (h3 := hfit (by omega)) (e9 := msnoc zA take (v : Int)) (ea := hgv) (eb := hble hpl) (ec := Nat.zero_add _) (ed := hbeq _) (h4 := hwh) (h5 := hle_t (Int.natCast_nonneg _)) (h6 := heq_f h4) (h7 := ninc (by omega)) (h8 := hdel) (hr := next)
theorem mRun_len (rest : List WT) : ∀ (s : MSt), (mRun olds rest s).2.1.length = s.2.1.length + rest.length ∧ (mRun olds rest s).1.length + (mRun olds rest s).2.2.length ≤ s.1.length + s.2.2.length := by
  induction rest with
  | nil => intro s; exact ⟨rfl, Nat.le_refl _⟩
  | cons w rest ih =>
    intro s
    obtain ⟨i1, i2⟩ := ih (mStep olds s w)
    have hs : (mStep olds s w).2.1.length = s.2.1.length + 1 ∧ (mStep olds s w).1.length + (mStep olds s w).2.2.length ≤ s.1.length + s.2.2.length := by
      unfold mStep
      split
      · rename_i pre v post h
        have := selP_eq h
        rw [this]
        simp
      · split
        · simp; omega
        · simp
    have hrun : mRun olds (w :: rest) s = mRun olds rest (mStep olds s w) := rfl
    rw [hrun, List.length_cons]
    omega
theorem s_mOf (hw : ws.length ≤ 1000) (hn : olds.length ≤ 1000) : evl (envV realAr) (.call 46 [.sl 2 (olds.map olA) .imm, .sl 6 (wtsA ws) p] []) = some (.ret (.agg [.sl 1 ((mRun olds ws (List.range olds.length, [], [])).2.1.map zA) .imm, .sl 1 ((mRun olds ws (List.range olds.length, [], [])).2.2.map natA) .imm, .sl 1 ((mRun olds ws (List.range olds.length, [], [])).1.map natA) .imm]) []) := by
  have h1 := lp_m3I p hp olds ws olds.length hn olds.length 0 rfl
  have h2 := lp_m9I p hp olds ws hw ws [] (List.range olds.length, [], []) rfl (fun k hk => by simpa using hk) rfl (by simp; omega)
  obtain ⟨l1, l2⟩ := mRun_len p hp olds ws (List.range olds.length, [], [])
  simp only [List.length_nil, List.length_range, Nat.zero_add, Nat.add_zero] at l1 l2
  generalize mRun olds ws (List.range olds.length, [], []) = s at h2 l1 l2 ⊢
  have tk : ∀ {α : Type} (f : α → AV) (x : List α), (x.map f).take x.length = x.map f := fun f x => List.take_of_length_le (by rw [List.length_map]; exact Nat.le_refl _)
  exact eq_mof realAr realAr_ok p hp (olds := olds.map olA) (ws := wtsA ws) (ls := s.1.map natA) (ls2 := (List.range olds.length).map natA) (take := s.2.1.map zA) (kept := s.2.2.map natA) (n := olds.length) (m := ws.length) (k := s.1.length) (i := olds.length) (j := ws.length) (t := s.2.1.length) (u := s.2.2.length)
    (e0 := mlen olA olds) (e1 := wts_len ws) (e2 := mlen natA s.1) (e3 := Nat.zero_add _) (e4 := mcut0 natA s.1 rfl) (e5 := hble (Nat.le_refl _)) (e6 := mlen zA s.2.1) (e7 := Nat.zero_add _) (e8 := mcut0 zA s.2.1 rfl) (e9 := hble (Nat.le_refl _)) (ea := mlen natA s.2.2) (eb := Nat.zero_add _) (ec := mcut0 natA s.2.2 rfl) (ed := hble (Nat.le_refl _)) (ee := tk zA s.2.1) (ef := tk natA s.2.2) (eg := tk natA s.1) (h1 := h1) (h2 := h2)
end
end Go.Va
