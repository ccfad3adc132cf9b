/- The functions that the statement reaches, by equations: no statement of its own. -/
import Derived.Test.YtmklimlepgiffaaEq5
set_option linter.unusedVariables false
set_option linter.unusedSimpArgs false
set_option linter.unusedSectionVars false
namespace Go.Va
open Go.Proofs
set_option maxRecDepth 100000
set_option maxHeartbeats 4000000
section
theorem realAr_lt' (a b : Int) : realAr.lt a b = decide (a < b) := rfl
theorem natlt_t {i j : Nat} (h : i < j) : realAr.lt (.ofNat i) (.ofNat j) = true := by simp [realAr_ok.lt] <;> omega
theorem natlt_f {i j : Nat} (h : j ≤ i) : realAr.lt (.ofNat i) (.ofNat j) = false := by simp [realAr_ok.lt] <;> omega
theorem natinc {i : Nat} (h : i + 1 ≤ 9223372036854775807) : realAr.add .i64 (.ofNat i) 1 = .ofNat (Nat.succ i) := by
  rw [realAr_ok.add]
  exact wrap_nat (n := i + 1) h
theorem nble {a b : Nat} (h : a ≤ b) : Nat.ble a b = true := Nat.ble_eq_true_of_le h
theorem seqr (s : ByteArray) : realAr.seq s s = true := by
  show (s.data.toList == s.data.toList) = true
  exact beq_self_eq_true _
theorem attr_get {l : List AttrT} {i : Nat} (h : i < l.length) : lget (l.map attrA) i = some (attrA l[i]) := by rw [lget_get]; simp [h]
end
def atI (l : List AttrT) (name : ByteArray) : Int := match l.findIdx? (fun a => realAr.seq a.1 name) with
  | some i => .ofNat i
  | none => -1
theorem lp_idx (l : List AttrT) (p : Perm) (hp : p = .ro ∨ p = .imm) (name : ByteArray) (hl : l.length ≤ 9223372036854775807) : ∀ (m i : Nat), m + i = l.length →
    lpOf (envV realAr) 103 bd103 2 (stX (l.map attrA) p name l.length i) = (match (l.drop i).findIdx? (fun a => realAr.seq a.1 name) with
      | some j => some (.code .ret { n := 19, k := 1, fr := [(4, .s (.int .i64 (.ofNat (i + j))))], O := [[.s (.string name)]] })
      | none => some (.code (.exit 0) (stXe (l.map attrA) p name l.length l.length)))
  | 0, i, h => by
    have : i = l.length := by omega
    subst this
    rw [List.drop_length]
    exact lp_attr_idx_end realAr realAr_ok _ p hp _ _ name (by simp) (natlt_f (Nat.le_refl _))
  | m + 1, i, h => by
    have hi : i < l.length := by omega
    have := lp_attr_idx realAr realAr_ok _ p hp l.length i name l[i].1 l[i].2.1 l[i].2.2 (attr_get hi) (nble hi) (by simp) (natlt_t hi) (natinc (by omega)) (lp_idx l p hp name hl m (i + 1) (by omega))
    rw [this, List.drop_eq_getElem_cons hi, List.findIdx?_cons]
    cases h1 : realAr.seq l[i].1 name with
    | true => simp
    | false =>
      simp only [cond_false, Bool.false_eq_true, if_false]
      cases (l.drop (i + 1)).findIdx? (fun a => realAr.seq a.1 name) with
      | none => rfl
      | some j =>
        simp only [Option.map_some]
        rw [show i + 1 + j = i + (j + 1) by omega]
theorem s_attr_at (l : List AttrT) (p : Perm) (hp : p = .ro ∨ p = .imm) (name : ByteArray) (hl : l.length ≤ 9223372036854775807) :
    evl (envV realAr) (.call 90 [.sl 3 (l.map attrA) p, .s (.string name)] []) = some (.ret (.s (.int .i64 (atI l name))) []) := by
  have h := lp_idx l p hp name hl l.length 0 (by omega)
  rw [List.drop_zero] at h
  refine eq_attr_at realAr realAr_ok _ p hp l.length name _ (by simp) ?_
  unfold atI
  cases hf : l.findIdx? (fun a => realAr.seq a.1 name) with
  | none =>
    rw [hf] at h
    exact eq_attr_idx_none realAr realAr_ok _ p hp l.length _ name (by simp) h
  | some j =>
    rw [hf] at h
    simp only [Nat.zero_add] at h
    exact eq_attr_idx_some realAr realAr_ok _ p hp l.length _ name (by simp) h
theorem find_any {α : Type} (P : α → Bool) : ∀ (l : List α) (i : Nat) (a : α), l[i]? = some a → P a = true → ∃ k, l.findIdx? P = some k ∧ decide (k < i) = (l.take i).any P
  | [], i, a, h, _ => by simp at h
  | x :: l, i, a, h, hP => by
    rw [List.findIdx?_cons]
    cases hx : P x with
    | true =>
      refine ⟨0, rfl, ?_⟩
      cases i with
      | zero => rfl
      | succ i => simp [hx]
    | false =>
      cases i with
      | zero => simp at h; subst h; rw [hx] at hP; cases hP
      | succ i =>
        obtain ⟨k, k1, k2⟩ := find_any P l i a (by simpa using h) hP
        refine ⟨k + 1, by simp [k1], ?_⟩
        rw [List.take_succ_cons, List.any_cons, hx, Bool.false_or, ← k2]
        congr 1
        simp
def badAt (l : List AttrT) (i : Nat) (a : AttrT) : Bool := (l.take i).any fun x => realAr.seq x.1 a.1
def mayR (l : List AttrT) : Nat → List AttrT → Bool
  | _, [] => true
  | i, a :: r => nameP a.1 && textP a.2.1 && !badAt l i a && mayR l (i + 1) r
def mayL (l : List AttrT) : Bool := mayR l 0 l && decide (l.length ≤ 8)
def fewA (l : List AttrT) : Prop := ∀ a ∈ l, a.1.size ≤ 9223372036854775807 ∧ a.2.1.size ≤ 9223372036854775807
theorem lp_mayA (l : List AttrT) (p : Perm) (hp : p = .ro ∨ p = .imm) (hl : l.length ≤ 9223372036854775807) (hf : fewA l) : ∀ (m i : Nat), m + i = l.length →
    lpOf (envV realAr) 63 bd63 2 (stM (l.map attrA) p l.length i) = bif mayR l i (l.drop i) then some (.code (.exit 0) (stMe (l.map attrA) p l.length l.length)) else some (.code .ret { n := 34, k := 0, fr := [(2, .s (.bool false))], O := [] })
  | 0, i, h => by
    have : i = l.length := by omega
    subst this
    rw [List.drop_length]
    exact lp_attr_May_end realAr realAr_ok _ p hp _ _ (by simp) (natlt_f (Nat.le_refl _))
  | m + 1, i, h => by
    have hi : i < l.length := by omega
    obtain ⟨f1, f2⟩ := hf l[i] (List.getElem_mem hi)
    obtain ⟨k, k1, k2⟩ := find_any (fun a : AttrT => realAr.seq a.1 l[i].1) l i l[i] (by simp [hi]) (seqr _)
    have h6 := s_attr_at l p hp l[i].1 hl
    unfold atI at h6
    rw [k1] at h6
    have h7 : realAr.lt (.ofNat k) (.ofNat i) = badAt l i l[i] := by
      unfold badAt
      rw [← k2, realAr_lt']
      congr 1
      simp
    have := lp_attr_May realAr realAr_ok _ p hp l.length i k l[i].1 l[i].2.1 l[i].2.2 (nameP l[i].1) (textP l[i].2.1) (badAt l i l[i]) (attr_get hi) (nble hi) (by simp) (natlt_t hi) (natinc (by omega)) (name16 _ f1) (eq_name_Text realAr realAr_ok _ f2) h6 h7
      (lp_mayA l p hp hl hf m (i + 1) (by omega))
    rw [this, List.drop_eq_getElem_cons hi, mayR]
    cases nameP l[i].1 <;> cases textP l[i].2.1 <;> cases badAt l i l[i] <;> simp
theorem s_attr_May (l : List AttrT) (p : Perm) (hp : p = .ro ∨ p = .imm) (hl : l.length ≤ 9223372036854775807) (hf : fewA l) :
    evl (envV realAr) (.call 63 [.sl 3 (l.map attrA) p] []) = some (.ret (.s (.bool (mayL l))) []) := by
  have h := lp_mayA l p hp hl hf l.length 0 (by omega)
  rw [List.drop_zero] at h
  rw [eq_attr_May realAr realAr_ok _ p hp l.length (mayR l 0 l) (by simp) h]
  have : realAr.le (.ofNat l.length) 8 = decide (l.length ≤ 8) := by
    rw [realAr_ok.le]
    congr 1
    simp
    omega
  rw [this]
  unfold mayL
  cases mayR l 0 l <;> rfl
theorem lp_mayI (l : List AttrT) (p : Perm) (hp : p = .ro ∨ p = .imm) (hl : l.length ≤ 9223372036854775807) (i : Nat) (hi : i < l.length) : ∀ (m k : Nat), m + k = i →
    lpOf (envV realAr) 64 bd64 9 (stNi (l.map attrA) p i k) = bif ((l.take i).drop k).any (fun x => realAr.seq x.1 l[i].1) then some (.code .ret { n := 50, k := 0, fr := [(2, .s (.bool false))], O := [] })
      else some (.code (.exit 2) { n := 50, k := 0, fr := [(0, .sl 3 (l.map attrA) p), (3, .s (.int .i64 (.ofNat i))), (6, .s (.int .i64 (.ofNat i))), (33, .s (.bool false))], O := [] })
  | 0, k, h => by
    have : k = i := by omega
    subst this
    rw [List.drop_of_length_le (by simp; omega)]
    exact lp_ref01_May_in_end realAr realAr_ok _ p hp _ _ (natlt_f (Nat.le_refl _))
  | m + 1, k, h => by
    have hk : k < i := by omega
    have hkl : k < l.length := by omega
    have := lp_ref01_May_in realAr realAr_ok _ p hp l.length i k l[i].1 l[i].2.1 l[i].2.2 l[k].1 l[k].2.1 l[k].2.2 (attr_get hi) (nble hi) (by simp) (attr_get hkl) (nble hkl) (natlt_t hk) (natinc (by omega)) (lp_mayI l p hp hl i hi m (k + 1) (by omega))
    have hkt : k < (l.take i).length := by simp; omega
    rw [this, List.drop_eq_getElem_cons hkt, List.any_cons, List.getElem_take]
    cases realAr.seq l[k].1 l[i].1 <;> simp
theorem lp_mayB (l : List AttrT) (p : Perm) (hp : p = .ro ∨ p = .imm) (hl : l.length ≤ 9223372036854775807) (hf : fewA l) : ∀ (m i : Nat), m + i = l.length →
    lpOf (envV realAr) 64 bd64 2 (stN (l.map attrA) p i) = bif mayR l i (l.drop i) then some (.code (.exit 0) { n := 50, k := 0, fr := [(0, .sl 3 (l.map attrA) p), (3, .s (.int .i64 (.ofNat l.length))), (10, .s (.bool false))], O := [] }) else some (.code .ret { n := 50, k := 0, fr := [(2, .s (.bool false))], O := [] })
  | 0, i, h => by
    have : i = l.length := by omega
    subst this
    rw [List.drop_length]
    exact lp_ref01_May_end realAr realAr_ok _ p hp _ _ (by simp) (natlt_f (Nat.le_refl _))
  | m + 1, i, h => by
    have hi : i < l.length := by omega
    obtain ⟨f1, f2⟩ := hf l[i] (List.getElem_mem hi)
    have h6 := lp_mayI l p hp hl i hi i 0 (by omega)
    rw [List.drop_zero] at h6
    have := lp_ref01_May realAr realAr_ok _ p hp l.length i l[i].1 l[i].2.1 l[i].2.2 (nameP l[i].1) (textP l[i].2.1) (badAt l i l[i]) i (attr_get hi) (nble hi) (by simp) (natlt_t hi) (natinc (by omega)) (eq_placketref01_Name realAr realAr_ok _ f1) (eq_placketref01_Text realAr realAr_ok _ f2) h6
      (lp_mayB l p hp hl hf m (i + 1) (by omega))
    rw [this, List.drop_eq_getElem_cons hi, mayR]
    cases nameP l[i].1 <;> cases textP l[i].2.1 <;> cases badAt l i l[i] <;> simp
theorem s_ref01_May (l : List AttrT) (p : Perm) (hp : p = .ro ∨ p = .imm) (hl : l.length ≤ 9223372036854775807) (hf : fewA l) :
    evl (envV realAr) (.call 64 [.sl 3 (l.map attrA) p] []) = some (.ret (.s (.bool (mayL l))) []) := by
  have h := lp_mayB l p hp hl hf l.length 0 (by omega)
  rw [List.drop_zero] at h
  rw [eq_ref01_May realAr realAr_ok _ p hp l.length (mayR l 0 l) (by simp) h]
  have : realAr.le (.ofNat l.length) 8 = decide (l.length ≤ 8) := by
    rw [realAr_ok.le]
    congr 1
    simp
    omega
  rw [this]
  unfold mayL
  cases mayR l 0 l <;> rfl
/-- whether lists are the same -/
def same1 (a b : AttrT) : Bool := realAr.seq a.1 b.1 && (realAr.seq a.2.1 b.2.1 && (a.2.2 == b.2.2))
def sameR : List AttrT → List AttrT → Bool
  | a :: l, b :: m => same1 a b && sameR l m
  | _, _ => true
def sameL (l m : List AttrT) : Bool := decide (l.length = m.length) && sameR l m
theorem same_len (l m : List AttrT) : realAr.eq (.ofNat l.length) (.ofNat m.length) = decide (l.length = m.length) := by
  rw [realAr_ok.eq]
  congr 1
  simp only [Int.ofNat_eq_natCast, eq_iff_iff]
  omega
theorem lp_sameA (l m : List AttrT) (p q : Perm) (hp : p = .ro ∨ p = .imm) (hq : q = .ro ∨ q = .imm) (hl : l.length ≤ 9223372036854775807) (hlm : l.length = m.length) : ∀ (f i : Nat), f + i = l.length →
    lpOf (envV realAr) 91 bd91 4 (stE (l.map attrA) (m.map attrA) p q l.length i) = bif sameR (l.drop i) (m.drop i) then some (.code (.exit 0) (stEe (l.map attrA) (m.map attrA) p q l.length l.length)) else some (.code .ret stE0)
  | 0, i, h => by
    have : i = l.length := by omega
    subst this
    rw [List.drop_length]
    exact lp_attr_Equal_end realAr realAr_ok _ _ p q hp hq _ _ (natlt_f (Nat.le_refl _))
  | f + 1, i, h => by
    have hi : i < l.length := by omega
    have hj : i < m.length := by omega
    have := lp_attr_Equal realAr realAr_ok _ _ p q hp hq l.length i l[i].1 l[i].2.1 m[i].1 m[i].2.1 l[i].2.2 m[i].2.2 (attr_get hi) (nble hi) (by simp) (attr_get hj) (by simp [hlm]) (natlt_t hi) (natinc (by omega)) (lp_sameA l m p q hp hq hl hlm f (i + 1) (by omega))
    rw [this, List.drop_eq_getElem_cons hi, List.drop_eq_getElem_cons hj, sameR]
    change (bif same1 l[i] m[i] then _ else _) = _
    cases same1 l[i] m[i] <;> simp
theorem s_slices_Equal (l m : List AttrT) (p q : Perm) (hp : p = .ro ∨ p = .imm) (hq : q = .ro ∨ q = .imm) (hl : l.length ≤ 9223372036854775807) :
    evl (envV realAr) (.call 91 [.sl 3 (l.map attrA) p, .sl 3 (m.map attrA) q] []) = some (.ret (.s (.bool (sameL l m))) []) := by
  rw [eq_attr_Same realAr realAr_ok _ _ p q hp hq l.length m.length (sameR l m) (by simp) (by simp) (fun e => ?_), same_len]
  · rfl
  · rw [same_len] at e
    have h := lp_sameA l m p q hp hq hl (of_decide_eq_true e) l.length 0 (by omega)
    rwa [List.drop_zero, List.drop_zero] at h
theorem s_attr_Same (l m : List AttrT) (p q : Perm) (hp : p = .ro ∨ p = .imm) (hq : q = .ro ∨ q = .imm) (hl : l.length ≤ 9223372036854775807) :
    evl (envV realAr) (.call 65 [.sl 3 (l.map attrA) p, .sl 3 (m.map attrA) q] []) = some (.ret (.s (.bool (sameL l m))) []) :=
  eq_attr_Same0 realAr realAr_ok _ _ p q hp hq l.length m.length _ (by simp) (by simp) (s_slices_Equal l m p q hp hq hl)
theorem lp_sameB (l m : List AttrT) (p q : Perm) (hp : p = .ro ∨ p = .imm) (hq : q = .ro ∨ q = .imm) (hl : l.length ≤ 9223372036854775807) (hlm : l.length = m.length) : ∀ (f i : Nat), f + i = l.length →
    lpOf (envV realAr) 66 bd66 4 (stD (l.map attrA) (m.map attrA) p q i) = bif sameR (l.drop i) (m.drop i) then some (.code (.exit 0) (stDe (l.map attrA) (m.map attrA) p q l.length)) else some (.code .ret stE0)
  | 0, i, h => by
    have : i = l.length := by omega
    subst this
    rw [List.drop_length]
    exact lp_ref01_Same_end realAr realAr_ok _ _ p q hp hq _ _ (by simp) (natlt_f (Nat.le_refl _))
  | f + 1, i, h => by
    have hi : i < l.length := by omega
    have hj : i < m.length := by omega
    have := lp_ref01_Same realAr realAr_ok _ _ p q hp hq l.length i l[i].1 l[i].2.1 m[i].1 m[i].2.1 l[i].2.2 m[i].2.2 (attr_get hi) (nble hi) (by simp) (attr_get hj) (by simp [hlm]) (natlt_t hi) (natinc (by omega)) (lp_sameB l m p q hp hq hl hlm f (i + 1) (by omega))
    rw [this, List.drop_eq_getElem_cons hi, List.drop_eq_getElem_cons hj, sameR]
    change (bif same1 l[i] m[i] then _ else _) = _
    cases same1 l[i] m[i] <;> simp
theorem s_ref01_Same (l m : List AttrT) (p q : Perm) (hp : p = .ro ∨ p = .imm) (hq : q = .ro ∨ q = .imm) (hl : l.length ≤ 9223372036854775807) :
    evl (envV realAr) (.call 66 [.sl 3 (l.map attrA) p, .sl 3 (m.map attrA) q] []) = some (.ret (.s (.bool (sameL l m))) []) := by
  rw [eq_ref01_Same realAr realAr_ok _ _ p q hp hq l.length m.length (sameR l m) (by simp) (by simp) (fun e => ?_), same_len]
  · rfl
  · rw [same_len] at e
    have h := lp_sameB l m p q hp hq hl (of_decide_eq_true e) l.length 0 (by omega)
    rwa [List.drop_zero, List.drop_zero] at h
end Go.Va
namespace Go.Va
open Go.Proofs
set_option maxRecDepth 100000
set_option maxHeartbeats 4000000
def stG (xs : List AV) (i : Nat) : St := { n := 33, k := 0, fr := [(0, .sl 3 xs .imm), (3, .s (.int .i64 (.ofNat i)))], O := [] }
def stGe (xs : List AV) (i : Nat) : St := { n := 33, k := 0, fr := [(0, .sl 3 xs .imm), (3, .s (.int .i64 (.ofNat i))), (11, .s (.bool false))], O := [] }
def stG0 : St := { n := 33, k := 0, fr := [(2, .s (.int .i64 0))], O := [] }
section
variable (A : Ar) (xs : List AV) (n i za zb : Nat) (o : Bool) (a b : ByteArray)
theorem lp_few3_on {r : Option Res} (e0 : lget xs i = some (.agg [.s (.string a), .s (.string b), .s (.bool o)])) (e1 : xs.length = n) (h1 : A.siz a = za) (h2 : A.siz b = zb) (h3 : A.nle (Nat.succ i) n = true)
    (h4 : A.lt (.ofNat i) (.ofNat n) = true) (h5 : A.lt (.ofNat i) 20 = true) (h6 : A.lt 100 (.ofNat za) = false) (h7 : A.lt 100 (.ofNat zb) = false) (h8 : A.add .i64 (.ofNat i) 1 = .ofNat (Nat.succ i))
    (h9 : lpOf (envV A) 61 bd61 2 (stG xs (Nat.succ i)) = r) : lpOf (envV A) 61 bd61 2 (stG xs i) = r := by
  unfold stG at h9 ⊢
  rw [lp_step (envV A) 61 (c0 := bd61) (lv := lvF61) rfl rfl]
  rw [lp_split (lpOf (envV A) 61 bd61) 2]
  generalize lpOf (envV A) 61 bd61 2 = L2 at e0 e1 h1 h2 h3 h4 h5 h6 h7 h8 h9 ⊢
  generalize lpOf (envV A) 61 bd61 = LP
  generalize evl (envV A) = E at e0 e1 h1 h2 h3 h4 h5 h6 h7 h8 h9 ⊢
  obtain ⟨aadd, asub, amul, arem, aquo, awr, ashr, aeq, alt, ale, aseq, aslt, acat, acut, asiz, aat, anle, aneq, afit⟩ := A
  try simp only at h1 h2 h3 h4 h5 h6 h7 h8 h9
  conv at e0 => lhs; cbv
  conv at e1 => lhs; cbv
  cbv
  rewrite [e1]
  cbv
  rewrite [h4]
  cbv
  rewrite [h5]
  cbv
  rewrite [e0]
  cbv
  rewrite [h1]
  cbv
  rewrite [h6]
  cbv
  rewrite [e0]
  cbv
  rewrite [h2]
  cbv
  rewrite [h7]
  cbv
  rewrite [h8]
  cbv
  rewrite [h9]
  cbv
theorem lp_few3_a (e0 : lget xs i = some (.agg [.s (.string a), .s (.string b), .s (.bool o)])) (e1 : xs.length = n) (h1 : A.siz a = za) (h3 : A.nle (Nat.succ i) n = true)
    (h4 : A.lt (.ofNat i) (.ofNat n) = true) (h5 : A.lt (.ofNat i) 20 = true) (h6 : A.lt 100 (.ofNat za) = true) : lpOf (envV A) 61 bd61 2 (stG xs i) = some (.code .ret stG0) := by
  unfold stG stG0
  rw [lp_step (envV A) 61 (c0 := bd61) (lv := lvF61) rfl rfl]
  generalize lpOf (envV A) 61 bd61 = LP
  generalize evl (envV A) = E at e0 e1 h1 h3 h4 h5 h6 ⊢
  obtain ⟨aadd, asub, amul, arem, aquo, awr, ashr, aeq, alt, ale, aseq, aslt, acat, acut, asiz, aat, anle, aneq, afit⟩ := A
  try simp only at h1 h3 h4 h5 h6
  conv at e0 => lhs; cbv
  conv at e1 => lhs; cbv
  cbv
  rewrite [e1]
  cbv
  rewrite [h4]
  cbv
  rewrite [h5]
  cbv
  rewrite [e0]
  cbv
  rewrite [h1]
  cbv
  rewrite [h6]
  cbv
theorem lp_few3_b (e0 : lget xs i = some (.agg [.s (.string a), .s (.string b), .s (.bool o)])) (e1 : xs.length = n) (h1 : A.siz a = za) (h2 : A.siz b = zb) (h3 : A.nle (Nat.succ i) n = true)
    (h4 : A.lt (.ofNat i) (.ofNat n) = true) (h5 : A.lt (.ofNat i) 20 = true) (h6 : A.lt 100 (.ofNat za) = false) (h7 : A.lt 100 (.ofNat zb) = true) : lpOf (envV A) 61 bd61 2 (stG xs i) = some (.code .ret stG0) := by
  unfold stG stG0
  rw [lp_step (envV A) 61 (c0 := bd61) (lv := lvF61) rfl rfl]
  generalize lpOf (envV A) 61 bd61 = LP
  generalize evl (envV A) = E at e0 e1 h1 h2 h3 h4 h5 h6 h7 ⊢
  obtain ⟨aadd, asub, amul, arem, aquo, awr, ashr, aeq, alt, ale, aseq, aslt, acat, acut, asiz, aat, anle, aneq, afit⟩ := A
  try simp only at h1 h2 h3 h4 h5 h6 h7
  conv at e0 => lhs; cbv
  conv at e1 => lhs; cbv
  cbv
  rewrite [e1]
  cbv
  rewrite [h4]
  cbv
  rewrite [h5]
  cbv
  rewrite [e0]
  cbv
  rewrite [h1]
  cbv
  rewrite [h6]
  cbv
  rewrite [e0]
  cbv
  rewrite [h2]
  cbv
  rewrite [h7]
  cbv
theorem lp_few3_end (e1 : xs.length = n) (h4 : A.lt (.ofNat i) (.ofNat n) = false) : lpOf (envV A) 61 bd61 2 (stG xs i) = some (.code (.exit 0) (stGe xs i)) := by
  unfold stG stGe
  rw [lp_step (envV A) 61 (c0 := bd61) (lv := lvF61) rfl rfl]
  generalize lpOf (envV A) 61 bd61 = LP
  generalize evl (envV A) = E at e1 h4 ⊢
  obtain ⟨aadd, asub, amul, arem, aquo, awr, ashr, aeq, alt, ale, aseq, aslt, acat, acut, asiz, aat, anle, aneq, afit⟩ := A
  try simp only at h4
  conv at e1 => lhs; cbv
  cbv
  rewrite [e1]
  cbv
  rewrite [h4]
  cbv
theorem lp_few3_end2 (e1 : xs.length = n) (h4 : A.lt (.ofNat i) (.ofNat n) = true) (h5 : A.lt (.ofNat i) 20 = false) : lpOf (envV A) 61 bd61 2 (stG xs i) = some (.code (.exit 0) (stGe xs i)) := by
  unfold stG stGe
  rw [lp_step (envV A) 61 (c0 := bd61) (lv := lvF61) rfl rfl]
  generalize lpOf (envV A) 61 bd61 = LP
  generalize evl (envV A) = E at e1 h4 h5 ⊢
  obtain ⟨aadd, asub, amul, arem, aquo, awr, ashr, aeq, alt, ale, aseq, aslt, acat, acut, asiz, aat, anle, aneq, afit⟩ := A
  try simp only at h4 h5
  conv at e1 => lhs; cbv
  cbv
  rewrite [e1]
  cbv
  rewrite [h4]
  cbv
  rewrite [h5]
  cbv
theorem eq_few3 (e1 : xs.length = n) (h1 : lpOf (envV A) 61 bd61 2 (stG xs 0) = some (.code (.exit 0) (stGe xs i))) :
    evl (envV A) (.call 61 [.sl 3 xs .imm] []) = some (.ret (.s (.int .i64 (bif A.lt 20 (.ofNat n) then 0 else 1))) []) := by
  unfold stG stGe at h1
  simp only [show Int.ofNat 0 = 0 from rfl] at h1
  rw [evl_fn (envV A) 61 _ _ (fn := Try.f61) (c := bd61) (lv := lvF61) rfl rfl rfl rfl rfl rfl]
  rw [lp_split (lpOf (envV A) 61 bd61) 2]
  generalize lpOf (envV A) 61 bd61 2 = L2 at e1 h1 ⊢
  generalize lpOf (envV A) 61 bd61 = LP
  generalize evl (envV A) = E at e1 h1 ⊢
  obtain ⟨aadd, asub, amul, arem, aquo, awr, ashr, aeq, alt, ale, aseq, aslt, acat, acut, asiz, aat, anle, aneq, afit⟩ := A
  try simp only at h1
  conv at e1 => lhs; cbv
  cbv
  rewrite [h1]
  cbv
  rewrite [e1]
  cbv
  cases c1 : alt 20 (Int.ofNat n)
  · cbv
  · cbv
theorem eq_few30 (h1 : lpOf (envV A) 61 bd61 2 (stG xs 0) = some (.code .ret stG0)) :
    evl (envV A) (.call 61 [.sl 3 xs .imm] []) = some (.ret (.s (.int .i64 0)) []) := by
  unfold stG stG0 at h1
  simp only [show Int.ofNat 0 = 0 from rfl] at h1
  rw [evl_fn (envV A) 61 _ _ (fn := Try.f61) (c := bd61) (lv := lvF61) rfl rfl rfl rfl rfl rfl]
  rw [lp_split (lpOf (envV A) 61 bd61) 2]
  generalize lpOf (envV A) 61 bd61 2 = L2 at h1 ⊢
  generalize lpOf (envV A) 61 bd61 = LP
  generalize evl (envV A) = E at h1 ⊢
  obtain ⟨aadd, asub, amul, arem, aquo, awr, ashr, aeq, alt, ale, aseq, aslt, acat, acut, asiz, aat, anle, aneq, afit⟩ := A
  try simp only at h1
  cbv
  rewrite [h1]
  cbv
end
def few3 (is : List AttrT) : Prop := ∀ i ∈ is, i.1.size ≤ 100 ∧ i.2.1.size ≤ 100
theorem lt_fn3 (i : Nat) (k : Int) : realAr.lt (.ofNat i) k = decide ((i : Int) < k) := rfl
theorem lp_few3 (is : List AttrT) : ∀ (m i : Nat), m + i = is.length → (∀ j ∈ is.take i, j.1.size ≤ 100 ∧ j.2.1.size ≤ 100) → i ≤ 20 →
    lpOf (envV realAr) 61 bd61 2 (stG (is.map attrA) i) = some (.code .ret stG0) ∨ (∃ k, lpOf (envV realAr) 61 bd61 2 (stG (is.map attrA) i) = some (.code (.exit 0) (stGe (is.map attrA) k))) ∧ (is.length ≤ 20 → few3 is)
  | 0, i, h, hs, h5 => by
    right
    refine ⟨⟨i, lp_few3_end realAr _ is.length i (by simp) (by simp [realAr_lt'] <;> omega)⟩, fun _ => ?_⟩
    rw [List.take_of_length_le (by omega)] at hs
    exact hs
  | m + 1, i, h, hs, h5 => by
    have hi : i < is.length := by omega
    have hg : lget (is.map attrA) i = some (attrA is[i]) := by rw [lget_get]; simp [hi]
    have h3 : realAr.nle (Nat.succ i) is.length = true := by rw [realAr_ok.nle]; exact decide_eq_true hi
    have h4 : realAr.lt (.ofNat i) (.ofNat is.length) = true := by simp [realAr_lt'] <;> omega
    by_cases h20 : i < 20
    · have h6 : realAr.lt (.ofNat i) 20 = true := by rw [lt_fn3]; simp; omega
      by_cases ha : is[i].1.size ≤ 100
      · by_cases hb : is[i].2.1.size ≤ 100
        · have hnext := lp_few3 is m (i + 1) (by omega) (by
            intro j hj
            rw [List.take_succ_eq_append_getElem hi, List.mem_append] at hj
            rcases hj with hj | hj
            · exact hs j hj
            · simp at hj; subst hj; exact ⟨ha, hb⟩) (by omega)
          have e := fun r => lp_few3_on realAr (is.map attrA) is.length i is[i].1.size is[i].2.1.size is[i].2.2 is[i].1 is[i].2.1 (r := r) hg (by simp) rfl rfl h3 h4 h6 (by simp [realAr_lt'] <;> omega) (by simp [realAr_lt'] <;> omega)
            (by rw [realAr_ok.add]; exact wrap_nat (n := i + 1) (by omega))
          rcases hnext with q | ⟨⟨k, q⟩, q2⟩
          · exact .inl (e _ q)
          · exact .inr ⟨⟨k, e _ q⟩, q2⟩
        · left
          exact lp_few3_b realAr (is.map attrA) is.length i is[i].1.size is[i].2.1.size is[i].2.2 is[i].1 is[i].2.1 hg (by simp) rfl rfl h3 h4 h6 (by simp [realAr_lt'] <;> omega) (by simp [realAr_lt'] <;> omega)
      · left
        exact lp_few3_a realAr (is.map attrA) is.length i is[i].1.size is[i].2.2 is[i].1 is[i].2.1 hg (by simp) rfl h3 h4 h6 (by simp [realAr_lt'] <;> omega)
    · right
      refine ⟨⟨i, lp_few3_end2 realAr _ is.length i (by simp) h4 (by rw [lt_fn3]; simp; omega)⟩, fun q => by omega⟩
/-- whether instructions are few, and short -/
theorem s_few3 (is : List AttrT) :
    evl (envV realAr) (.call 61 [.sl 3 (is.map attrA) .imm] []) = some (.ret (.s (.int .i64 0)) []) ∨ evl (envV realAr) (.call 61 [.sl 3 (is.map attrA) .imm] []) = some (.ret (.s (.int .i64 1)) []) ∧ few3 is ∧ is.length ≤ 20 := by
  rcases lp_few3 is is.length 0 (by omega) (by simp) (by omega) with h | ⟨⟨k, h⟩, h2⟩
  · exact .inl (eq_few30 realAr _ h)
  · have := eq_few3 realAr _ is.length k (by simp) h
    by_cases q : 20 < is.length
    · left
      rw [this, show realAr.lt 20 (.ofNat is.length) = true by simp [realAr_lt']; omega]
      rfl
    · right
      rw [this, show realAr.lt 20 (.ofNat is.length) = false by simp [realAr_lt']; omega]
      exact ⟨rfl, h2 (by omega), by omega⟩
end Go.Va
