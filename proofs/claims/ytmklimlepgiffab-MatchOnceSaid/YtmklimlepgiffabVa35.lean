/- The verified abstract interpreter, a part of it: no statement of its own. -/
import Derived.Test.YtmklimlepgiffabVa34
import Derived.ChangeOld
import Derived.Below
set_option linter.unusedVariables false
set_option linter.unusedSimpArgs false
set_option linter.unusedVariables false
namespace Go.Va
/-- cells of a value of a plain type -/
inductive Wf (P : Program) : TypeId → List AV → Prop where
  | bool {t : TypeId} (b : Bool) : P.underlying t = some .bool → Wf P t [.s (.bool b)]
  | int {t : TypeId} {k : IntKind} (n : Int) : P.underlying t = some (.int k) → (Lit.int k n).wf = true → Wf P t [.s (.int k n)]
  | str {t : TypeId} (s : ByteArray) : P.underlying t = some .string → s.size ≤ maxLen → Wf P t [.s (.string s)]
  | slice {t e : TypeId} (ys : List AV) : P.underlying t = some (.slice e) → ys.length ≤ maxLen → (∀ y ∈ ys, Wf P e y.cells) → (∀ y ∈ ys, (∃ fs, P.underlying e = some (.struct fs)) ↔ ∃ zs, y = .agg zs) → Wf P t [.sl (P.cellsOf e) ys .imm]
  | struct {t : TypeId} {fs : Array Field} (xs : List AV) : P.underlying t = some (.struct fs) → xs.length = P.cellsOf t → (∀ f ∈ fs.toList, Wf P f.type ((xs.drop f.offset).take (P.cellsOf f.type))) → Wf P t xs
/-- types that are made of plain ones, closed -/
def closT (P : Program) (T : List Nat) : Bool := T.all fun t => match P.underlying t with
  | some .bool | some (.int _) | some .string => true
  | some (.slice e) => T.contains e && Nat.blt 0 (P.cellsOf e)
  | some (.struct fs) => fs.toList.all fun f => T.contains f.type
  | _ => false
/-- whether the fields of the struct types fill their cells, one behind the other -/
def fillsT (P : Program) : Nat → List Field → Option Nat
  | n, [] => some n
  | n, f :: fs => if f.offset = n then fillsT P (n + P.cellsOf f.type) fs else none
def fullT (P : Program) (T : List Nat) : Bool := T.all fun t => match P.underlying t with
  | some (.struct fs) => fillsT P 0 fs.toList == some (P.cellsOf t)
  | some (.slice _) | some .bool | some (.int _) | some .string => P.cellsOf t == 1
  | _ => true
/-- at a law's call nothing changes that is there -/
def Gh.start (W : World) : Gh := ⟨fun b => match W.heap[b]? with | some o => .imm o | none => .other, fun _ => none⟩
theorem start_imm {W : World} {b : Nat} {o : Go.Obj} (h : W.heap[b]? = some o) : (Gh.start W).cls b = .imm o := by simp only [Gh.start, h]
theorem mapM_range {α : Type} {f : Nat → Option α} : ∀ {n : Nat} {l : List α}, (List.range n).mapM f = some l → l.length = n ∧ ∀ i x, l[i]? = some x → f i = some x := by
  intro n l h
  have hl : l.length = n := by simpa using mapM_some_length h
  refine ⟨hl, fun i x hx => ?_⟩
  have key : ∀ (xs : List Nat) (l : List α), xs.mapM f = some l → ∀ (i : Nat) (x : α), l[i]? = some x → ∃ k, xs[i]? = some k ∧ f k = some x := by
    intro xs
    induction xs with
    | nil => intro l h i x e; simp at h; subst h; simp at e
    | cons y ys ih =>
      intro l h i x e
      rw [List.mapM_cons] at h
      cases hy : f y with
      | none => simp [hy] at h
      | some z =>
        cases hs : ys.mapM f with
        | none => simp [hy, hs] at h
        | some zs =>
          simp [hy, hs] at h
          subst h
          cases i with
          | zero => simp at e; subst e; exact ⟨y, rfl, hy⟩
          | succ i =>
            obtain ⟨k, k1, k2⟩ := ih zs hs i x (by simpa using e)
            exact ⟨k, by simpa using k1, k2⟩
  obtain ⟨k, k1, k2⟩ := key _ _ h i x hx
  have : i < n := by
    by_cases q : i < n
    · exact q
    · rw [List.getElem?_eq_none (by omega)] at hx; cases hx
  rw [List.getElem?_range this] at k1
  cases k1
  exact k2
theorem mapM_list {α β : Type} {f : α → Option β} : ∀ {xs : List α} {l : List β}, xs.mapM f = some l → l.length = xs.length ∧ ∀ (i : Nat) (y : β), l[i]? = some y → ∃ x, xs[i]? = some x ∧ f x = some y := by
  intro xs
  induction xs with
  | nil => intro l h; simp at h; subst h; exact ⟨rfl, fun i y e => by simp at e⟩
  | cons x xs ih =>
    intro l h
    rw [List.mapM_cons] at h
    cases hy : f x with
    | none => simp [hy] at h
    | some z =>
      cases hs : xs.mapM f with
      | none => simp [hy, hs] at h
      | some zs =>
        simp [hy, hs] at h
        subst h
        obtain ⟨h1, h2⟩ := ih hs
        refine ⟨by simp [h1], fun i y e => ?_⟩
        cases i with
        | zero => simp at e; subst e; exact ⟨x, rfl, hy⟩
        | succ i =>
          obtain ⟨k, k1, k2⟩ := h2 i y (by simpa using e)
          exact ⟨k, by simpa using k1, k2⟩
theorem Dl_lenV {cls : Nat → Cls} : ∀ {xs : List AV} {vs : List Value}, Dl cls xs vs → vs.length = xs.length
  | [], vs, h => by simp only [Dl] at h; rw [h]; rfl
  | x :: xs, vs, h => by simp only [Dl] at h; obtain ⟨v, vs', rfl, _, _, h2⟩ := h; simp [Dl_lenV h2]
/-- fields, one behind the other -/
theorem fields_ok {P : Program} {cls : Nat → Cls} {cs : List Value} : ∀ (fs : List Field) (n N : Nat), fillsT P n fs = some N → N ≤ cs.length →
    (∀ f ∈ fs, ∃ xs, Wf P f.type xs ∧ Dl cls xs ((cs.drop f.offset).take (P.cellsOf f.type))) →
    n ≤ N ∧ ∃ ys, ys.length = N - n ∧ Dl cls ys ((cs.drop n).take (N - n)) ∧ ∀ f ∈ fs, n ≤ f.offset ∧ Wf P f.type ((ys.drop (f.offset - n)).take (P.cellsOf f.type))
  | [], n, N, h, hN, _ => by
    simp only [fillsT] at h
    cases h
    exact ⟨Nat.le_refl _, [], by simp, by simp [Dl], by simp⟩
  | f :: fs, n, N, h, hN, hf => by
    simp only [fillsT] at h
    split at h
    · rename_i ho
      subst ho
      obtain ⟨k1, ys, k2, k3, k4⟩ := fields_ok fs _ N h hN (fun g hg => hf g (List.mem_cons_of_mem _ hg))
      obtain ⟨xs, m1, m2⟩ := hf f (List.mem_cons_self ..)
      have hxl : xs.length = P.cellsOf f.type := by
        have := Dl_lenV m2
        rw [← this]
        simp; omega
      refine ⟨by omega, xs ++ ys, by simp [k2, hxl]; omega, ?_, fun g hg => ?_⟩
      · have e : (cs.drop f.offset).take (N - f.offset) = (cs.drop f.offset).take (P.cellsOf f.type) ++ (cs.drop (f.offset + P.cellsOf f.type)).take (N - (f.offset + P.cellsOf f.type)) := by
          rw [show N - f.offset = P.cellsOf f.type + (N - (f.offset + P.cellsOf f.type)) by omega, List.take_add, List.drop_drop]
        rw [e]
        exact Dl_app _ _ _ _ m2 k3
      · rcases List.mem_cons.1 hg with rfl | hg
        · refine ⟨Nat.le_refl _, ?_⟩
          simp only [Nat.sub_self, List.drop_zero]
          rw [List.take_append_of_le_length (by omega), List.take_of_length_le (by omega)]
          exact m1
        · obtain ⟨q1, q2⟩ := k4 g hg
          refine ⟨by omega, ?_⟩
          have : (xs ++ ys).drop (g.offset - f.offset) = ys.drop (g.offset - (f.offset + P.cellsOf f.type)) := by
            rw [List.drop_append, List.drop_of_length_le (by omega), List.nil_append, hxl]
            congr 1
            omega
          rw [this]
          exact q2
    · cases h
section
variable {H : Type} {enc : TypeId × Value → H} {P : Program} {W W' : World}
theorem closT_get {T : List Nat} (h : closT P T = true) {t : Nat} (ht : t ∈ T) : (match P.underlying t with
  | some .bool | some (.int _) | some .string => true
  | some (.slice e) => T.contains e && Nat.blt 0 (P.cellsOf e)
  | some (.struct fs) => fs.toList.all fun f => T.contains f.type
  | _ => false) = true := List.all_eq_true.1 h t ht
theorem cell_spot {W : World} {a : Addr} {v : Value} (h : W.cell? a = some v) : a.spot = none := by
  cases hsp : a.spot with
  | none => rfl
  | some s =>
    simp only [World.cell?] at h
    split at h
    · simp [hsp] at h
    · cases h
theorem cells_same {W W' : World} (hsame : ∀ b, b < W.heap.size → W'.heap[b]? = W.heap[b]?) {a : Addr} {n : Nat} {cs : List Value} (hn : 0 < n) (h : W.cells? 0 a n = some cs) : W'.cells? 0 a n = some cs := by
  refine World.cells?_carry h (fun p hp => ?_)
  obtain ⟨i, hi, rfl⟩ := MemPlace.mem_row.1 hp
  have := World.cells?_block h hn
  simp only [World.sameAt, World.cell?]
  rw [hsame _ this]
theorem mapM_same {α β : Type} {f g : α → Option β} {xs : List α} {l : List β} (h : xs.mapM f = some l) (hfg : ∀ x y, f x = some y → g x = some y) : xs.mapM g = some l :=
  mapM_carry h (fun x y _ _ e => hfg x y e)
/-- what is read of a plain type is said of it; and it is read as it was where nothing has changed -/
theorem trod_plain {T : List Nat} (hT : closT P T = true) (hF : fullT P T = true) (hsame : ∀ b, b < W.heap.size → W'.heap[b]? = W.heap[b]?) :
    ∀ (n : Nat) (t : Nat) (cs : List Value) (x : DataW H × List MemPlace), t ∈ T → DataW.trod enc P W 0 (fun _ => true) true n t cs = some x →
      (∃ xs, Wf P t xs ∧ Dl (Gh.start W).cls xs cs ∧ cs.length = P.cellsOf t) ∧ DataW.trod enc P W' 0 (fun b => decide (b < W.heap.size)) true n t cs = some x := by
  intro n
  induction n with
  | zero => intro t cs x _ h; simp [DataW.trod] at h
  | succ n ih =>
    intro t cs x ht h
    have hc := closT_get hT ht
    have hf := List.all_eq_true.1 hF t ht
    rw [DataW.trod_step] at h ⊢
    have h0 := h
    unfold DataW.trodStep at h
    split at h
    case h_1 b hu =>
      rw [hu] at hf
      refine ⟨⟨_, .bool b hu, by simp [Dl, D, AV.flat, one], by simpa using (beq_iff_eq.1 hf).symm⟩, ?_⟩
      unfold DataW.trodStep; rw [hu]; exact h
    case h_2 k k' v hu =>
      rw [hu] at hf
      split at h
      · rename_i hk
        obtain ⟨rfl, hw⟩ := hk
        refine ⟨⟨_, .int v hu hw, by simp [Dl, D, AV.flat, one], by simpa using (beq_iff_eq.1 hf).symm⟩, ?_⟩
        unfold DataW.trodStep; rw [hu]; simp only; rw [if_pos ⟨trivial, hw⟩]; exact h
      · cases h
    case h_4 s hu =>
      rw [hu] at hf
      split at h
      · rename_i hs
        refine ⟨⟨_, .str s hu hs, by simp [Dl, D, AV.flat, one], by simpa using (beq_iff_eq.1 hf).symm⟩, ?_⟩
        unfold DataW.trodStep; rw [hu]; simp only; rw [if_pos hs]; exact h
      · cases h
    case h_7 e hu =>
      rw [hu] at hf
      refine ⟨⟨[.sl (P.cellsOf e) [] .imm], .slice [] hu (by simp) (by simp) (by simp), ?_, by simpa using (beq_iff_eq.1 hf).symm⟩, ?_⟩
      · simp only [Dl]
        refine ⟨_, [], rfl, rfl, ?_, rfl⟩
        simp only [D]
        exact ⟨none, 0, rfl, Nat.le_refl _, .inl trivial⟩
      · unfold DataW.trodStep; rw [hu]; exact h
    case h_8 e a len cap hu =>
      rw [hu] at hf hc
      simp only [Bool.and_eq_true] at hc
      have he : e ∈ T := by simpa using hc.1
      have hpos : 0 < P.cellsOf e := blt_t hc.2
      simp only at h
      split at h
      · rename_i hb
        simp only [Option.bind_eq_some_iff, Option.map_eq_some_iff] at h
        obtain ⟨elems, h1, rest, h2, h3⟩ := h
        rw [if_pos trivial] at h2
        obtain ⟨l1, g1⟩ := mapM_range h1
        -- one element
        have one : ∀ i y, (W.cells? 0 (a.add (i * P.cellsOf e)) (P.cellsOf e)).bind (DataW.trod enc P W 0 (fun _ => true) true n e) = some y →
            ∃ cs', W.cells? 0 (a.add (i * P.cellsOf e)) (P.cellsOf e) = some cs' ∧ (∃ xs, Wf P e xs ∧ Dl (Gh.start W).cls xs cs' ∧ cs'.length = P.cellsOf e) ∧
              (W'.cells? 0 (a.add (i * P.cellsOf e)) (P.cellsOf e)).bind (DataW.trod enc P W' 0 (fun b => decide (b < W.heap.size)) true n e) = some y := by
          intro i y hy
          obtain ⟨cs', k1, k2⟩ := Option.bind_eq_some_iff.1 hy
          obtain ⟨k3, k4⟩ := ih e cs' y he k2
          exact ⟨cs', k1, k3, Option.bind_eq_some_iff.2 ⟨cs', cells_same hsame hpos k1, k4⟩⟩
        refine ⟨?_, ?_⟩
        · -- the elements
          have hel : ∀ i, i < len → ∃ cs' xs, W.cells? 0 (a.add (i * P.cellsOf e)) (P.cellsOf e) = some cs' ∧ Wf P e xs ∧ Dl (Gh.start W).cls xs cs' ∧ cs'.length = P.cellsOf e := by
            intro i hi
            obtain ⟨cs', k1, ⟨xs, k2, k3, k4⟩, _⟩ := one i _ (g1 i elems[i] (by simp [l1, hi]))
            exact ⟨cs', xs, k1, k2, k3, k4⟩
          have key : ∀ m, m ≤ len → ∃ ys : List AV, ys.length = m ∧ ∀ (i : Nat) (y : AV), ys[i]? = some y → ∃ cs', W.cells? 0 (a.add (i * P.cellsOf e)) (P.cellsOf e) = some cs' ∧ Wf P e y.cells ∧ D (Gh.start W).cls y cs' ∧ cs'.length = P.cellsOf e ∧ ((∃ fs, P.underlying e = some (.struct fs)) ↔ ∃ zs, y = .agg zs) := by
            intro m
            induction m with
            | zero => intro _; exact ⟨[], rfl, by simp⟩
            | succ m ihm =>
              intro hm
              obtain ⟨ys, q1, q2⟩ := ihm (by omega)
              obtain ⟨cs', xs, k1, k2, k3, k4⟩ := hel m (by omega)
              have : ∃ y, Wf P e y.cells ∧ D (Gh.start W).cls y cs' ∧ ((∃ fs, P.underlying e = some (.struct fs)) ↔ ∃ zs, y = .agg zs) := by
                by_cases hs : ∃ fs, P.underlying e = some (.struct fs)
                · exact ⟨.agg xs, k2, by simpa only [D] using k3, fun _ => ⟨_, rfl⟩, fun _ => hs⟩
                · have hec := closT_get hT he
                  have hef := List.all_eq_true.1 hF e he
                  have h1c : P.cellsOf e = 1 := by
                    cases hue : P.underlying e with
                    | none => rw [hue] at hec; cases hec
                    | some d =>
                      rw [hue] at hec hef hs
                      cases d <;> first | (exact beq_iff_eq.1 hef) | cases hec | skip
                      exact (hs ⟨_, rfl⟩).elim
                  have hxl := Dl_lenV k3
                  rw [k4, h1c] at hxl
                  match xs, hxl, k2, k3 with
                  | [x], _, k2, k3 =>
                    simp only [Dl] at k3
                    obtain ⟨v, vs', rfl, q3, q4, rfl⟩ := k3
                    have hx : x.cells = [x] := by cases x <;> first | rfl | cases q3
                    refine ⟨x, by rw [hx]; exact k2, q4, fun k => (hs k).elim, ?_⟩
                    rintro ⟨zs, rfl⟩
                    cases q3
              obtain ⟨y, y1, y2, y3⟩ := this
              refine ⟨ys ++ [y], by simp [q1], fun i z hz => ?_⟩
              by_cases hi : i < m
              · rw [List.getElem?_append_left (by omega)] at hz
                exact q2 i z hz
              · rw [List.getElem?_append_right (by omega)] at hz
                have : i = m := by
                  by_cases q : i - ys.length < 1
                  · omega
                  · rw [List.getElem?_eq_none (by simp; omega)] at hz; cases hz
                subst this
                rw [q1, Nat.sub_self] at hz
                simp at hz
                subst hz
                exact ⟨cs', k1, y1, y2, k4, y3⟩
          obtain ⟨ys, q1, q2⟩ := key len (Nat.le_refl _)
          have q3 : ∀ y ∈ ys, ∃ i, ys[i]? = some y := fun y hy => List.getElem?_of_mem hy
          refine ⟨[.sl (P.cellsOf e) ys .imm], .slice ys hu (by rw [q1]; omega) (fun y hy => ?_) (fun y hy => ?_), ?_, by simpa using (beq_iff_eq.1 hf).symm⟩
          · obtain ⟨i, hi⟩ := q3 y hy
            obtain ⟨_, _, k, _⟩ := q2 i y hi
            exact k
          · obtain ⟨i, hi⟩ := q3 y hy
            obtain ⟨_, _, _, _, _, k⟩ := q2 i y hi
            exact k
          · simp only [Dl]
            refine ⟨_, [], rfl, rfl, ?_, rfl⟩
            simp only [D]
            refine ⟨some a, cap, by rw [q1], by rw [q1]; omega, ?_⟩
            by_cases h0 : ys = []
            · exact .inl h0
            · right
              have hl0 : 0 < len := by rw [← q1]; exact List.length_pos_iff.2 h0
              obtain ⟨cs0, _, k1, _, _, k4⟩ := hel 0 hl0
              obtain ⟨_, m2, m3⟩ := World.cells?_some k1
              have m4 := m3 0 hpos
              have hsp : a.spot = none := by
                have : W.cell? a = cs0[0]? := by simpa [Addr.add] using m4
                have hv : cs0[0]? = some cs0[0] := by simp [show 0 < cs0.length by omega]
                exact cell_spot (this.trans hv)
              obtain ⟨b, off, sp⟩ := a
              simp only at hsp
              subst hsp
              have hblk : ∃ ob, W.heap[b]? = some ob := by
                have := World.cells?_block k1 hpos
                simp only [Addr.add_lit] at this
                exact ⟨W.heap[b], by simp [this]⟩
              obtain ⟨ob, hob⟩ := hblk
              refine ⟨b, off, ob, rfl, start_imm hob, ?_⟩
              -- each element in its place
              have hdn : ∀ (zs : List AV) (i : Nat), (∀ (j : Nat) (y : AV), zs[j]? = some y → ∃ cs', W.cells? 0 ((⟨b, off, none⟩ : Addr).add ((i + j) * P.cellsOf e)) (P.cellsOf e) = some cs' ∧ D (Gh.start W).cls y cs' ∧ cs'.length = P.cellsOf e) → Dn (Gh.start W).cls zs (P.cellsOf e) ob (off + i * P.cellsOf e) := by
                intro zs
                induction zs with
                | nil => intro i _; simp [Dn]
                | cons y zs ihz =>
                  intro i hz
                  obtain ⟨cs', n1, n2, n3⟩ := hz 0 y rfl
                  rw [Nat.add_zero] at n1
                  simp only [Dn]
                  refine ⟨cs', n2, n3, ?_, ?_⟩
                  · obtain ⟨_, p2, p3⟩ := World.cells?_some n1
                    have h0' : 0 < cs'.length := by omega
                    have := p3 0 hpos
                    rw [Addr.add_lit, Addr.add_lit] at this
                    have hv : cs'[0]? = some cs'[0] := by simp [h0']
                    rw [hv] at this
                    simp only [World.cell?] at this
                    rw [hob] at this
                    cases ob with
                    | cells c el fz =>
                      refine ⟨c, el, fz, rfl, fun j v ev => ?_⟩
                      have hj : j < P.cellsOf e := by
                        rw [← n3]
                        by_cases q : j < cs'.length
                        · exact q
                        · rw [List.getElem?_eq_none (by omega)] at ev; cases ev
                      have := p3 j hj
                      rw [Addr.add_lit, Addr.add_lit, ev, cell_of hob] at this
                      exact this
                    | _ => cases this
                  · have := ihz (i + 1) (fun j y e => by
                      obtain ⟨cs2, r1, r2⟩ := hz (j + 1) y (by simpa using e)
                      exact ⟨cs2, by rwa [show i + 1 + j = i + (j + 1) by omega], r2⟩)
                    rw [show off + i * P.cellsOf e + P.cellsOf e = off + (i + 1) * P.cellsOf e by rw [Nat.add_mul]; omega]
                    exact this
              have := hdn ys 0 (fun j y e => by
                obtain ⟨cs', r1, _, r3, r4, _⟩ := q2 j y e
                exact ⟨cs', by rwa [Nat.zero_add], r3, r4⟩)
              simpa using this
        · unfold DataW.trodStep
          rw [hu]
          simp only
          rw [if_pos hb]
          simp only [Option.bind_eq_some_iff, Option.map_eq_some_iff]
          refine ⟨elems, mapM_same h1 (fun i y e => ?_), rest, ?_, h3⟩
          · obtain ⟨_, _, _, k⟩ := one i y e
            exact k
          · by_cases hblk : a.block < W.heap.size
            · rw [if_pos (by simpa using hblk)]
              refine mapM_same h2 (fun i y e => ?_)
              obtain ⟨_, _, _, k⟩ := one (len + i) y e
              exact k
            · rw [if_neg (by simpa using hblk)]
              have : rest = [] := by
                obtain ⟨l2, g2⟩ := mapM_range h2
                by_cases q : rest = []
                · exact q
                · exfalso
                  have h0 : 0 < rest.length := List.length_pos_iff.2 q
                  obtain ⟨cs', k1, _, _⟩ := one (len + 0) _ (g2 0 rest[0] (by simp [h0]))
                  have := World.cells?_block k1 hpos
                  unfold Addr.add at this
                  split at this <;> exact hblk this
              rw [this]
      · cases h
    case h_9 =>
      rename_i cs x0 cs0 fs hu
      rw [hu] at hf hc
      have hc : (fs.toList.all fun f => T.contains f.type) = true := hc
      have hf : (fillsT P 0 fs.toList == some (P.cellsOf t)) = true := hf
      split at h
      · rename_i hlen
        obtain ⟨ys, h1, h2⟩ := Option.map_eq_some_iff.1 h
        obtain ⟨l1, g1⟩ := mapM_list h1
        have hfld : ∀ f ∈ fs.toList, ∃ xs, Wf P f.type xs ∧ Dl (Gh.start W).cls xs ((cs.drop f.offset).take (P.cellsOf f.type)) := by
          intro f hfm
          obtain ⟨i, hi⟩ := List.getElem?_of_mem hfm
          have hil : i < ys.length := by
            rw [l1]
            by_cases q : i < fs.toList.length
            · exact q
            · rw [List.getElem?_eq_none (by omega)] at hi; cases hi
          obtain ⟨f', k1, k2⟩ := g1 i ys[i] (by simp [hil])
          rw [hi] at k1
          cases k1
          have hmem : f.type ∈ T := by simpa using List.all_eq_true.1 hc f hfm
          obtain ⟨⟨xs, m1, m2, _⟩, _⟩ := ih _ _ _ hmem k2
          exact ⟨xs, m1, m2⟩
        obtain ⟨_, zs, z1, z2, z3⟩ := fields_ok fs.toList 0 (P.cellsOf t) (beq_iff_eq.1 hf) (by omega) hfld
        refine ⟨⟨zs, .struct zs hu (by rw [z1, Nat.sub_zero]) (fun f hfm => by simpa using (z3 f hfm).2), ?_, hlen⟩, ?_⟩
        · rw [Nat.sub_zero, List.drop_zero, List.take_of_length_le (by omega)] at z2
          exact z2
        · unfold DataW.trodStep
          rw [hu]
          simp only
          rw [if_pos hlen]
          refine Option.map_eq_some_iff.2 ⟨ys, ?_, h2⟩
          refine mapM_carry h1 (fun f y hfm _ e => ?_)
          have hmem : f.type ∈ T := by simpa using List.all_eq_true.1 hc f hfm
          exact (ih _ _ _ hmem e).2
      · cases h
    all_goals (rename_i hu; first | (rw [hu] at hc; cases hc) | (cases h))
end
end Go.Va
