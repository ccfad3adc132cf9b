/- The verified abstract interpreter, a part of it: no statement of its own. -/
import Derived.Test.YtmklimlepgiffabVa22
import Derived.Deep.AppendSrc
set_option linter.unusedVariables false
set_option linter.unusedSimpArgs false
set_option linter.unusedVariables false
namespace Go.Va
/-- the cells of some elements, one behind the other -/
theorem Dn_news {cls : Nat → Cls} : ∀ (xs : List AV) {z : Nat} {o : Go.Obj} {off : Nat}, Dn cls xs z o off → ∃ news : List Value, news.length = xs.length * z ∧ El cls xs z news.toArray 0 ∧ (∀ u ∈ news, one u) ∧
    (xs = [] ∨ z = 0 ∨ ∃ c e fz, o = .cells c e fz ∧ ∀ j u, news[j]? = some u → c[off + j]? = some u)
  | [], z, o, off, h => ⟨[], by simp, fun j x e => by simp at e, by simp, .inl rfl⟩
  | x :: xs, z, o, off, h => by
    simp only [Dn] at h
    obtain ⟨vs, h1, h2, ⟨c, e, fz, h3, h4⟩, h5⟩ := h
    obtain ⟨news, k1, k2, k3, k4⟩ := Dn_news xs h5
    refine ⟨vs ++ news, by simp [h2, k1, Nat.add_mul]; omega, ?_, ?_, ?_⟩
    · intro j y hy
      cases j with
      | zero =>
        simp at hy; subst hy
        refine ⟨vs, h1, h2, fun i v e => ?_⟩
        simp only [List.getElem?_toArray, Nat.zero_mul, Nat.zero_add]
        rw [List.getElem?_append_left]
        · exact e
        · by_cases q : i < vs.length
          · exact q
          · rw [List.getElem?_eq_none (by omega)] at e; cases e
      | succ j =>
        obtain ⟨us, l1, l2, l3⟩ := k2 j y (by simpa using hy)
        refine ⟨us, l1, l2, fun i v e => ?_⟩
        have := l3 i v e
        simp only [List.getElem?_toArray, Nat.zero_add] at this ⊢
        rw [List.getElem?_append_right (by rw [h2, Nat.add_mul]; omega), h2, show (j + 1) * z + i - z = j * z + i by rw [Nat.add_mul]; omega]
        exact this
    · intro u hu
      rcases List.mem_append.1 hu with hu | hu
      · exact D_ones h1 u hu
      · exact k3 u hu
    · right
      by_cases hz : z = 0
      · exact .inl hz
      · right
        refine ⟨c, e, fz, h3, fun j u hj => ?_⟩
        by_cases q : j < vs.length
        · rw [List.getElem?_append_left q] at hj
          exact h4 j u hj
        · rw [List.getElem?_append_right (by omega)] at hj
          rcases k4 with rfl | k4 | ⟨c', e', fz', k4, k5⟩
          · simp only [List.length_nil, Nat.zero_mul] at k1
            rw [List.eq_nil_of_length_eq_zero k1] at hj; cases hj
          · exact (hz k4).elim
          · rw [h3] at k4
            cases k4
            have := k5 _ u hj
            rwa [show off + z + (j - vs.length) = off + j by omega] at this
theorem El.app {cls : Nat → Cls} {xs ys : List AV} {z : Nat} {A B C : List Value} (h : El cls xs z A.toArray 0) (k : El cls ys z B.toArray 0) (hA : A.length = xs.length * z) :
    El cls (xs ++ ys) z (A ++ B ++ C).toArray 0 := by
  intro j x hx
  by_cases q : j < xs.length
  · rw [List.getElem?_append_left q] at hx
    obtain ⟨vs, h1, h2, h3⟩ := h j x hx
    refine ⟨vs, h1, h2, fun i v e => ?_⟩
    have := h3 i v e
    simp only [List.getElem?_toArray, Nat.zero_add] at this ⊢
    rw [List.append_assoc, List.getElem?_append_left]
    · exact this
    · by_cases r : j * z + i < A.length
      · exact r
      · rw [List.getElem?_eq_none (by omega)] at this; cases this
  · rw [List.getElem?_append_right (by omega)] at hx
    obtain ⟨vs, h1, h2, h3⟩ := k _ x hx
    refine ⟨vs, h1, h2, fun i v e => ?_⟩
    have := h3 i v e
    simp only [List.getElem?_toArray, Nat.zero_add] at this ⊢
    have e1 : j * z = xs.length * z + (j - xs.length) * z := by rw [← Nat.add_mul]; congr 1; omega
    rw [List.append_assoc, List.getElem?_append_right (by omega), hA, List.getElem?_append_left]
    · rw [show j * z + i - xs.length * z = (j - xs.length) * z + i by omega]; exact this
    · rw [show j * z + i - xs.length * z = (j - xs.length) * z + i by omega]
      by_cases r : (j - xs.length) * z + i < B.length
      · exact r
      · rw [List.getElem?_eq_none (by omega)] at this; cases this

/-- what is appended: its elements, and their cells -/
structure SrcOk (P : Program) (cls : Nat → Cls) (w : World) (z : Nat) (tx : TypeId) (ys : List AV) (v : Value) (news : List Value) : Prop where
  src : Src P z tx v ys.length news w
  el : El cls ys z news.toArray 0
theorem SrcOk.frame {P : Program} {cls cls' : Nat → Cls} {w : World} {z : Nat} {tx : TypeId} {ys : List AV} {v : Value} {news : List Value} (h : SrcOk P cls w z tx ys v news) (hk : ∀ b o, cls b = .imm o → cls' b = .imm o) : SrcOk P cls' w z tx ys v news :=
  ⟨h.src, h.el.frame hk⟩
section
variable {c : Cx} {γ : Gh} {st : St} {a : Act} {w : World} {o : Oper} {env : Env} {i : Nat}

theorem src_of_dn {P : Program} {z : Nat} {tx e' : TypeId} (hk : P.underlying tx = some (.slice e')) {ys : List AV} {ad : Option Addr} {cap : Nat} 
    (h : ys = [] ∨ ∃ b off ob, ad = some ⟨b, off, none⟩ ∧ w.heap[b]? = some ob ∧ Dn γ.cls ys z ob off) (hn : ys = [] → (∃ b, ad = some b) ∨ ad = none) : ∃ news, SrcOk P γ.cls w z tx ys (.slice ad ys.length cap) news := by
  rcases h with rfl | ⟨b, off, ob, rfl, hb, hd⟩
  · rcases hn rfl with ⟨b, rfl⟩ | rfl
    · exact ⟨[], Src.ofSlice w hk b 0 cap [] (by simp) (by simp) (by simp), fun j x e => by simp at e⟩
    · exact ⟨[], Src.ofNil w hk cap, fun j x e => by simp at e⟩
  · obtain ⟨news, k1, k2, k3, k4⟩ := Dn_news ys hd
    refine ⟨news, Src.ofSlice w hk _ _ cap news k1 ?_ (fun u hu => one_cell' (k3 u hu)), k2⟩
    intro j u hj
    rcases k4 with rfl | rfl | ⟨c', e, fz, k5, k6⟩
    · simp only [List.length_nil, Nat.zero_mul] at k1
      rw [List.eq_nil_of_length_eq_zero k1] at hj; cases hj
    · simp only [Nat.mul_zero] at k1
      rw [List.eq_nil_of_length_eq_zero k1] at hj; cases hj
    · rw [k5] at hb
      rw [Addr.add_lit, cell_of hb]
      exact k6 j u hj
theorem sl_heap {l : Loc} (hi : Inv c γ st a w) {z : Nat} {xs : List AV} {p : Perm} {v : Value} (h : R γ w l (.sl z xs p) v) :
    ∃ ad cap, v = .slice ad xs.length cap ∧ xs.length ≤ cap ∧ (xs = [] ∨ ∃ b off ob, ad = some ⟨b, off, none⟩ ∧ w.heap[b]? = some ob ∧ Dn γ.cls xs z ob off) := by
  cases p with
  | full =>
    simp only [R] at h
    rcases h with ⟨rfl, rfl⟩ | ⟨b, cap, cs, e, rfl, hb, hh, hs, hl, hn⟩
    · exact ⟨none, 0, rfl, Nat.le_refl _, .inl rfl⟩
    · exact ⟨_, cap, rfl, hl, .inr ⟨b, 0, _, rfl, hh, hn⟩⟩
  | imm =>
    obtain ⟨ad, cap, h1, h2, h3⟩ := sl_cases h (by simp)
    refine ⟨ad, cap, h1, h2, h3.imp id ?_⟩
    rintro ⟨b, off, ob, k1, k2, k3⟩
    exact ⟨b, off, ob, k1, hi.wd.still b ob (.inl k2), k3⟩
  | ro =>
    obtain ⟨ad, cap, h1, h2, h3⟩ := sl_cases h (by simp)
    refine ⟨ad, cap, h1, h2, h3.imp id ?_⟩
    rintro ⟨b, off, ob, k1, k2, k3⟩
    exact ⟨b, off, ob, k1, hi.wd.still b ob (.inr k2), k3⟩
/-- the elements of an operand's slice -/
theorem elems_heap (hi : Inv c γ st a w) {x : Operand} {z : Nat} {ys : List AV} (h : elems realAr st (opd st x) = some (z, ys)) :
    ∃ ad cap, a.eval x = .slice ad ys.length cap ∧ (ys = [] ∨ ∃ b off ob, ad = some ⟨b, off, none⟩ ∧ w.heap[b]? = some ob ∧ Dn γ.cls ys z ob off) := by
  unfold elems at h
  split at h
  · rename_i z' xs p hx
    cases h
    have hv : ∃ l, R γ w l (.sl z ys p) (a.eval x) := by
      cases x with
      | tmp t => exact ⟨_, by rw [← hx]; exact hi.fm.val t⟩
      | const v =>
        have := constV_ok γ w (lim 0) v
        simp only [opd] at hx
        rw [hx] at this
        exact ⟨_, this⟩
      | func f => simp [opd] at hx
      | global g => simp [opd] at hx
    obtain ⟨l, hv⟩ := hv
    obtain ⟨ad, cap, h1, _, h3⟩ := sl_heap hi hv
    exact ⟨ad, cap, h1, h3⟩
  · rename_i z' hm lo len hx
    split at h
    · rename_i z2 xs p hg
      cases hk : realAr.nle (lo + len) xs.length with
      | false => rw [hk] at h; cases h
      | true =>
        rw [hk] at h
        cases h
        have hk : lo + len ≤ xs.length := by simpa [realAr] using hk
        obtain ⟨u, hu, hR⟩ := home_rel (h := hm) hi (by rw [hg]; simp)
        rw [hg] at hR
        obtain ⟨_, al0, al⟩ := (flow_opd hi x 0 (by rw [hx]; rfl)).al _ _ _ _ hx
        obtain ⟨e0, e1, ha, cap, a', e2, e3, _, e5⟩ := al _ _ _ hg u hu
        subst e0
        obtain ⟨ad, cap2, g1, _, g3⟩ := sl_heap hi hR
        rw [g1] at e2
        injection e2 with e2 _ _
        subst e2
        refine ⟨a', cap - lo, by rw [e3, lcut_len hk], ?_⟩
        by_cases h0 : 0 < len
        · right
          obtain ⟨b, off, k1, k2⟩ := e5 h0
          rcases g3 with rfl | ⟨b', off', ob, g4, g5, g6⟩
          · simp at hk; omega
          · rw [k1] at g4
            cases g4
            exact ⟨b, _, ob, k2, g5, Dn_cut g6⟩
        · left
          have : len = 0 := by omega
          subst this
          simp [lcut]
    · cases h
  · cases h
theorem El_bytes (cls : Nat → Cls) (s : ByteArray) : El cls (ofBytes s) 1 (byteCells s).toArray 0 := by
  intro j x hx
  unfold ofBytes byteAVs at hx
  rw [List.getElem?_map] at hx
  cases hb : s.data.toList[j]? with
  | none => rw [hb] at hx; cases hx
  | some b =>
    rw [hb] at hx
    cases hx
    refine ⟨[.int .u8 b.toNat], by simp [D, one], rfl, fun i v e => ?_⟩
    cases i with
    | zero =>
      simp at e; subst e
      simp only [List.getElem?_toArray, byteCells, List.getElem?_map, Nat.zero_add, Nat.mul_one, Nat.add_zero]
      rw [hb]; rfl
    | succ i => simp at e
theorem srcOf_ok (hi : Inv c γ st a w) {x : Operand} {u : Ty} {tx : TypeId} (T : TyOk c.P tx u) {z : Nat} {ys : List AV} (h : srcOf realAr st x u = some (z, ys)) : ∃ news, SrcOk c.P γ.cls w z tx ys (a.eval x) news := by
  unfold srcOf at h
  split at h
  · rename_i s hx
    cases hk : u.isStr with
    | false => rw [hk] at h; cases h
    | true =>
      rw [hk] at h
      cases h
      rw [(opd_s hi hx).1]
      have hl : (ofBytes s).length = s.size := by simp only [ofBytes, byteAVs, List.length_map, Array.length_toList]; rfl
      have := Src.ofString w (T.kstr hk) s
      rw [← hl] at this
      exact ⟨byteCells s, this, El_bytes _ s⟩
  · cases hk : u.isSlice with
    | false => rw [hk] at h; cases h
    | true =>
      rw [hk] at h
      obtain ⟨ad, cap, h1, h2⟩ := elems_heap hi h
      rw [h1]
      exact src_of_dn (T.kslice hk) h2 (fun _ => by cases ad with | none => exact .inr rfl | some b => exact .inl ⟨b, rfl⟩)
/-- memory is written at a block that belongs to what is on its way -/
theorem lim_row {b k : Nat} {q : List Nat} {cs : Array Value} (hi : Inv c γ st a w) (hb : γ.cls b = .own ⟨.limbo k, q⟩) : Inv c γ st a (w.setRow b cs) ∧ Ext γ st w γ st (w.setRow b cs) := by
  have hne : ∀ {i b'}, γ.ob i = some b' → b' ≠ b := by
    rintro i b' e rfl
    have := hi.hp.back i b' e
    rw [hb] at this; cases this
  have hV : ∀ h, homeVal γ a (w.setRow b cs) h = homeVal γ a w h := by
    intro h
    cases h with
    | slot => rfl
    | cell i off =>
      simp only [homeVal]
      cases hob : γ.ob i with
      | none => rfl
      | some b' => simp only [Option.bind_some, World.cell?]; rw [setRow_other w b b' cs (hne hob)]
  refine ⟨⟨row_wd hi.wd (by intro o; rw [hb]; simp), ⟨fun i o e => ?_, hi.hp.fresh, hi.hp.back, hi.hp.k⟩, ⟨fun t => R_keep _ (row_keeps (by intro q; rw [hb]; simp)) _ (hi.fm.val t), fun t z h lo len e => by rw [hV]; exact hi.fm.al t z h lo len e, fun t h i off e => by rw [hV]; exact hi.fm.ep t h i off e, hi.fm.n, hi.fm.defers⟩⟩, row_ext (by rw [hb]; simp) rfl⟩
  obtain ⟨b', cs', el, h1, h2, h3, h4, hbe, h5⟩ := hi.hp.obj i o e
  refine ⟨b', cs', el, h1, h2, by rw [setRow_other w b b' cs (hne h1)]; exact h3, h4, hbe, fun j y hy => ?_⟩
  obtain ⟨v, v1, v2, v3⟩ := h5 j y hy
  exact ⟨v, v1, v2, R_keep y (row_keeps (by intro q; rw [hb]; simp)) v v3⟩
theorem run_append_room_row {P : Program} (t tx ty e : TypeId) (i : TypeInfo) (ht : P.underlying t = some (.slice e)) (hi : P.info? e = some i)
    (g sLen sCap : Nat) (cur : Array Value) (el : TypeId) (hg : w.heap[g]? = some (.cells cur el (0, 0))) (x : Value) (n : Nat) (news : List Value) (hs : Src P i.size tx x n news w)
    (hroom : sLen + n ≤ sCap) (hfit : sLen * i.size + news.length ≤ cur.size) :
    (Builtin.append_ #[t, tx] ty #[.slice (some ⟨g, 0, none⟩) sLen sCap, x]).run P w =
      .ok (.slice (some ⟨g, 0, none⟩) (sLen + n) sCap) (w.setRow g (cur.toList.take (sLen * i.size) ++ news ++ cur.toList.drop (sLen * i.size + news.length)).toArray) := by
  have hst := run_storeCells_at P g (sLen * i.size) el news 0 cur w hg (by simpa using hfit) hs.one
  simp only [Nat.add_zero] at hst
  rcases hs.kind with ⟨e', hk⟩ | hk <;> simp [Builtin.append_, run_underlying ht, run_underlying hk, sizeOf, typeInfo, hi, hs.len, hroom, hs.cells, Addr.add_lit, hst]
theorem run_append_nil_nil {P : Program} (t tx ty e : TypeId) (i : TypeInfo) (ht : P.underlying t = some (.slice e)) (hi : P.info? e = some i) (x : Value) (news : List Value) (hs : Src P i.size tx x 0 news w) :
    (Builtin.append_ #[t, tx] ty #[.slice none 0 0, x]).run P w = .ok (.slice none 0 0) w := by
  rcases hs.kind with ⟨e', hk⟩ | hk <;> simp [Builtin.append_, run_underlying ht, run_underlying hk, sizeOf, typeInfo, hi, hs.len, hs.cells]
/-- append to what is owned -/
theorem append_own (hi : Inv c γ st a w) {t tx ty e : TypeId} {te : Ty} (ht : c.P.underlying t = some (.slice e)) (T : TyOk c.P e te) (hb1 : 1 ≤ te.bytes) {xs ys : List AV} {v x : Value} {news : List Value}
    (hv : R γ w (lim 0) (.sl te.size xs .full) v) (hs : SrcOk c.P γ.cls w te.size tx ys x news) (hf : (xs.length + ys.length) * te.bytes ≤ 70368744177664) :
    ∃ v' w' γ', (Builtin.append_ #[t, tx] ty #[v, x]).run c.P w = .ok v' w' ∧ Inv c γ' st a w' ∧ Ext γ st w γ' st w' ∧ R γ' w' (lim 0) (.sl te.size (xs ++ ys) .full) v' := by
  obtain ⟨i, hi1, hsz, hby, _, _, z, hz, hzc⟩ := T.info
  have hzs : z.cells.size = te.size := by
    have h1 := zl_len _ _ (show zl te.zero z.cells.toList = true by unfold zChk at hzc; cases z <;> simp_all [Value.cells])
    rw [Array.length_toList, T.zlen] at h1
    exact h1
  have hn1 : xs.length + ys.length ≤ (xs.length + ys.length) * te.bytes := Nat.le_mul_of_pos_right _ hb1
  have hsrc := hs.src
  have grow : ∀ (base : Option Addr) (cap : Nat) (olds : List Value), olds.length = xs.length * te.size → El γ.cls xs te.size olds.toArray 0 → (Builtin.firstCells i.size xs.length (.slice base xs.length cap)).run c.P w.drew = .ok olds.toArray w.drew →
      cap < xs.length + ys.length → ∃ v' w' γ', (Builtin.append_ #[t, tx] ty #[.slice base xs.length cap, x]).run c.P w = .ok v' w' ∧ Inv c γ' st a w' ∧ Ext γ st w γ' st w' ∧ R γ' w' (lim 0) (.sl te.size (xs ++ ys) .full) v' := by
    intro base cap olds ho hE hrd hcap
    have hrun := run_append_grow_src (P := c.P) w t tx ty e i z ht hi1 hz base xs.length cap olds hrd x ys.length news (by rw [hsz]; exact hsrc) hcap (by omega) (by rw [hby]; exact growslice_fits hcap (by omega))
    obtain ⟨hI, hX⟩ := push_ok hi (Pushed.drew w (.cells ((olds ++ news).toArray ++ Builtin.zeroCells z.cells (grownCap w (xs.length + ys.length) cap e - (xs.length + ys.length))) e)) (.own (lim 0)) (.inl ⟨_, rfl⟩)
    refine ⟨_, _, _, hrun, hI, hX, ?_⟩
    have hge := grownCap_ge w (xs.length + ys.length) cap e
    simp only [R]
    right
    refine ⟨w.heap.size, grownCap w (xs.length + ys.length) cap e, _, e, by simp, set_new .., (Pushed.drew w _).new, ?_, by simp; omega, ?_⟩
    · simp only [Array.size_append, List.size_toArray, List.length_append, size_zeroCells, hzs, ho, hsrc.newsLen, ← Nat.add_mul]
      congr 1
      omega
    · refine El.dn _ _ ?_
      have := (hE.app hs.el ho (C := (Builtin.zeroCells z.cells (grownCap w (xs.length + ys.length) cap e - (xs.length + ys.length))).toList)).frame (cls' := (γ.set w.heap.size (.own (lim 0))).cls) (fun b o e => set_old hi.wd e (by simp))
      have e1 : (olds ++ news).toArray ++ Builtin.zeroCells z.cells (grownCap w (xs.length + ys.length) cap e - (xs.length + ys.length)) = (olds ++ news ++ (Builtin.zeroCells z.cells (grownCap w (xs.length + ys.length) cap e - (xs.length + ys.length))).toList).toArray := by
        apply Array.ext'
        simp
      rw [e1]
      exact this
  simp only [R] at hv
  rcases hv with ⟨rfl, rfl⟩ | ⟨b, cap, cs, el, rfl, hb, hh, hs2, hl, hn⟩
  · by_cases h0 : ys = []
    · subst h0
      refine ⟨_, w, γ, run_append_nil_nil (P := c.P) t tx ty e i ht hi1 x news (by rw [hsz]; exact hsrc), hi, .refl .., ?_⟩
      simp [R]
    · have : 0 < ys.length := List.length_pos_iff.2 h0
      exact grow none 0 [] (by simp) (fun j x e => by simp at e) (run_firstCells_none w.drew i.size 0 0 0) (by simpa using this)
  · have hE := Dn.el hn
    by_cases hroom : xs.length + ys.length ≤ cap
    · have hfit : xs.length * te.size + news.length ≤ cs.size := by rw [hsrc.newsLen, hs2, ← Nat.add_mul]; exact Nat.mul_le_mul_right _ hroom
      have hrun := run_append_room_row (P := c.P) t tx ty e i ht hi1 b xs.length cap cs el hh x ys.length news (by rw [hsz]; exact hsrc) hroom (by rw [hsz]; exact hfit)
      obtain ⟨hI, hX⟩ := lim_row (cs := (cs.toList.take (xs.length * te.size) ++ news ++ cs.toList.drop (xs.length * te.size + news.length)).toArray) hi hb
      rw [hsz] at hrun
      refine ⟨_, _, _, hrun, hI, hX, ?_⟩
      simp only [R]
      right
      refine ⟨b, cap, _, el, by simp, hb, setRow_heap w b cs _ el (0, 0) hh, ?_, by simp; omega, El.dn _ _ (El.app ?_ hs.el ?_)⟩
      · rw [← hs2]; simp; omega
      · intro j y hy
        obtain ⟨vs, h1, h2, h3⟩ := hE j y hy
        refine ⟨vs, h1, h2, fun i v e => ?_⟩
        have hi' : i < vs.length := by
          by_cases q : i < vs.length
          · exact q
          · rw [List.getElem?_eq_none (by omega)] at e; cases e
        have hj : j < xs.length := by
          by_cases q : j < xs.length
          · exact q
          · rw [List.getElem?_eq_none (by omega)] at hy; cases hy
        have := h3 i v e
        have hb : (j + 1) * te.size ≤ xs.length * te.size := Nat.mul_le_mul_right _ (by omega)
        rw [Nat.add_mul] at hb
        simp only [List.getElem?_toArray, Nat.zero_add] at this ⊢
        rw [List.getElem?_take, if_pos (by omega)]
        simpa using this
      · simp; omega
    · have hfit : xs.length * te.size ≤ cs.size := by rw [hs2]; exact Nat.mul_le_mul_right _ hl
      refine grow _ cap (cs.toList.take (xs.length * te.size)) (by simp; omega) ?_ ?_ (by omega)
      · intro j y hy
        obtain ⟨vs, h1, h2, h3⟩ := hE j y hy
        refine ⟨vs, h1, h2, fun i v e => ?_⟩
        have hi' : i < vs.length := by
          by_cases q : i < vs.length
          · exact q
          · rw [List.getElem?_eq_none (by omega)] at e; cases e
        have hj : j < xs.length := by
          by_cases q : j < xs.length
          · exact q
          · rw [List.getElem?_eq_none (by omega)] at hy; cases hy
        have := h3 i v e
        have hb : (j + 1) * te.size ≤ xs.length * te.size := Nat.mul_le_mul_right _ (by omega)
        rw [Nat.add_mul] at hb
        simp only [List.getElem?_toArray, Nat.zero_add] at this ⊢
        rw [List.getElem?_take, if_pos (by omega)]
        simpa using this
      · refine run_firstCells_some (P := c.P) w.drew i.size xs.length ⟨b, 0, none⟩ xs.length cap _ (by rw [hsz]; simp; omega) (fun j v e => ?_)
        rw [Addr.add_lit, World.cell?_drew, cell_of hh]
        rw [List.getElem?_take] at e
        split at e
        · simpa using e
        · cases e
end
end Go.Va
set_option linter.unusedVariables false
namespace Go.Va
section
variable {c : Cx} {γ : Gh} {st : St} {a : Act} {w : World} {o : Oper} {env : Env} {i : Nat}
theorem dropSrc_inv (hi : Inv c γ st a w) (x : Operand) : Inv c γ (dropSrc st x) a w ∧ (dropSrc st x).k = st.k := by
  unfold dropSrc
  split
  · split
    · exact ⟨gone_slot _ hi, rfl⟩
    · exact ⟨hi, rfl⟩
  · exact ⟨hi, rfl⟩
theorem dropSrc_full {st : St} {s n : Nat} {xs : List AV} (h : fget st.fr s = .sl n xs .full) : dropSrc st (.tmp s) = { st with fr := (s, .gone) :: st.fr } := by
  unfold dropSrc
  simp only [h]
/-- what lies at a home goes on its way -/
theorem take_home {h : Home} {z : Nat} {xs : List AV} {p : Perm} (hi : Inv c γ st a w) (hg : homeGet st h = .sl z xs p) : ∃ γ' u, homeVal γ a w h = some u ∧ Inv c γ' (homePut st h .gone) a w ∧ Ext γ st w γ' (homePut st h .gone) w ∧
    R γ' w (lim 0) (.sl z xs p) u ∧ (∀ b o, γ.cls b = .imm o → γ'.cls b = .imm o) := by
  obtain ⟨u, hu, hR⟩ := home_rel (h := h) hi (by rw [hg]; simp)
  rw [hg] at hR
  obtain ⟨k1, _, k3⟩ := turn_home (h := h) (x := .gone) hi (by rw [hg]; simp) (Frz.mv γ w (homeLoc h) (lim 0)) (fun v e => by simp only [R]) (fun _ _ _ e => by cases e) (fun _ => rfl) (by simp) (by simp)
  exact ⟨_, u, hu, k1, k3, R_keep _ (mv_keeps_to γ w _ _) _ hR, fun b o e => mv_imm.2 e⟩
theorem val_append (E : EnvOk c.P env) (hi : Inv c γ st a w) {cc : Call} {x z : Operand} {y : AV} {st1 : St} (ho : o.op = .call cc) (hc : cc.callee = .builtin .append) (hx : cc.args.toList = [x, z])
    (h : builtinV env st .append [x, z] cc.argTypes.toList = some (y, st1)) : Val c γ st st1 a w o y := by
  unfold builtinV at h
  simp only at h
  split at h
  · rename_i t tx hts
    cases he : env.elemOf t with
    | none => rw [he] at h; cases h
    | some te =>
      cases hu : env.ty tx with
      | none => rw [he, hu] at h; cases h
      | some u =>
        rw [he, hu, E.A] at h
        simp only at h
        obtain ⟨e, ht, T⟩ := E.elem he
        have U := E.tyOk hu
        obtain ⟨cs, hrun⟩ := call_builtin (a := a) (w := w) (c := c) ho hc
        have harg := args_two hx a.eval
        have hts' : cc.argTypes = #[t, tx] := by apply Array.ext'; simpa using hts
        have fin : ∀ {st2 : St} {γ1 : Gh} {n : Nat} {xs ys : List AV} {news : List Value}, Inv c γ1 st2 a w → Ext γ st w γ1 st2 w → R γ1 w (lim 0) (.sl n xs .full) (a.eval x) → SrcOk c.P γ1.cls w te.size tx ys (a.eval z) news →
            n = te.size → (xs.length + ys.length) * te.bytes ≤ 70368744177664 → 1 ≤ te.bytes → Val c γ st st2 a w o (.sl n (xs ++ ys) .full) := by
          intro st2 γ1 n xs ys news h1 h2 h3 h4 h5 h6 h7
          subst h5
          obtain ⟨v', w', γ', q1, q2, q3, q4⟩ := append_own (ty := o.type) h1 ht T h7 h3 h4 h6
          refine ⟨v', w', γ', ?_, q2, h2.trans q3, .free q4 (by simp) (by simp)⟩
          rw [hrun, harg, hts']
          simp only [builtin, Sem.run_bind, q1, Result.andThen_ok, Sem.run_pure]
        unfold appendV at h
        split at h
        · cases h
        · rename_i n ys hsrc
          obtain ⟨news, hS⟩ := srcOf_ok hi U hsrc
          obtain ⟨hi2, hk2⟩ := dropSrc_inv hi z
          have hX2 : Ext γ st w γ (dropSrc st z) w := .fr γ st w hk2
          split at h
          · rename_i n' xs hx2
            cases hk : Nat.beq n' te.size && Nat.beq n te.size && realAr.fit (xs.length + ys.length) te.bytes && Nat.ble 1 te.bytes with
            | false => rw [hk] at h; cases h
            | true =>
              rw [hk] at h
              simp only [cond_true, Option.some.injEq, Prod.mk.injEq] at h
              obtain ⟨rfl, rfl⟩ := h
              simp only [Bool.and_eq_true] at hk
              obtain ⟨⟨⟨k1, k2⟩, k3⟩, k4⟩ := hk
              have k1 := beq_t k1
              have k2 := beq_t k2
              have k3 : (xs.length + ys.length) * te.bytes ≤ 70368744177664 := by simpa [realAr] using k3
              have k4 := ble_t k4
              cases x with
              | tmp s =>
                simp only [opd] at hx2
                obtain ⟨γ', d, f⟩ := go_slot s 0 hi2 ⟨by simp [hx2], by simp [hx2]⟩
                rw [dropSrc_full hx2]
                rw [hx2] at f
                exact fin d.inv (hX2.trans d.ext) f.rel (k2 ▸ hS.frame d.ext.imm) k1 k3 k4
              | const v =>
                simp only [opd] at hx2
                unfold constV at hx2
                split at hx2 <;> cases hx2
              | func f => simp [opd] at hx2
              | global g => simp [opd] at hx2
          · rename_i n' hm lo len hx2
            split at h
            · rename_i n2 xs hg
              cases hk : Nat.beq n2 te.size && Nat.beq n te.size && Nat.beq lo 0 && realAr.neq len xs.length && realAr.fit (xs.length + ys.length) te.bytes && Nat.ble 1 te.bytes with
              | false => rw [hk] at h; cases h
              | true =>
                rw [hk] at h
                simp only [cond_true, Option.some.injEq, Prod.mk.injEq] at h
                obtain ⟨rfl, rfl⟩ := h
                simp only [Bool.and_eq_true] at hk
                obtain ⟨⟨⟨⟨⟨k1, k2⟩, k5⟩, k6⟩, k3⟩, k4⟩ := hk
                have k1 := beq_t k1
                have k2 := beq_t k2
                have k5 := beq_t k5
                have k6 : len = xs.length := by simpa [realAr] using k6
                have k3 : (xs.length + ys.length) * te.bytes ≤ 70368744177664 := by simpa [realAr] using k3
                have k4 := ble_t k4
                obtain ⟨γ', u', hu', hI, hX, hR, himm⟩ := take_home hi2 hg
                obtain ⟨_, al0, al⟩ := (flow_opd hi2 x 0 (by rw [hx2]; rfl)).al _ _ _ _ hx2
                obtain ⟨e0, e1, ha, cap, a', e2, e3, e4, e5⟩ := al _ _ _ hg u' hu'
                have ha : a' = ha := e4 k5
                have : a.eval x = u' := by rw [e3, e2, ha, k5, k6, Nat.sub_zero]
                rw [← this] at hR
                exact fin hI (hX2.trans hX) hR (k2 ▸ hS.frame himm) k1 k3 k4
            · cases h
          · cases h
  · cases h
end
end Go.Va
