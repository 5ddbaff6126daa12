/-
  hypercubelaw12.ExecOwn returns true for all arguments, and its arguments read behind the call as they read ahead of it; no condition.
-/
import Derived.Test.YtgmjighohmpafaaGreatKBe
import Derived.Test.YtgmjighohmpafaaGreatRows
/-
  What was made anew is written over.
-/
namespace Go.HC
theorem ints_some : ∀ {cs : List Value}, (∀ v ∈ cs, ∃ x, v = .int .i64 x) → ∃ xs : List Int, cs = xs.map (Value.int .i64)
  | [], _ => ⟨[], rfl⟩
  | v :: cs, h => by
    obtain ⟨x, rfl⟩ := h v List.mem_cons_self
    obtain ⟨xs, rfl⟩ := ints_some fun w hw => h w (List.mem_cons_of_mem _ hw)
    exact ⟨x :: xs, rfl⟩
/-- Integers, one of which is written: integers they stay. -/
theorem SlRep.written {F : Nat → Prop} {h : Heap} {v : Value} {xs : List Int} (hs : SlRep rInt F h v xs) {bk j : Nat} {arr : Array Value} {e : TypeId} {fz : Nat × Nat} (hb : h[bk]? = some (.cells arr e fz)) (y : Int) :
    ∃ ys : List Int, ys.length = xs.length ∧ SlRep rInt F (h.setIfInBounds bk (.cells (arr.setIfInBounds j (.int .i64 y)) e fz)) v ys := by
  obtain ⟨a, c, cs, rfl, h1, h2, h3, h4⟩ := hs
  have hcs := ints_map.1 h4
  have hl : cs.length = xs.length := by rw [hcs, List.length_map]
  rcases h3 with rfl | ⟨b, off, c', e', fz', rfl, hf, hw, ht⟩
  · have : xs = [] := by cases xs with | nil => rfl | cons _ _ => cases hcs
    subst this
    exact ⟨[], rfl, a, c, [], rfl, h1, h2, .inl rfl, rfl⟩
  · by_cases hbb : bk = b
    · subst hbb
      rw [hb] at hw
      cases hw
      have hlt := lt_of_blk hb
      have hz0 : arr.toList.length = arr.size := Array.length_toList
      obtain ⟨ys, hys⟩ : ∃ ys : List Int, (((arr.setIfInBounds j (.int .i64 y)).toList.drop off).take xs.length) = ys.map (Value.int .i64) := by
        refine ints_some fun v hv => ?_
        obtain ⟨i, hi, rfl⟩ := List.mem_iff_getElem.1 hv
        rw [List.getElem_take, List.getElem_drop]
        have hi' : i < xs.length := by rw [List.length_take] at hi; omega
        have hi2 : i < cs.length := by omega
        have hcl : ((arr.toList.drop off).take cs.length).length = xs.length := by rw [ht, hl]
        rw [List.length_take, List.length_drop, hz0] at hcl
        simp only [Array.toList_setIfInBounds, List.getElem_set]
        split
        · exact ⟨y, rfl⟩
        · have e2 : ((arr.toList.drop off).take cs.length)[i]? = cs[i]? := by rw [ht]
          rw [List.getElem?_take, if_pos hi2, List.getElem?_drop, hcs, List.getElem?_map, List.getElem?_eq_getElem hi'] at e2
          have hlt2 : off + i < arr.toList.length := by omega
          rw [List.getElem?_eq_getElem hlt2] at e2
          exact ⟨_, Option.some.inj e2⟩
      have hyl : ys.length = xs.length := by
        have := congrArg List.length hys
        have hz : (arr.setIfInBounds j (.int .i64 y)).toList.length = arr.size := by simp
        have hcl : ((arr.toList.drop off).take cs.length).length = xs.length := by rw [ht, hl]
        rw [List.length_take, List.length_drop, hz0] at hcl
        rw [List.length_take, List.length_drop, hz, List.length_map] at this
        omega
      refine ⟨ys, hyl, _, c, ys.map (Value.int .i64), by rw [hyl], by rw [hyl]; exact h1, h2, .inr ⟨bk, off, _, _, _, rfl, hf, set_same _ hlt, ?_⟩, ints_map.2 rfl⟩
      rw [List.length_map, hyl, hys]
    · exact ⟨xs, rfl, _, c, cs, rfl, h1, h2, .inr ⟨b, off, c', e', fz', rfl, hf, (set_other _ hbb).trans hw, ht⟩, ints_map.2 hcs⟩
/-- Cells alike long. -/
def Like (c d : CellM) : Prop := c.key.length = d.key.length ∧ c.mn.length = d.mn.length ∧ c.mx.length = d.mx.length
theorem Like.refl (c : CellM) : Like c c := ⟨rfl, rfl, rfl⟩
theorem Elems.written {F : Nat → Prop} {h : Heap} {bk j : Nat} {arr : Array Value} {e : TypeId} {fz : Nat × Nat} (hb : h[bk]? = some (.cells arr e fz)) (y : Int) :
    ∀ {l : List CellM} {cs : List Value}, Elems rCell F h cs l → ∃ m : List CellM, m.length = l.length ∧ (∀ (i : Nat) (hi : i < l.length) (hi' : i < m.length), Like m[i] l[i]) ∧ Elems rCell F (h.setIfInBounds bk (.cells (arr.setIfInBounds j (.int .i64 y)) e fz)) cs m
  | [], cs, he => ⟨[], rfl, fun i hi => by simp at hi, he⟩
  | c :: l, cs, ⟨c1, c2, e0, ⟨kv, sv, nv, xv, e1, q1, q2, q3, q4⟩, he⟩ => by
    obtain ⟨m, m1, m2, m3⟩ := Elems.written hb y he
    obtain ⟨k', k1, k2⟩ := q1.written (j := j) hb y
    obtain ⟨s', _, s2⟩ := q2.written (j := j) hb y
    obtain ⟨n', n1, n2⟩ := q3.written (j := j) hb y
    obtain ⟨x', x1, x2⟩ := q4.written (j := j) hb y
    refine ⟨⟨k', c.count, s', n', x'⟩ :: m, by simp [m1], fun i hi hi' => ?_, c1, c2, e0, ⟨kv, sv, nv, xv, e1, k2, s2, n2, x2⟩, m3⟩
    cases i with
    | zero => exact ⟨k1, n1, x1⟩
    | succ i => exact m2 i (by simpa using hi) (by simpa using hi')
/-- Cells made anew, at a block of their own; each cell is alike long to what p says. -/
structure Mine (e : TypeId) (F : Nat → Prop) (own : Option Nat) (n0 px n : Nat) (p : CellM → Prop) (h : Heap) (v : Value) : Prop where
  ex : ∃ l : List CellM, l.length = n ∧ Grow rCell e F h v l own ∧ ∀ c ∈ l, p c
  foot : ∀ b, F b → n0 ≤ b ∧ b < px ∧ Thaw h b
  mine : ∀ b, own = some b → n0 ≤ b ∧ b < px
/-- An integer of theirs is written. -/
theorem Mine.int {e : TypeId} {F : Nat → Prop} {own : Option Nat} {n0 px n : Nat} {p : CellM → Prop} {h : Heap} {v : Value} (g : Mine e F own n0 px n p h v) (hp : ∀ c d, Like d c → p c → p d)
    {a : Option Addr} {m c : Nat} {xs : List Int} (hs : SlRep rInt F h (.slice a m c) xs) {j : Nat} (hj : j < xs.length) (y : Int) :
    ∃ bk off o, a = some ⟨bk, off, none⟩ ∧ n0 ≤ bk ∧ bk < px ∧ writeIn h[bk]? (off + j) [.int .i64 y] = some o ∧ Mine e F own n0 px n p (h.setIfInBounds bk o) v ∧
      ∀ {v' : Value} {xs' : List Int}, SlRep rInt F h v' xs' → ∃ ys : List Int, ys.length = xs'.length ∧ SlRep rInt F (h.setIfInBounds bk o) v' ys := by
  obtain ⟨bk, off, rfl, hf, hc⟩ := hs.int_at j hj
  obtain ⟨f1, f2, f3⟩ := g.foot bk hf
  cases hb : h[bk]? with
  | none => rw [hb] at hc; cases hc
  | some ob =>
    cases ob with
    | cells arr e' fz =>
      obtain rfl := f3 arr e' fz hb
      rw [hb, cellIn_some] at hc
      have hsz : off + j < arr.size := by
        rcases Nat.lt_or_ge (off + j) arr.size with h | h
        · exact h
        · rw [Array.getElem?_eq_none h] at hc; cases hc
      refine ⟨bk, off, .cells (arr.setIfInBounds (off + j) (.int .i64 y)) e' (0, 0), rfl, f1, f2, ?_, ⟨?_, fun b hF => ?_, g.mine⟩, fun hs' => hs'.written hb y⟩
      · have hfr : frozenIn (0, 0) (off + j) [Value.int .i64 y].length = false := by unfold frozenIn; simp
        rw [hb]
        show (if (List.all [Value.int .i64 y] Value.oneCell' && decide (off + j + [Value.int .i64 y].length ≤ arr.size) && !frozenIn (0, 0) (off + j) [Value.int .i64 y].length) = true then _ else _) = _
        rw [if_pos (show (List.all [Value.int .i64 y] Value.oneCell' && decide (off + j + [Value.int .i64 y].length ≤ arr.size) && !frozenIn (0, 0) (off + j) [Value.int .i64 y].length) = true by rw [hfr]; simp [Value.oneCell']; omega)]
        rfl
      · obtain ⟨l, l1, l2, l3⟩ := g.ex
        have hnf := l2.notF
        rcases l2 with ⟨q1, q2, q3⟩ | ⟨bo, c', arr', cs, q1, q2, q3, q4, q5, q6, q7, q8, q9⟩
        · subst q2
          exact ⟨[], l1, .inl ⟨q1, rfl, q3⟩, fun c hc => by cases hc⟩
        · obtain ⟨m', m1, m2, m3⟩ := q9.written (j := off + j) hb y
          refine ⟨m', by rw [m1, l1], .inr ⟨bo, c', arr', cs, by rw [m1]; exact q1, q2, (set_other _ fun (ee : bk = bo) => q4 (ee ▸ hf)).trans q3, q4, q5, by rw [m1]; exact q6, q7, by rw [m1]; exact q8, m3⟩, fun d hd => ?_⟩
          obtain ⟨i, hi, rfl⟩ := List.mem_iff_getElem.1 hd
          exact hp _ _ (m2 i (by omega) hi) (l3 _ (List.getElem_mem _))
      · obtain ⟨w1, w2, w3⟩ := g.foot b hF
        refine ⟨w1, w2, ?_⟩
        by_cases hbb : bk = b
        · subst hbb
          exact .is (set_same _ (lt_of_blk hb))
        · exact w3.at (set_other _ hbb)
    | _ => rw [hb] at hc; cases hc
/-- A count of theirs is written. -/
theorem Mine.count {e : TypeId} {F : Nat → Prop} {own : Option Nat} {n0 px n : Nat} {p : CellM → Prop} {h : Heap} {v : Value} (g : Mine e F own n0 px n p h v) (hp : ∀ c d, Like d c → p c → p d) {i : Nat} (hi : i < n) (y : Int) :
    ∃ bk c o, v = .slice (some ⟨bk, 0, none⟩) n c ∧ n0 ≤ bk ∧ bk < px ∧ writeIn h[bk]? (i * 5 + 1) [.int .i64 y] = some o ∧ Mine e F own n0 px n p (h.setIfInBounds bk o) v := by
  obtain ⟨l, rfl, l2, l3⟩ := g.ex
  obtain ⟨bk, c, o, q1, q2, q3, q4⟩ := l2.setF (d := 1) (news := [.int .i64 y]) (x := ⟨l[i].key, y, l[i].sum, l[i].mn, l[i].mx⟩) hi (by show 1 + 1 ≤ 5; decide) (by simp [Value.oneCell']) fun cs => by
    rintro ⟨kv, sv, nv, xv, rfl, w1, w2, w3, w4⟩
    exact ⟨kv, sv, nv, xv, rfl, w1, w2, w3, w4⟩
  refine ⟨bk, c, o, q1, (g.mine bk q2).1, (g.mine bk q2).2, q3, ⟨⟨_, by rw [List.length_set], q4, fun d hd => ?_⟩, fun b hb => ?_, g.mine⟩⟩
  · rcases List.mem_or_eq_of_mem_set hd with hd | rfl
    · exact l3 d hd
    · exact hp l[i] _ ⟨rfl, rfl, rfl⟩ (l3 _ (List.getElem_mem hi))
  · obtain ⟨w1, w2, w3⟩ := g.foot b hb
    exact ⟨w1, w2, w3.at (set_other _ fun ee => l2.notF bk q2 (ee ▸ hb))⟩
/-- A cell of theirs is read. -/
theorem Mine.get {e : TypeId} {F : Nat → Prop} {own : Option Nat} {n0 px n : Nat} {p : CellM → Prop} {h : Heap} {v : Value} (g : Mine e F own n0 px n p h v) {i : Nat} (hi : i < n) :
    ∃ (bk c : Nat) (d : CellM) (kv sv nv xv : Value), v = .slice (some ⟨bk, 0, none⟩) n c ∧ cellsIn h[bk]? (i * 5) 5 = some [kv, .int .i64 d.count, sv, nv, xv] ∧ p d ∧ SlRep rInt F h kv d.key ∧ SlRep rInt F h nv d.mn ∧ SlRep rInt F h xv d.mx := by
  obtain ⟨l, rfl, l2, l3⟩ := g.ex
  obtain ⟨a, c, rfl⟩ := l2.val
  obtain ⟨bk, cs, rfl, q2, ⟨kv, sv, nv, xv, rfl, w1, w2, w3, w4⟩, q4⟩ := l2.elem i hi
  exact ⟨bk, c, l[i], kv, sv, nv, xv, rfl, q4, l3 _ (List.getElem_mem hi), w1, w3, w4⟩
/-- Another block is written. -/
theorem Mine.keep {e : TypeId} {F : Nat → Prop} {own : Option Nat} {n0 px n : Nat} {p : CellM → Prop} {h h' : Heap} {v : Value} (g : Mine e F own n0 px n p h v) (k : Keep none_ h h') (hpx : px ≤ h.size) : Mine e F own n0 px n p h' v := by
  obtain ⟨l, l1, l2, l3⟩ := g.ex
  exact ⟨⟨l, l1, l2.mono (fun b hb => ⟨hb, k.blk b (by have := (g.foot b hb).2.1; omega) (fun h => h)⟩) fun b hb => ⟨l2.notF b hb, k.blk b (by have := (g.mine b hb).2; omega) (fun h => h)⟩, l3⟩,
    fun b hb => ⟨(g.foot b hb).1, (g.foot b hb).2.1, (g.foot b hb).2.2.at (k.blk b (by have := (g.foot b hb).2.1; omega) (fun h => h))⟩, g.mine⟩
theorem NewC.mine {e n0 : Nat} {h : Heap} {v : Value} {l : List CellM} {p : CellM → Prop} (g : NewC e n0 h v l) (h0 : 0 < n0) (hp : ∀ c ∈ l, p c) : ∃ F own, Mine e F own n0 h.size l.length p h v := by
  obtain ⟨F, own, g, hF, ho⟩ := g
  exact ⟨F, own, ⟨l, rfl, g, hp⟩, fun b hb => ⟨(hF b hb).1.1, (hF b hb).2, (hF b hb).1.2 h0⟩, fun b hb => ⟨ho b hb, g.own_lt b hb⟩⟩
end Go.HC
namespace Go.HC
/-- Cells made anew and what was made of them, at block px. -/
structure MineAt (e : TypeId) (F : Nat → Prop) (own : Option Nat) (n0 px n : Nat) (p : CellM → Prop) (v : Value) (ob : Obj) (h0 h : Heap) : Prop where
  g : Mine e F own n0 px n p h v
  made : h[px]? = some ob
  keep : Keep (fun b => n0 ≤ b) h0 h
section
variable {e : TypeId} {F : Nat → Prop} {own : Option Nat} {n0 px n : Nat} {p : CellM → Prop} {v : Value} {ob : Obj} {h0 h : Heap}
theorem MineAt.int (w : MineAt e F own n0 px n p v ob h0 h) (hp : ∀ c d, Like d c → p c → p d) {a : Option Addr} {m c : Nat} {xs : List Int} (hs : SlRep rInt F h (.slice a m c) xs) {j : Nat} (hj : j < xs.length) (y : Int) :
    ∃ bk off o, a = some ⟨bk, off, none⟩ ∧ writeIn h[bk]? (off + j) [.int .i64 y] = some o ∧ MineAt e F own n0 px n p v ob h0 (h.setIfInBounds bk o) ∧
      ∀ {v' : Value} {xs' : List Int}, SlRep rInt F h v' xs' → ∃ ys : List Int, ys.length = xs'.length ∧ SlRep rInt F (h.setIfInBounds bk o) v' ys := by
  obtain ⟨bk, off, o, q1, q2, q3, q4, q5, q6⟩ := w.g.int hp hs hj y
  exact ⟨bk, off, o, q1, q4, ⟨q5, (set_other _ (by omega)).trans w.made, w.keep.setted _ fun _ => q2⟩, q6⟩
theorem MineAt.count (w : MineAt e F own n0 px n p v ob h0 h) (hp : ∀ c d, Like d c → p c → p d) {i : Nat} (hi : i < n) (y : Int) :
    ∃ bk c o, v = .slice (some ⟨bk, 0, none⟩) n c ∧ writeIn h[bk]? (i * 5 + 1) [.int .i64 y] = some o ∧ MineAt e F own n0 px n p v ob h0 (h.setIfInBounds bk o) := by
  obtain ⟨bk, c, o, q1, q2, q3, q4, q5⟩ := w.g.count hp hi y
  exact ⟨bk, c, o, q1, q4, ⟨q5, (set_other _ (by omega)).trans w.made, w.keep.setted _ fun _ => q2⟩⟩
end
end Go.HC

/-
  ExecOwn: the walk.
-/
namespace Go.Proofs
open Go Go.HC

set_option maxHeartbeats 8000000 in
set_option maxRecDepth 10000 in
theorem execOwn_spec {F1 F2 : Nat → Prop} {h : Heap} {cv nv : Value} {cards ns : List Int} (dims ms set algorithm raw : Int) (hc : SlRep rInt F1 h cv cards) (hF1 : ∀ b, F1 b → b < h.size) (hn : SlRep rInt F2 h nv ns) (hF2 : ∀ b, F2 b → b < h.size) :
    CallH Tryz.prog 7 #[.int .i64 dims, cv, .int .i64 ms, nv, .int .i64 set, .int .i64 algorithm, .int .i64 raw] h fun r h' => r = .bool true ∧ Keep none_ h h' := by
  refine callH_by fun K hK => ?_
  refine enter [.tmp 14] Tryz.func7 rfl rfl (by kernel_rfl) rfl ?_
  replace hc := hc.mono (F' := Old h) (h' := h) fun b hb => ⟨⟨nz, hF1 b hb, fun h => h⟩, rfl⟩
  replace hn := hn.mono (F' := Old h) (h' := h) fun b hb => ⟨⟨nz, hF2 b hb, fun h => h⟩, rfl⟩
  obtain ⟨a0, c0, rfl, _, _⟩ := hc.val
  obtain ⟨a1, c1, rfl, _, _⟩ := hn.val
  simp -dsimp
  refine call_by (known12_spec h) ?_
  rintro _ h0 ⟨rfl, k0⟩
  have t0 := Tr.of k0
  simp -dsimp
  refine call_by (facts1_spec dims ms (hc.mono (t0.ft (Nat.le_refl 0))) (hn.mono (t0.ft (Nat.le_refl 0)))) ?_
  rintro _ h1 ⟨sv, rv, rfl, s1, r1, k1⟩
  have hok := factsM_ok dims cards ms ns
  generalize hfs : (factsM dims cards ms ns).1 = s at *
  generalize hfr : (factsM dims cards ms ns).2 = rows at *
  obtain ⟨sa, sc, rfl, _, _⟩ := s1.val
  obtain ⟨ra, rc, rfl, _, _⟩ := r1.val
  simp -dsimp
  rw [push_set rfl]
  generalize hB : Array.push h1 _ = h2
  have k2 : Keep none_ h1 h2 := by rw [← hB]; exact .push _ _ _
  have u2 : Keep none_ h h2 := (k0.trans k1 fun _ _ h => h).trans k2 fun _ _ h => h
  have hdim := hok.dims
  refine call_by (set2_spec s.ms set ((s1.mono (Ft.free (Nat.zero_le _))).mono ((Tr.of k2).ft (Nat.le_refl 0))) hdim.2) ?_
  rintro _ h3 ⟨rfl, k3⟩
  have hp2 := pow2_pos s.cards.length
  have hwa := withinM_bound (a := set) hp2
  obtain ⟨a, ea⟩ : ∃ a, a = withinM set (2 ^ s.cards.length) := ⟨_, rfl⟩
  rw [← ea] at hwa ⊢
  have u3 := u2.trans k3 fun _ _ h => h
  have hml := hok.ms
  have hlen := hok.len
  have r3 := (r1.mono (Ft.free (Nat.zero_le _))).mono ((Tr.of (k2.trans k3 fun _ _ h => h)).ft (Nat.le_refl 0))
  have hrow : ∀ r ∈ rows, r.key.length < 64 ∧ r.m.length = s.ms.toNat := fun r hr => ⟨by rw [(hok.key r hr).1]; omega, (hok.m r hr).1⟩
  have hrow' : ∀ r ∈ rows, r.key.length < 64 ∧ r.m.length < 1000000000 := fun r hr => ⟨(hrow r hr).1, by rw [(hrow r hr).2]; omega⟩
  have hmt : s.ms.toNat < 1000000000 := by omega
  have hca := (hok.cells hwa.1 hwa.2).2
  have hla : (rows.map (ofM a)).length < 1000000 := by rw [List.length_map]; omega
  simp -dsimp
  have hw : Within a a s.cards.length := Within.self hwa.1 hwa.2
  have z2 : h2.size = h1.size + 1 := by rw [← hB]; simp
  refine call_by (make_spec a r3 (by omega) hrow') ?_
  rintro lv h4 ⟨l4, k4⟩
  obtain ⟨la, lc, rfl, _, _⟩ := l4.val
  replace l4 := l4.mono (Ft.free (Nat.zero_le _))
  simp only [List.length_map] at l4
  have u := u3.trans k4 fun _ _ h => h
  replace r3 := r3.mono ((Tr.of k4).ft (Nat.le_refl 0))
  simp -dsimp
  refine call_by (make_spec a r3 (by omega) hrow') ?_
  rintro mv h5 ⟨m5, k5⟩
  obtain ⟨ma, mc, rfl, _, _⟩ := m5.val
  replace m5 := m5.mono (Ft.free (Nat.zero_le _))
  simp only [List.length_map] at m5
  replace u := u.trans k5 fun _ _ h => h
  replace l4 := l4.mono ((Tr.of k5).ft (Nat.le_refl 0))
  simp -dsimp
  refine call_by (within12_spec algorithm 2 (by decide) (by decide) h5) ?_
  rintro _ h5' ⟨rfl, hh⟩
  subst h5'
  have hbg := withinM_bound (a := algorithm) (n := 2) (by omega)
  obtain ⟨g, eg⟩ : ∃ g, g = withinM algorithm 2 := ⟨_, rfl⟩
  rw [← eg]
  simp -dsimp
  refine call_by (exec_spec (m := s.ms.toNat) a a 4 g l4 hla hmt (hok.cells hw.a0 hw.a1).2 (by omega)) ?_
  rintro _ h6 ⟨xa6, xn6, xc6, rfl, n6, k6⟩
  obtain ⟨hi6, he6, hle6, hall6, hpos6⟩ := exec_rows hok hw (k := 4) (alg := g) (by omega) (by omega)
  rw [he6] at n6 ⊢
  dsimp only at n6
  have r6 := n6.rep (Nat.zero_le _)
  simp -dsimp
  rw [push_set rfl]
  generalize hB6 : Array.push h6 _ = h6x
  have k6x : Keep none_ h6 h6x := by rw [← hB6]; exact .push _ _ _
  have w6 : h6x[h6.size]? = some (.cells #[.slice xa6 xn6 xc6, .int .i64 (hi6 : Int)] 34 (0, 0)) := by rw [← hB6]; exact push_new _ _
  replace r6 := r6.mono ((Tr.of k6x).ft (Nat.le_refl 0))
  have z3 := k3.size
  have z4 := k4.size
  have z5 := k5.size
  have z6 := k6.size
  have hp0 : ∀ c ∈ groupC (rows.map (ofM a)), c.key.length = (dimsM a).length ∧ c.mn.length = s.ms.toNat ∧ c.mx.length = s.ms.toNat := fun c hc => by
    have := group_all (fun _ _ h1 h2 => h1.join h2) (hok.cells hw.a0 hw.a1).2 c hc
    exact ⟨this.len, this.sml.mn, this.sml.mx⟩
  obtain ⟨p, ep⟩ : ∃ p : CellM → Prop, p = fun c => c.key.length = (dimsM a).length ∧ c.mn.length = s.ms.toNat ∧ c.mx.length = s.ms.toNat := ⟨_, rfl⟩
  have hpp : ∀ c, p c → c.key.length = (dimsM a).length ∧ c.mn.length = s.ms.toNat ∧ c.mx.length = s.ms.toNat := fun c hc => by rw [ep] at hc; exact hc
  have hp : ∀ c d, Like d c → p c → p d := fun c d hl hc => by rw [ep] at hc ⊢; exact ⟨by rw [hl.1]; exact hc.1, by rw [hl.2.1]; exact hc.2.1, by rw [hl.2.2]; exact hc.2.2⟩
  have hd4 : (dimsM a).length ≤ 4 := List.length_filter_le (bitM a) (List.range 4)
  obtain ⟨xa, xn, xc, hxv, hxn⟩ : ∃ xa xn xc, Value.slice xa6 xn6 xc6 = .slice xa xn xc ∧ xn = (groupC (rows.map (ofM a))).length := by
    obtain ⟨xa, xc, e, _⟩ := r6.val
    exact ⟨xa, _, xc, e, rfl⟩
  cases hxv
  obtain ⟨F, own, g6⟩ := n6.mine (p := p) (by omega) fun c hc => by rw [ep]; exact hp0 c hc
  rw [← hxn] at g6
  have hgl := groupC_le (rows.map (ofM a))
  rw [List.length_map, ← hxn] at hgl
  have wA : MineAt 46 F own h5.size h6.size xn6 p (.slice xa6 xn6 xc6) (.cells #[.slice xa6 xn6 xc6, .int .i64 (hi6 : Int)] 34 (0, 0)) h6x h6x := ⟨g6.keep k6x (Nat.le_refl _), w6, .refl _ _⟩
  have l5 : SlRep rCell (Old h5) h5 _ _ := l4
  have k56 : Keep none_ h5 h6x := k6.trans k6x fun _ _ h => h
  have hold : ∀ {y : Heap}, Keep (fun b => h5.size ≤ b) h6x y → ∀ b, Old h5 b → Old y b ∧ y[b]? = h5[b]? := fun {y} kk b hb => by
    have e1 : y[b]? = h5[b]? := (kk.blk b (Nat.lt_of_lt_of_le hb.2.1 k56.size) (by have := hb.2.1; omega)).trans (k56.blk b hb.2.1 (fun h => h))
    exact ⟨⟨nz, Nat.lt_of_lt_of_le hb.2.1 (Nat.le_trans k56.size kk.size), fun h => h⟩, e1⟩
  clear r3 he6 n6 g6 w6 r6
  generalize h6.size = px at *
  refine loopc (σ := Nat) (fun i => [(6, .int .i64 raw), (18, .slice la rows.length lc), (19, .slice ma rows.length mc), (20, .pointer (some ⟨px, 0, none⟩)), (22, .int .i64 i)])
    (fun i y => MineAt 46 F own h5.size px xn6 p (.slice xa6 xn6 xc6) (.cells #[.slice xa6 xn6 xc6, .int .i64 (hi6 : Int)] 34 (0, 0)) h6x y ∧ i ≤ xn6) (fun i => xn6 - i) 0 0 (fun i _ => i = xn6) noRet noRet_le (by simp) ⟨wA, Nat.zero_le _⟩ (by kernel_rfl) ?_ ?_
  · rintro i h7 g7 ⟨w7, hi⟩
    have wi := wrap_succ (k := i) (by omega)
    by_cases hil : i < xn6
    · obtain ⟨bk, c, o, e, hw7, w8⟩ := w7.count hp hil raw
      cases e
      simp -dsimp [w7.made, hil, idxA_nat hil, idxV_nat hil, elSz_eq, hw7]
      generalize hB8 : Array.setIfInBounds h7 bk o = h8 at w8
      refine loopc (σ := Nat) (fun j => [(6, .int .i64 raw), (18, .slice la rows.length lc), (19, .slice ma rows.length mc), (20, .pointer (some ⟨px, 0, none⟩)), (22, .int .i64 i), (23, .int .i64 j)])
        (fun j y => MineAt 46 F own h5.size px xn6 p (.slice (some ⟨bk, 0, none⟩) xn6 xc6) (.cells #[.slice (some ⟨bk, 0, none⟩) xn6 xc6, .int .i64 (hi6 : Int)] 34 (0, 0)) h6x y ∧ j ≤ s.ms.toNat) (fun j => s.ms.toNat - j) 0 2 (fun j _ => j = s.ms.toNat) noRet noRet_le (by simp) ⟨w8, Nat.zero_le _⟩ (by kernel_rfl) ?_ ?_
      · rintro j h9 g9 ⟨w9, hj⟩
        have wj := wrap_succ (k := j) (by omega)
        obtain ⟨bk', c', d, kv, sv, nv, xv, e, hx, hpd, qk, qn, qx⟩ := w9.g.get hil
        cases e
        have hdl := (hpp _ hpd).2
        obtain ⟨na, nc, rfl, _, _⟩ := qn.val
        obtain ⟨xa', xc', rfl, _, _⟩ := qx.val
        have hx3 : HC.cellIn h9[bk]? (i * 5 + 3) = _ := cellsIn_cell (d := 3) hx (by decide)
        have hx4 : HC.cellIn h9[bk]? (i * 5 + 4) = _ := cellsIn_cell (d := 4) hx (by decide)
        by_cases hjl : j < s.ms.toNat
        · have hjn : j < d.mn.length := by omega
          have hjx : j < d.mx.length := by omega
          obtain ⟨bn, on, o1, rfl, hw1, w10, hkk⟩ := w9.int hp qn hjn raw
          obtain ⟨ys, hyl, qx'⟩ := hkk qx
          obtain ⟨bx, ox, o2, rfl, hw2, w11, _⟩ := w10.int hp qx' (j := j) (by omega) raw
          simp -dsimp [w9.made, idxA_nat hil, idxV_nat hil, elSz_eq, hx3, hjn]
          refine drawn_by [⟨0, true, []⟩, ⟨1, true, []⟩, ⟨2, true, []⟩, ⟨3, true, []⟩, ⟨4, true, []⟩, ⟨5, true, []⟩, ⟨6, true, []⟩, ⟨7, true, []⟩, ⟨8, true, []⟩, ⟨9, true, []⟩, ⟨10, true, []⟩, ⟨11, true, []⟩, ⟨12, true, []⟩, ⟨13, true, []⟩, ⟨14, true, []⟩, ⟨15, true, []⟩, ⟨16, true, []⟩, ⟨17, false, [13, 15]⟩, ⟨18, true, []⟩, ⟨19, false, []⟩] (by kernel_rfl) (by kernel_rfl) ?_
          simp -dsimp [w9.made, idxA_nat hil, idxV_nat hil, idxA_nat hjn, idxV_nat hjn, idxV_nat hjx, elSz_eq, hx3, hx4, hw1, hw2, again_cons, wj]
          exact ⟨j + 1, by simp, rfl, ⟨w11, by omega⟩, by show s.ms.toNat - (j + 1) < s.ms.toNat - j; omega⟩
        · have ed : ¬ j < d.mn.length := by omega
          simp -dsimp [w9.made, idxA_nat hil, idxV_nat hil, elSz_eq, hx3, ed]
          exact ⟨rfl, j, by simp, rfl, ⟨w9, hj⟩, by show j = s.ms.toNat; omega⟩
      · rintro j h9 g9 ⟨w9, hj⟩ _
        simp -dsimp
        refine loopc (σ := Nat) (fun j => [(6, .int .i64 raw), (18, .slice la rows.length lc), (19, .slice ma rows.length mc), (20, .pointer (some ⟨px, 0, none⟩)), (22, .int .i64 i), (24, .int .i64 j)])
          (fun j y => MineAt 46 F own h5.size px xn6 p (.slice (some ⟨bk, 0, none⟩) xn6 xc6) (.cells #[.slice (some ⟨bk, 0, none⟩) xn6 xc6, .int .i64 (hi6 : Int)] 34 (0, 0)) h6x y ∧ j ≤ (dimsM a).length) (fun j => (dimsM a).length - j) 0 4 (fun j _ => j = (dimsM a).length) noRet noRet_le (by simp) ⟨w9, Nat.zero_le _⟩ (by kernel_rfl) ?_ ?_
        · rintro j h9 g9 ⟨w9, hj⟩
          have wj := wrap_succ (k := j) (by omega)
          obtain ⟨bk', c', d, kv, sv, nv, xv, e, hx, hpd, qk, qn, qx⟩ := w9.g.get hil
          cases e
          have hdl := (hpp _ hpd).1
          obtain ⟨ka, kc, rfl, _, _⟩ := qk.val
          have hx0 : HC.cellIn h9[bk]? (i * 5) = _ := cellsIn_cell (d := 0) hx (by decide)
          by_cases hjl : j < (dimsM a).length
          · have hjn : j < d.key.length := by omega
            obtain ⟨bn, on, o1, rfl, hw1, w10, _⟩ := w9.int hp qk hjn raw
            simp -dsimp [w9.made, idxA_nat hil, idxV_nat hil, idxA_nat hjn, idxV_nat hjn, elSz_eq, hx0, hjn, hw1, wj]
            exact ⟨j + 1, by simp, rfl, ⟨w10, by omega⟩, by show (dimsM a).length - (j + 1) < (dimsM a).length - j; omega⟩
          · have ed : ¬ j < d.key.length := by omega
            simp -dsimp [w9.made, idxA_nat hil, idxV_nat hil, elSz_eq, hx0, ed]
            exact ⟨rfl, j, by simp, rfl, ⟨w9, hj⟩, by show j = (dimsM a).length; omega⟩
        · rintro j h10 g10 ⟨w10, hj⟩ _
          simp -dsimp [wi]
          exact ⟨i + 1, by simp, rfl, ⟨w10, by omega⟩, by show xn6 - (i + 1) < xn6 - i; omega⟩
    · simp -dsimp [w7.made, hil]
      exact ⟨rfl, i, by simp, rfl, ⟨w7, hi⟩, by show i = xn6; omega⟩
  · rintro i h7 g7 ⟨w7, hi⟩ _
    simp -dsimp
    refine call_by (rsame_spec (l5.mono (hold w7.keep)) (m5.mono (hold w7.keep))) ?_
    rintro _ h10 ⟨⟨t10, rfl, ht10⟩, k10⟩
    have ht10 : t10 = true := ht10.2 rfl
    subst ht10
    have zu := u.size
    simp -dsimp
    exact hK _ _ ⟨rfl, ((u.trans k56 fun _ _ h => h).trans w7.keep fun b hb hS => absurd hS (by show ¬ h5.size ≤ b; omega)).trans k10 fun _ _ h => h⟩
end Go.Proofs


namespace Go.Proofs.YtgmjighohmpafaaGreat
open Go Go.ChangeShapes Go.WideShapes Go.ChangeAt Go.RowKit Go.HC

theorem own0 : ownKnob Tryz.prog.godebug = none := by kernel_rfl
theorem laid0 : laidOutB Tryz.prog = true := by kernel_rfl
theorem ui : Tryz.prog.underlying 3 = some (.int .i64) := by kernel_rfl
theorem uis : Tryz.prog.underlying 22 = some (.slice 3) := by kernel_rfl
theorem ci : Tryz.prog.cellsOf 3 = 1 := by kernel_rfl
theorem ub : Tryz.prog.underlying 4 = some .bool := by kernel_rfl

set_option maxHeartbeats 8000000 in
set_option maxRecDepth 100000 in
theorem lifted (os : Os) (started : os.Started) (H : Type) (enc : TypeId × Value → H) :
    ReturnsInHanded {} Tryz.checked os 7 .any (Rows.execOwnSpec.pre6 enc Tryz.prog Tryz.f7 Rows.execOwnRow.domain false) (Rows.execOwnSpec.post enc Tryz.prog Tryz.f7 false true false false) := by
  refine returnsInHanded_of_change (C := Tryz.checked) own0 started (by kernel_rfl) Tryz.func7
    (ChangeSpec.witness6 (enc := enc) (C := Tryz.checked) false ⟨#[], #[.int .i64 0, .slice none 0 0, .int .i64 0, .slice none 0 0, .int .i64 0, .int .i64 0, .int .i64 0], []⟩ 8 (by kernel_rfl) (by kernel_rfl) (by kernel_rfl) (by kernel_rfl)) ?_
  intro W base args ds gs before hval0 hW _ _
  have hval : ∀ (j : Nat) t v, Tryz.f7.params[j]? = some t → args[j]? = some v → Value.okWide Tryz.prog W .any base t v := hval0
  have hW' := hW
  obtain ⟨p, q, hA0, hV, rfl, _, _⟩ := hW
  have hA : DataW.TrodAll enc Tryz.prog W 0 (fun _ => true) true Tryz.f7.params.toList args.toList ds p := hA0
  have hps : Tryz.f7.params = #[3, 22, 3, 22, 3, 3, 3] := by kernel_rfl
  rw [hps] at hA hval
  have hA1 := hA
  obtain ⟨v0, vs0, d0, ds0, p0, q0, ha0, hd0, hp0, h0, hr0⟩ := trodAll_cons hA1
  obtain ⟨v1, vs1, d1, ds1, p1, q1, ha1, hd1, hp1, h1, hr1⟩ := trodAll_cons hr0
  obtain ⟨v2, vs2, d2, ds2, p2, q2, ha2, hd2, hp2, h2, hr2⟩ := trodAll_cons hr1
  obtain ⟨v3, vs3, d3, ds3, p3, q3, ha3, hd3, hp3, h3, hr3⟩ := trodAll_cons hr2
  obtain ⟨v4, vs4, d4, ds4, p4, q4, ha4, hd4, hp4, h4, hr4⟩ := trodAll_cons hr3
  obtain ⟨v5, vs5, d5, ds5, p5, q5, ha5, hd5, hp5, h5, hr5⟩ := trodAll_cons hr4
  obtain ⟨v6, vs6, d6, ds6, p6, q6, ha6, hd6, hp6, h6, hr6⟩ := trodAll_cons hr5
  obtain ⟨rfl, rfl, rfl⟩ := trodAll_nil hr6
  subst ha6; subst hd6; subst hp6
  subst ha5; subst hd5; subst hp5
  subst ha4; subst hd4; subst hp4
  subst ha3; subst hd3; subst hp3
  subst ha2; subst hd2; subst hp2
  subst ha1; subst hd1; subst hp1
  subst hd0; subst hp0
  obtain rfl : args = #[v0, v1, v2, v3, v4, v5, v6] := by cases args; simp_all
  obtain ⟨rfl, rfl⟩ := trodVars_none hV
  obtain ⟨a0, rfl, _, _, _⟩ := open_int ui (hval 0 3 v0 rfl rfl) h0
  obtain ⟨a1, x1⟩ := open_intRep uis ui ci (hval 1 22 v1 rfl rfl) h1
  obtain ⟨a2, rfl, _, _, _⟩ := open_int ui (hval 2 3 v2 rfl rfl) h2
  obtain ⟨a3, x3⟩ := open_intRep uis ui ci (hval 3 22 v3 rfl rfl) h3
  obtain ⟨a4, rfl, _, _, _⟩ := open_int ui (hval 4 3 v4 rfl rfl) h4
  obtain ⟨a5, rfl, _, _, _⟩ := open_int ui (hval 5 3 v5 rfl rfl) h5
  obtain ⟨a6, rfl, _, _, _⟩ := open_int ui (hval 6 3 v6 rfl rfl) h6
  clear hA0 hval0
  simp only [List.append_nil] at hW' hA ⊢
  have hlt := fun x hx => hW'.lt x hx
  refine (calls_of (execOwn_spec a0 a2 a4 a5 a6 x1 (fun _ h => h) x3 (fun _ h => h))).mono fun e W' ⟨he, hb⟩ => ?_
  subst he
  refine ⟨_, rfl, _, _, _, _, _, [], hW', trodAll_mk1 (shut_bool ub true), below_trodAll laid0 hb (by kernel_rfl) hA (fun x hx => by simpa using hlt x (by simpa using hx)), rfl, hb.frame _, fun h => by cases h⟩

theorem execown_holds : Rows.ExecOwnSaid :=
  OpenClaim.holds_of_wide 7 Tryz.f7 rfl rfl rfl rfl rfl rfl rfl ⟨rfl, rfl, rfl, rfl, rfl⟩ rfl rfl rfl rfl rfl (by kernel_rfl) Tryz.func7 (by kernel_rfl)
    (of_decide_eq_true (by kernel_rfl)) (by unfold Func.isWrapper; first | (rw [if_pos (by decide +kernel)]; kernel_rfl) | (rw [if_neg (by decide +kernel)]; exact ⟨rfl, rfl⟩))
    (fun os started H enc _ => lifted os started H enc)
end Go.Proofs.YtgmjighohmpafaaGreat
