/-
  A cell is put among others that rise; groups of cells and of facts: the document's.
-/
import Derived.Test.YtgmjighohmpafaaGreatKBb
import Derived.Lib.Overlaps
import Derived.Shelf.SlSortCmp.WholeK
import Derived.Ground.SlsfProg
import Derived.Shelf.SlSortCmp.NoneTotal
import Derived.Shelf.SortM.Plain
import Derived.Shelf.SortM.SortNone
import Derived.Ground.SlgmProg

namespace Go.Proofs
open Go Go.HC

set_option maxHeartbeats 4000000 in
set_option maxRecDepth 10000 in
theorem rput_at {n0 : Nat} {h : Heap} {v : Value} {cs : List Value} {l : List CellM} {c : CellM} {m : Nat} (hl : SlRep rCell (Ft n0 none_ h) h v l) (hc : rCell.rep (Old h) h cs c) (hn : l.length < 1000000) (hm : m < 1000000000) (hs : ∀ d ∈ l, Sml m d) (hsc : Sml m c) (hn0 : n0 ≤ h.size) :
    CallH Tryz.prog 32 #[v, .agg cs.toArray] h fun r h' => SlRep rCell (Ft n0 none_ h') h' r (putC l c) ∧ Keep none_ h h' := by
  refine callH_by fun K hK => ?_
  refine enter [.tmp 4] Tryz.func32 rfl rfl (by kernel_rfl) rfl ?_
  obtain ⟨a0, c0, rfl, hc0, hc0'⟩ := hl.val
  obtain ⟨ka, kc, sa, sc, na, nc, xa, xc, rfl, r1, r2, r3, r4⟩ := cell_open hc
  simp -dsimp [boxS_eq]
  generalize hB : Array.push h _ = hb
  have kb : Keep none_ h hb := by rw [← hB]; exact .push _ _ _
  have hC : hb[h.size]? = some (.cells #[.slice ka c.key.length kc, .int .i64 c.count, .slice sa c.sum.length sc, .slice na c.mn.length nc, .slice xa c.mx.length xc] 46 (0, 0)) := by rw [← hB]; exact push_new _ _
  have tb := Tr.of kb
  have l1 := hl.mono (tb.ft (Nat.le_refl n0))
  have k1 := r1.mono (tb.ft (Nat.le_refl 0))
  have c1 := rCell.mono hc (tb.ft (Nat.le_refl 0))
  have hpl := posC_le l c.key
  refine loopj (σ := Nat) (fun k => [(0, .slice a0 l.length c0), (3, .pointer (some ⟨h.size, 0, none⟩)), (5, .int .i64 k)]) (fun k h1 => h1 = hb ∧ k ≤ posC l c.key) (fun k => l.length - k) 0 (by simp) ⟨rfl, Nat.zero_le _⟩ (by kernel_rfl) ?_
  rintro k h1 g ⟨rfl, hk⟩
  have wk := wrap_succ (k := k) (by omega)
  rcases Nat.lt_or_ge k l.length with hkl | hkl
  case' inl =>
    obtain ⟨b1, o1, cs1, ea0, _, hr1, hc1⟩ := l1.get k hkl
    subst ea0
    obtain ⟨ka1, kc1, sa1, sc1, na1, nc1, xa1, xc1, rfl, q1, _⟩ := cell_open hr1
    have hk0 : cellIn h1[b1]? (o1 + k * 5) = some (.slice ka1 l[k].key.length kc1) := cellsIn_cell (d := 0) hc1 (by decide)
    have hc1' : HC.cellsIn h1[b1]? (o1 + k * 5) 5 = _ := hc1
    simp -dsimp
    refine drawn_by [⟨0, true, []⟩, ⟨1, true, []⟩, ⟨2, true, []⟩, ⟨3, true, []⟩, ⟨4, true, []⟩, ⟨5, true, []⟩, ⟨6, true, []⟩, ⟨7, true, []⟩, ⟨8, true, []⟩, ⟨9, true, []⟩, ⟨10, true, []⟩, ⟨11, true, []⟩, ⟨12, false, []⟩, ⟨13, true, []⟩, ⟨14, true, []⟩] (by kernel_rfl) (by kernel_rfl) ?_
    simp -dsimp [hkl, idxV_nat hkl, elSz_eq, hk0, hC]
    refine call_by (rless_spec q1 k1) ?_
    rintro _ h2 ⟨rfl, hh⟩
    obtain rfl := hh.symm
    by_cases hlt : lessM l[k].key c.key < 0
    case pos =>
      simp -dsimp [hlt, wk]
      refine ⟨k + 1, by simp, rfl, ⟨rfl, ?_⟩, by show l.length - (k + 1) < l.length - k; omega⟩
      rcases Nat.lt_or_ge k (posC l c.key) with h | h
      · exact h
      · have e : k = posC l c.key := by omega
        subst e
        exact absurd hlt (posC_at hkl)
    have hkp : k = posC l c.key := by
      rcases Nat.lt_or_ge k (posC l c.key) with h | h
      · exact absurd (posC_lt hkl h) hlt
      · omega
    simp -dsimp [hlt]
    refine drawn_by [⟨0, true, []⟩, ⟨1, true, []⟩, ⟨2, true, []⟩, ⟨3, true, []⟩, ⟨4, true, []⟩, ⟨5, true, []⟩, ⟨6, true, []⟩, ⟨7, true, []⟩, ⟨8, true, []⟩, ⟨9, true, []⟩, ⟨10, true, []⟩, ⟨11, true, []⟩, ⟨12, false, []⟩, ⟨13, true, []⟩, ⟨14, true, []⟩] (by kernel_rfl) (by kernel_rfl) ?_
    simp -dsimp [hkl, idxV_nat hkl, elSz_eq, hk0, hC]
    refine call_by (rless_spec q1 k1) ?_
    rintro _ h2 ⟨rfl, hh⟩
    obtain rfl := hh.symm
    by_cases h0 : lessM l[k].key c.key = 0
    case pos =>
      simp -dsimp [h0]
      obtain ⟨ge, te⟩ := gr_empty rCell 46 n0 tb h1.size rfl
      obtain ⟨cs0, _, _, _, hcl, hel⟩ := l1.open_
      refine gr_append (ys := l) (n := n0) cellT ge te.lt rfl (hcl.mono fun b hb => te.ft (Nat.le_refl n0) b hb) (hel.mono fun b hb => te.ft (Nat.le_refl n0) b hb) (by simp; omega) (by simp; omega) ?_
      intro v3 h3 own3 g3 t3 k3 ho3
      obtain ⟨va3, vn3, vc3, rfl, hvn3⟩ := g3.vals
      have u3 := te.trans t3
      have hC3 := u3.at hC (fun h => h)
      have hk3 : HC.cellsIn h3[b1]? (o1 + k * 5) 5 = HC.cellsIn h1[b1]? (o1 + k * 5) 5 := by
        obtain ⟨bb, oo, cc, e1, hf, _⟩ := l1.get k hkl
        cases e1
        rw [u3.keep.blk b1 hf.2.1 (fun h => h)]
      simp -dsimp
      refine drawn_by [⟨0, true, []⟩, ⟨1, true, []⟩, ⟨2, true, []⟩, ⟨3, true, []⟩, ⟨4, true, []⟩, ⟨5, true, []⟩, ⟨6, true, []⟩, ⟨7, false, [0, 1]⟩, ⟨8, true, []⟩, ⟨9, false, []⟩] (by kernel_rfl) (by kernel_rfl) ?_
      simp -dsimp [idxV_nat hkl, elSz_eq, hC3, hk3, hc1']
      have hm1 := hs l[k] (List.getElem_mem hkl)
      refine call_by (rjoin_spec (rCell.mono (rCell.mono hr1 (u3.ft (Nat.le_refl n0))) (Ft.free (Nat.zero_le _))) (hm1.small hm) hm1 (rCell.mono (rCell.mono c1 (u3.ft (Nat.le_refl 0))) (Ft.free (Nat.zero_le _))) hsc) ?_
      rintro _ h4 ⟨es, rfl, r4', k4⟩
      have u4 := u3.call k4
      have hl5 := rCell.len r4'
      obtain ⟨bk, m', c', o', hv, hm', ho4, hw, g4⟩ := (g3.call k4).setE (i := k) (by simpa using hkl) (rCell.mono r4' (u3.ret (Nat.le_trans hn0 (kb.trans u3.keep fun _ _ h => h).size)))
      cases hv
      have hkm : k < vn3 := by rw [hm']; simpa using hkl
      obtain ⟨ka5, kc5, sa5, sc5, na5, nc5, xa5, xc5, rfl, _⟩ := cell_open r4'
      have hw' : writeIn h4[bk]? (k * 5) _ = some o' := hw
      simp -dsimp [idxV_nat hkm, elSz_eq, again_cons, hw']
      have u5 := u4.set o' (g3.mu bk ho4)
      refine hK _ _ ⟨?_, kb.trans u5.keep (fun _ _ h => h)⟩
      have hput : putC l c = l.set k (joinC l[k] c) := by
        rw [putC_pos]
        subst hkp
        rw [dif_pos ⟨hkl, hkl, h0⟩]
      rw [hput]
      simp only [List.nil_append] at g4
      exact g4.rep (Nat.le_refl n0) (fun b hb => by have := u5.fresh b (g4.mu b hb); have := kb.size; omega)
    have h0' : (lessM l[k].key c.key == 0) = false := by simpa using h0
    simp -dsimp [h0']
  case' inr =>
    have hkp : k = posC l c.key := by omega
    have hkl' : ¬ k < l.length := by omega
    simp -dsimp
    refine drawn_by [⟨0, true, []⟩, ⟨1, true, []⟩, ⟨2, true, []⟩, ⟨3, true, []⟩, ⟨4, true, []⟩, ⟨5, true, []⟩, ⟨6, true, []⟩, ⟨7, true, []⟩, ⟨8, true, []⟩, ⟨9, true, []⟩, ⟨10, true, []⟩, ⟨11, true, []⟩, ⟨12, false, []⟩, ⟨13, true, []⟩, ⟨14, true, []⟩] (by kernel_rfl) (by kernel_rfl) ?_
    simp -dsimp [hkl']
    refine drawn_by [⟨0, true, []⟩, ⟨1, true, []⟩, ⟨2, true, []⟩, ⟨3, true, []⟩, ⟨4, true, []⟩, ⟨5, true, []⟩, ⟨6, true, []⟩, ⟨7, true, []⟩, ⟨8, true, []⟩, ⟨9, true, []⟩, ⟨10, true, []⟩, ⟨11, true, []⟩, ⟨12, false, []⟩, ⟨13, true, []⟩, ⟨14, true, []⟩] (by kernel_rfl) (by kernel_rfl) ?_
    simp -dsimp [hkl']
  all_goals
    have hkl2 : k ≤ l.length := by omega
    refine drawn_by [⟨1, true, []⟩, ⟨2, true, []⟩, ⟨3, true, []⟩, ⟨5, true, []⟩, ⟨9, true, []⟩, ⟨10, true, []⟩, ⟨11, true, []⟩, ⟨0, false, [1, 2, 3, 5, 9, 10, 11]⟩, ⟨4, false, [5, 9, 10, 11]⟩, ⟨6, false, [9, 10, 11]⟩, ⟨7, false, [9, 10, 11]⟩, ⟨8, false, [9, 10, 11]⟩, ⟨12, false, []⟩, ⟨13, true, []⟩] (by kernel_rfl) (by kernel_rfl) ?_
    have hkc : k ≤ c0 := by omega
    have hCp : ∀ o, (h1.push o)[h.size]? = _ := fun o => push_at hC
    simp -dsimp [elSz_eq, pieceV, natV, hC, hCp, hkl2, hc0, hkc, again_cons]
    obtain ⟨ge, te⟩ := gr_empty rCell 46 n0 tb h1.size rfl
    have s1 := (l1.mono (te.ft (Nat.le_refl n0))).cut (i := 0) (j := k) (m := c0) (Nat.zero_le _) hkl2 hkc (Nat.le_refl _)
    have s2 := l1.cut (i := k) (j := l.length) (m := c0) hkl2 (Nat.le_refl _) hc0 (Nat.le_refl _)
    simp only [List.drop_zero, Nat.sub_zero] at s1 s2
    have htk : (l.take k).length = k := by rw [List.length_take]; omega
    have hdk : ((l.drop k).take (l.length - k)) = l.drop k := List.take_of_length_le (by simp)
    rw [hdk] at s2
    have hld : (l.drop k).length = l.length - k := by simp
    obtain ⟨cs1, _, _, _, hcl1, hel1⟩ := s1.open_
    refine gr_append (ys := l.take k) (n := n0) cellT ge te.lt htk.symm hcl1 hel1 (by rw [htk]; simp; omega) (by rw [htk]; simp; omega) ?_
    intro v3 h3 own3 g3 t3 k3 ho3
    rw [List.nil_append] at g3
    obtain ⟨va3, vn3, vc3, rfl, hvn3⟩ := g3.vals
    have u3 := te.trans t3
    have hC3 := u3.at hC (fun h => h)
    simp -dsimp [elSz_eq, pieceV, natV, hC3, hkl2, hc0, hkc, again_cons]
    refine call_by (rcopy_new (rCell.mono (rCell.mono c1 (u3.ft (Nat.le_refl 0))) (Ft.free (Nat.zero_le _))) (hsc.small hm)) ?_
    rintro _ h4 ⟨es, rfl, r4', k4⟩
    have u4 := u3.call k4
    obtain ⟨ka5, kc5, sa5, sc5, na5, nc5, xa5, xc5, rfl, _⟩ := cell_open r4'
    simp -dsimp [elSz_eq, pieceV, natV, hkl2, hc0, hkc, again_cons]
    refine gr_app1 rfl cellT (g3.call k4) u4.lt (rCell.mono r4' (u3.ret (Nat.le_trans hn0 (kb.trans u3.keep fun _ _ h => h).size))) rfl (by rw [htk]; omega) (by rw [htk]; omega) ?_
    intro v5 h5 own5 g5 t5 k5 ho5
    have u5 := u4.trans t5
    obtain ⟨va5, vn5, vc5, rfl, hvn5⟩ := g5.vals
    simp -dsimp [elSz_eq, pieceV, natV, hkl2, hc0, hkc, again_cons]
    obtain ⟨cs2, _, _, _, hcl2, hel2⟩ := (s2.mono (u5.ft (Nat.le_refl n0))).open_
    refine gr_append (ys := l.drop k) (n := n0) cellT g5 u5.lt hld.symm hcl2 hel2 (by rw [List.length_append, htk, hld]; simp; omega) (by rw [List.length_append, htk, hld]; simp; omega) ?_
    intro v6 h6 own6 g6 t6 k6 ho6
    obtain ⟨va6, vn6, vc6, rfl, hvn6⟩ := g6.vals
    simp -dsimp
    have u6 := u5.trans t6
    refine hK _ _ ⟨?_, kb.trans u6.keep (fun _ _ h => h)⟩
    have hput : putC l c = l.take k ++ [c] ++ l.drop k := by
      rw [putC_pos, ← hkp, dif_neg]
      · simp
      · rintro ⟨hx, _, h0x⟩
        first | exact h0 h0x | omega
    rw [hput]
    exact g6.rep (Nat.le_refl n0) (fun b hb => by have := u6.fresh b (g6.mu b hb); have := kb.size; omega)
theorem rput_spec {h : Heap} {v : Value} {cs : List Value} {l : List CellM} {c : CellM} {m : Nat} (hl : SlRep rCell (Old h) h v l) (hc : rCell.rep (Old h) h cs c) (hn : l.length < 1000000) (hm : m < 1000000000) (hs : ∀ d ∈ l, Sml m d) (hsc : Sml m c) :
    CallH Tryz.prog 32 #[v, .agg cs.toArray] h fun r h' => SlRep rCell (Old h') h' r (putC l c) ∧ Keep none_ h h' := rput_at hl hc hn hm hs hsc (Nat.zero_le _)
end Go.Proofs

/-
  Groups of cells and of facts, the document's; rows of cells held against each other.
-/
namespace Go.Proofs
open Go Go.HC

set_option maxHeartbeats 4000000 in
set_option maxRecDepth 10000 in
theorem rfacts_spec {h : Heap} {v : Value} {rows : List RowM} {m : Nat} (s : Int) (hr : SlRep rRow (Old h) h v rows) (hn : rows.length < 1000000) (hm : m < 1000000000) (hs : ∀ r ∈ rows, r.key.length < 64 ∧ r.m.length = m) :
    CallH Tryz.prog 19 #[v, .int .i64 s] h fun r h' => SlRep rCell (Old h') h' r (groupC (rows.map (ofM s))) ∧ Keep none_ h h' := by
  refine callH_by fun K hK => ?_
  refine enter [.tmp 4] Tryz.func19 rfl rfl (by kernel_rfl) rfl ?_
  obtain ⟨a0, c0, rfl, hc0, hc0'⟩ := hr.val
  have hall : ∀ d ∈ rows.map (ofM s), Sml m d := by
    intro d hd
    obtain ⟨r, hr, rfl⟩ := List.mem_map.1 hd
    have := hs r hr
    rw [← this.2]
    exact .of (by omega)
  simp -dsimp
  refine loopj (σ := Nat × Value) (fun t => [(0, .slice a0 rows.length c0), (1, .int .i64 s), (5, t.2), (6, .int .i64 t.1)])
    (fun t h1 => Keep none_ h h1 ∧ t.1 ≤ rows.length ∧ SlRep rCell (Old h1) h1 t.2 (groupC ((rows.map (ofM s)).take t.1)))
    (fun t => rows.length - t.1) (0, .slice none 0 0) (by simp) ⟨.refl _ _, Nat.zero_le _, .nil _ _ _⟩ (by kernel_rfl) ?_
  rintro ⟨k, v⟩ h1 g ⟨k1, hk1, g1⟩
  simp only at hk1 g1
  have wk := wrap_succ (k := k) (by omega)
  by_cases hkl : k < rows.length
  · have q1 := hr.mono ((Tr.of k1).ft (Nat.le_refl 0))
    obtain ⟨b1, o1, cs, rfl, _, hrep, hc1⟩ := q1.get k hkl
    obtain ⟨ka, kc, ma, mc, rfl, _⟩ := row_open hrep
    have hc1' : HC.cellsIn h1[b1]? (o1 + k * 2) 2 = _ := hc1
    simp -dsimp [hkl, idxA_nat hkl, hc1']
    have hrow := hs rows[k] (List.getElem_mem hkl)
    refine call_by (of_spec s hrep hrow.1 (by omega)) ?_
    rintro _ h2 ⟨ds, rfl, r2, k2⟩
    have hl := groupC_le ((rows.map (ofM s)).take k)
    rw [List.length_take, List.length_map] at hl
    have hkm : k < (rows.map (ofM s)).length := by simpa using hkl
    simp -dsimp
    refine call_by (rput_spec (m := m) (g1.mono ((Tr.of k2).ft (Nat.le_refl 0))) (rCell.mono r2 (Ft.free (Nat.zero_le _))) (by omega) hm (sml_group fun d hd => hall d (List.mem_of_mem_take hd)) (hall _ (by have := List.getElem_mem hkm; simpa using this))) ?_
    rintro v3 h3 ⟨g3, k3⟩
    simp -dsimp [wk]
    refine ⟨(k + 1, v3), by simp, rfl, ⟨(k1.trans k2 fun _ _ h => h).trans k3 fun _ _ h => h, by omega, ?_⟩, by simp; omega⟩
    rw [group_take hkm, List.getElem_map]
    exact g3
  · have hkk : k = rows.length := by omega
    simp -dsimp [hkl]
    rw [hkk, List.take_of_length_le (by simp)] at g1
    exact hK _ _ ⟨g1, k1⟩

set_option maxHeartbeats 4000000 in
set_option maxRecDepth 10000 in
theorem rgroup_at {n0 : Nat} {h : Heap} {v : Value} {l : List CellM} {m : Nat} (hl : SlRep rCell (Ft n0 none_ h) h v l) (hn : l.length < 1000000) (hm : m < 1000000000) (hs : ∀ d ∈ l, Sml m d) (hn0 : n0 ≤ h.size) :
    CallH Tryz.prog 60 #[v] h fun r h' => SlRep rCell (Ft n0 none_ h') h' r (groupC l) ∧ Keep none_ h h' := by
  refine callH_by fun K hK => ?_
  refine enter [.tmp 2] Tryz.func60 rfl rfl (by kernel_rfl) rfl ?_
  obtain ⟨a0, c0, rfl, hc0, hc0'⟩ := hl.val
  simp -dsimp
  refine loopj (σ := Nat × Value) (fun t => [(0, .slice a0 l.length c0), (3, t.2), (4, .int .i64 t.1)])
    (fun t h1 => Keep none_ h h1 ∧ t.1 ≤ l.length ∧ SlRep rCell (Ft n0 none_ h1) h1 t.2 (groupC (l.take t.1)))
    (fun t => l.length - t.1) (0, .slice none 0 0) (by simp) ⟨.refl _ _, Nat.zero_le _, .nil _ _ _⟩ (by kernel_rfl) ?_
  rintro ⟨k, v⟩ h1 g ⟨k1, hk1, g1⟩
  simp only at hk1 g1
  have wk := wrap_succ (k := k) (by omega)
  by_cases hkl : k < l.length
  · have q1 := hl.mono ((Tr.of k1).ft (Nat.le_refl n0))
    obtain ⟨b1, o1, cs, rfl, _, hrep, hc1⟩ := q1.get k hkl
    obtain ⟨ka, kc, sa, sc, na, nc, xa, xc, rfl, _⟩ := cell_open hrep
    have hc1' : HC.cellsIn h1[b1]? (o1 + k * 5) 5 = _ := hc1
    simp -dsimp [hkl, idxA_nat hkl, hc1']
    have hg := groupC_le (l.take k)
    rw [List.length_take] at hg
    refine call_by (rput_at (m := m) g1 (rCell.mono hrep (Ft.free (Nat.zero_le _))) (by omega) hm (sml_group fun d hd => hs d (List.mem_of_mem_take hd)) (hs _ (List.getElem_mem hkl)) (Nat.le_trans hn0 k1.size)) ?_
    rintro v3 h3 ⟨g3, k3⟩
    simp -dsimp [wk]
    refine ⟨(k + 1, v3), by simp, rfl, ⟨k1.trans k3 fun _ _ h => h, by omega, ?_⟩, by simp; omega⟩
    rw [group_take hkl]
    exact g3
  · have hkk : k = l.length := by omega
    simp -dsimp [hkl]
    rw [hkk, List.take_length] at g1
    exact hK _ _ ⟨g1, k1⟩

theorem rgroup_spec {h : Heap} {v : Value} {l : List CellM} {m : Nat} (hl : SlRep rCell (Old h) h v l) (hn : l.length < 1000000) (hm : m < 1000000000) (hs : ∀ d ∈ l, Sml m d) :
    CallH Tryz.prog 60 #[v] h fun r h' => SlRep rCell (Old h') h' r (groupC l) ∧ Keep none_ h h' := rgroup_at hl hn hm hs (Nat.zero_le _)

set_option maxHeartbeats 4000000 in
set_option maxRecDepth 10000 in
theorem rsame_spec {h : Heap} {v u : Value} {l m : List CellM} (hl : SlRep rCell (Old h) h v l) (hm : SlRep rCell (Old h) h u m) :
    CallH Tryz.prog 20 #[v, u] h fun r h' => (∃ t : Bool, r = .bool t ∧ (t = true ↔ l = m)) ∧ Keep none_ h h' := by
  refine callH_by fun K hK => ?_
  refine enter [.tmp 4] Tryz.func20 rfl rfl (by kernel_rfl) rfl ?_
  obtain ⟨a0, c0, rfl, hc0, hc0'⟩ := hl.val
  obtain ⟨a1, c1, rfl, hc1, hc1'⟩ := hm.val
  by_cases hlen : l.length = m.length
  · have hl2 : ((l.length : Int) != (m.length : Int)) = false := by simp [bne]; omega
    simp -dsimp [hl2]
    refine loopj (σ := Nat) (fun k => [(0, .slice a0 l.length c0), (1, .slice a1 m.length c1), (5, .int .i64 k)])
      (fun k h1 => Keep none_ h h1 ∧ k ≤ l.length ∧ l.take k = m.take k) (fun k => l.length - k) 0 (by simp) ⟨.refl _ _, Nat.zero_le _, rfl⟩ (by kernel_rfl) ?_
    rintro k h1 g ⟨k1, hk1, hpre⟩
    by_cases hkl : k < l.length
    · have hkm : k < m.length := by omega
      have wk := wrap_succ (k := k) (by omega)
      obtain ⟨b1, o1, cs, rfl, _, hr1, hx1⟩ := (hl.mono ((Tr.of k1).ft (Nat.le_refl 0))).get k hkl
      obtain ⟨b2, o2, ds, rfl, _, hr2, hx2⟩ := (hm.mono ((Tr.of k1).ft (Nat.le_refl 0))).get k hkm
      obtain ⟨ka, kc, sa, sc, na, nc, xa, xc, rfl, _⟩ := cell_open hr1
      obtain ⟨ka', kc', sa', sc', na', nc', xa', xc', rfl, _⟩ := cell_open hr2
      have hx1' : HC.cellsIn h1[b1]? (o1 + k * 5) 5 = _ := hx1
      have hx2' : HC.cellsIn h1[b2]? (o2 + k * 5) 5 = _ := hx2
      simp -dsimp [hkl]
      refine drawn_by [⟨0, true, []⟩, ⟨1, true, []⟩, ⟨2, true, []⟩, ⟨3, true, []⟩, ⟨4, true, []⟩, ⟨5, true, []⟩, ⟨6, true, []⟩, ⟨7, true, []⟩, ⟨8, false, []⟩, ⟨9, true, []⟩] (by kernel_rfl) (by kernel_rfl) ?_
      simp -dsimp [idxV_nat hkl, idxV_nat hkm, elSz_eq, hx1', hx2']
      refine call_by (cellEq_spec hr1 Old.lt hr2 Old.lt) ?_
      rintro _ h2 ⟨⟨t, rfl, ht⟩, k2⟩
      cases t with
      | true =>
        have he := ht.1 rfl
        simp -dsimp [wk]
        refine ⟨k + 1, by simp, rfl, ⟨k1.trans k2 fun _ _ h => h, by omega, ?_⟩, by show l.length - (k + 1) < l.length - k; omega⟩
        rw [List.take_add_one, List.take_add_one, hpre, List.getElem?_eq_getElem hkl, List.getElem?_eq_getElem hkm, he]
      | false =>
        simp -dsimp
        refine hK _ _ ⟨⟨false, rfl, ?_⟩, k1.trans k2 fun _ _ h => h⟩
        simp only [Bool.false_eq_true, false_iff]
        intro e
        subst e
        exact absurd (ht.2 rfl) (by simp)
    · simp -dsimp [hkl]
      refine hK _ _ ⟨⟨true, rfl, ?_⟩, k1⟩
      rw [List.take_of_length_le (by omega), List.take_of_length_le (by omega)] at hpre
      simp [hpre]
  · have hl2 : ((l.length : Int) != (m.length : Int)) = true := by simp [bne]; omega
    simp -dsimp [hl2]
    refine hK _ _ ⟨⟨false, rfl, ?_⟩, .refl _ _⟩
    simp only [Bool.false_eq_true, false_iff]
    exact fun e => hlen (by rw [e])
end Go.Proofs

/-
  HC, part 26: a loop that is cut off from what comes behind it: its rounds end in a state, and what comes behind begins with that.
-/
namespace Go.HC
/-- The loop with this number is left, in a state of which this holds. -/
def ExJ {σ : Type} (idx : Nat) (S : σ → L) (d : List Nat) (J : σ → Heap → Prop) (_t1 : Tag S) (_t2 : Tag J) (j : Nat) (l : L) (b : Base) (h : Heap) : Prop := j = idx ∧ ∃ s, Sub (S s) l b ∧ b.d = d ∧ J s h
section
variable {P : Program} {n : Nat} {ro : Option Nat} {c : Code} {κ : Kont} {l : L} {b : Base} {h : Heap} {σ : Type}
theorem gsem_cut {idx : Nat} {S : σ → L} {d : List Nat} {J : σ → Heap → Prop} {R : L → Base → Heap → Prop} (hR : ∀ l b h, R l b h → κ.rt l b h)
    (hc : gsem P n ro c { nx := fun _ _ _ => False, rt := R, ex := ExJ idx S d J ⟨⟩ ⟨⟩, gt := fun _ _ _ _ => False } l b h)
    (after : ∀ s h g, J s h → κ.ex idx (S s) ⟨g, d⟩ h) : gsem P n ro c κ l b h := by
  intro a w hw hfr fr k cs hkd hro
  obtain ⟨e, a', w', l', b', hs, hfr', hk, harr⟩ := hc a w hw hfr fr k cs hkd hro
  cases e with
  | nx => exact hk.elim
  | rt => exact ⟨.rt, a', w', l', b', hs, hfr', hR _ _ _ hk, harr⟩
  | ex j =>
    obtain ⟨rfl, s, hsub, hd, hJ⟩ := hk
    have hcl := hfr'.clean hsub
    rw [hd] at hcl
    exact ⟨.ex j, a', w', S s, ⟨fun t => a'.tmps.getD t undef, d⟩, hs, hcl, after s _ _ hJ, harr⟩
  | gt t => exact hk.elim
/-- A loop: S, J: what holds ahead of each round; it is left where Q holds too; R: how its rounds may return. -/
theorem loopc (S : σ → L) (J : σ → Heap → Prop) (μ : σ → Nat) (s0 : σ) (idx : Nat) (Q : σ → Heap → Prop) (R : L → Base → Heap → Prop) (hR : ∀ l b h, R l b h → κ.rt l b h) (hS : Sub (S s0) l b) (hJ : J s0 h) (hok : codeOk n c = true)
    (round : ∀ s h g, J s h → cs P n ro c { nx := LoopJ S (fun _ => b.d) J μ s ⟨⟩ ⟨⟩ ⟨⟩, rt := R, ex := ExJ idx S b.d (fun s h => J s h ∧ Q s h) ⟨⟩ ⟨⟩, gt := fun _ _ _ _ => False } (S s) ⟨g, b.d⟩ h)
    (after : ∀ s h g, J s h → Q s h → κ.ex idx (S s) ⟨g, b.d⟩ h) : gs P n ro (.loop c) κ l b h :=
  gsem_cut hR (loop (κ := { nx := fun _ _ _ => False, rt := R, ex := ExJ idx S b.d (fun s h => J s h ∧ Q s h) ⟨⟩ ⟨⟩, gt := fun _ _ _ _ => False }) S (fun _ => b.d) J μ s0 hS rfl hJ hok round) fun s h g hj => after s h g hj.1 hj.2
/-- No round returns. -/
def noRet : L → Base → Heap → Prop := fun _ _ _ => False
theorem noRet_le {κ : Kont} : ∀ l b h, noRet l b h → κ.rt l b h := fun _ _ _ h => h.elim
end
end Go.HC

/-
  Facts of numbers: a schema, rows.
-/
namespace Go.HC
structure SchM where
  cards : List Int
  ms : Int
/-- The number of values of a dimension. -/
def cardM (cards : List Int) (i : Nat) : Int := 1 + withinM ((cards[i]?).getD ((i : Int) + 2)) 5
def cardsM (dims : Int) (cards : List Int) : List Int :=
  if withinM dims 7 = 0 then ((List.range ((withinM dims 4).toNat + 1)).map (cardM cards)).set 0 16 else (List.range ((withinM dims 4).toNat + 1)).map (cardM cards)
def div5 (k : Int) : Nat → Int
  | 0 => k
  | d + 1 => IntKind.i64.wrap ((div5 k d).tdiv 5)
def keyM (cs : List Int) (k : Int) : List Int := cs.mapIdx fun d c => withinM (div5 k d) c
def rowM (cs : List Int) (ms : Int) (k : Int) : RowM :=
  ⟨keyM cs k, (List.range ms.toNat).map fun (j : Nat) => IntKind.i64.wrap (withinM (IntKind.i64.wrap (div5 k cs.length + IntKind.i64.wrap (7 * (j : Int)))) 201 - 100)⟩
def factsM (dims : Int) (cards : List Int) (ms : Int) (ns : List Int) : SchM × List RowM :=
  (⟨cardsM dims cards, withinM ms 3⟩, (ns.take 40).map (rowM (cardsM dims cards) (withinM ms 3)))
/-- A schema, rows that may be. -/
structure FactsOk (s : SchM) (rows : List RowM) : Prop where
  dims : 1 ≤ s.cards.length ∧ s.cards.length ≤ 4
  cards : ∀ c ∈ s.cards, 1 ≤ c ∧ c ≤ 16
  ms : 0 ≤ s.ms ∧ s.ms ≤ 2
  len : rows.length ≤ 40
  key : ∀ r ∈ rows, r.key.length = s.cards.length ∧ ∀ (i : Nat) (h : i < r.key.length) (h' : i < s.cards.length), 0 ≤ r.key[i] ∧ r.key[i] < s.cards[i]
  m : ∀ r ∈ rows, r.m.length = s.ms.toNat ∧ ∀ x ∈ r.m, -100 ≤ x ∧ x ≤ 100
theorem cardM_bound (cards : List Int) (i : Nat) : 1 ≤ cardM cards i ∧ cardM cards i ≤ 5 := by
  unfold cardM
  have := withinM_bound (a := (cards[i]?).getD ((i : Int) + 2)) (n := 5) (by omega)
  omega
theorem cardsM_ok (dims : Int) (cards : List Int) : (cardsM dims cards).length = (withinM dims 4).toNat + 1 ∧ ∀ c ∈ cardsM dims cards, 1 ≤ c ∧ c ≤ 16 := by
  unfold cardsM
  split
  · refine ⟨by simp, fun c hc => ?_⟩
    rcases List.mem_or_eq_of_mem_set hc with h | rfl
    · obtain ⟨i, _, rfl⟩ := List.mem_map.1 h
      have := cardM_bound cards i; omega
    · omega
  · refine ⟨by simp, fun c hc => ?_⟩
    obtain ⟨i, _, rfl⟩ := List.mem_map.1 hc
    have := cardM_bound cards i; omega
theorem factsM_ok (dims : Int) (cards : List Int) (ms : Int) (ns : List Int) : FactsOk (factsM dims cards ms ns).1 (factsM dims cards ms ns).2 := by
  have hc := cardsM_ok dims cards
  have hd := withinM_bound (a := dims) (n := 4) (by omega)
  have hm := withinM_bound (a := ms) (n := 3) (by omega)
  refine ⟨by simp only [factsM, hc.1]; omega, hc.2, by simp only [factsM]; omega, by simp only [factsM, List.length_map, List.length_take]; omega, fun r hr => ?_, fun r hr => ?_⟩
  · simp only [factsM, List.mem_map] at hr
    obtain ⟨k, _, rfl⟩ := hr
    refine ⟨by simp [rowM, keyM, factsM], fun i h h' => ?_⟩
    simp only [rowM, keyM, List.getElem_mapIdx, factsM]
    simp only [factsM] at h'
    have := hc.2 _ (List.getElem_mem h')
    exact withinM_bound (by omega)
  · simp only [factsM, List.mem_map] at hr
    obtain ⟨k, _, rfl⟩ := hr
    refine ⟨by simp [rowM, factsM], fun x hx => ?_⟩
    simp only [rowM, List.mem_map] at hx
    obtain ⟨j, _, rfl⟩ := hx
    have := withinM_bound (a := IntKind.i64.wrap (div5 k (cardsM dims cards).length + IntKind.i64.wrap (7 * (j : Int)))) (n := 201) (by omega)
    rw [wrap_i64 (by omega) (by omega)]
    omega
end Go.HC
namespace Go.Proofs
open Go Go.HC

theorem rowT : ElemT Tryz.prog 26 49 rRow 48 := ⟨Tryz.elS26, Tryz.szS49, Tryz.byS49, _, Tryz.zS49, rfl⟩

set_option maxHeartbeats 4000000 in
set_option maxRecDepth 10000 in
theorem set2_spec {h : Heap} {v : Value} {cards : List Int} (ms n : Int) (hc : SlRep rInt (Old h) h v cards) (hl : cards.length ≤ 4) :
    CallH Tryz.prog 13 #[.agg #[v, .int .i64 ms], .int .i64 n] h fun r h' => r = .int .i64 (withinM n (2 ^ cards.length)) ∧ Keep none_ h h' := by
  refine callH_by fun K hK => ?_
  refine enter [.tmp 4] Tryz.func13 rfl rfl (by kernel_rfl) rfl ?_
  obtain ⟨a0, c0, rfl, hc0, hc0'⟩ := hc.val
  simp -dsimp [boxS_eq]
  have h3 : (2 : Int) ^ cards.length ≤ 2 ^ 4 := pow2_le hl
  have h4 : (0 : Int) < 2 ^ cards.length := Int.pow_pos (by decide)
  simp -dsimp [shl_one (k := cards.length) (by omega)]
  refine call_by (within2_spec n _ h4 (by omega) _) ?_
  rintro _ h1 ⟨rfl, hh⟩
  obtain rfl := hh.symm
  simp -dsimp
  exact hK _ _ ⟨rfl, .push _ _ _⟩

set_option maxHeartbeats 4000000 in
set_option maxRecDepth 10000 in
theorem facts1_spec {h : Heap} {cv nv : Value} {cards ns : List Int} (dims ms : Int) (hc : SlRep rInt (Old h) h cv cards) (hn : SlRep rInt (Old h) h nv ns) :
    CallH Tryz.prog 12 #[.int .i64 dims, cv, .int .i64 ms, nv] h fun r h' => ∃ sv rv, r = .tuple #[.agg #[sv, .int .i64 (factsM dims cards ms ns).1.ms], rv] ∧
      SlRep rInt (Ft h.size none_ h') h' sv (factsM dims cards ms ns).1.cards ∧ SlRep rRow (Ft h.size none_ h') h' rv (factsM dims cards ms ns).2 ∧ Keep none_ h h' := by
  refine callH_by fun K hK => ?_
  refine enter [.cell 8 25, .tmp 9] Tryz.func12 rfl rfl (by kernel_rfl) rfl ?_
  obtain ⟨a0, c0, rfl, hc0, hc0'⟩ := hc.val
  obtain ⟨a1, c1, rfl, hc1, hc1'⟩ := hn.val
  simp -dsimp
  refine call_by (within1_spec ms 3 (by decide) (by decide) _) ?_
  rintro _ h0 ⟨rfl, hh⟩
  obtain rfl := hh.symm
  simp -dsimp
  rw [push_set (by simp)]
  have hd4 := withinM_bound (a := dims) (n := 4) (by omega)
  have hm3 := withinM_bound (a := ms) (n := 3) (by omega)
  obtain ⟨nd, hnd⟩ : ∃ nd : Nat, withinM dims 4 = nd := ⟨(withinM dims 4).toNat, by omega⟩
  refine loopc (σ := Nat × Value) (fun t => [(0, .int .i64 dims), (1, .slice a0 cards.length c0), (3, .slice a1 ns.length c1), (8, .pointer (some ⟨h.size, 0, none⟩)), (10, .pointer (some ⟨h.size + 1, 0, none⟩)), (11, .int .i64 t.1)])
    (fun t h1 => ∃ M own, Tr none_ M h h1 ∧ (M h.size ∧ M (h.size + 1)) ∧ (∀ b, own = some b → h.size + 2 ≤ b) ∧ t.1 ≤ nd + 1 ∧ h1[h.size]? = some (.cells #[.slice none 0 0, .int .i64 0] 25 (0, 0)) ∧
      h1[h.size + 1]? = some (.cells #[t.2, .int .i64 (withinM ms 3)] 25 (0, 0)) ∧ Gr rInt 3 h.size M h1 t.2 ((List.range t.1).map (cardM cards)) own)
    (fun t => nd + 1 - t.1) (0, .slice none 0 0) 0 (fun t _ => t.1 = nd + 1) noRet noRet_le (by simp)
    ⟨_, none, (((Tr.start _).pushM _).pushM _), ⟨.inl (.inr rfl), .inr (by simp)⟩, (fun _ h => by cases h), Nat.zero_le _, push_at (push_new _ _), push_get (by simp), .nil _ _ _ _ _⟩ (by kernel_rfl) ?_ ?_
  · rintro ⟨k, v⟩ h1 g ⟨M, own, t1, ⟨hM8, hM10⟩, hne, hk1, hb8, hb10, g1⟩
    simp only at hk1 hb8 hb10 g1
    have e1 := t1.size
    obtain ⟨va, vn, vc, rfl, hvn⟩ := g1.vals
    have wk := wrap_succ (k := k) (by omega)
    simp -dsimp
    refine call_by (within1_spec dims 4 (by decide) (by decide) _) ?_
    rintro _ h1' ⟨rfl, hh⟩
    obtain rfl := hh.symm
    rw [hnd]
    by_cases hkl : k ≤ nd
    · have hb1p : ∀ o, (h1.push o)[h.size + 1]? = _ := fun o => push_at hb10
      have wk2 : IntKind.i64.wrap ((k : Int) + 2) = (k : Int) + 2 := by rw [wrap_i64 (by omega) (by omega)]
      obtain ⟨x, hx⟩ : ∃ x, x = (cards[k]?).getD ((k : Int) + 2) := ⟨_, rfl⟩
      have hcm : cardM cards k = 1 + withinM x 5 := by rw [hx]; rfl
      have hw5 := withinM_bound (a := x) (n := 5) (by omega)
      have wx : IntKind.i64.wrap (1 + withinM x 5) = 1 + withinM x 5 := by rw [wrap_i64 (by omega) (by omega)]
      simp -dsimp [hkl, wk2]
      refine if hck : k < cards.length then ?ina else ?inb
      case' ina =>
        obtain ⟨b1, o1, ea, _, hc1⟩ := (hc.mono t1.old).int_at k hck
        subst ea
        rw [List.getElem?_eq_getElem hck, Option.getD_some] at hx
        simp -dsimp [hck, idxA_nat hck, hc1, ← hx]
      case' inb =>
        rw [List.getElem?_eq_none (by omega), Option.getD_none] at hx
        simp -dsimp [hck, ← hx]
      all_goals
        refine drawn_by [⟨0, true, []⟩, ⟨1, true, []⟩, ⟨2, true, []⟩, ⟨3, false, [0, 1]⟩, ⟨4, true, []⟩, ⟨5, false, [0, 1]⟩, ⟨6, false, []⟩, ⟨7, true, []⟩, ⟨8, false, []⟩] (by kernel_rfl) (by kernel_rfl) ?_
        simp -dsimp [hb10]
        refine call_by (within1_spec x 5 (by decide) (by decide) _) ?_
        rintro _ h1' ⟨rfl, hh⟩
        obtain rfl := hh.symm
        simp -dsimp [hb10, hb1p, again_cons, wx]
        have hlr : ((List.range k).map (cardM cards)).length = k := by simp
        refine gr_app1 rfl intT g1 t1.lt rfl rfl (by omega) (by omega) ?_
        intro v' h2 own' g2 t2 k2 ho
        have hb2 := k2.at hb10 (fun e => by have := hne _ e; omega)
        have hb82 := k2.at hb8 (fun e => by have := hne _ e; omega)
        have hne' : ∀ b, own' = some b → h.size + 2 ≤ b := fun b e => (ho _ e).elim (hne b) (by have := lt_of_blk hb10; omega)
        obtain ⟨va', vn', vc', rfl, _⟩ := g2.vals
        simp -dsimp [hb2, wk]
        refine ⟨(k + 1, .slice va' vn' vc'), by simp, rfl, ⟨_, own', (t1.trans t2).set _ (.inl hM10), ⟨.inl hM8, .inl hM10⟩, hne', by omega, (set_other _ (by omega)).trans hb82, set_same _ (lt_of_blk hb2), ?_⟩, by simp; omega⟩
        rw [List.range_succ, List.map_append, List.map_singleton, hcm]
        exact g2.set _ (.inl hM10) (fun e => by have := hne' _ e; omega)
    · have hkk : k = nd + 1 := by omega
      simp -dsimp [hkl]
      exact ⟨rfl, (k, .slice va vn vc), by simp, rfl, ⟨M, own, t1, ⟨hM8, hM10⟩, hne, hk1, hb8, hb10, g1⟩, hkk⟩
  · rintro ⟨k, v⟩ h1 g ⟨M, own, t1, ⟨hM8, hM10⟩, hne, hk1, hb8, hb10, g1⟩ hkk
    simp only at hk1 hb8 hb10 g1 hkk
    subst hkk
    have e1 := t1.size
    obtain ⟨va, vn, vc, ev, hvn⟩ := g1.vals
    subst ev
    simp -dsimp
    have hcs : cardsM dims cards = if withinM dims 7 = 0 then ((List.range (nd + 1)).map (cardM cards)).set 0 16 else (List.range (nd + 1)).map (cardM cards) := by
      have : (withinM dims 4).toNat = nd := by omega
      unfold cardsM; rw [this]
    refine call_by (within1_spec dims 7 (by decide) (by decide) _) ?_
    rintro _ h1' ⟨rfl, hh⟩
    obtain rfl := hh.symm
    have hlr : ((List.range (nd + 1)).map (cardM cards)).length = nd + 1 := by simp
    refine if h7 : withinM dims 7 = 0 then ?za else ?zb
    case' za =>
      rw [if_pos h7] at hcs
      obtain ⟨bk, m', c', o', hv, hm', ho4, hw, g4⟩ := g1.setE (i := 0) (x := 16) (by rw [hlr]; omega) rfl
      cases hv
      have hm0 : 0 < vn := by rw [hm', hlr]; omega
      have hM' := g1.mu bk ho4
      have hnb := hne bk ho4
      have hw' : writeIn h1[bk]? 0 [.int .i64 16] = some o' := by simpa using hw
      simp -dsimp [h7, hb10, idxA_zero hm0, hw']
      have hb8' : (h1.setIfInBounds bk o')[h.size]? = _ := (set_other _ (by omega)).trans hb8
      have hb10' : (h1.setIfInBounds bk o')[h.size + 1]? = _ := (set_other _ (by omega)).trans hb10
      replace t1 := t1.set o' hM'
      generalize h1.setIfInBounds bk o' = h2 at *
      replace hb8 := hb8'
      replace hb10 := hb10'
      clear g1 hw hw' ho4 hM' hnb hb8' hb10'
      generalize some (⟨bk, 0, none⟩ : Addr) = va at *
    case' zb =>
      rw [if_neg h7] at hcs
      have h7' : (withinM dims 7 == 0) = false := by simpa using h7
      simp -dsimp [h7']
      have g4 := g1
      generalize h1 = h2 at *
    all_goals
      rw [← hcs] at g4
      have hcl : (cardsM dims cards).length = nd + 1 := by rw [(cardsM_ok dims cards).1]; omega
      have hcb := (cardsM_ok dims cards).2
      have hvn' : vn = (cardsM dims cards).length := by rw [hvn, hlr, hcl]
      obtain ⟨cl, ecl⟩ : ∃ cl, cl = cardsM dims cards := ⟨_, rfl⟩
      have sc : SlRep rInt (Ft h.size (fun b => b = h.size) h2) h2 _ (cardsM dims cards) := g4.grow.ints.mono fun b hb => ⟨⟨⟨by have := hne b hb; omega, fun _ => g4.grow.thaw b hb⟩, g4.own_lt b hb, by have := hne b hb; omega⟩, rfl⟩
      have t2 : Tr none_ (fun b => b = h.size) h h2 := t1.less fun b hb => hb ▸ hM8
      rw [← ecl] at sc hcl hcb hvn'
      obtain ⟨mm, hmm⟩ : ∃ mm : Nat, withinM ms 3 = mm := ⟨(withinM ms 3).toNat, by omega⟩
      rw [hmm] at hb10
      clear t1 g4 hne hcs
      refine loopc (σ := Nat × Value) (fun t => [(3, .slice a1 ns.length c1), (8, .pointer (some ⟨h.size, 0, none⟩)), (10, .pointer (some ⟨h.size + 1, 0, none⟩)), (13, t.2), (14, .int .i64 t.1)])
        (fun t h1 => ∃ M own, Tr (fun b => b = h.size) M h2 h1 ∧ M h.size ∧ (∀ b, own = some b → h.size + 1 ≤ b) ∧ (t.1 ≤ ns.length ∧ t.1 ≤ 40) ∧ h1[h.size]? = some (.cells #[.slice none 0 0, .int .i64 0] 25 (0, 0)) ∧
          Gr rRow 49 h.size M h1 t.2 ((ns.take t.1).map (rowM cl mm)) own)
        (fun t => 40 - t.1) (0, .slice none 0 0) 2 (fun t _ => ¬ (t.1 < ns.length ∧ t.1 < 40)) noRet noRet_le (by simp) ⟨_, none, t2.here, rfl, (fun _ h => by cases h), ⟨Nat.zero_le _, Nat.zero_le _⟩, hb8, .nil _ _ _ _ _⟩ (by kernel_rfl) ?_ ?_
      case refine_2 =>
        rintro ⟨i, v⟩ h3 g ⟨M3, own3, t3, hM3, ho3, ⟨hi1, hi2⟩, hz3, g3⟩ hin
        simp only at hi1 hi2 hz3 g3 hin
        obtain ⟨va3, vn3, vc3, ev3, hvn3⟩ := g3.vals
        subst ev3
        have hb103 := t3.at hb10 (by omega)
        have hcut : (ns.take i) = ns.take 40 := by
          by_cases h1 : i < ns.length
          · have : i = 40 := by omega
            rw [this]
          · rw [List.take_of_length_le (by omega), List.take_of_length_le (by omega)]
        have hset8 : ∀ o, (h3.setIfInBounds h.size o)[h.size]? = some o := fun o => set_same _ (lt_of_blk hz3)
        simp -dsimp [hb103, hz3, hset8]
        have t9 := t3.set (.cells #[.slice va vn vc, .int .i64 mm] 25) hM3
        refine hK _ _ ⟨.slice va vn vc, .slice va3 vn3 vc3, by simp only [factsM, hmm], ?_, ?_, (t2.trans t9).keep⟩
        · simp only [factsM, ← ecl]
          exact (sc.mono (t9.ft (Nat.le_refl _))).mono (Ft.free (Nat.le_refl _))
        · rw [hcut] at g3
          simp only [factsM, ← ecl, hmm]
          have g9 := g3.mono (t3.here.set (.cells #[.slice va vn vc, .int .i64 mm] 25) hM3) (Nat.le_refl _) fun b hb => ⟨g3.mu b hb, set_other _ fun e => by have := ho3 b hb; omega⟩
          exact g9.rep (Nat.le_refl _) fun b hb => by have := ho3 b hb; omega
      rintro ⟨i, v⟩ h3 g ⟨M3, own3, t3, hM3, ho3, ⟨hi1, hi2⟩, hz3, g3⟩
      simp only at hi1 hi2 hz3 g3
      have wi := wrap_succ (k := i) (by omega)
      obtain ⟨va3, vn3, vc3, ev3, hvn3⟩ := g3.vals
      subst ev3
      have hb103 := t3.at hb10 (by omega)
      have sc3 := (sc.mono (t3.ft (Nat.le_refl _))).mono (Ft.free (Nat.zero_le _))
      have t23 := t2.trans t3
      by_cases hin : i < ns.length ∧ i < 40
      case neg =>
        by_cases h1 : i < ns.length
        · have h2 : ((i : Int) < 40) = False := by simp; omega
          simp -dsimp [h1, h2]
          exact ⟨rfl, (i, .slice va3 vn3 vc3), by simp, rfl, ⟨M3, own3, t3, hM3, ho3, ⟨hi1, hi2⟩, hz3, g3⟩, hin⟩
        · simp -dsimp [h1]
          exact ⟨rfl, (i, .slice va3 vn3 vc3), by simp, rfl, ⟨M3, own3, t3, hM3, ho3, ⟨hi1, hi2⟩, hz3, g3⟩, hin⟩
      obtain ⟨hin1, hin2⟩ := hin
      obtain ⟨bn, on, en, _, hcn⟩ := (hn.mono t23.old).int_at i hin1
      have hin2' : ((i : Int) < 40) = True := by simp; omega
      simp -dsimp [hin1, hin2', en, idxA_nat hin1, hcn]
      obtain ⟨k, ek⟩ : ∃ k, k = ns[i] := ⟨_, rfl⟩
      rw [← ek, ← en]
      have hkl4 : (keyM cl k).length = cl.length := by simp [keyM]
      refine loopc (σ := Nat × Value) (fun t => [(3, .slice a1 ns.length c1), (8, .pointer (some ⟨h.size, 0, none⟩)), (10, .pointer (some ⟨h.size + 1, 0, none⟩)), (13, .slice va3 vn3 vc3), (14, .int .i64 i), (15, .int .i64 (div5 k t.1)), (16, .pointer (some ⟨h3.size, 0, none⟩)), (17, .int .i64 t.1)])
        (fun t h4 => ∃ M own, Tr none_ M h3 h4 ∧ M h3.size ∧ (∀ b, own = some b → h3.size + 1 ≤ b) ∧ t.1 ≤ cl.length ∧ h4[h3.size]? = some (.cells #[t.2, .slice none 0 0] 49 (0, 0)) ∧ Gr rInt 3 h3.size M h4 t.2 ((keyM cl k).take t.1) own)
        (fun t => cl.length - t.1) (0, .slice none 0 0) 4 (fun t _ => t.1 = cl.length) noRet noRet_le (by simp [div5]) ⟨_, none, (Tr.start _).pushM _, .inr rfl, (fun _ h => by cases h), Nat.zero_le _, push_new _ _, .nil _ _ _ _ _⟩ (by kernel_rfl) ?_ ?_
      case refine_1 =>
        rintro ⟨d, v⟩ h4 g ⟨M4, own4, t4, hM4, ho4, hd, hr4, g4⟩
        simp only at hd hr4 g4
        have wd := wrap_succ (k := d) (by omega)
        obtain ⟨va4, vn4, vc4, ev4, hvn4⟩ := g4.vals
        subst ev4
        have hb104 := t4.at hb103 (fun h => h)
        by_cases hdl : d < cl.length
        · obtain ⟨bc, oc, ec, _, hcc⟩ := (sc3.mono t4.old).int_at d hdl
          subst ec
          have hdn : d < vn := by omega
          have hr4p : ∀ o, (h4.push o)[h3.size]? = _ := fun o => push_at hr4
          have hcd := hcb _ (List.getElem_mem hdl)
          simp -dsimp [hb104, hdn]
          refine drawn_by [⟨0, true, []⟩, ⟨1, true, []⟩, ⟨2, true, []⟩, ⟨3, true, []⟩, ⟨4, true, []⟩, ⟨5, true, []⟩, ⟨6, true, []⟩, ⟨7, true, []⟩, ⟨8, false, [0, 1]⟩, ⟨9, false, [0, 1]⟩, ⟨10, false, []⟩, ⟨11, true, []⟩, ⟨12, false, []⟩] (by kernel_rfl) (by kernel_rfl) ?_
          simp -dsimp [hb104, hr4, hcc, idxV_nat hdn, elSz_eq]
          refine call_by (within1_spec (div5 k d) cl[d] (by omega) (by omega) h4) ?_
          rintro _ h4' ⟨rfl, hh⟩
          subst h4'
          simp -dsimp [hr4, hr4p, again_cons]
          have hlk : ((keyM cl k).take d).length = d := by rw [List.length_take, hkl4]; omega
          refine gr_app1 rfl intT g4 t4.lt rfl rfl (by omega) (by omega) ?_
          intro v5 h5 own5 g5 t5 k5 ho5
          have hr5 := k5.at hr4 (fun e => by have := ho4 _ e; omega)
          have ho5' : ∀ b, own5 = some b → h3.size + 1 ≤ b := fun b e => (ho5 _ e).elim (ho4 b) (by have := lt_of_blk hr4; omega)
          obtain ⟨va5, vn5, vc5, ev5, _⟩ := g5.vals
          subst ev5
          simp -dsimp [hr5, wd]
          refine ⟨(d + 1, .slice va5 vn5 vc5), by simp [div5], rfl, ⟨_, own5, (t4.trans t5).set _ (.inl hM4), .inl hM4, ho5', by omega, set_same _ (lt_of_blk hr5), ?_⟩, by simp; omega⟩
          have : (keyM cl k).take (d + 1) = (keyM cl k).take d ++ [withinM (div5 k d) cl[d]] := by
            rw [List.take_add_one, List.getElem?_eq_getElem (by omega)]
            simp [keyM]
          rw [this]
          exact g5.set _ (.inl hM4) (fun e => by have := ho5' _ e; omega)
        · have hdn : ¬ d < vn := by omega
          simp -dsimp [hb104, hdn]
          exact ⟨rfl, (d, .slice va4 vn4 vc4), by simp, rfl, ⟨M4, own4, t4, hM4, ho4, hd, hr4, g4⟩, by show d = _; omega⟩
      rintro ⟨d, v⟩ h4 g ⟨M4, own4, t4, hM4, ho4, hd, hr4, g4⟩ hdl
      simp only at hd hr4 g4 hdl
      subst hdl
      rw [List.take_of_length_le (by omega)] at g4
      have t4' : Tr none_ (fun b => b = h3.size) h3 h4 := t4.less fun b hb => hb ▸ hM4
      have sk : SlRep rInt (Ft h3.size (fun b => b = h3.size) h4) h4 v (keyM cl k) := g4.grow.ints.mono fun b hb => ⟨⟨⟨by have := ho4 b hb; omega, fun _ => g4.grow.thaw b hb⟩, g4.own_lt b hb, by have := ho4 b hb; omega⟩, rfl⟩
      obtain ⟨va4, vc4, ev4, _, _⟩ := sk.val
      subst ev4
      simp -dsimp
      have hml : ((rowM cl mm k).m).length = mm := by simp [rowM]
      refine loopc (σ := Nat × Value) (fun t => [(3, .slice a1 ns.length c1), (8, .pointer (some ⟨h.size, 0, none⟩)), (10, .pointer (some ⟨h.size + 1, 0, none⟩)), (13, .slice va3 vn3 vc3), (14, .int .i64 i), (15, .int .i64 (div5 k cl.length)), (16, .pointer (some ⟨h3.size, 0, none⟩)), (18, .int .i64 t.1)])
        (fun t h5 => ∃ M own, Tr (fun b => b = h3.size) M h4 h5 ∧ M h3.size ∧ (∀ b, own = some b → h3.size + 1 ≤ b) ∧ t.1 ≤ mm ∧ h5[h3.size]? = some (.cells #[.slice va4 (keyM cl k).length vc4, t.2] 49 (0, 0)) ∧ Gr rInt 3 h3.size M h5 t.2 ((rowM cl mm k).m.take t.1) own)
        (fun t => mm - t.1) (0, .slice none 0 0) 6 (fun t _ => t.1 = mm) noRet noRet_le (by simp) ⟨_, none, t4'.here, rfl, (fun _ h => by cases h), Nat.zero_le _, hr4, .nil _ _ _ _ _⟩ (by kernel_rfl) ?_ ?_
      case refine_1 =>
        rintro ⟨j, v⟩ h5 g ⟨M5, own5, t5, hM5, ho5, hj, hr5, g5⟩
        simp only at hj hr5 g5
        have wj := wrap_succ (k := j) (by omega)
        obtain ⟨va5, vn5, vc5, ev5, hvn5⟩ := g5.vals
        subst ev5
        have hb105 := (t4'.trans t5).at hb103 (fun h => h)
        by_cases hjl : j < mm
        · have hr5p : ∀ o, (h5.push o)[h3.size]? = _ := fun o => push_at hr5
          simp -dsimp [hb105, hjl]
          refine drawn_by [⟨0, true, []⟩, ⟨1, true, []⟩, ⟨2, true, []⟩, ⟨3, true, []⟩, ⟨4, true, []⟩, ⟨5, true, []⟩, ⟨6, false, [0, 1]⟩, ⟨7, true, []⟩, ⟨8, false, [0, 1]⟩, ⟨9, false, []⟩, ⟨10, true, []⟩, ⟨11, false, []⟩] (by kernel_rfl) (by kernel_rfl) ?_
          simp -dsimp [hr5]
          refine call_by (within1_spec _ 201 (by omega) (by omega) h5) ?_
          rintro _ h5' ⟨rfl, hh⟩
          subst h5'
          simp -dsimp [hr5, hr5p, again_cons]
          have hlk : ((rowM cl mm k).m.take j).length = j := by rw [List.length_take, hml]; omega
          refine gr_app1 rfl intT g5 t5.lt rfl rfl (by omega) (by omega) ?_
          intro v6 h6 own6 g6 t6 k6 ho6
          have hr6 := k6.at hr5 (fun e => by have := ho5 _ e; omega)
          have ho6' : ∀ b, own6 = some b → h3.size + 1 ≤ b := fun b e => (ho6 _ e).elim (ho5 b) (by have := lt_of_blk hr5; omega)
          obtain ⟨va6, vn6, vc6, ev6, _⟩ := g6.vals
          subst ev6
          simp -dsimp [hr6, wj]
          refine ⟨(j + 1, .slice va6 vn6 vc6), by simp, rfl, ⟨_, own6, (t5.trans t6).set _ (.inl hM5), .inl hM5, ho6', by omega, set_same _ (lt_of_blk hr6), ?_⟩, by simp; omega⟩
          have : (rowM cl mm k).m.take (j + 1) = (rowM cl mm k).m.take j ++ [IntKind.i64.wrap (withinM (IntKind.i64.wrap (div5 k cl.length + IntKind.i64.wrap (7 * (j : Int)))) 201 - 100)] := by
            rw [List.take_add_one, List.getElem?_eq_getElem (by omega)]
            simp [rowM]
          rw [this]
          exact g6.set _ (.inl hM5) (fun e => by have := ho6' _ e; omega)
        · simp -dsimp [hb105, hjl]
          exact ⟨rfl, (j, .slice va5 vn5 vc5), by simp, rfl, ⟨M5, own5, t5, hM5, ho5, hj, hr5, g5⟩, by show j = _; omega⟩
      rintro ⟨j, v⟩ h5 g ⟨M5, own5, t5, hM5, ho5, hj, hr5, g5⟩ hjl
      simp only at hj hr5 g5 hjl
      subst hjl
      rw [List.take_of_length_le (by omega)] at g5
      obtain ⟨va5, vn5, vc5, ev5, hvn5⟩ := g5.vals
      subst ev5
      have t45 := t4'.trans t5
      simp -dsimp [hr5]
      have sk5 := (sk.mono (t5.ft (Nat.le_refl _))).mono (Ft.free (n' := h3.size) (Nat.le_refl _))
      have sm5 := g5.rep (n' := h3.size) (Nat.le_refl _) fun b hb => by have := ho5 b hb; omega
      have hg3 := g3.call t45.keep
      have hlr3 : ((ns.take i).map (rowM cl j)).length = i := by rw [List.length_map, List.length_take]; omega
      refine gr_app1 rfl rowT hg3 (t3.call t45.keep).lt (x := rowM cl j k) (c := [.slice va4 (keyM cl k).length vc4, .slice va5 vn5 vc5]) ?_ rfl (by omega) (by omega) ?_
      · exact ⟨_, _, rfl, sk5.mono (t3.ret t23.size), sm5.mono (t3.ret t23.size)⟩
      intro v6 h6 own6 g6 t6 k6 ho6
      obtain ⟨va6, vn6, vc6, ev6, _⟩ := g6.vals
      subst ev6
      have hz5 := t45.at hz3 (fun h => h)
      have hz6 := k6.at hz5 (fun e => by have := ho3 _ e; omega)
      simp -dsimp [wi]
      have hs3 := t45.size
      have hs23 := t23.size
      have hlz := lt_of_blk hz3
      refine ⟨(i + 1, .slice va6 vn6 vc6), by simp, rfl, ⟨_, own6, (t3.call t45.keep).trans t6, .inl hM3, fun b e => (ho6 _ e).elim (ho3 b) (by omega), ⟨by omega, by omega⟩, hz6, ?_⟩, by simp; omega⟩
      have : (ns.take (i + 1)).map (rowM cl j) = (ns.take i).map (rowM cl j) ++ [rowM cl j k] := by
        rw [List.take_add_one, List.getElem?_eq_getElem hin1, Option.toList_some, List.map_append, List.map_singleton, ek]
      rw [this]
      exact g6
end Go.Proofs

/-
  HashPlaces: the plain law; the document's place of a key.
-/
namespace Go.HC
theorem newM_len (n : Nat) : (newM n).length = n := List.length_replicate
theorem newM_get {n k : Nat} (hk : k < n) : (newM n)[k]? = some none := by
  unfold newM
  rw [List.getElem?_replicate, if_pos hk]
theorem find_new {n : Nat} (hn : 0 < n) (key : List Int) : findM (newM n) key = some (placeM key n) := by
  have hp := placeM_lt key hn
  have h0 : probe key (newM n).length 0 = placeM key n := by
    unfold probe
    rw [newM_len, Nat.add_zero, Nat.mod_eq_of_lt hp]
  have := find_hit (T := newM n) (key := key) (i := 0) (by rw [newM_len]; exact hn) (fun j hj => by omega) (by
    rw [h0]; unfold hitM; rw [newM_get hp])
  rw [h0] at this
  exact this
theorem put_new1 {n : Nat} (hn : 0 < n) (c : CellM) : putM (newM n) c = some ((newM n).set (placeM c.key n) (some c)) := by
  unfold putM
  rw [find_new hn]
  simp only
  rw [newM_get (placeM_lt c.key hn)]
theorem put_again {n : Nat} (hn : 0 < n) (c d : CellM) (hd : d.key = c.key) : putM ((newM n).set (placeM c.key n) (some c)) d = some ((newM n).set (placeM c.key n) (some (joinC c d))) := by
  have hok := (put_ok (newM_ok n) (put_new1 hn c)).1
  have hp := placeM_lt c.key hn
  have hg : ((newM n).set (placeM c.key n) (some c))[placeM c.key n]? = some (some c) := by
    rw [List.getElem?_set_self (by rw [newM_len]; exact hp)]
  have hf := find_there hok hg
  unfold putM
  rw [hd, hf]
  simp only
  rw [hg]
  simp
/-- Where the other cell comes to stand. -/
def nextP (p : Nat) (n : Nat) (key : List Int) : Nat := if placeM key n = p then (p + 1) % n else placeM key n
theorem put_other {n : Nat} (hn : 2 ≤ n) (c d : CellM) (hne : c.key ≠ d.key) {p : Nat} (hp : p < n) : putM ((newM n).set p (some c)) d = some (((newM n).set p (some c)).set (nextP p n d.key) (some d)) ∧ nextP p n d.key < n ∧ nextP p n d.key ≠ p := by
  have hl : ((newM n).set p (some c)).length = n := by rw [List.length_set, newM_len]
  have hq := placeM_lt d.key (n := n) (by omega)
  have h0 : probe d.key ((newM n).set p (some c)).length 0 = placeM d.key n := by
    unfold probe
    rw [hl, Nat.add_zero, Nat.mod_eq_of_lt hq]
  have h1 : probe d.key ((newM n).set p (some c)).length 1 = (placeM d.key n + 1) % n := by
    unfold probe
    rw [hl]
  have hget : ∀ m, m < n → ((newM n).set p (some c))[m]? = if p = m then some (some c) else some none := by
    intro m hm
    rw [List.getElem?_set]
    by_cases e : p = m
    · subst e; rw [if_pos rfl, if_pos rfl, if_pos (by rw [newM_len]; exact hp)]
    · rw [if_neg e, if_neg e, newM_get hm]
  unfold nextP
  by_cases he : placeM d.key n = p
  · rw [if_pos he]
    have hlt : (p + 1) % n < n := Nat.mod_lt _ (by omega)
    have hnp : (p + 1) % n ≠ p := by
      by_cases h : p + 1 < n
      · rw [Nat.mod_eq_of_lt h]; omega
      · have : p + 1 = n := by omega
        rw [this, Nat.mod_self]; omega
    refine ⟨?_, hlt, hnp⟩
    have hf := find_hit (T := (newM n).set p (some c)) (key := d.key) (i := 1) (by rw [hl]; omega) (fun j hj => by
      have : j = 0 := by omega
      subst this
      rw [h0, he]
      unfold hitM
      rw [hget p hp, if_pos rfl]
      exact decide_eq_false hne) (by
      rw [h1, he]
      unfold hitM
      rw [hget _ hlt, if_neg (fun e => hnp e.symm)])
    rw [h1, he] at hf
    unfold putM
    rw [hf]
    simp only
    rw [hget _ hlt, if_neg (fun e => hnp e.symm)]
  · rw [if_neg he]
    refine ⟨?_, hq, he⟩
    have hf := find_hit (T := (newM n).set p (some c)) (key := d.key) (i := 0) (by rw [hl]; omega) (fun j hj => by omega) (by
      rw [h0]
      unfold hitM
      rw [hget _ hq, if_neg (fun e => he e.symm)])
    rw [h0] at hf
    unfold putM
    rw [hf]
    simp only
    rw [hget _ hq, if_neg (fun e => he e.symm)]
theorem cells_new (n : Nat) : cellsM (newM n) = [] := by
  unfold cellsM newM
  induction n with
  | zero => rfl
  | succ n _ => rw [List.replicate_succ]; simp
theorem cells_one : ∀ {n p : Nat} {c : CellM}, p < n → cellsM ((newM n).set p (some c)) = [c]
  | 0, _, _, h => by omega
  | n + 1, 0, c, _ => by
    unfold newM cellsM
    rw [List.replicate_succ]
    simp
  | n + 1, p + 1, c, h => by
    have := cells_one (n := n) (p := p) (c := c) (by omega)
    unfold newM at this ⊢
    unfold cellsM at this ⊢
    rw [List.replicate_succ]
    simpa using this
theorem cells_two : ∀ {n p q : Nat} {c d : CellM}, p < n → q < n → q ≠ p → cellsM (((newM n).set p (some c)).set q (some d)) = if p < q then [c, d] else [d, c]
  | 0, _, _, _, _, h, _, _ => by omega
  | n + 1, 0, q + 1, c, d, _, hq, _ => by
    have := cells_one (n := n) (p := q) (c := d) (by omega)
    unfold newM at this ⊢
    unfold cellsM at this ⊢
    rw [List.replicate_succ, if_pos (by omega)]
    simpa using this
  | n + 1, p + 1, 0, c, d, hp, _, _ => by
    have := cells_one (n := n) (p := p) (c := c) (by omega)
    unfold newM at this ⊢
    unfold cellsM at this ⊢
    rw [List.replicate_succ, if_neg (by omega)]
    simpa using this
  | _ + 1, 0, 0, _, _, _, _, h => by omega
  | n + 1, p + 1, q + 1, c, d, hp, hq, h => by
    have := cells_two (n := n) (p := p) (q := q) (c := c) (d := d) (by omega) (by omega) (by omega)
    unfold newM at this ⊢
    unfold cellsM at this ⊢
    rw [List.replicate_succ]
    simp only [List.set_cons_succ, List.filterMap_cons, id]
    rw [this]
    by_cases hpq : p < q
    · rw [if_pos hpq, if_pos (by omega)]
    · rw [if_neg hpq, if_neg (by omega)]
end Go.HC

/-
  HashPlaces: the document's place of a key.
-/
namespace Go.HC
def KeyOk (key : List Int) : Prop := ∀ v ∈ key, 0 ≤ v ∧ v < 1000003
theorem hashM_nonneg {key : List Int} (hk : KeyOk key) : 0 ≤ hashM key := by
  unfold hashM
  generalize h0 : (7 : Int) = z
  have hz : 0 ≤ z := by omega
  clear h0
  induction key generalizing z with
  | nil => exact hz
  | cons v key ih =>
    refine ih (fun w hw => hk w (List.mem_cons_of_mem _ hw)) _ (Int.tmod_nonneg _ ?_)
    have := hk v (List.mem_cons_self ..)
    have h2 : 0 ≤ v.tmod 1000003 := Int.tmod_nonneg _ this.1
    omega
theorem placeM_of {key : List Int} (hk : KeyOk key) {n : Nat} (hn : 0 < n) : (hashM key).tmod n = ((placeM key n : Nat) : Int) := by
  have h0 := hashM_nonneg hk
  unfold placeM
  have h1 : 0 ≤ (hashM key).tmod n := Int.tmod_nonneg _ h0
  have h2 : (hashM key).tmod n < n := Int.tmod_lt_of_pos _ (by omega)
  have h3 : ((hashM key).tmod n + n).tmod n = (hashM key).tmod n := by
    generalize (hashM key).tmod n = x at h1 h2
    rw [Int.tmod_eq_emod_of_nonneg (by omega), Int.add_emod_right, Int.emod_eq_of_lt h1 h2]
  rw [h3, Int.toNat_of_nonneg h1]
end Go.HC
namespace Go.Proofs
open Go Go.HC

set_option maxHeartbeats 4000000 in
set_option maxRecDepth 10000 in
theorem place_spec {G : Nat → Prop} {h : Heap} {kv : Value} {key : List Int} (hk : SlRep rInt G h kv key) (hko : KeyOk key) (n : Nat) (hn : 0 < n) (hn' : n < 1000000000) :
    CallH Tryz.prog 93 #[kv, .int .i64 n] h fun r h' => r = .int .i64 (placeM key n) ∧ h' = h := by
  refine callH_by fun K hK => ?_
  obtain ⟨ka, kc, rfl, hkc, hkc'⟩ := hk.val
  refine enter [.tmp 4] Tryz.func93 rfl rfl (by kernel_rfl) rfl ?_
  have hpl := placeM_of hko hn
  have hrem : ∀ x : Int, intRes .rem .i64 x (n : Int) = some (.int .i64 (x.tmod n)) := fun x => intRes_rem _ _ _ (by omega)
  simp -dsimp
  refine loop' (σ := Nat) (fun k => [(0, .slice ka key.length kc), (1, .int .i64 n), (5, .int .i64 (hashM (key.take k))), (6, .int .i64 k)]) (fun _ => []) (fun k h' => h' = h ∧ k ≤ key.length) (fun k => key.length - k) 0 ?_ rfl ⟨rfl, Nat.zero_le _⟩ (by kernel_rfl) ?_
  · intro p hp
    simp at hp
    rcases hp with rfl | rfl | rfl | rfl <;> simp [hashM]
  · rintro k h' g ⟨hhe, hkk⟩
    subst hhe
    by_cases hkl : k < key.length
    · obtain ⟨b1, o1, v1, rfl, _, hr1, hc1⟩ := hk.get1 rfl k hkl
      have hv1 : v1 = .int .i64 key[k] := by simpa [rInt] using hr1
      subst hv1
      have hidx : ∀ (K : Value → Heap → Prop) (h : Heap), indexAddrS Tryz.prog 22 (.slice (some ⟨b1, o1, none⟩) key.length kc) (.int .i64 (k : Int)) h K = K (.pointer (some ⟨b1, o1 + k, none⟩)) h := by
        intro K h
        rw [indexAddrS_slice _ _ _ _ _ _ (by omega) (by omega) rfl]
        simp [elSz]
      have wk : IntKind.i64.wrap ((k : Int) + 1) = ((k + 1 : Nat) : Int) := by rw [wrap_i64 (by omega) (by omega)]; rfl
      obtain ⟨q0, q1⟩ := hashM_bound (key.take k)
      obtain ⟨p0, p1⟩ := hko key[k] (List.getElem_mem hkl)
      have hst := hashM_take hkl
      have hmd : (key[k]).tmod 1000003 = key[k] := Int.tmod_eq_of_lt p0 p1
      rw [hmd] at hst
      have w1 : IntKind.i64.wrap (31 * hashM (key.take k)) = 31 * hashM (key.take k) := wrap_i64 (by omega) (by omega)
      have w2 : IntKind.i64.wrap (31 * hashM (key.take k) + key[k]) = 31 * hashM (key.take k) + key[k] := wrap_i64 (by omega) (by omega)
      have w3 : IntKind.i64.wrap (31 * hashM (key.take k) + key[k] + 1) = 31 * hashM (key.take k) + key[k] + 1 := wrap_i64 (by omega) (by omega)
      simp -dsimp [hkl, hidx, hc1, w1, w2, w3, ← hst, wk]
      refine ⟨k + 1, ?_, rfl, ⟨rfl, by omega⟩, by show key.length - (k + 1) < key.length - k; omega⟩
      intro p hp
      simp at hp
      rcases hp with rfl | rfl | rfl | rfl <;> simp
    · have hall : key.take k = key := List.take_of_length_le (by omega)
      simp -dsimp [hkl, hall, hrem, hpl]
      exact hK _ _ ⟨rfl, rfl⟩
end Go.Proofs

/-
  Two cells as one.
-/
namespace Go.Proofs
open Go Go.HC

set_option maxHeartbeats 4000000 in
set_option maxRecDepth 10000 in
theorem both_spec {F G : Nat → Prop} {h : Heap} {av bv : Value} {xs ys : List Int} {f : FuncId} {g : Int → Int → Int} (hfn : FnOk Tryz.prog f)
    (hdo : ∀ (x y : Int) (h : Heap), CallH Tryz.prog f #[.int .i64 x, .int .i64 y] h fun r h' => r = .int .i64 (g x y) ∧ h' = h)
    (ha : SlRep rInt F h av xs) (hF : ∀ b, F b → b < h.size) (hb : SlRep rInt G h bv ys) (hG : ∀ b, G b → b < h.size) (hl : xs.length < 1000000000) :
    CallH Tryz.prog 76 #[av, bv, .func (.func f) #[] #[]] h fun r h' => ∃ own, Grow rInt 3 none_ h' r (List.zipWith g xs ys) own ∧ Keep none_ h h' ∧ ∀ b, own = some b → h.size ≤ b := by
  refine callH_by fun K hK => ?_
  refine enter [.tmp 6] Tryz.func76 rfl rfl (by kernel_rfl) rfl ?_
  obtain ⟨a0, c0, rfl, hc0, hc0'⟩ := ha.val
  obtain ⟨a1, c1, rfl, hc1, hc1'⟩ := hb.val
  have hzl : (List.zipWith g xs ys).length = min xs.length ys.length := List.length_zipWith
  simp -dsimp
  refine loop' (σ := Nat × Value) (fun t => [(1, .slice a1 ys.length c1), (2, .func (.func f) #[] #[]), (7, t.2), (10, .slice a0 xs.length c0), (11, .int .i64 xs.length), (12, .int .i64 t.1)]) (fun _ => [])
    (fun t h1 => Keep none_ h h1 ∧ t.1 ≤ xs.length ∧ ∃ own, Grow rInt 3 none_ h1 t.2 ((List.zipWith g xs ys).take t.1) own ∧ ∀ b, own = some b → h.size ≤ b) (fun t => xs.length - t.1) (0, .slice none 0 0) ?_ rfl ⟨.refl _ _, Nat.zero_le _, none, .nil _ _ _ _, fun b hb => by cases hb⟩ (by kernel_rfl) ?_
  · intro p hp
    simp at hp
    rcases hp with rfl | rfl | rfl | rfl | rfl | rfl <;> simp
  · rintro ⟨k, tv⟩ h1 gg ⟨k1, hk, own, hg, ho⟩
    simp only at hk hg
    have e1 := k1.size
    obtain ⟨ta, tc, htv⟩ := hg.val
    obtain ⟨m, hm⟩ : ∃ m, ((List.zipWith g xs ys).take k).length = m := ⟨_, rfl⟩
    rw [hm] at htv
    subst htv
    by_cases hkl : k < xs.length
    · have ha1 := ha.mono (F' := F) (h' := h1) fun b hb => ⟨hb, k1.blk b (hF b hb) (fun h => h)⟩
      obtain ⟨b1, o1, v1, rfl, _, hr1, hcc1⟩ := ha1.get1 rfl k hkl
      have hv1 : v1 = .int .i64 xs[k] := by simpa [rInt] using hr1
      subst hv1
      have hidx1 : ∀ (K : Value → Heap → Prop) (h : Heap), indexAddrS Tryz.prog 22 (.slice (some ⟨b1, o1, none⟩) xs.length c0) (.int .i64 (k : Int)) h K = K (.pointer (some ⟨b1, o1 + k, none⟩)) h := by
        intro K h
        rw [indexAddrS_slice _ _ _ _ _ _ (by omega) (by omega) rfl]
        simp [elSz]
      have wk : IntKind.i64.wrap ((k : Int) + 1) = ((k + 1 : Nat) : Int) := by rw [wrap_i64 (by omega) (by omega)]; rfl
      by_cases hky : k < ys.length
      · have hb1 := hb.mono (F' := G) (h' := h1) fun b hb => ⟨hb, k1.blk b (hG b hb) (fun h => h)⟩
        obtain ⟨b2, o2, v2, rfl, _, hr2, hcc2⟩ := hb1.get1 rfl k hky
        have hv2 : v2 = .int .i64 ys[k] := by simpa [rInt] using hr2
        subst hv2
        have hidx2 : ∀ (K : Value → Heap → Prop) (h : Heap), indexAddrS Tryz.prog 22 (.slice (some ⟨b2, o2, none⟩) ys.length c1) (.int .i64 (k : Int)) h K = K (.pointer (some ⟨b2, o2 + k, none⟩)) h := by
          intro K h
          rw [indexAddrS_slice _ _ _ _ _ _ (by omega) (by omega) rfl]
          simp [elSz]
        have htl : ((List.zipWith g xs ys).take k).length = k := by rw [List.length_take, hzl]; omega
        have hnx : (List.zipWith g xs ys).take (k + 1) = (List.zipWith g xs ys).take k ++ [g xs[k] ys[k]] := by
          rw [List.take_add_one, List.getElem?_eq_getElem (by rw [hzl]; omega), List.getElem_zipWith]
          rfl
        simp -dsimp [hkl, hidx1, hcc1, hky, hidx2, hcc2, hfn]
        refine call_by (hdo xs[k] ys[k] h1) ?_
        rintro _ h1' ⟨rfl, hh⟩
        obtain rfl := hh.symm
        simp -dsimp
        have hps : (h1.push (.cells #[.int .i64 (g xs[k] ys[k])] 3)).size = h1.size + 1 := by simp
        have hgp := hg.push (fun _ h => h.elim) (.cells #[.int .i64 (g xs[k] ys[k])] 3)
        refine append_grow (F2 := fun b => b = h1.size) (ys := [g xs[k] ys[k]]) intT hgp (fun _ (h : none_ _) => h.elim) rfl
          (.inr ⟨h1.size, 0, _, _, _, rfl, rfl, push_new _ _, rfl⟩) (.single rfl) (by rw [htl]; simp; omega) (by rw [htl]; simp; omega) ?_
        intro tv' h2 own' hg2 kk2 ho2
        rw [hps] at ho2
        have e2 := kk2.size
        rw [hps] at e2
        rw [← hnx] at hg2
        simp -dsimp [wk]
        refine ⟨(k + 1, tv'), ?_, rfl, ⟨⟨by omega, fun b hb _ => by rw [kk2.blk b (by omega) (fun e => by have := ho b e; omega), push_old _ (by omega), k1.blk b hb (fun h => h)]⟩, by show k + 1 ≤ xs.length; omega, own', hg2, fun b hb => (ho2 b hb).elim (ho b) (fun h => by omega)⟩, by show xs.length - (k + 1) < xs.length - k; omega⟩
        intro p hp
        simp at hp
        rcases hp with rfl | rfl | rfl | rfl | rfl | rfl <;> simp
      · have hnx : (List.zipWith g xs ys).take (k + 1) = (List.zipWith g xs ys).take k := by
          rw [List.take_of_length_le (by rw [hzl]; omega), List.take_of_length_le (by rw [hzl]; omega)]
        have hg' : Grow rInt 3 none_ h1 (.slice ta m tc) ((List.zipWith g xs ys).take (k + 1)) own := by rw [hnx]; exact hg
        simp -dsimp [hkl, hidx1, hcc1, hky, wk]
        refine ⟨(k + 1, .slice ta m tc), ?_, rfl, ⟨k1, by show k + 1 ≤ xs.length; omega, own, hg', ho⟩, by show xs.length - (k + 1) < xs.length - k; omega⟩
        intro p hp
        simp at hp
        rcases hp with rfl | rfl | rfl | rfl | rfl | rfl <;> simp
    · have hall : (List.zipWith g xs ys).take k = List.zipWith g xs ys := List.take_of_length_le (by rw [hzl]; omega)
      rw [hall] at hg
      simp -dsimp [hkl]
      refine call_by (cloneInt_spec hg.ints hg.own_lt (by rw [hzl]; omega)) ?_
      rintro _ h2 ⟨own2, hg2, k2, ho2⟩
      obtain ⟨a2, c2, hv2⟩ := hg2.val
      obtain ⟨m2, hm2⟩ : ∃ m, (List.zipWith g xs ys).length = m := ⟨_, rfl⟩
      rw [hm2] at hv2
      subst hv2
      simp -dsimp
      exact hK _ _ ⟨own2, hg2, k1.trans k2 (fun _ _ h => h), fun b hb => by have := ho2 b hb; omega⟩

set_option maxHeartbeats 40000000 in
set_option maxRecDepth 10000 in
theorem join_th {F G : Nat → Prop} {h : Heap} {cs ds : List Value} {a b : CellM} (ha : rCell.rep F h cs a) (hF : ∀ b, F b → b < h.size) (sa : CellSmall a) (hb : rCell.rep G h ds b) (hG : ∀ b, G b → b < h.size) :
    CallH Tryz.prog 65 #[.agg cs.toArray, .agg ds.toArray] h fun r h' => ∃ es E, r = .agg es.toArray ∧ rCell.rep E h' es (joinC a b) ∧ Keep none_ h h' ∧ (∀ b, E b → h.size ≤ b ∧ b < h'.size) ∧ ∀ b, E b → Thaw h' b := by
  refine callH_by fun K hK => ?_
  refine enter [.cell 4 46] Tryz.func65 rfl rfl (by kernel_rfl) rfl ?_
  obtain ⟨kv, sv, nv, xv, rfl, r1, r2, r3, r4⟩ := ha
  obtain ⟨ka, kc, rfl, _, _⟩ := r1.val
  obtain ⟨s1, sc, rfl, _, _⟩ := r2.val
  obtain ⟨na, nc, rfl, _, _⟩ := r3.val
  obtain ⟨xa, xc, rfl, _, _⟩ := r4.val
  obtain ⟨kv', sv', nv', xv', rfl, q1, q2, q3, q4⟩ := hb
  obtain ⟨ka', kc', rfl, _, _⟩ := q1.val
  obtain ⟨sa', sc', rfl, _, _⟩ := q2.val
  obtain ⟨na', nc', rfl, _, _⟩ := q3.val
  obtain ⟨xa', xc', rfl, _, _⟩ := q4.val
  simp -dsimp [boxS_eq]
  generalize hB : Array.push _ _ = h0
  have hz0 : h0.size = h.size + 3 := by rw [← hB]; simp
  have k0 : Keep none_ h h0 := by rw [← hB]; exact (((Keep.refl none_ h).pushed _).pushed _).pushed _
  have hp1 : ∀ o, (h.push o).size = h.size + 1 := fun o => by simp
  have hp2 : ∀ o o', ((h.push o).push o').size = h.size + 2 := fun o o' => by simp
  have hA0 : h0[h.size]? = some (.cells #[.slice ka a.key.length kc, .int .i64 a.count, .slice s1 a.sum.length sc, .slice na a.mn.length nc, .slice xa a.mx.length xc] 46 (0, 0)) := by rw [← hB]; exact push_at (push_at (push_new _ _))
  have hB0 : h0[h.size + 1]? = some (.cells #[.slice ka' b.key.length kc', .int .i64 b.count, .slice sa' b.sum.length sc', .slice na' b.mn.length nc', .slice xa' b.mx.length xc'] 46 (0, 0)) := by
    rw [← hB]; refine push_at ?_; rw [← hp1]; exact push_new _ _
  have hT0 : h0[h.size + 2]? = some (.cells #[.slice none 0 0, .int .i64 0, .slice none 0 0, .slice none 0 0, .slice none 0 0] 46 (0, 0)) := by
    rw [← hB, ← hp2]; exact push_new _ _
  have m1 : ∀ (h' : Heap), Keep none_ h h' → ∀ b, F b → F b ∧ h'[b]? = h[b]? := fun h' k b hb => ⟨hb, k.blk b (hF b hb) (fun h => h)⟩
  have m2 : ∀ (h' : Heap), Keep none_ h h' → ∀ b, G b → G b ∧ h'[b]? = h[b]? := fun h' k b hb => ⟨hb, k.blk b (hG b hb) (fun h => h)⟩
  refine drawn_by [⟨0, true, []⟩, ⟨1, true, []⟩, ⟨3, true, []⟩, ⟨4, true, []⟩, ⟨5, true, []⟩, ⟨6, true, []⟩, ⟨7, true, []⟩, ⟨8, true, []⟩, ⟨9, true, []⟩, ⟨10, true, []⟩, ⟨11, true, []⟩, ⟨13, true, []⟩, ⟨14, true, []⟩, ⟨15, true, []⟩, ⟨16, true, []⟩, ⟨18, true, []⟩, ⟨19, true, []⟩, ⟨20, true, []⟩, ⟨21, true, []⟩, ⟨2, false, [3, 4, 5, 6, 7, 8, 9, 10, 11, 13, 14, 15, 16, 18, 19, 20, 21]⟩, ⟨12, false, [3, 4, 5, 6, 7, 13, 14, 15, 16, 18, 19, 20, 21]⟩, ⟨17, false, [3, 4, 5, 6, 7, 18, 19, 20, 21]⟩, ⟨22, false, [3, 4, 5, 6, 7]⟩, ⟨23, false, []⟩, ⟨24, false, []⟩] (by kernel_rfl) (by kernel_rfl) ?_
  simp -dsimp [hA0, hB0]
  refine call_by (cloneInt_spec (r1.mono (m1 h0 k0)) (fun b hb => by have := hF b hb; omega) (by have := sa.key; omega)) ?_
  rintro _ h1 ⟨o1, g1, k1, n1⟩
  obtain ⟨a1, c1, rfl⟩ := g1.val
  have k01 := k0.trans k1 (fun _ _ h => h)
  have hA1 := k1.at hA0 (fun h => h)
  have hB1 := k1.at hB0 (fun h => h)
  have e1 := k1.size
  simp -dsimp [again_cons, hA1, hB1]
  refine call_by (both_spec (f := 77) (by simp) add_spec (r2.mono (m1 h1 k01)) (fun b hb => by have := hF b hb; omega) (q2.mono (m2 h1 k01)) (fun b hb => by have := hG b hb; omega) sa.sum) ?_
  rintro _ h2 ⟨o2, g2, k2, n2⟩
  obtain ⟨a2, c2, hv2⟩ := g2.val
  obtain ⟨l2, hl2⟩ : ∃ m, (List.zipWith (fun x y => IntKind.i64.wrap (x + y)) a.sum b.sum).length = m := ⟨_, rfl⟩
  rw [hl2] at hv2
  subst hv2
  have k02 := k01.trans k2 (fun _ _ h => h)
  have hA2 := k2.at hA1 (fun h => h)
  have hB2 := k2.at hB1 (fun h => h)
  have e2 := k2.size
  simp -dsimp [again_cons, hA2, hB2]
  refine call_by (both_spec (f := 78) (by simp) min_spec (r3.mono (m1 h2 k02)) (fun b hb => by have := hF b hb; omega) (q3.mono (m2 h2 k02)) (fun b hb => by have := hG b hb; omega) sa.mn) ?_
  rintro _ h3 ⟨o3, g3, k3, n3⟩
  obtain ⟨a3, c3, hv3⟩ := g3.val
  obtain ⟨l3, hl3⟩ : ∃ m, (List.zipWith min a.mn b.mn).length = m := ⟨_, rfl⟩
  rw [hl3] at hv3
  subst hv3
  have k03 := k02.trans k3 (fun _ _ h => h)
  have hA3 := k3.at hA2 (fun h => h)
  have hB3 := k3.at hB2 (fun h => h)
  have e3 := k3.size
  simp -dsimp [again_cons, hA3, hB3]
  refine call_by (both_spec (f := 79) (by simp) max_spec (r4.mono (m1 h3 k03)) (fun b hb => by have := hF b hb; omega) (q4.mono (m2 h3 k03)) (fun b hb => by have := hG b hb; omega) sa.mx) ?_
  rintro _ h4 ⟨o4, g4, k4, n4⟩
  obtain ⟨a4, c4, hv4⟩ := g4.val
  obtain ⟨l4, hl4⟩ : ∃ m, (List.zipWith max a.mx b.mx).length = m := ⟨_, rfl⟩
  rw [hl4] at hv4
  subst hv4
  have k04 := k03.trans k4 (fun _ _ h => h)
  have hA4 := k4.at hA3 (fun h => h)
  have hB4 := k4.at hB3 (fun h => h)
  have hT4 := k4.at (k3.at (k2.at (k1.at hT0 (fun h => h)) (fun h => h)) (fun h => h)) (fun h => h)
  have e4 := k4.size
  have hset : ∀ o, (h4.setIfInBounds (h.size + 2) o)[h.size + 2]? = some o := fun o => set_same o (by omega)
  simp -dsimp [again_cons, hA4, hB4, hT4, hset]
  generalize hH : h4.setIfInBounds (h.size + 2) _ = h5
  have hz5 : h5.size = h4.size := by rw [← hH]; simp
  have hold : ∀ b, b ≠ h.size + 2 → h5[b]? = h4[b]? := fun b hn => by rw [← hH, set_other _ (fun e => hn e.symm)]
  have p1 := g1.own_lt
  have p2 := g2.own_lt
  have p3 := g3.own_lt
  have p4 := g4.own_lt
  refine hK _ _ ⟨_, fun b => o1 = some b ∨ o2 = some b ∨ o3 = some b ∨ o4 = some b, rfl, ⟨_, _, _, _, rfl, ?_, ?_, ?_, ?_⟩, ⟨by omega, fun b hb _ => by rw [hold b (by omega), k04.blk b hb (fun h => h)]⟩, ?_, ?_⟩
  · exact g1.ints.mono fun b hb => ⟨.inl hb, by
      have := n1 b hb
      have := p1 b hb
      rw [hold b (by omega), k4.blk b (by omega) (fun h => h), k3.blk b (by omega) (fun h => h), k2.blk b (by omega) (fun h => h)]⟩
  · exact g2.ints.mono fun b hb => ⟨.inr (.inl hb), by
      have := n2 b hb
      have := p2 b hb
      rw [hold b (by omega), k4.blk b (by omega) (fun h => h), k3.blk b (by omega) (fun h => h)]⟩
  · exact g3.ints.mono fun b hb => ⟨.inr (.inr (.inl hb)), by
      have := n3 b hb
      have := p3 b hb
      rw [hold b (by omega), k4.blk b (by omega) (fun h => h)]⟩
  · exact g4.ints.mono fun b hb => ⟨.inr (.inr (.inr hb)), by
      have := n4 b hb
      rw [hold b (by omega)]⟩
  · rintro b (hb | hb | hb | hb)
    · have := n1 b hb; have := p1 b hb; omega
    · have := n2 b hb; have := p2 b hb; omega
    · have := n3 b hb; have := p3 b hb; omega
    · have := n4 b hb; have := p4 b hb; omega
  · rintro b (hb | hb | hb | hb)
    · refine (g1.thaw b hb).at ?_
      have := n1 b hb; have := p1 b hb
      rw [hold b (by omega), k4.blk b (by omega) (fun h => h), k3.blk b (by omega) (fun h => h), k2.blk b (by omega) (fun h => h)]
    · refine (g2.thaw b hb).at ?_
      have := n2 b hb; have := p2 b hb
      rw [hold b (by omega), k4.blk b (by omega) (fun h => h), k3.blk b (by omega) (fun h => h)]
    · refine (g3.thaw b hb).at ?_
      have := n3 b hb; have := p3 b hb
      rw [hold b (by omega), k4.blk b (by omega) (fun h => h)]
    · refine (g4.thaw b hb).at ?_
      have := n4 b hb
      rw [hold b (by omega)]
theorem join_spec {F G : Nat → Prop} {h : Heap} {cs ds : List Value} {a b : CellM} (ha : rCell.rep F h cs a) (hF : ∀ b, F b → b < h.size) (sa : CellSmall a) (hb : rCell.rep G h ds b) (hG : ∀ b, G b → b < h.size) :
    CallH Tryz.prog 65 #[.agg cs.toArray, .agg ds.toArray] h fun r h' => ∃ es E, r = .agg es.toArray ∧ rCell.rep E h' es (joinC a b) ∧ Keep none_ h h' ∧ ∀ b, E b → h.size ≤ b ∧ b < h'.size :=
  (join_th ha hF sa hb hG).mono fun _ _ ⟨ds, G, e, r, k, n, _⟩ => ⟨ds, G, e, r, k, n⟩
end Go.Proofs

/-
  A cell in memory of its own, by way of a group of one.
-/
namespace Go.Proofs
open Go Go.HC

set_option maxRecDepth 10000 in
theorem cloneCell_spec {F : Nat → Prop} {h : Heap} {v : Value} {xs : List CellM} {own : Option Nat} (hg : Grow rCell 46 F h v xs own) (hF : ∀ b, F b → b < h.size) (hn : xs.length < 1000000000) :
    CallH Tryz.prog 28 #[v] h fun r h' => ∃ own', Grow rCell 46 F h' r xs own' ∧ Keep none_ h h' ∧ ∀ b, own' = some b → h.size ≤ b := by
  refine enter [.tmp 2] Tryz.func28 rfl rfl (by kernel_rfl) rfl ?_
  have hl := hg.own_lt
  rcases hg with ⟨rfl, rfl, rfl⟩ | ⟨bk, c, arr, cs, rfl, rfl, h1, h2, h3, h4, h5, h6, h7⟩
  · simp -dsimp
    exact ⟨none, .nil _ _ _ _, .refl _ _, fun b hb => by cases hb⟩
  · obtain ⟨cs', _, hq1, hq2, hcel, hel⟩ := (Grow.cells (R := rCell) (.inr ⟨bk, c, arr, cs, rfl, rfl, h1, h2, h3, h4, h5, h6, h7⟩) : ∃ cs, _)
    simp -dsimp
    refine clone_cells (F := F) (F2 := fun b => some bk = some b) cellT hF hl rfl hcel hel (by omega) (by omega) ?_
    intro v' h' own' hg' hk ho hz
    obtain ⟨a', c', rfl⟩ := hg'.val
    simp -dsimp
    exact ⟨own', hg', hk, ho⟩

set_option maxRecDepth 10000 in
theorem searchNil_spec {h : Heap} {cs : List Value} (hl : cs.length = 5) (ho : cs.all Value.oneCell' = true) (fv : Value) :
    CallH Tryz.prog 63 #[.slice none 0 0, .agg cs.toArray, fv] h fun r h' => r = .tuple #[.int .i64 0, .bool false] ∧ Keep none_ h h' := by
  refine callH_by fun K hK => ?_
  obtain ⟨v0, v1, v2, v3, v4, rfl⟩ : ∃ v0 v1 v2 v3 v4, cs = [v0, v1, v2, v3, v4] := by
    match cs, hl with
    | [a, b, c, d, e], _ => exact ⟨a, b, c, d, e, rfl⟩
  simp only [List.all_cons, List.all_nil, Bool.and_true, Bool.and_eq_true] at ho
  obtain ⟨u0, u1, u2, u3, u4⟩ := ho
  refine enter [.tmp 6, .tmp 7] Tryz.func63 rfl rfl (by kernel_rfl) rfl ?_
  simp -dsimp [boxS_eq]
  generalize hB : h.push _ = h0
  have k0 : Keep none_ h h0 := by rw [← hB]; exact .push _ _ _
  refine loop' (σ := Unit) (fun _ => [(8, .int .i64 0), (9, .int .i64 0), (10, .int .i64 0)]) (fun _ => []) (fun _ h' => h' = h0) (fun _ => 0) () ?_ rfl rfl (by kernel_rfl) ?_
  · intro p hp
    simp at hp
    rcases hp with rfl | rfl | rfl <;> simp
  · rintro _ h' g rfl
    simp -dsimp
    refine drawn_by [⟨0, true, []⟩, ⟨1, true, []⟩, ⟨2, true, []⟩, ⟨3, true, []⟩, ⟨4, true, []⟩, ⟨5, true, []⟩, ⟨6, true, []⟩, ⟨7, true, []⟩, ⟨8, true, []⟩, ⟨9, true, []⟩, ⟨10, true, []⟩, ⟨11, false, [0]⟩, ⟨12, true, []⟩, ⟨13, true, []⟩, ⟨14, true, []⟩, ⟨15, true, []⟩] (by kernel_rfl) (by kernel_rfl) ?_
    simp -dsimp
    exact hK _ _ ⟨rfl, k0⟩

set_option maxRecDepth 10000 in
theorem insertNil_spec {F : Nat → Prop} {h : Heap} {cs : List Value} {c : CellM} {sb : Nat} (hr : rCell.rep F h cs c) (hF : ∀ b, F b → b < h.size) (hs : h[sb]? = some (.cells cs.toArray 46 (0, 0))) :
    CallH Tryz.prog 66 #[.slice none 0 0, .int .i64 0, .slice (some ⟨sb, 0, none⟩) 1 1] h fun r h' => ∃ own, Grow rCell 46 F h' r [c] own ∧ Keep none_ h h' ∧ ∀ b, own = some b → h.size ≤ b := by
  refine callH_by fun K hK => ?_
  refine enter [.tmp 6] Tryz.func66 rfl rfl (by kernel_rfl) rfl ?_
  have hsl : ∀ (K : Value → Heap → Prop) (h : Heap), sliceS Tryz.prog 31 (.slice none 0 0) (some (.int .i64 0)) none none h K = K (.slice none 0 0) h := fun K h =>
    sliceS_slice (P := Tryz.prog) (T := 31) (a := none) (n := 0) (c := 0) (lo := some (.int .i64 ((0 : Nat) : Int))) (hi := none) (mx := none) (i := 0) (j := 0) (m := 0) Tryz.elS31 Tryz.szS46 (.inl ⟨rfl, rfl⟩) (.inl ⟨rfl, rfl⟩) (.inr ⟨_, rfl⟩) (by omega) (by omega) (by omega)
  simp -dsimp [hsl]
  have hcl := rCell.len hr
  refine append_grow (F := F) (F2 := fun b => b = sb) (ys := [c]) cellT (Grow.nil _ _ _ _) hF rfl (.inr ⟨sb, 0, _, _, _, rfl, rfl, hs, by simp⟩) (.single hr) (by simp) (by simp) ?_
  intro v' h' own' hg hk ho
  obtain ⟨a', c', rfl⟩ := hg.val
  simp -dsimp
  exact hK _ _ ⟨own', hg, ⟨hk.size, fun b hb _ => hk.blk b hb (fun e => by cases e)⟩, fun b hb => (ho b hb).elim (fun e => by cases e) id⟩

set_option maxHeartbeats 4000000 in
set_option maxRecDepth 10000 in
theorem put1_spec {F : Nat → Prop} {h : Heap} {cs : List Value} {c : CellM} {ob : Nat} {fv jv : Value} (hr : rCell.rep F h cs c) (hF : ∀ b, F b → b < h.size) (hFo : ¬ F ob) (_hfv : fv.oneCell' = true) (hs : h[ob]? = some (.cells #[.slice none 0 0, fv] 106 (0, 0))) :
    CallH Tryz.prog 74 #[.pointer (some ⟨ob, 0, none⟩), .agg cs.toArray, jv] h fun r h' => r = .tuple #[] ∧ ∃ v own, h'[ob]? = some (.cells #[v, fv] 106 (0, 0)) ∧ Grow rCell 46 F h' v [c] own ∧ Keep (fun b => b = ob) h h' ∧ ∀ b, own = some b → h.size ≤ b := by
  refine callH_by fun K hK => ?_
  refine enter [] Tryz.func74 rfl rfl (by kernel_rfl) rfl ?_
  have hlen := rCell.len hr
  have hone := rCell.one hr
  obtain ⟨v0, v1, v2, v3, v4, rfl⟩ : ∃ v0 v1 v2 v3 v4, cs = [v0, v1, v2, v3, v4] := by
    match cs, hlen with
    | [a, b, c, d, e], _ => exact ⟨a, b, c, d, e, rfl⟩
  have hone' := hone
  simp only [List.all_cons, List.all_nil, Bool.and_true, Bool.and_eq_true] at hone'
  obtain ⟨u0, u1, u2, u3, u4⟩ := hone'
  have hob := lt_of_blk hs
  simp -dsimp [boxS_eq]
  generalize hB : h.push _ = h0
  have k0 : Keep none_ h h0 := by rw [← hB]; exact .push _ _ _
  have hz0 : h0.size = h.size + 1 := by rw [← hB]; simp
  have hc0 : h0[h.size]? = some (.cells #[v0, v1, v2, v3, v4] 46 (0, 0)) := by rw [← hB]; exact push_new _ _
  have hs0 := k0.at hs (fun h => h)
  refine drawn_by [⟨0, true, []⟩, ⟨1, true, []⟩, ⟨2, true, []⟩, ⟨3, true, []⟩, ⟨4, true, []⟩, ⟨5, true, []⟩, ⟨6, true, []⟩, ⟨7, true, []⟩, ⟨8, true, []⟩, ⟨9, false, []⟩, ⟨10, true, []⟩, ⟨11, true, []⟩, ⟨12, true, []⟩, ⟨13, true, []⟩, ⟨14, true, []⟩] (by kernel_rfl) (by kernel_rfl) ?_
  simp -dsimp [hs0, hc0]
  refine call_by (searchNil_spec hlen hone fv) ?_
  rintro _ h1 ⟨rfl, k1⟩
  have k01 := k0.trans k1 (fun _ _ h => h)
  have hs1 := k1.at hs0 (fun h => h)
  have hc1 := k1.at hc0 (fun h => h)
  have e1 := k1.size
  simp -dsimp
  refine drawn_by [⟨0, true, []⟩, ⟨1, true, []⟩, ⟨2, true, []⟩, ⟨3, true, []⟩, ⟨4, true, []⟩, ⟨5, true, []⟩, ⟨6, true, []⟩, ⟨7, false, [0, 1, 2, 3, 4, 5]⟩, ⟨8, false, [0]⟩, ⟨9, true, []⟩, ⟨10, true, []⟩, ⟨11, false, []⟩] (by kernel_rfl) (by kernel_rfl) ?_
  have hs1' := push_at (o := .cells #[v0, v1, v2, v3, v4] 46) hs1
  simp -dsimp [again_cons, hs1, hc1, hs1']
  generalize hB2 : h1.push _ = h2
  have k2 : Keep none_ h1 h2 := by rw [← hB2]; exact .push _ _ _
  have hz2 : h2.size = h1.size + 1 := by rw [← hB2]; simp
  have hc2 : h2[h1.size]? = some (.cells #[v0, v1, v2, v3, v4] 46 (0, 0)) := by rw [← hB2]; exact push_new _ _
  have k02 := k01.trans k2 (fun _ _ h => h)
  have hs2 := k2.at hs1 (fun h => h)
  have hr2 := rCell.mono hr fun b hb => (⟨hb, k02.blk b (hF b hb) (fun h => h)⟩ : F b ∧ h2[b]? = h[b]?)
  refine call_by (insertNil_spec hr2 (fun b hb => by have := hF b hb; omega) hc2) ?_
  rintro _ h3 ⟨own3, hg3, k3, ho3⟩
  obtain ⟨a3, c3, rfl⟩ := hg3.val
  have hs3 := k3.at hs2 (fun h => h)
  have e3 := k3.size
  simp -dsimp [again_cons, hs3]
  generalize hH : h3.setIfInBounds ob _ = h4
  have hz4 : h4.size = h3.size := by rw [← hH]; simp
  have k03 := k02.trans k3 (fun _ _ h => h)
  have hob3 : own3 ≠ some ob := fun e => by have := ho3 ob e; omega
  refine hK _ _ ⟨rfl, _, own3, by rw [← hH]; exact set_same _ (lt_of_blk hs3), hg3.mono (fun b hb => ⟨hb, by rw [← hH]; exact set_other _ (fun e => hFo (e ▸ hb))⟩) fun b hb => ⟨fun hFb => by have := hF b hFb; have := ho3 b hb; omega, by rw [← hH]; exact set_other _ (fun e => hob3 (e ▸ hb))⟩,
      ⟨by omega, fun b hb hn => by rw [← hH, set_other _ (fun e => hn e.symm), k03.blk b hb (fun h => h)]⟩, fun b hb => by have := ho3 b hb; omega⟩

set_option maxHeartbeats 4000000 in
set_option maxRecDepth 10000 in
theorem group1_th {F : Nat → Prop} {h : Heap} {cs : List Value} {c : CellM} {sb : Nat} (hr : rCell.rep F h cs c) (hF : ∀ b, F b → b < h.size) (hc : CellSmall c) (hs : h[sb]? = some (.cells cs.toArray 46 (0, 0))) :
    CallH Tryz.prog 55 #[.slice (some ⟨sb, 0, none⟩) 1 1] h fun r h' => ∃ E own, Grow rCell 46 E h' r [c] own ∧ Keep none_ h h' ∧ (∀ b, E b → h.size ≤ b ∧ b < h'.size ∧ Thaw h' b) ∧ ∀ b, own = some b → h.size ≤ b := by
  refine callH_by fun K hK => ?_
  refine enter [.tmp 2] Tryz.func55 rfl rfl (by kernel_rfl) rfl ?_
  have hlen := rCell.len hr
  have hone := rCell.one hr
  obtain ⟨v0, v1, v2, v3, v4, rfl⟩ : ∃ v0 v1 v2 v3 v4, cs = [v0, v1, v2, v3, v4] := by
    match cs, hlen with
    | [a, b, c, d, e], _ => exact ⟨a, b, c, d, e, rfl⟩
  simp only [List.all_cons, List.all_nil, Bool.and_true, Bool.and_eq_true] at hone
  obtain ⟨u0, u1, u2, u3, u4⟩ := hone
  have hsb := lt_of_blk hs
  simp -dsimp
  generalize hB : Array.setIfInBounds _ h.size _ = h0
  have k0 : Keep none_ h h0 := by rw [← hB]; exact ((Keep.refl none_ h).pushed _).setted _ (fun hh => absurd hh (by omega))
  have hz0 : h0.size = h.size + 1 := by rw [← hB]; simp
  have ho0 : h0[h.size]? = some (.cells #[.slice none 0 0, .func (.func 72) #[] #[]] 106 (0, 0)) := by rw [← hB]; exact set_same _ (by simp)
  have hs0 := k0.at hs (fun h => h)
  have hidx : ∀ (K : Value → Heap → Prop) (h : Heap), indexAddrS Tryz.prog 31 (.slice (some ⟨sb, 0, none⟩) 1 1) (.int .i64 0) h K = K (.pointer (some ⟨sb, 0, none⟩)) h := by
    intro K h
    rw [indexAddrS_slice (i := 0) _ _ _ _ _ (by omega) (by omega) rfl]
    simp [elSz]
  refine loop' (σ := Bool) (fun t => [(3, .pointer (some ⟨h.size, 0, none⟩)), (7, .slice (some ⟨sb, 0, none⟩) 1 1), (8, .int .i64 1), (9, .int .i64 (if t = true then 1 else 0))]) (fun _ => [])
    (fun t h1 => (t = false ∧ h1 = h0) ∨ (t = true ∧ Keep none_ h h1 ∧ ∃ E v own, h1[h.size]? = some (.cells #[v, .func (.func 72) #[] #[]] 106 (0, 0)) ∧ Grow rCell 46 E h1 v [c] own ∧ (∀ b, E b → h.size ≤ b ∧ b < h1.size ∧ Thaw h1 b) ∧ ∀ b, own = some b → h.size ≤ b))
    (fun t => if t = true then 0 else 1) false ?_ rfl (.inl ⟨rfl, rfl⟩) (by kernel_rfl) ?_
  · intro p hp
    simp at hp
    rcases hp with rfl | rfl | rfl | rfl <;> simp
  · rintro t h1 g (⟨rfl, rfl⟩ | ⟨rfl, k1, E, v, own, ho1, hg, hE, ho⟩)
    · simp -dsimp [hidx, hs0, u0, u1, u2, u3, u4]
      generalize hB2 : Array.setIfInBounds _ h1.size _ = h2
      have k2 : Keep none_ h1 h2 := by rw [← hB2]; exact ((Keep.refl none_ h1).pushed _).setted _ (fun hh => absurd hh (by omega))
      have hz2 : h2.size = h1.size + 1 := by rw [← hB2]; simp
      have hc2 : h2[h1.size]? = some (.cells #[v0, v1, v2, v3, v4] 46 (0, 0)) := by rw [← hB2]; exact set_same _ (by simp)
      have k02 := k0.trans k2 (fun _ _ h => h)
      have hr2 := rCell.mono hr fun b hb => (⟨hb, k02.blk b (hF b hb) (fun h => h)⟩ : F b ∧ h2[b]? = h[b]?)
      have ho2 := k2.at ho0 (fun h => h)
      refine call_by (cellOwn_th hr2 (fun b hb => by have := hF b hb; omega) hc) ?_
      rintro _ h3 ⟨ds, E, rfl, hr3, k3, hE, hT⟩
      have ho3 := k3.at ho2 (fun h => h)
      have e3 := k3.size
      simp -dsimp
      refine call_by (put1_spec hr3 (fun b hb => (hE b hb).2) (fun hb => by have := (hE _ hb).1; omega) rfl ho3) ?_
      rintro _ h4 ⟨rfl, v, own, ho4, hg4, k4, ho⟩
      have e4 := k4.size
      have k03 := k02.trans k3 (fun _ _ h => h)
      simp -dsimp
      refine ⟨true, ?_, rfl, .inr ⟨rfl, ⟨by omega, fun b hb _ => by rw [k4.blk b (by omega) (by omega), k03.blk b hb (fun h => h)]⟩, E, v, ho4, own, hg4, fun b hb => by have := hE b hb; exact ⟨by omega, by omega, (hT b hb).at (k4.blk b (by omega) (by omega))⟩, fun b hb => by have := ho b hb; omega⟩, by simp⟩
      intro p hp
      simp at hp
      rcases hp with rfl | rfl | rfl | rfl <;> simp
    · obtain ⟨a, cc, rfl⟩ := hg.val
      simp -dsimp [ho1]
      refine call_by (cloneCell_spec hg (fun b hb => (hE b hb).2.1) (by simp)) ?_
      rintro _ h2 ⟨own2, hg2, k2, ho2⟩
      obtain ⟨a2, c2, rfl⟩ := hg2.val
      have e1 := k1.size
      have e2 := k2.size
      simp -dsimp
      exact hK _ _ ⟨E, own2, hg2, k1.trans k2 (fun _ _ h => h), fun b hb => by have := hE b hb; exact ⟨this.1, by omega, this.2.2.at (k2.blk b this.2.1 (fun h => h))⟩, fun b hb => by have := ho2 b hb; omega⟩

set_option maxHeartbeats 4000000 in
set_option maxRecDepth 10000 in
theorem hashOwn_th {F : Nat → Prop} {h : Heap} {cs : List Value} {c : CellM} (hr : rCell.rep F h cs c) (hF : ∀ b, F b → b < h.size) (hc : CellSmall c) :
    CallH Tryz.prog 97 #[.agg cs.toArray] h fun r h' => ∃ ds G, r = .agg ds.toArray ∧ rCell.rep G h' ds c ∧ Keep none_ h h' ∧ ∀ b, G b → h.size ≤ b ∧ b < h'.size ∧ Thaw h' b := by
  refine callH_by fun K hK => ?_
  refine enter [.cell 2 46] Tryz.func97 rfl rfl (by kernel_rfl) rfl ?_
  have hlen := rCell.len hr
  have hone := rCell.one hr
  obtain ⟨v0, v1, v2, v3, v4, rfl⟩ : ∃ v0 v1 v2 v3 v4, cs = [v0, v1, v2, v3, v4] := by
    match cs, hlen with
    | [a, b, c, d, e], _ => exact ⟨a, b, c, d, e, rfl⟩
  simp only [List.all_cons, List.all_nil, Bool.and_true, Bool.and_eq_true] at hone
  obtain ⟨u0, u1, u2, u3, u4⟩ := hone
  simp -dsimp [boxS_eq]
  generalize hB : (h.push _).push _ = h0
  have k0 : Keep none_ h h0 := by rw [← hB]; exact ((Keep.refl none_ h).pushed _).pushed _
  have hz0 : h0.size = h.size + 2 := by rw [← hB]; simp
  have hc0 : h0[h.size]? = some (.cells #[v0, v1, v2, v3, v4] 46 (0, 0)) := by rw [← hB]; exact push_at (push_new _ _)
  have ht0 : h0[h.size + 1]? = some (.cells #[.slice none 0 0, .int .i64 0, .slice none 0 0, .slice none 0 0, .slice none 0 0] 46 (0, 0)) := by
    rw [← hB]
    have : (h.push (.cells #[v0, v1, v2, v3, v4] 46)).size = h.size + 1 := by simp
    rw [← this]; exact push_new _ _
  simp -dsimp [hc0]
  generalize hB2 : h0.push _ = h1
  have k1 : Keep none_ h0 h1 := by rw [← hB2]; exact .push _ _ _
  have hz1 : h1.size = h0.size + 1 := by rw [← hB2]; simp
  have hc1 : h1[h0.size]? = some (.cells #[v0, v1, v2, v3, v4] 46 (0, 0)) := by rw [← hB2]; exact push_new _ _
  have k01 := k0.trans k1 (fun _ _ h => h)
  have ht1 := k1.at ht0 (fun h => h)
  have hr1 := rCell.mono hr fun b hb => (⟨hb, k01.blk b (hF b hb) (fun h => h)⟩ : F b ∧ h1[b]? = h[b]?)
  refine call_by (group1_th hr1 (fun b hb => by have := hF b hb; omega) hc hc1) ?_
  rintro _ h2 ⟨E, own, hg, k2, hE, ho⟩
  obtain ⟨a2, c2, rfl⟩ := hg.val
  obtain ⟨bk, es, rfl, hown, hrr, hce⟩ := hg.elem 0 (by simp)
  have hrr' : rCell.rep E h2 es c := hrr
  have ht2 := k2.at ht1 (fun h => h)
  have e2 := k2.size
  have hlen2 := rCell.len hrr'
  have hone2 := rCell.one hrr'
  obtain ⟨w0, w1, w2, w3, w4, rfl⟩ : ∃ w0 w1 w2 w3 w4, es = [w0, w1, w2, w3, w4] := by
    match es, hlen2 with
    | [a, b, c, d, e], _ => exact ⟨a, b, c, d, e, rfl⟩
  simp only [List.all_cons, List.all_nil, Bool.and_true, Bool.and_eq_true] at hone2
  obtain ⟨z0, z1, z2, z3, z4⟩ := hone2
  have hce' : HC.cellsIn h2[bk]? 0 5 = some [w0, w1, w2, w3, w4] := hce
  have hidx : ∀ (K : Value → Heap → Prop) (h : Heap), indexAddrS Tryz.prog 31 (.slice (some ⟨bk, 0, none⟩) 1 c2) (.int .i64 0) h K = K (.pointer (some ⟨bk, 0, none⟩)) h := by
    intro K h
    rw [indexAddrS_slice (i := 0) _ _ _ _ _ (by omega) (by omega) rfl]
    simp [elSz]
  have hset : ∀ o, (h2.setIfInBounds (h.size + 1) o)[h.size + 1]? = some o := fun o => set_same o (by omega)
  simp -dsimp [hidx, hce', ht2, hset, z0, z1, z2, z3, z4]
  generalize hH : h2.setIfInBounds (h.size + 1) _ = h3
  have hz3 : h3.size = h2.size := by rw [← hH]; simp
  have hold : ∀ b, b ≠ h.size + 1 → h3[b]? = h2[b]? := fun b hn => by rw [← hH, set_other _ (fun e => hn e.symm)]
  refine hK _ _ ⟨[w0, w1, w2, w3, w4], E, rfl, rCell.mono hrr' fun b hb => ⟨hb, hold b (by have := hE b hb; omega)⟩, ⟨by omega, fun b hb _ => by rw [hold b (by omega), k2.blk b (by omega) (fun h => h), k01.blk b hb (fun h => h)]⟩, fun b hb => by have := hE b hb; exact ⟨by omega, by omega, this.2.2.at (hold b (by omega))⟩⟩
theorem hashOwn_spec {F : Nat → Prop} {h : Heap} {cs : List Value} {c : CellM} (hr : rCell.rep F h cs c) (hF : ∀ b, F b → b < h.size) (hc : CellSmall c) :
    CallH Tryz.prog 97 #[.agg cs.toArray] h fun r h' => ∃ ds G, r = .agg ds.toArray ∧ rCell.rep G h' ds c ∧ Keep none_ h h' ∧ ∀ b, G b → h.size ≤ b ∧ b < h'.size :=
  (hashOwn_th hr hF hc).mono fun _ _ ⟨ds, G, e, r, k, n⟩ => ⟨ds, G, e, r, k, fun b hb => ⟨(n b hb).1, (n b hb).2.1⟩⟩
end Go.Proofs

/-
  The program's table: made; a cell is put.
-/
namespace Go.HC
theorem zeros_succ (z : Value) (n : Nat) (_hs : 0 < z.cells.size) : (zeros z (n + 1)).toList = z.cells.toList ++ (zeros z n).toList := by
  unfold zeros
  simp only [Array.toList_map, Array.toList_range]
  rw [Nat.succ_mul, Nat.add_comm, List.range_add, List.map_append, List.map_map]
  congr 1
  · apply List.ext_getElem
    · simp
    · intro i h1 h2
      have h3 : i < z.cells.size := by simpa using h2
      simp [Nat.mod_eq_of_lt h3, h3]
  · apply List.map_congr_left
    intro i _
    simp
theorem zeros_elems {α : Type} {R : Rp α} {F : Nat → Prop} {h : Heap} {z : Value} {x : α} (hr : R.rep F h z.cells.toList x) : ∀ (n : Nat), Elems R F h (zeros z n).toList (List.replicate n x)
  | 0 => by simp [zeros, Elems]
  | n + 1 => by
    have hl := R.len hr
    have hp := R.pos
    rw [zeros_succ z n (by simp at hl; omega), List.replicate_succ]
    exact ⟨_, _, rfl, hr, zeros_elems hr n⟩
/-- No row of a stored cell is too long. -/
def TabSmall (T : Tab) : Prop := ∀ (k : Nat) (c : CellM), T[k]? = some (some c) → CellSmall c
theorem joinC_small {a b : CellM} (h : CellSmall a) : CellSmall (joinC a b) :=
  ⟨h.key, by have := h.sum; simp [joinC]; omega, by have := h.mn; simp [joinC]; omega, by have := h.mx; simp [joinC]; omega⟩
theorem put_small {T T' : Tab} {c : CellM} (h : TabSmall T) (hc : CellSmall c) (hp : putM T c = some T') : TabSmall T' := by
  unfold putM at hp
  split at hp
  · cases hp
  · rename_i k hf
    simp only [Option.some.injEq] at hp
    subst hp
    intro m d hd
    rw [List.getElem?_set] at hd
    split at hd
    · split at hd
      · simp only [Option.some.injEq] at hd
        split at hd
        · rename_i e he
          cases hd
          exact joinC_small (h _ _ he)
        · cases hd; exact hc
      · cases hd
    · exact h m d hd
end Go.HC
namespace Go.Proofs
open Go Go.HC

set_option maxRecDepth 10000 in
theorem hnew_spec (n : Nat) (hn : n < 1000000000) (h : Heap) : CallH Tryz.prog 85 #[.int .i64 n] h fun r h' => ∃ F, TabAt r F h' (newM n) ∧ Keep none_ h h' ∧ ∀ b, F b → h.size ≤ b := by
  refine callH_by fun K hK => ?_
  refine enter [.tmp 2] Tryz.func85 rfl rfl (by kernel_rfl) rfl ?_
  have hmx : max (n : Int) 0 = n := by omega
  have hms : ∀ (K : Value → Heap → Prop) (h : Heap), makeSliceS Tryz.prog 124 (.int .i64 (n : Int)) (.int .i64 (n : Int)) h K = K (.slice (some ⟨h.size, 0, none⟩) n n) (h.push (.cells (zeros (.agg #[.slice none 0 0, .int .i64 0, .slice none 0 0, .slice none 0 0, .slice none 0 0, .bool false]) n) 128)) := by
    intro K h
    have := make_slice (P := Tryz.prog) (K := K) (h := h) (k := .i64) (k' := .i64) (n := (n : Int)) Tryz.elS124 Tryz.szS128 Tryz.byS128 Tryz.zS128 rfl (by omega) (by omega) (by omega)
    simpa using this
  simp -dsimp [hmx, hms, boxS_eq]
  generalize hH : (h.push _).push _ = h2
  have hp1 : ∀ o, (h.push o).size = h.size + 1 := fun o => by simp
  have hz : h2.size = h.size + 2 := by rw [← hH]; simp
  have hk : Keep none_ h h2 := by rw [← hH]; exact ((Keep.refl none_ h).pushed _).pushed _
  have hb1 : h2[h.size]? = some (.cells (zeros (.agg #[.slice none 0 0, .int .i64 0, .slice none 0 0, .slice none 0 0, .slice none 0 0, .bool false]) n) 128 (0, 0)) := by rw [← hH]; exact push_at (push_new _ _)
  have hb2 : h2[h.size + 1]? = some (.cells #[.slice (some ⟨h.size, 0, none⟩) n n, .int .i64 0] 126 (0, 0)) := by rw [← hH, ← hp1]; exact push_new _ _
  have hel : Elems rSlot none_ h2 (zeros (.agg #[.slice none 0 0, .int .i64 0, .slice none 0 0, .slice none 0 0, .slice none 0 0, .bool false]) n).toList (newM n) := zeros_elems (R := rSlot) (x := none) (show (Value.agg #[.slice none 0 0, .int .i64 0, .slice none 0 0, .slice none 0 0, .slice none 0 0, .bool false]).cells.toList = [.slice none 0 0, .int .i64 0, .slice none 0 0, .slice none 0 0, .slice none 0 0, .bool false] from rfl) n
  have hlen : (newM n).length = n := List.length_replicate
  refine hK _ _ ⟨tfoot (h.size + 1) (some h.size) none_, ⟨h.size + 1, .slice (some ⟨h.size, 0, none⟩) n n, some h.size, none_, rfl, rfl, ?_, ?_, fun b hb => hb.elim, by simp, newM_ok n⟩, hk, ?_⟩
  · rw [newM_taken]; exact hb2
  · refine .inr ⟨h.size, n, _, _, by rw [hlen], rfl, hb1, fun h => h, ?_, by rw [hlen]; exact Nat.le_refl _, by omega, rfl, ?_⟩
    · have := hel.len
      rw [hlen] at this
      simpa using this
    · have hl := hel.len
      rw [List.take_of_length_le (by rw [hl]; exact Nat.le_refl _)]
      exact hel
  · rintro b (rfl | hb | hb)
    · omega
    · cases hb; omega
    · exact hb.elim

theorem TabC.widen {h : Heap} {T : Tab} {bs : Nat} {sv : Value} {os : Option Nat} {R : Nat → Prop} (s : TabC h T bs sv os R) {G : Nat → Prop} (hG : ∀ b, G b → b < h.size ∧ b ≠ bs ∧ os ≠ some b) : TabC h T bs sv os (fun b => R b ∨ G b) where
  str := s.str
  slots := s.slots.mono (fun _ hb => ⟨.inl hb, rfl⟩) fun b hb => ⟨fun hR => hR.elim (fun h => (s.sep b h).2.2 hb) (fun h => (hG b h).2.2 hb), rfl⟩
  sep := fun _ hb => hb.elim (s.sep _) (hG _)
  o1 := s.o1
  ok := s.ok
theorem tfoot_sub {bs n : Nat} {os : Option Nat} {R R' : Nat → Prop} (h3 : ∀ b, R' b → R b ∨ n ≤ b) : ∀ b, tfoot bs os R' b → tfoot bs os R b ∨ n ≤ b := by
  rintro b (rfl | h | h)
  · exact .inl (.inl rfl)
  · exact .inl (.inr (.inl h))
  · exact (h3 b h).imp (fun h => .inr (.inr h)) id

set_option maxHeartbeats 40000000 in
set_option maxRecDepth 10000 in
theorem hput_spec {v : Value} {F G : Nat → Prop} {h : Heap} {T : Tab} (s : TabAt v F h T) (hT : T.length < 1000000000) (hsm : TabSmall T) {cs : List Value} {c : CellM} (hr : rCell.rep G h cs c) (hG : ∀ b, G b → b < h.size) (hc : CellSmall c) :
    CallH Tryz.prog 86 #[v, .agg cs.toArray] h fun r h' => r = .bool (putM T c).isSome ∧ ∃ F', TabAt v F' h' ((putM T c).getD T) ∧ Keep F h h' ∧ ∀ b, F' b → F b ∨ h.size ≤ b := by
  refine callH_by fun K hK => ?_
  obtain ⟨bs, sv, os, R, rfl, rfl, s⟩ := s
  refine enter [.tmp 4] Tryz.func86 rfl rfl (by kernel_rfl) rfl ?_
  have hr0 := hr
  obtain ⟨kv, sv1, nv, xv, rfl, r1, r2, r3, r4⟩ := hr
  obtain ⟨ka, kc, rfl, _, _⟩ := r1.val
  obtain ⟨sa, sc, rfl, _, _⟩ := r2.val
  obtain ⟨na, nc, rfl, _, _⟩ := r3.val
  obtain ⟨xa, xc, rfl, _, _⟩ := r4.val
  have hRl : ∀ b, R b → b < h.size := fun b hb => (s.sep b hb).1
  have hol := s.slots.own_lt
  have hbs := lt_of_blk s.str
  simp -dsimp [boxS_eq]
  generalize hB : h.push _ = h0
  have k0 : Keep none_ h h0 := by rw [← hB]; exact .push _ _ _
  have hz0 : h0.size = h.size + 1 := by rw [← hB]; simp
  have hc0 : h0[h.size]? = some (.cells #[.slice ka c.key.length kc, .int .i64 c.count, .slice sa c.sum.length sc, .slice na c.mn.length nc, .slice xa c.mx.length xc] 46 (0, 0)) := by rw [← hB]; exact push_new _ _
  have s0 := s.mono (h' := h0) (by omega) fun b hb => k0.blk b (s.lt b hb) (fun h => h)
  have q1 : SlRep rInt G h0 (.slice ka c.key.length kc) c.key := r1.mono fun b hb => ⟨hb, k0.blk b (hG b hb) (fun h => h)⟩
  refine call_by (find_spec s0.at hT q1 (fun b hb => by have := hG b hb; omega)) ?_
  rintro _ h1 ⟨rfl, k1⟩
  have k01 := k0.trans k1 (fun _ _ h => h)
  have e1 := k1.size
  have s1 := s0.mono (h' := h1) e1 fun b hb => k1.blk b (s0.lt b hb) (fun h => h)
  have hs1 := s1.str
  have hc1 := k1.at hc0 (fun h => h)
  cases hf : findM T c.key with
  | none =>
    have hp : putM T c = none := by unfold putM; rw [hf]
    rw [hp] at hK
    simp -dsimp
    exact hK _ _ ⟨rfl, _, s1.at, k01.none, fun b hb => .inl hb⟩
  | some k =>
    obtain ⟨hk, hor, _⟩ := find_spec_some hf
    have hneg : ¬ ((k : Int) < 0) := by omega
    obtain ⟨ta, tc, rfl⟩ := s.slots.val
    obtain ⟨bk, es, rfl, rfl, hrs, hce⟩ := s1.slots.elem k hk
    obtain ⟨w0, wn, w2, w3, w4, rfl, hkey, u0, u2, u3, u4⟩ := slot_cells hrs
    have hce' : HC.cellsIn h1[bk]? (k * 6) 6 = some [w0, .int .i64 wn, w2, w3, w4, .bool T[k].isSome] := hce
    have hidx : ∀ (K : Value → Heap → Prop) (h : Heap), indexAddrS Tryz.prog 124 (.slice (some ⟨bk, 0, none⟩) T.length tc) (.int .i64 (k : Int)) h K = K (.pointer (some ⟨bk, k * 6, none⟩)) h := by
      intro K h
      rw [indexAddrS_slice _ _ _ _ _ _ (by omega) (by omega) rfl]
      simp [elSz]
    have hidv : ∀ sz ar kk, idxV sz ar (.slice (some ⟨bk, 0, none⟩) T.length tc) (.int kk (k : Int)) = sz.map fun s => .pointer (some ⟨bk, k * s, none⟩) := by
      intro sz ar kk
      rw [idxV_slice (by omega) (by omega) rfl]
      simp
    simp -dsimp [hneg, hs1, hidx, hce', u0, u2, u3, u4]
    generalize hB2 : Array.setIfInBounds _ h1.size _ = h2
    have k2 : Keep none_ h1 h2 := by rw [← hB2]; exact ((Keep.refl none_ h1).pushed _).setted _ (fun hh => absurd hh (by omega))
    have hz2 : h2.size = h1.size + 1 := by rw [← hB2]; simp
    have hfb : h2[h1.size]? = some (.cells #[w0, .int .i64 wn, w2, w3, w4, .bool T[k].isSome] 128 (0, 0)) := by rw [← hB2]; exact set_same _ (by simp)
    have k02 := k01.trans k2 (fun _ _ h => h)
    have s2 := s1.mono (h' := h2) (by omega) fun b hb => k2.blk b (s1.lt b hb) (fun h => h)
    have hs2 := s2.str
    have hc2 := k2.at hc1 (fun h => h)
    have hsat : T[k]? = some T[k] := List.getElem?_eq_getElem hk
    have hr2 : rCell.rep G h2 [.slice ka c.key.length kc, .int .i64 c.count, .slice sa c.sum.length sc, .slice na c.mn.length nc, .slice xa c.mx.length xc] c := rCell.mono hr0 fun b hb => ⟨hb, k02.blk b (hG b hb) (fun h => h)⟩
    cases hta : T[k] with
    | some d =>
      have hp : putM T c = some (T.set k (some (joinC d c))) := by unfold putM; rw [hf]; simp only; rw [hsat, hta]
      rw [hta] at hfb hrs
      obtain ⟨hok', htk, _⟩ := put_ok s.ok hp
      have htk' : takenM (T.set k (some (joinC d c))) = takenM T := taken_set_old (by rw [hsat, hta])
      rw [hp] at hK
      obtain ⟨ds0, hd1, hd2⟩ := hrs
      have hdl := rCell.len hd1
      obtain rfl : ds0 = [w0, .int .i64 wn, w2, w3, w4] := by
        match ds0, hdl with
        | [a, b, c, d, e], _ =>
          simp at hd2
          obtain ⟨rfl, rfl, rfl, rfl, rfl⟩ := hd2
          rfl
      have hd2' : rCell.rep R h2 [w0, .int .i64 wn, w2, w3, w4] d := rCell.mono hd1 fun b hb => ⟨hb, k2.blk b (by have := hRl b hb; omega) (fun h => h)⟩
      have hds : CellSmall d := hsm k d (by rw [hsat, hta])
      simp -dsimp
      refine drawn_by [⟨0, true, []⟩, ⟨1, true, []⟩, ⟨2, true, []⟩, ⟨3, true, []⟩, ⟨4, true, []⟩, ⟨5, true, []⟩, ⟨6, true, []⟩, ⟨7, true, []⟩, ⟨8, false, [0, 1, 2, 3, 4]⟩, ⟨9, true, []⟩, ⟨10, true, []⟩, ⟨11, false, []⟩] (by kernel_rfl) (by kernel_rfl) ?_
      simp -dsimp [hs2, hc2, hfb]
      refine call_by (join_spec hd2' (fun b hb => by have := hRl b hb; omega) hds hr2 (fun b hb => by have := hG b hb; omega)) ?_
      rintro _ h3 ⟨ds, E, rfl, hr3, k3, hE⟩
      have e3 := k3.size
      have s3 := s2.mono (h' := h3) e3 fun b hb => k3.blk b (s2.lt b hb) (fun h => h)
      have hs3 := s3.str
      have l2 : ∀ b, tfoot bs (some bk) R b → b < h.size := fun b hb => s.lt b hb
      have s3w := s3.widen (G := E) fun b hb => ⟨(hE b hb).2, fun e => by have := (hE b hb).1; omega, fun e => by have := (hE b hb).1; have := l2 b (.inr (.inl e)); omega⟩
      have hlen3 := rCell.len hr3
      have hone3 := rCell.one hr3
      have hr3' : rCell.rep (fun b => R b ∨ E b) h3 ds (joinC d c) := rCell.mono hr3 fun b hb => ⟨.inr hb, rfl⟩
      obtain ⟨z0, z1, z2, z3, z4, rfl⟩ : ∃ z0 z1 z2 z3 z4, ds = [z0, z1, z2, z3, z4] := by
        match ds, hlen3 with
        | [a, b, c, d, e], _ => exact ⟨a, b, c, d, e, rfl⟩
      obtain ⟨bk', tc', o, hv', how, hwr, hg4⟩ := s3w.slots.setF (i := k) (d := 0) (x := some (joinC d c)) (news := [z0, z1, z2, z3, z4]) hk (show 0 + 5 ≤ 6 from by decide) hone3 (by
        rw [hta]
        rintro cs0 ⟨ds1, hq1, rfl⟩
        have hql := rCell.len hq1
        refine ⟨[z0, z1, z2, z3, z4], hr3', ?_⟩
        have h5 : ds1.length = 5 := hql
        simp [h5])
      simp only [List.all_cons, List.all_nil, Bool.and_true, Bool.and_eq_true] at hone3
      obtain ⟨y0, y1, y2, y3, y4⟩ := hone3
      have hbk' : bk = bk' := by simpa using how
      subst hbk'
      have hwr' : writeIn h3[bk]? (k * 6) [z0, z1, z2, z3, z4] = some o := hwr
      have hnb : bk ≠ bs := fun e => s.o1 (by rw [e])
      have hs4 : (h3.setIfInBounds bk o)[bs]? = some (.cells #[.slice (some ⟨bk, 0, none⟩) T.length tc, .int .i64 (takenM T)] 126 (0, 0)) := (set_other _ hnb).trans hs3
      simp -dsimp [again_cons, hs3, hidv, elSz, hwr']
      generalize hH : h3.setIfInBounds bk o = h5 at hs4 hg4 ⊢
      have hz5 : h5.size = h3.size := by rw [← hH]; simp
      have hold : ∀ b, b ≠ bk → h5[b]? = h3[b]? := fun b hn' => by rw [← hH, set_other _ (fun e => hn' e.symm)]
      have hfin : TabC h5 (T.set k (some (joinC d c))) bs (.slice (some ⟨bk, 0, none⟩) T.length tc) (some bk) (fun b => R b ∨ E b) := by
        refine ⟨by rw [htk']; exact hs4, hg4, fun b hb => ⟨by have := (s3w.sep b hb).1; omega, (s3w.sep b hb).2⟩, s.o1, hok'⟩
      refine hK _ _ ⟨rfl, _, hfin.at, ⟨by omega, fun b hb hn => ?_⟩, tfoot_sub fun b hb => hb.imp id fun h => by have := (hE b h).1; omega⟩
      rw [hold b (fun e => hn (.inr (.inl (by rw [e])))), k3.blk b (by omega) (fun h => h), k02.blk b hb (fun h => h)]
    | none =>
      have hp : putM T c = some (T.set k (some c)) := by unfold putM; rw [hf]; simp only; rw [hsat, hta]
      rw [hta] at hfb
      obtain ⟨hok', htk, _⟩ := put_ok s.ok hp
      have htk' : takenM (T.set k (some c)) = takenM T + 1 := taken_set_new (by rw [hsat, hta])
      rw [hp] at hK
      have htl := taken_le T
      have wn1 : IntKind.i64.wrap ((takenM T : Int) + 1) = ((takenM T + 1 : Nat) : Int) := by rw [wrap_i64 (by omega) (by omega)]; rfl
      simp -dsimp
      refine drawn_by [⟨0, true, []⟩, ⟨1, true, []⟩, ⟨2, true, []⟩, ⟨3, true, []⟩, ⟨4, true, []⟩, ⟨5, true, []⟩, ⟨6, false, [0, 1, 2, 3, 4]⟩, ⟨7, false, [0, 1, 2, 3, 4]⟩, ⟨8, true, []⟩, ⟨9, false, []⟩] (by kernel_rfl) (by kernel_rfl) ?_
      simp -dsimp [hs2, hc2]
      refine call_by (hashOwn_spec hr2 (fun b hb => by have := hG b hb; omega) hc) ?_
      rintro _ h3 ⟨ds, E, rfl, hr3, k3, hE⟩
      have e3 := k3.size
      have s3 := s2.mono (h' := h3) e3 fun b hb => k3.blk b (s2.lt b hb) (fun h => h)
      have hs3 := s3.str
      have l2 : ∀ b, tfoot bs (some bk) R b → b < h.size := fun b hb => s.lt b hb
      have s3w := s3.widen (G := E) fun b hb => ⟨(hE b hb).2, fun e => by have := (hE b hb).1; omega, fun e => by have := (hE b hb).1; have := l2 b (.inr (.inl e)); omega⟩
      have hlen3 := rCell.len hr3
      have hone3 := rCell.one hr3
      have hr3' : rCell.rep (fun b => R b ∨ E b) h3 ds c := rCell.mono hr3 fun b hb => ⟨.inr hb, rfl⟩
      obtain ⟨z0, z1, z2, z3, z4, rfl⟩ : ∃ z0 z1 z2 z3 z4, ds = [z0, z1, z2, z3, z4] := by
        match ds, hlen3 with
        | [a, b, c, d, e], _ => exact ⟨a, b, c, d, e, rfl⟩
      simp only [List.all_cons, List.all_nil, Bool.and_true, Bool.and_eq_true] at hone3
      obtain ⟨y0, y1, y2, y3, y4⟩ := hone3
      obtain ⟨bk', tc', o, hv', how, hwr, hg4⟩ := s3w.slots.setE (i := k) (x := some c) (news := [z0, z1, z2, z3, z4, .bool true]) hk ⟨_, hr3', rfl⟩
      have hbk' : bk = bk' := by simpa using how
      subst hbk'
      have hwr' : writeIn h3[bk]? (k * 6) [z0, z1, z2, z3, z4, .bool true] = some o := hwr
      have hnb : bk ≠ bs := fun e => s.o1 (by rw [e])
      have hs4 : (h3.setIfInBounds bk o)[bs]? = some (.cells #[.slice (some ⟨bk, 0, none⟩) T.length tc, .int .i64 (takenM T)] 126 (0, 0)) := (set_other _ hnb).trans hs3
      simp -dsimp [again_cons, hs3, hidv, elSz, hwr', hs4, wn1]
      generalize hH : (h3.setIfInBounds bk o).setIfInBounds bs _ = h5
      have hz5 : h5.size = h3.size := by rw [← hH]; simp
      have hold : ∀ b, b ≠ bs → b ≠ bk → h5[b]? = h3[b]? := fun b hn hn' => by rw [← hH, set_other _ (fun e => hn e.symm), set_other _ (fun e => hn' e.symm)]
      have hfin : TabC h5 (T.set k (some c)) bs (.slice (some ⟨bk, 0, none⟩) T.length tc) (some bk) (fun b => R b ∨ E b) := by
        refine ⟨?_, ?_, ?_, s.o1, hok'⟩
        · rw [htk', ← hH]; exact set_same _ (by have := lt_of_blk hs4; exact this)
        · exact hg4.mono (fun b hb => ⟨hb, by rw [← hH]; exact set_other _ (fun e => (s3w.sep b hb).2.1 e.symm)⟩) fun b hb => ⟨fun hRE => (s3w.sep b hRE).2.2 hb, by
            cases hb
            rw [← hH]; exact set_other _ (fun e => hnb e.symm)⟩
        · exact fun b hb => ⟨by have := (s3w.sep b hb).1; omega, (s3w.sep b hb).2⟩
      refine hK _ _ ⟨rfl, _, hfin.at, ⟨by omega, fun b hb hn => ?_⟩, tfoot_sub fun b hb => hb.imp id fun h => by have := (hE b h).1; omega⟩
      rw [hold b (fun e => hn (.inl e)) (fun e => hn (.inr (.inl (by rw [e])))), k3.blk b (by omega) (fun h => h), k02.blk b hb (fun h => h)]
end Go.Proofs

/-
  The document's table in memory: a key is found, cells are put, told.
-/
namespace Go.HC
def zeroC : CellM := ⟨[], 0, [], [], []⟩
structure RTabC (tT cT bT : Nat) (h : Heap) (T : Tab) (bt bc bi n cc ic : Nat) (D : Nat → Prop) : Prop where
  top : h[bt]? = some (.cells #[.slice (some ⟨bc, 0, none⟩) n cc, .slice (some ⟨bi, 0, none⟩) n ic, .int .i64 (takenM T)] tT (0, 0))
  len : n = T.length
  C : Grow rCell cT D h (.slice (some ⟨bc, 0, none⟩) n cc) (T.map fun s => s.getD zeroC) (some bc)
  I : Grow rBool bT none_ h (.slice (some ⟨bi, 0, none⟩) n ic) (T.map Option.isSome) (some bi)
  ne : bt ≠ bc ∧ bt ≠ bi ∧ bc ≠ bi
  D : ∀ b, D b → b < h.size ∧ b ≠ bt ∧ b ≠ bc ∧ b ≠ bi
def rfoot (bt bc bi : Nat) (D : Nat → Prop) : Nat → Prop := fun b => b = bt ∨ b = bc ∨ b = bi ∨ D b
section
variable {tT cT bT : Nat} {h h' : Heap} {T : Tab} {bt bc bi n cc ic : Nat} {D : Nat → Prop}
theorem RTabC.lt (s : RTabC tT cT bT h T bt bc bi n cc ic D) : ∀ b, rfoot bt bc bi D b → b < h.size := by
  rintro b (rfl | rfl | rfl | hb)
  · exact lt_of_blk s.top
  · exact s.C.own_lt _ rfl
  · exact s.I.own_lt _ rfl
  · exact (s.D b hb).1
theorem RTabC.mono (s : RTabC tT cT bT h T bt bc bi n cc ic D) (hs : h.size ≤ h'.size) (hk : ∀ b, rfoot bt bc bi D b → h'[b]? = h[b]?) : RTabC tT cT bT h' T bt bc bi n cc ic D where
  top := by rw [hk bt (.inl rfl)]; exact s.top
  len := s.len
  C := s.C.mono (fun b hb => ⟨hb, hk b (.inr (.inr (.inr hb)))⟩) fun b hb => ⟨fun hd => by have := (s.D b hd).2.2.1; cases hb; exact this rfl, by cases hb; exact hk _ (.inr (.inl rfl))⟩
  I := s.I.mono (fun _ h => h.elim) fun b hb => ⟨fun h => h, by cases hb; exact hk _ (.inr (.inr (.inl rfl)))⟩
  ne := s.ne
  D := fun b hb => ⟨Nat.lt_of_lt_of_le (s.D b hb).1 hs, (s.D b hb).2⟩
end
/-- A table of the document's. -/
def RTab (tT cT bT : Nat) (v : Value) (G : Nat → Prop) (h : Heap) (T : Tab) : Prop := ∃ bt bc bi n cc ic D, v = .pointer (some ⟨bt, 0, none⟩) ∧ G = rfoot bt bc bi D ∧ RTabC tT cT bT h T bt bc bi n cc ic D
section
variable {tT cT bT : Nat} {v : Value} {G S : Nat → Prop} {h h' : Heap} {T : Tab}
theorem RTab.lt (s : RTab tT cT bT v G h T) : ∀ b, G b → b < h.size := by
  obtain ⟨bt, bc, bi, n, cc, ic, D, rfl, rfl, s⟩ := s
  exact s.lt
theorem RTab.keep (s : RTab tT cT bT v G h T) (k : Keep S h h') (hS : ∀ b, G b → ¬ S b) : RTab tT cT bT v G h' T := by
  have hl := s.lt
  obtain ⟨bt, bc, bi, n, cc, ic, D, rfl, rfl, s⟩ := s
  exact ⟨bt, bc, bi, n, cc, ic, D, rfl, rfl, s.mono k.size fun b hb => k.blk b (hl b hb) (hS b hb)⟩
end
end Go.HC
namespace Go.Proofs
open Go Go.HC

abbrev RTabT := RTab 110 46 4
set_option maxHeartbeats 4000000 in
set_option maxRecDepth 10000 in
theorem rfind_spec {v kv : Value} {G : Nat → Prop} {h : Heap} {T : Tab} {key : List Int} (s : RTabT v G h T) (hk : SlRep rInt (Old h) h kv key) (hko : KeyOk key) (hT : 0 < T.length) (hT' : T.length < 1000000000) :
    CallH Tryz.prog 75 #[v, kv] h fun r h' => r = .int .i64 (match findM T key with | some k => (k : Int) | none => -1) ∧ h' = h := by
  refine callH_by fun K hK => ?_
  obtain ⟨bt, bc, bi, n, cc, ic, D, rfl, rfl, s⟩ := s
  refine enter [.tmp 4] Tryz.func75 rfl rfl (by kernel_rfl) rfl ?_
  obtain ⟨a0, c0, rfl, hc0, hc0'⟩ := hk.val
  have hlen := s.len
  simp -dsimp [s.top]
  refine call_by (place_spec hk hko n (by omega) (by omega)) ?_
  rintro _ h1 ⟨rfl, hh⟩
  subst h1
  simp -dsimp
  refine loopc (σ := Nat) (fun i => [(0, .pointer (some ⟨bt, 0, none⟩)), (1, .slice a0 key.length c0), (5, .int .i64 n), (6, .int .i64 (placeM key n)), (7, .int .i64 i)])
    (fun i h1 => h1 = h ∧ i ≤ n ∧ ∀ j, j < i → hitM T key (probe key T.length j) = false) (fun i => n - i) 0 0 (fun i _ => i = n) (endR Tryz.prog [.tmp 4] K).rt (fun _ _ _ h => h) (by simp) ⟨rfl, Nat.zero_le _, fun j hj => by omega⟩ (by kernel_rfl) ?_ ?_
  · rintro i h1 g ⟨rfl, hi, hb⟩
    have wi := wrap_succ (k := i) (by omega)
    by_cases hin : i < n
    · have hpl := placeM_lt key (n := n) (by omega)
      have w1 : IntKind.i64.wrap ((placeM key n : Int) + (i : Int)) = (placeM key n : Int) + (i : Int) := by rw [wrap_i64 (by omega) (by omega)]
      have w2 : ((placeM key n : Int) + (i : Int)).tmod n = ((probe key n i : Nat) : Int) := by
        unfold probe; exact (Int.ofNat_tmod (placeM key n + i) n).symm
      have hne : n ≠ 0 := by omega
      have hp := probe_lt key (n := n) (by omega) i
      obtain ⟨p, ep⟩ : ∃ p, p = probe key n i := ⟨_, rfl⟩
      have hpT : p < T.length := by omega
      obtain ⟨bk, csI, eI, oI, rI, cI⟩ := s.I.elem p (by simpa using hpT)
      obtain ⟨bk2, csC, eC, oC, rC, cC⟩ := s.C.elem p (by simpa using hpT)
      cases eI; cases eC
      have hI : cellIn h1[bi]? p = some (.bool (T[p]).isSome) := by
        have h0 : csI = [.bool (T[p]).isSome] := by simpa [rBool] using rI
        rw [h0] at cI
        have := cellsIn_cell (d := 0) cI (by decide)
        simpa [rBool] using this
      have hpn : p < n := by omega
      rw [← ep] at w2
      cases hTp : T[p] with
      | none =>
        have hf := find_hit (T := T) (key := key) (i := i) (by omega) hb (by rw [← hlen, ← ep]; unfold hitM; rw [List.getElem?_eq_getElem hpT, hTp])
        rw [hTp] at hI
        simp -dsimp [hin, w1, hne, w2, s.top, idxA_nat hpn, hI]
        exact hK _ _ ⟨by rw [hf, ← hlen, ← ep], rfl⟩
      | some c =>
        rw [hTp] at hI
        rw [List.getElem_map, hTp, Option.getD_some] at rC
        obtain ⟨ka, kc, sa, sc, na, nc, xa, xc, rfl, q1, _⟩ := cell_open rC
        have hk0 : cellIn h1[bc]? (p * 5) = some (.slice ka c.key.length kc) := cellsIn_cell (d := 0) cC (by decide)
        simp -dsimp [hin, w1, hne, w2, s.top, idxA_nat hpn, hI, hk0]
        refine call_by (rless_spec q1 hk) ?_
        rintro _ h2 ⟨rfl, hh⟩
        subst h2
        by_cases h0 : lessM c.key key = 0
        · have hf := find_hit (T := T) (key := key) (i := i) (by omega) hb (by rw [← hlen, ← ep]; unfold hitM; rw [List.getElem?_eq_getElem hpT, hTp]; simpa using lessM_zero.1 h0)
          simp -dsimp [h0]
          exact hK _ _ ⟨by rw [hf, ← hlen, ← ep], rfl⟩
        · have h0' : (lessM c.key key == 0) = false := by simpa using h0
          simp -dsimp [h0', wi]
          refine ⟨i + 1, by simp, rfl, ⟨rfl, by omega, fun j hj => ?_⟩, by show n - (i + 1) < n - i; omega⟩
          rcases Nat.lt_or_ge j i with h | h
          · exact hb j h
          · have : j = i := by omega
            rw [this, ← hlen, ← ep]
            unfold hitM
            rw [List.getElem?_eq_getElem hpT, hTp]
            simpa using fun e => h0 (lessM_zero.2 e)
    · simp -dsimp [hin]
      exact ⟨rfl, i, by simp, rfl, ⟨rfl, hi, hb⟩, by omega⟩
  · rintro i h1 g ⟨rfl, hi, hb⟩ hin
    have hin' : i = n := hin
    simp -dsimp
    exact hK _ _ ⟨by rw [find_miss (fun j hj => hb j (by omega))], rfl⟩
end Go.Proofs

/-
  The document's table: a cell is put; a new table.
-/
namespace Go.HC
theorem isSome_set {T : Tab} {k : Nat} {c d : CellM} (h : T[k]? = some (some d)) : (T.set k (some c)).map Option.isSome = T.map Option.isSome := by
  rw [List.map_set]
  apply List.ext_getElem?
  intro i
  rw [List.getElem?_set]
  by_cases e : k = i
  · subst e
    obtain ⟨this, e⟩ := List.getElem?_eq_some_iff.1 h
    simp [this, e]
  · rw [if_neg e]
theorem find_hits {T : Tab} {key : List Int} {k : Nat} (h : findM T key = some k) : k < T.length := (find_spec_some h).1
end Go.HC
namespace Go.Proofs
open Go Go.HC

set_option maxHeartbeats 4000000 in
set_option maxRecDepth 10000 in
theorem rput7_spec {v : Value} {G : Nat → Prop} {h : Heap} {T : Tab} {cs : List Value} {c : CellM} {m : Nat} (s : RTabT v G h T) (hr : rCell.rep (Old h) h cs c) (hko : KeyOk c.key) (hT : 0 < T.length) (hT' : T.length < 1000000000) (hm : m < 1000000000) (hc : Sml m c)
    (hs : ∀ (k : Nat) (d : CellM), T[k]? = some (some d) → Sml m d) :
    CallH Tryz.prog 59 #[v, .agg cs.toArray] h fun r h' => r = .bool (putM T c).isSome ∧ ∃ G', RTabT v G' h' ((putM T c).getD T) ∧ Keep G h h' ∧ ∀ b, G' b → G b ∨ h.size ≤ b := by
  refine callH_by fun K hK => ?_
  obtain ⟨bt, bc, bi, n, cc, ic, D, rfl, rfl, s⟩ := s
  refine enter [.tmp 4] Tryz.func59 rfl rfl (by kernel_rfl) rfl ?_
  obtain ⟨ka, kc, sa, sc, na, nc, xa, xc, rfl, r1, r2, r3, r4⟩ := cell_open hr
  simp -dsimp [boxS_eq]
  generalize hB : Array.push h _ = h1
  have kb : Keep none_ h h1 := by rw [← hB]; exact .push _ _ _
  have hz1 : h1.size = h.size + 1 := by rw [← hB]; simp
  have hC : h1[h.size]? = some (.cells #[.slice ka c.key.length kc, .int .i64 c.count, .slice sa c.sum.length sc, .slice na c.mn.length nc, .slice xa c.mx.length xc] 46 (0, 0)) := by rw [← hB]; exact push_new _ _
  have tb := Tr.of kb
  have slt := s.lt
  have s1 := s.mono kb.size fun b hb => kb.blk b (slt b hb) (fun h => h)
  have k1 := r1.mono (tb.ft (Nat.le_refl 0))
  have c1 := rCell.mono hr (tb.ft (Nat.le_refl 0))
  have hlen := s.len
  refine call_by (rfind_spec ⟨bt, bc, bi, n, cc, ic, D, rfl, rfl, s1⟩ k1 hko hT hT') ?_
  rintro _ h1' ⟨rfl, hh⟩
  subst h1'
  cases hf : findM T c.key with
  | none =>
    have hp : putM T c = none := by unfold putM; rw [hf]
    simp -dsimp
    exact hK _ _ ⟨by rw [hp]; rfl, _, ⟨bt, bc, bi, n, cc, ic, D, rfl, rfl, by rw [hp]; exact s1⟩, kb.none, fun b hb => .inl hb⟩
  | some k =>
    have hkT := find_hits hf
    have hkn : k < n := by omega
    have hk0 : ¬ ((k : Int) < 0) := by omega
    obtain ⟨bk, csI, eI, oI, rI, cI⟩ := s1.I.elem k (by simpa using hkT)
    obtain ⟨bk2, csC, eC, oC, rC, cC⟩ := s1.C.elem k (by simpa using hkT)
    cases eI; cases eC
    have hI : cellIn h1[bi]? k = some (.bool (T[k]).isSome) := by
      have h0 : csI = [.bool (T[k]).isSome] := by simpa [rBool] using rI
      rw [h0] at cI
      have := cellsIn_cell (d := 0) cI (by decide)
      simpa [rBool] using this
    have hTk? : T[k]? = some T[k] := List.getElem?_eq_getElem hkT
    cases hTk : T[k] with
    | some d =>
      rw [hTk] at hI hTk?
      have hp : putM T c = some (T.set k (some (joinC d c))) := by unfold putM; rw [hf]; simp only [hTk?]
      rw [List.getElem_map, hTk, Option.getD_some] at rC
      have hd := hs k d hTk?
      obtain ⟨ka1, kc1, sa1, sc1, na1, nc1, xa1, xc1, rfl, _⟩ := cell_open rC
      have hcC : HC.cellsIn h1[bc]? (k * 5) 5 = _ := cC
      simp -dsimp [hk0, s1.top, idxA_nat hkn, hI]
      refine drawn_by [⟨0, true, []⟩, ⟨1, true, []⟩, ⟨2, true, []⟩, ⟨3, true, []⟩, ⟨4, true, []⟩, ⟨5, true, []⟩, ⟨6, true, []⟩, ⟨7, true, []⟩, ⟨8, true, []⟩, ⟨9, true, []⟩, ⟨10, true, []⟩, ⟨11, true, []⟩, ⟨12, true, []⟩, ⟨13, false, [0, 1, 2, 3, 4]⟩, ⟨14, true, []⟩, ⟨15, false, []⟩] (by kernel_rfl) (by kernel_rfl) ?_
      simp -dsimp [s1.top, idxV_nat hkn, elSz_eq, hcC, hC]
      refine call_by (rjoin_spec (rCell.mono rC fun b hb => ⟨⟨nz, (s1.D b hb).1, fun h => h⟩, rfl⟩) (hd.small hm) hd c1 hc) ?_
      rintro _ h2 ⟨es, rfl, re, k2⟩
      have s2 := s1.mono k2.size fun b hb => k2.blk b (s1.lt b hb) (fun h => h)
      obtain ⟨ka5, kc5, sa5, sc5, na5, nc5, xa5, xc5, rfl, _⟩ := cell_open re
      have hD' : ∀ b, Ft h1.size none_ h2 b → b ≠ bt ∧ b ≠ bc ∧ b ≠ bi := fun b hb => by
        have := s1.lt bt (.inl rfl); have := s1.lt bc (.inr (.inl rfl)); have := s1.lt bi (.inr (.inr (.inl rfl))); have := hb.1.1; omega
      have gC := s2.C.mono (F' := fun b => D b ∨ Ft h1.size none_ h2 b) (h' := h2) (fun b hb => ⟨.inl hb, rfl⟩) fun b hb => ⟨by cases hb; exact fun h => h.elim (fun h => (s2.D _ h).2.2.1 rfl) fun h => (hD' _ h).2.1 rfl, rfl⟩
      obtain ⟨bk, c', o', hv, hbk, hw, gC'⟩ := gC.setE (i := k) (x := joinC d c) (by simpa using hkT) (rCell.mono re fun b hb => ⟨.inr hb, rfl⟩)
      cases hbk
      have hw' : writeIn h2[bc]? (k * 5) _ = some o' := hw
      simp -dsimp [again_cons, s2.top, idxV_nat hkn, elSz_eq, hw']
      have hl2 := s2.lt
      refine hK _ _ ⟨by rw [hp]; rfl, rfoot bt bc bi (fun b => D b ∨ Ft h1.size none_ h2 b), ⟨bt, bc, bi, n, cc, ic, _, rfl, rfl, ?_⟩, ?_, ?_⟩
      · rw [hp, Option.getD_some]
        refine ⟨?_, by simpa using hlen, ?_, ?_, s.ne, fun b hb => ?_⟩
        · rw [set_other _ (fun e => s.ne.1 e.symm), taken_set_old hTk?]
          exact s2.top
        · rw [List.map_set]
          exact gC'
        · rw [isSome_set hTk?]
          exact s2.I.mono (fun _ h => h.elim) fun b hb => ⟨fun h => h, by cases hb; exact set_other _ s.ne.2.2⟩
        · rcases hb with hb | hb
          · exact ⟨by simpa using (s2.D b hb).1, (s2.D b hb).2⟩
          · exact ⟨by simpa using hb.2.1, hD' b hb⟩
      · exact ((kb.trans k2 (fun _ _ h => h)).none (S := rfoot bt bc bi D)).setted _ fun _ => .inr (.inl rfl)
      · rintro b (rfl | rfl | rfl | hb | hb)
        · exact .inl (.inl rfl)
        · exact .inl (.inr (.inl rfl))
        · exact .inl (.inr (.inr (.inl rfl)))
        · exact .inl (.inr (.inr (.inr hb)))
        · exact .inr (by have := hb.1.1; omega)
    | none =>
      rw [hTk] at hI hTk?
      have hp : putM T c = some (T.set k (some c)) := by unfold putM; rw [hf]; simp only [hTk?]
      simp -dsimp [hk0, s1.top, idxA_nat hkn, hI]
      refine drawn_by [⟨0, true, []⟩, ⟨1, true, []⟩, ⟨2, true, []⟩, ⟨3, true, []⟩, ⟨4, true, []⟩, ⟨5, true, []⟩, ⟨6, true, []⟩, ⟨7, true, []⟩, ⟨8, true, []⟩, ⟨9, true, []⟩, ⟨10, true, []⟩, ⟨11, false, [0, 1, 2, 3, 4, 5, 6, 7, 8, 9]⟩, ⟨12, true, []⟩, ⟨13, false, [9]⟩, ⟨14, true, []⟩, ⟨15, false, []⟩] (by kernel_rfl) (by kernel_rfl) ?_
      simp -dsimp [s1.top, hC]
      refine call_by (rcopy_new c1 (hc.small hm)) ?_
      rintro _ h2 ⟨es, rfl, re, k2⟩
      have s2 := s1.mono k2.size fun b hb => k2.blk b (s1.lt b hb) (fun h => h)
      obtain ⟨ka5, kc5, sa5, sc5, na5, nc5, xa5, xc5, rfl, _⟩ := cell_open re
      have hD' : ∀ b, Ft h1.size none_ h2 b → b ≠ bt ∧ b ≠ bc ∧ b ≠ bi := fun b hb => by
        have := s1.lt bt (.inl rfl); have := s1.lt bc (.inr (.inl rfl)); have := s1.lt bi (.inr (.inr (.inl rfl))); have := hb.1.1; omega
      have gC := s2.C.mono (F' := fun b => D b ∨ Ft h1.size none_ h2 b) (h' := h2) (fun b hb => ⟨.inl hb, rfl⟩) fun b hb => ⟨by cases hb; exact fun h => h.elim (fun h => (s2.D _ h).2.2.1 rfl) fun h => (hD' _ h).2.1 rfl, rfl⟩
      obtain ⟨bk, c', o', hv, hbk, hw, gC'⟩ := gC.setE (i := k) (x := c) (by simpa using hkT) (rCell.mono re fun b hb => ⟨.inr hb, rfl⟩)
      cases hbk
      have hw' : writeIn h2[bc]? (k * 5) _ = some o' := hw
      have gI := s2.I.mono (F' := none_) (h' := h2.setIfInBounds bc o') (fun _ h => h.elim) fun b hb => ⟨fun h => h, by cases hb; exact set_other _ s.ne.2.2⟩
      obtain ⟨bk, c'', o'', hv', hbk, hwi, gI'⟩ := gI.setE (i := k) (x := true) (news := [.bool true]) (by simpa using hkT) rfl
      cases hbk
      have hwi' : writeIn (h2.setIfInBounds bc o')[bi]? k [.bool true] = some o'' := by simpa [rBool] using hwi
      have htop : ((h2.setIfInBounds bc o').setIfInBounds bi o'')[bt]? = _ := (set_other _ (fun e => s.ne.2.1 e.symm)).trans ((set_other _ (fun e => s.ne.1 e.symm)).trans s2.top)
      have htk : takenM T < 1000000000 := Nat.lt_of_le_of_lt (taken_le T) hT'
      have wt := wrap_succ (k := takenM T) (by omega)
      simp -dsimp [again_cons, s2.top, idxV_nat hkn, elSz_eq, hw', hwi', htop, wt]
      refine hK _ _ ⟨by rw [hp]; rfl, rfoot bt bc bi (fun b => D b ∨ Ft h1.size none_ h2 b), ⟨bt, bc, bi, n, cc, ic, _, rfl, rfl, ?_⟩, ?_, ?_⟩
      · rw [hp, Option.getD_some]
        refine ⟨?_, by simpa using hlen, ?_, ?_, s.ne, fun b hb => ?_⟩
        · rw [taken_set_new hTk?]
          refine set_same _ ?_
          have := s2.lt bt (.inl rfl)
          simpa using this
        · rw [List.map_set]
          exact gC'.mono (fun b hb => ⟨hb, by
            have hnb : b ≠ bt ∧ b ≠ bi := hb.elim (fun h => ⟨(s2.D b h).2.1, (s2.D b h).2.2.2⟩) fun h => ⟨(hD' b h).1, (hD' b h).2.2⟩
            rw [set_other _ (fun e => hnb.1 e.symm), set_other _ (fun e => hnb.2 e.symm)]⟩) fun b hb => ⟨by cases hb; exact fun h => h.elim (fun h => (s2.D _ h).2.2.1 rfl) fun h => (hD' _ h).2.1 rfl, by
            cases hb; rw [set_other _ s.ne.1, set_other _ (fun e => s.ne.2.2 e.symm)]⟩
        · rw [List.map_set]
          exact gI'.mono (fun _ h => h.elim) fun b hb => ⟨fun h => h, by cases hb; exact set_other _ s.ne.2.1⟩
        · rcases hb with hb | hb
          · exact ⟨by simpa using (s2.D b hb).1, (s2.D b hb).2⟩
          · exact ⟨by simpa using hb.2.1, hD' b hb⟩
      · exact ((((kb.trans k2 (fun _ _ h => h)).none (S := rfoot bt bc bi D)).setted _ fun _ => .inr (.inl rfl)).setted _ fun _ => .inr (.inr (.inl rfl))).setted _ fun _ => .inl rfl
      · rintro b (rfl | rfl | rfl | hb | hb)
        · exact .inl (.inl rfl)
        · exact .inl (.inr (.inl rfl))
        · exact .inl (.inr (.inr (.inl rfl)))
        · exact .inl (.inr (.inr (.inr hb)))
        · exact .inr (by have := hb.1.1; omega)
end Go.Proofs

/-
  The program's table: its cells are told; a key's cell is told.
-/
namespace Go.HC
theorem cells_take {T : Tab} {k : Nat} (hk : k < T.length) : cellsM (T.take (k + 1)) = cellsM (T.take k) ++ (match T[k] with | some c => [c] | none => []) := by
  unfold cellsM
  rw [List.take_add_one, List.getElem?_eq_getElem hk, List.filterMap_append]
  cases T[k] <;> rfl
end Go.HC
namespace Go.Proofs
open Go Go.HC

set_option maxHeartbeats 40000000 in
set_option maxRecDepth 10000 in
theorem hcells_th {v : Value} {F : Nat → Prop} {h : Heap} {T : Tab} (s : TabAt v F h T) (hT : T.length < 1000000000) (hsm : TabSmall T) :
    CallH Tryz.prog 87 #[v] h fun r h' => ∃ E own, Grow rCell 46 E h' r (cellsM T) own ∧ Keep none_ h h' ∧ (∀ b, E b → h.size ≤ b ∧ b < h'.size ∧ Thaw h' b) ∧ ∀ b, own = some b → h.size ≤ b := by
  refine callH_by fun K hK => ?_
  obtain ⟨bs, sv, os, R, rfl, rfl, s⟩ := s
  refine enter [.tmp 2] Tryz.func87 rfl rfl (by kernel_rfl) rfl ?_
  have hs := s.str
  have hRl : ∀ b, R b → b < h.size := fun b hb => (s.sep b hb).1
  obtain ⟨ta, tc, rfl⟩ := s.slots.val
  simp -dsimp [hs]
  refine loop' (σ := Nat × Value) (fun t => [(3, t.2), (9, .slice ta T.length tc), (10, .int .i64 T.length), (11, .int .i64 t.1)]) (fun _ => [])
    (fun t h1 => Keep none_ h h1 ∧ t.1 ≤ T.length ∧ ∃ E own, Grow rCell 46 E h1 t.2 (cellsM (T.take t.1)) own ∧ (∀ b, E b → h.size ≤ b ∧ b < h1.size ∧ Thaw h1 b) ∧ ∀ b, own = some b → h.size ≤ b)
    (fun t => T.length - t.1) (0, .slice none 0 0) ?_ rfl ⟨.refl _ _, Nat.zero_le _, none_, none, .nil _ _ _ _, (fun b hb => hb.elim), fun b hb => by cases hb⟩ (by kernel_rfl) ?_
  · intro p hp
    simp at hp
    rcases hp with rfl | rfl | rfl | rfl <;> simp
  · rintro ⟨k, tv⟩ h1 g ⟨k1, hk, E, own, hg, hE, ho⟩
    simp only at hk hg
    have e1 := k1.size
    have s1 := s.mono (h' := h1) e1 fun b hb => k1.blk b (s.lt b hb) (fun h => h)
    obtain ⟨va, vc, htv⟩ := hg.val
    obtain ⟨m, hm⟩ : ∃ m, (cellsM (T.take k)).length = m := ⟨_, rfl⟩
    have hmT : m ≤ T.length := by
      rw [← hm, cells_len]
      exact Nat.le_trans (taken_le _) (by simp; omega)
    rw [hm] at htv
    subst htv
    by_cases hkl : k < T.length
    · obtain ⟨bk, es, rfl, hown, hrs, hce⟩ := s1.slots.elem k hkl
      obtain ⟨w0, wn, w2, w3, w4, rfl, hkey, u0, u2, u3, u4⟩ := slot_cells hrs
      have hce' : HC.cellsIn h1[bk]? (k * 6) 6 = some [w0, .int .i64 wn, w2, w3, w4, .bool T[k].isSome] := hce
      have hidx : ∀ (K : Value → Heap → Prop) (h : Heap), indexAddrS Tryz.prog 124 (.slice (some ⟨bk, 0, none⟩) T.length tc) (.int .i64 (k : Int)) h K = K (.pointer (some ⟨bk, k * 6, none⟩)) h := by
        intro K h
        rw [indexAddrS_slice _ _ _ _ _ _ (by omega) (by omega) rfl]
        simp [elSz]
      have wk : IntKind.i64.wrap ((k : Int) + 1) = ((k + 1 : Nat) : Int) := by rw [wrap_i64 (by omega) (by omega)]; rfl
      have hct := cells_take hkl
      simp -dsimp [hkl, hidx, hce', u0, u2, u3, u4]
      generalize hB2 : Array.setIfInBounds _ h1.size _ = h2
      have k2 : Keep none_ h1 h2 := by rw [← hB2]; exact ((Keep.refl none_ h1).pushed _).setted _ (fun hh => absurd hh (by omega))
      have hz2 : h2.size = h1.size + 1 := by rw [← hB2]; simp
      have hfb : h2[h1.size]? = some (.cells #[w0, .int .i64 wn, w2, w3, w4, .bool T[k].isSome] 128 (0, 0)) := by rw [← hB2]; exact set_same _ (by simp)
      have k02 := k1.trans k2 (fun _ _ h => h)
      have lo := hg.own_lt
      have hg2 : Grow rCell 46 E h2 (.slice va m vc) (cellsM (T.take k)) own := hg.mono (fun b hb => ⟨hb, k2.blk b (hE b hb).2.1 (fun h => h)⟩) fun b hb => ⟨fun hEb => by
        rcases hg with ⟨_, _, rfl⟩ | ⟨_, _, _, _, _, rfl, _, hn, _⟩
        · cases hb
        · cases hb; exact hn hEb, k2.blk b (lo b hb) (fun h => h)⟩
      cases hta : T[k] with
      | none =>
        rw [hta] at hfb hct
        simp only [List.append_nil] at hct
        rw [← hct] at hg2
        simp -dsimp [wk]
        refine ⟨(k + 1, .slice va m vc), ?_, rfl, ⟨k02, by show k + 1 ≤ T.length; omega, E, own, hg2, fun b hb => by have := hE b hb; exact ⟨this.1, by omega, this.2.2.at (k2.blk b this.2.1 (fun h => h))⟩, ho⟩, by show T.length - (k + 1) < T.length - k; omega⟩
        intro p hp
        simp at hp
        rcases hp with rfl | rfl | rfl | rfl <;> simp
      | some d =>
        rw [hta] at hfb hct hrs
        obtain ⟨ds0, hd1, hd2⟩ := hrs
        have hdl := rCell.len hd1
        obtain rfl : ds0 = [w0, .int .i64 wn, w2, w3, w4] := by
          match ds0, hdl with
          | [a, b, c, d, e], _ =>
            simp at hd2
            obtain ⟨rfl, rfl, rfl, rfl, rfl⟩ := hd2
            rfl
        have hd2' : rCell.rep R h2 [w0, .int .i64 wn, w2, w3, w4] d := rCell.mono hd1 fun b hb => ⟨hb, k2.blk b (by have := hRl b hb; omega) (fun h => h)⟩
        have hds : CellSmall d := hsm k d (by rw [List.getElem?_eq_getElem hkl, hta])
        simp -dsimp [hfb]
        refine call_by (hashOwn_th hd2' (fun b hb => by have := hRl b hb; omega) hds) ?_
        rintro _ h3 ⟨ds, E3, rfl, hr3, k3, hE3⟩
        have e3 := k3.size
        have hlen3 := rCell.len hr3
        have hone3 := rCell.one hr3
        obtain ⟨z0, z1, z2, z3, z4, rfl⟩ : ∃ z0 z1 z2 z3 z4, ds = [z0, z1, z2, z3, z4] := by
          match ds, hlen3 with
          | [a, b, c, d, e], _ => exact ⟨a, b, c, d, e, rfl⟩
        simp only [List.all_cons, List.all_nil, Bool.and_true, Bool.and_eq_true] at hone3
        obtain ⟨y0, y1, y2, y3, y4⟩ := hone3
        have lo2 := hg2.own_lt
        have hg3 : Grow rCell 46 (fun b => E b ∨ E3 b) h3 (.slice va m vc) (cellsM (T.take k)) own := hg2.mono (fun b hb => ⟨.inl hb, k3.blk b (by have := (hE b hb).2.1; omega) (fun h => h)⟩) fun b hb => ⟨fun hEb => by
          rcases hEb with hEb | hEb
          · rcases hg with ⟨_, _, rfl⟩ | ⟨_, _, _, _, _, rfl, _, hn, _⟩
            · cases hb
            · cases hb; exact hn hEb
          · have := (hE3 b hEb).1; have := lo2 b hb; omega, k3.blk b (lo2 b hb) (fun h => h)⟩
        have hFF : ∀ b, E b ∨ E3 b → b < h3.size := fun b hb => hb.elim (fun h => by have := (hE b h).2.1; omega) (fun h => (hE3 b h).2.1)
        have hps : (h3.push (.cells #[z0, z1, z2, z3, z4] 46)).size = h3.size + 1 := by simp
        have hr4 : rCell.rep (fun b => E b ∨ E3 b) (h3.push (.cells #[z0, z1, z2, z3, z4] 46)) [z0, z1, z2, z3, z4] d := rCell.mono hr3 fun b hb => ⟨.inr hb, push_old _ (hE3 b hb).2.1⟩
        simp -dsimp
        refine append_grow (F := fun b => E b ∨ E3 b) (F2 := fun b => b = h3.size) (ys := [d]) cellT (hg3.push hFF _) (fun b hb => by have := hFF b hb; omega) rfl
          (.inr ⟨h3.size, 0, _, _, _, rfl, rfl, push_new _ _, rfl⟩) (.single hr4) (by rw [hm]; simp; omega) (by rw [hm]; simp; omega) ?_
        intro tv' h5 own' hg5 kk5 ho5
        rw [hps] at ho5
        have e5 := kk5.size
        rw [hps] at e5
        rw [← hct] at hg5
        simp -dsimp [wk]
        refine ⟨(k + 1, tv'), ?_, rfl, ⟨⟨by omega, fun b hb _ => by rw [kk5.blk b (by omega) (fun e => by have := ho b e; omega), push_old _ (by omega), k3.blk b (by omega) (fun h => h), k02.blk b hb (fun h => h)]⟩, by show k + 1 ≤ T.length; omega, _, own', hg5, fun b hb => hb.elim (fun h => by have := hE b h; exact ⟨this.1, by omega, this.2.2.at (by rw [kk5.blk b (by omega) (fun e => hg.notF b e h), push_old _ (by omega), k3.blk b (by omega) (fun h => h), k2.blk b (by omega) (fun h => h)])⟩) (fun h => by have := hE3 b h; exact ⟨by omega, by omega, this.2.2.at (by rw [kk5.blk b (by omega) (fun e => by have := lo2 b e; omega), push_old _ (by omega)])⟩), fun b hb => (ho5 b hb).elim (ho b) (fun h => by omega)⟩, by show T.length - (k + 1) < T.length - k; omega⟩
        intro p hp
        simp at hp
        rcases hp with rfl | rfl | rfl | rfl <;> simp
    · have hall : T.take k = T := List.take_of_length_le (by omega)
      rw [hall] at hg hm
      simp -dsimp [hkl]
      refine call_by (cloneCell_spec hg (fun b hb => (hE b hb).2.1) (by rw [hm]; omega)) ?_
      rintro _ h2 ⟨own2, hg2, k2, ho2⟩
      obtain ⟨a2, c2, hv2⟩ := hg2.val
      rw [hm] at hv2
      subst hv2
      have e2 := k2.size
      simp -dsimp
      exact hK _ _ ⟨E, own2, hg2, k1.trans k2 (fun _ _ h => h), fun b hb => by have := hE b hb; exact ⟨this.1, by omega, this.2.2.at (k2.blk b this.2.1 (fun h => h))⟩, fun b hb => by have := ho2 b hb; omega⟩
theorem hcells_spec {v : Value} {F : Nat → Prop} {h : Heap} {T : Tab} (s : TabAt v F h T) (hT : T.length < 1000000000) (hsm : TabSmall T) :
    CallH Tryz.prog 87 #[v] h fun r h' => ∃ E own, Grow rCell 46 E h' r (cellsM T) own ∧ Keep none_ h h' ∧ (∀ b, E b → h.size ≤ b ∧ b < h'.size) ∧ ∀ b, own = some b → h.size ≤ b :=
  (hcells_th s hT hsm).mono fun _ _ ⟨E, own, g, k, n, o⟩ => ⟨E, own, g, k, fun b hb => ⟨(n b hb).1, (n b hb).2.1⟩, o⟩
end Go.Proofs

/-
  The document's table: a new one; what is asked for; all cells.
-/
namespace Go.HC
/-- The first cell of a key. -/
def scanM (T : Tab) (key : List Int) : Option CellM := (cellsM T).find? fun c => decide (c.key = key)
theorem cellsM_mem {T : Tab} {c : CellM} : c ∈ cellsM T ↔ ∃ k : Nat, T[k]? = some (some c) := by
  unfold cellsM
  simp only [List.mem_filterMap, id]
  constructor
  · rintro ⟨x, hx, rfl⟩
    obtain ⟨k, hk⟩ := List.mem_iff_getElem?.1 hx
    exact ⟨k, hk⟩
  · rintro ⟨k, hk⟩
    exact ⟨_, List.mem_of_getElem? hk, rfl⟩
theorem scan_get {T : Tab} (hT : TabOk T) (key : List Int) : scanM T key = getM T key := by
  unfold scanM
  cases hf : (cellsM T).find? (fun c => decide (c.key = key)) with
  | none =>
    rw [List.find?_eq_none] at hf
    unfold getM
    cases hk : findM T key with
    | none => rfl
    | some k =>
      obtain ⟨_, h | ⟨c, h, hc⟩, _⟩ := find_spec_some hk
      · simp [h]
      · exact absurd hc (by simpa using hf c (cellsM_mem.2 ⟨k, h⟩))
  | some c =>
    have hm := List.mem_of_find?_eq_some hf
    have hk := List.find?_some hf
    simp only [decide_eq_true_eq] at hk
    obtain ⟨k, h⟩ := cellsM_mem.1 hm
    have := find_there hT h
    unfold getM
    rw [← hk, this]
    simp [h]
end Go.HC
namespace Go.Proofs
open Go Go.HC

theorem rtab_new {h : Heap} {n bt bc bi : Nat} (hn : n < 1000000000) (ne : bt ≠ bc ∧ bt ≠ bi ∧ bc ≠ bi) (ht : h[bt]? = some (.cells #[.slice (some ⟨bc, 0, none⟩) n n, .slice (some ⟨bi, 0, none⟩) n n, .int .i64 0] 110 (0, 0)))
    (hc : h[bc]? = some (.cells (zeros (.agg #[.slice none 0 0, .int .i64 0, .slice none 0 0, .slice none 0 0, .slice none 0 0]) n) 46 (0, 0))) (hi : h[bi]? = some (.cells (zeros (.bool false) n) 4 (0, 0))) :
    RTabC 110 46 4 h (newM n) bt bc bi n n n none_ := by
  have hl : (newM n).length = n := List.length_replicate
  have ec : Elems rCell none_ h (zeros (.agg #[.slice none 0 0, .int .i64 0, .slice none 0 0, .slice none 0 0, .slice none 0 0]) n).toList (List.replicate n zeroC) := zeros_elems (R := rCell) (x := zeroC) ⟨_, _, _, _, rfl, .nil _ _ _, .nil _ _ _, .nil _ _ _, .nil _ _ _⟩ n
  have ei : Elems rBool none_ h (zeros (.bool false) n).toList (List.replicate n false) := zeros_elems (R := rBool) (x := false) (show (Value.bool false).cells.toList = [.bool false] from rfl) n
  have mc : (newM n).map (fun s => s.getD zeroC) = List.replicate n zeroC := by simp [newM]
  have mi : (newM n).map Option.isSome = List.replicate n false := by simp [newM]
  refine ⟨by rw [newM_taken]; exact ht, hl.symm, ?_, ?_, ne, fun b hb => hb.elim⟩
  · rw [mc]
    have h1 := ec.len
    rw [List.length_replicate] at h1
    refine .inr ⟨bc, n, _, _, by rw [List.length_replicate], rfl, hc, fun h => h, by simpa using h1, by rw [List.length_replicate]; exact Nat.le_refl _, by omega, rfl, ?_⟩
    rw [List.take_of_length_le (by rw [h1, List.length_replicate]; exact Nat.le_refl _)]
    exact ec
  · rw [mi]
    have h1 := ei.len
    rw [List.length_replicate] at h1
    refine .inr ⟨bi, n, _, _, by rw [List.length_replicate], rfl, hi, fun h => h, by simpa using h1, by rw [List.length_replicate]; exact Nat.le_refl _, by omega, rfl, ?_⟩
    rw [List.take_of_length_le (by rw [h1, List.length_replicate]; exact Nat.le_refl _)]
    exact ei

set_option maxHeartbeats 4000000 in
set_option maxRecDepth 10000 in
theorem rnew7_spec (n : Nat) (hn : n < 1000000000) (h : Heap) : CallH Tryz.prog 58 #[.int .i64 n] h fun r h' => ∃ G, RTabT r G h' (newM n) ∧ Keep none_ h h' ∧ ∀ b, G b → h.size ≤ b := by
  refine callH_by fun K hK => ?_
  refine enter [.tmp 2] Tryz.func58 rfl rfl (by kernel_rfl) rfl ?_
  have hmc : ∀ (K : Value → Heap → Prop) (h : Heap), makeSliceS Tryz.prog 31 (.int .i64 (n : Int)) (.int .i64 (n : Int)) h K = K (.slice (some ⟨h.size, 0, none⟩) n n) (h.push (.cells (zeros (.agg #[.slice none 0 0, .int .i64 0, .slice none 0 0, .slice none 0 0, .slice none 0 0]) n) 46)) := by
    intro K h
    have := make_slice (P := Tryz.prog) (K := K) (h := h) (k := .i64) (k' := .i64) (n := (n : Int)) Tryz.elS31 Tryz.szS46 Tryz.byS46 Tryz.zS46 rfl (by omega) (by omega) (by omega)
    simpa using this
  have hmi : ∀ (K : Value → Heap → Prop) (h : Heap), makeSliceS Tryz.prog 108 (.int .i64 (n : Int)) (.int .i64 (n : Int)) h K = K (.slice (some ⟨h.size, 0, none⟩) n n) (h.push (.cells (zeros (.bool false) n) 4)) := by
    intro K h
    have := make_slice (P := Tryz.prog) (K := K) (h := h) (k := .i64) (k' := .i64) (n := (n : Int)) Tryz.elS108 Tryz.szS4 Tryz.byS4 Tryz.zS4 rfl (by omega) (by omega) (by omega)
    simpa using this
  simp -dsimp
  refine drawn_by2 1 3 [⟨0, true, []⟩, ⟨2, true, []⟩, ⟨1, false, [2]⟩, ⟨3, false, []⟩, ⟨4, false, []⟩, ⟨5, false, []⟩, ⟨6, true, []⟩] [⟨0, true, []⟩, ⟨2, true, []⟩, ⟨3, false, [0]⟩, ⟨1, false, []⟩, ⟨4, false, []⟩, ⟨5, false, []⟩, ⟨6, true, []⟩] (by kernel_rfl) (by kernel_rfl) ?_ ?_
  · simp -dsimp [hmc, hmi, again_cons, boxS_eq]
    refine hK _ _ ⟨_, ⟨_, _, _, _, _, _, _, rfl, rfl, rtab_new hn ⟨?_, ?_, ?_⟩ (push_get ?_) (push_at (push_at (push_new _ _))) (push_at (push_get ?_))⟩, ((Keep.refl _ _).pushed _).pushed _ |>.pushed _, ?_⟩
    all_goals first | (simp; done) | (simp; omega) | (exact fun b hb => by rcases hb with h | h | h | h <;> first | omega | exact h.elim)
  · simp -dsimp [hmc, hmi, again_cons, boxS_eq]
    refine hK _ _ ⟨_, ⟨_, _, _, _, _, _, _, rfl, rfl, rtab_new hn ⟨?_, ?_, ?_⟩ (push_get ?_) (push_at (push_get ?_)) (push_at (push_at (push_new _ _)))⟩, ((Keep.refl _ _).pushed _).pushed _ |>.pushed _, ?_⟩
    all_goals first | (simp; done) | (simp; omega) | (exact fun b hb => by rcases hb with h | h | h | h <;> first | omega | exact h.elim)

set_option maxHeartbeats 4000000 in
set_option maxRecDepth 10000 in
theorem rcells7_spec {v : Value} {G : Nat → Prop} {h : Heap} {T : Tab} {m : Nat} (s : RTabT v G h T) (hT' : T.length < 1000000) (hm : m < 1000000000)
    (hs : ∀ (k : Nat) (d : CellM), T[k]? = some (some d) → Sml m d) :
    CallH Tryz.prog 61 #[v] h fun r h' => SlRep rCell (Ft h.size none_ h') h' r (cellsM T) ∧ Keep none_ h h' := by
  refine callH_by fun K hK => ?_
  obtain ⟨bt, bc, bi, n, cc, ic, D, rfl, rfl, s⟩ := s
  refine enter [.tmp 2] Tryz.func61 rfl rfl (by kernel_rfl) rfl ?_
  have hlen := s.len
  simp -dsimp
  have slt := s.lt
  refine loopc (σ := Nat × Value) (fun t => [(0, .pointer (some ⟨bt, 0, none⟩)), (3, t.2), (4, .int .i64 t.1)])
    (fun t h1 => ∃ M own, Tr none_ M h h1 ∧ (∀ b, own = some b → h.size ≤ b) ∧ t.1 ≤ n ∧ Gr rCell 46 h.size M h1 t.2 (cellsM (T.take t.1)) own)
    (fun t => n - t.1) (0, .slice none 0 0) 0 (fun t _ => t.1 = n) noRet noRet_le (by simp) ⟨none_, none, .start _, (fun _ h => by cases h), Nat.zero_le _, .nil _ _ _ _ _⟩ (by kernel_rfl) ?_ ?_
  · rintro ⟨i, v⟩ h1 g ⟨M, own, t1, ho, hi, g1⟩
    simp only at hi g1
    obtain ⟨va, vn, vc, ev, hvn⟩ := g1.vals
    subst ev
    have wi := wrap_succ (k := i) (by omega)
    have s1 := s.mono t1.size fun b hb => t1.keep.blk b (slt b hb) (fun h => h)
    by_cases hin : i < n
    · have hpT : i < T.length := by omega
      obtain ⟨bk, csI, eI, oI, rI, cI⟩ := s1.I.elem i (by simpa using hpT)
      obtain ⟨bk2, csC, eC, oC, rC, cC⟩ := s1.C.elem i (by simpa using hpT)
      cases eI; cases eC
      have hI : cellIn h1[bi]? i = some (.bool (T[i]).isSome) := by
        have h0 : csI = [.bool (T[i]).isSome] := by simpa [rBool] using rI
        rw [h0] at cI
        have := cellsIn_cell (d := 0) cI (by decide)
        simpa [rBool] using this
      have htk : cellsM (T.take (i + 1)) = cellsM (T.take i) ++ (match T[i] with | some c => [c] | none => []) := cells_take hpT
      cases hTp : T[i] with
      | none =>
        rw [hTp] at hI htk
        simp -dsimp [hin, s1.top, idxA_nat hin, hI, wi]
        refine ⟨(i + 1, .slice va vn vc), by simp, rfl, ⟨M, own, t1, ho, by omega, ?_⟩, by simp; omega⟩
        rw [htk, List.append_nil]; exact g1
      | some c =>
        rw [hTp] at hI htk
        rw [List.getElem_map, hTp, Option.getD_some] at rC
        obtain ⟨ka, kc, sa, sc, na, nc, xa, xc, rfl, q1, _⟩ := cell_open rC
        have hcC : HC.cellsIn h1[bc]? (i * 5) 5 = _ := cC
        simp -dsimp [hin, s1.top, idxA_nat hin, hI, hcC]
        have hd := hs i c (by rw [List.getElem?_eq_getElem hpT, hTp])
        refine call_by (rcopy_new (rCell.mono rC fun b hb => ⟨⟨nz, (s1.D b hb).1, fun h => h⟩, rfl⟩) (hd.small hm)) ?_
        rintro _ h4 ⟨es, rfl, re, k4⟩
        have t4 := t1.call k4
        obtain ⟨ka5, kc5, sa5, sc5, na5, nc5, xa5, xc5, rfl, _⟩ := cell_open re
        simp -dsimp
        have hcl : (cellsM (T.take i)).length ≤ T.length := by
          rw [cells_len]
          exact Nat.le_trans (taken_le _) (by rw [List.length_take]; omega)
        refine gr_app1 rfl cellT (g1.call k4) t4.lt (rCell.mono re (t1.ret t1.size)) rfl (by omega) (by omega) ?_
        intro v5 h5 own5 g5 t5 k5 ho5
        obtain ⟨va5, vn5, vc5, ev5, _⟩ := g5.vals
        subst ev5
        simp -dsimp [wi]
        have hs4 := t4.size
        refine ⟨(i + 1, .slice va5 vn5 vc5), by simp, rfl, ⟨_, own5, t4.trans t5, fun b hb => (ho5 b hb).elim (ho b) (by omega), by omega, ?_⟩, by simp; omega⟩
        rw [htk]; exact g5
    · simp -dsimp [hin, s1.top]
      exact ⟨rfl, (i, .slice va vn vc), by simp, rfl, ⟨M, own, t1, ho, hi, g1⟩, by show i = n; omega⟩
  · rintro ⟨i, v⟩ h1 g ⟨M, own, t1, ho, hi, g1⟩ hin
    simp only at hi g1 hin
    simp -dsimp
    rw [List.take_of_length_le (by omega)] at g1
    exact hK _ _ ⟨g1.rep (Nat.le_refl _) ho, t1.keep⟩
end Go.Proofs

/-
  The library's sort of one cell.
-/
namespace Go.Proofs
open Go Go.HC
set_option maxRecDepth 10000 in
theorem len64_one (h : Heap) : CallH Tryz.prog 109 #[.int .u64 1] h fun r h' => (∃ z : Int, r = .int .i64 z) ∧ h' = h := by
  refine callH_by fun K hK => ?_
  refine enter [.tmp 2] Tryz.func109 rfl rfl (by kernel_rfl) rfl ?_
  simp -dsimp
  rw [indexS_string (c := 1) Tryz.strT9 (by decide) rfl]
  simp -dsimp
  exact hK _ _ ⟨⟨_, rfl⟩, rfl⟩
set_option maxRecDepth 10000 in
theorem len_one (h : Heap) : CallH Tryz.prog 91 #[.int .u64 1] h fun r h' => (∃ z : Int, r = .int .i64 z) ∧ h' = h := by
  refine callH_by fun K hK => ?_
  refine enter [.tmp 2] Tryz.func91 rfl rfl (by kernel_rfl) rfl ?_
  simp -dsimp
  refine call_by (len64_one h) ?_
  rintro _ h' ⟨⟨z, rfl⟩, hh⟩
  obtain rfl := hh.symm
  simp -dsimp
  exact hK _ _ ⟨⟨z, rfl⟩, rfl⟩
set_option maxRecDepth 10000 in
theorem insertion1 (v : Value) (fv : Value) (h : Heap) : CallH Tryz.prog 113 #[v, .int .i64 0, .int .i64 1, fv] h fun r h' => r = .tuple #[] ∧ h' = h := by
  refine callH_by fun K hK => ?_
  refine enter [] Tryz.func113 rfl rfl (by kernel_rfl) rfl ?_
  have w1 : IntKind.i64.wrap 1 = 1 := by decide
  simp -dsimp [w1]
  refine loop' (σ := Unit) (fun _ => [(2, .int .i64 1), (8, .int .i64 1)]) (fun _ => []) (fun _ h' => h' = h) (fun _ => 0) () ?_ rfl rfl (by kernel_rfl) ?_
  · intro p hp
    simp at hp
    rcases hp with rfl | rfl <;> simp
  · rintro _ h' g rfl
    simp -dsimp
    exact hK _ _ ⟨rfl, rfl⟩
set_option maxHeartbeats 4000000 in
set_option maxRecDepth 10000 in
theorem pdq1 (v : Value) (z : Int) (fv : Value) (h : Heap) : CallH Tryz.prog 98 #[v, .int .i64 0, .int .i64 1, .int .i64 z, fv] h fun r h' => r = .tuple #[] ∧ h' = h := by
  refine callH_by fun K hK => ?_
  refine enter [] Tryz.func98 rfl rfl (by kernel_rfl) rfl ?_
  simp -dsimp
  refine loop' (σ := Unit) (fun _ => [(0, v), (1, .int .i64 0), (2, .int .i64 1), (4, fv)]) (fun _ => []) (fun _ h' => h' = h) (fun _ => 0) () ?_ rfl rfl (by kernel_rfl) ?_
  · intro p hp
    simp at hp
    rcases hp with rfl | rfl | rfl | rfl <;> simp
  · rintro _ h' g rfl
    simp -dsimp
    refine call_by (insertion1 v fv h') ?_
    rintro _ h2 ⟨rfl, hh⟩
    obtain rfl := hh.symm
    simp -dsimp
    exact hK _ _ ⟨rfl, rfl⟩
set_option maxRecDepth 10000 in
theorem sort1_spec (a : Option Addr) (c : Nat) (fv : Value) (h : Heap) : CallH Tryz.prog 88 #[.slice a 1 c, fv] h fun r h' => r = .tuple #[] ∧ h' = h := by
  refine callH_by fun K hK => ?_
  refine enter [] Tryz.func88 rfl rfl (by kernel_rfl) rfl ?_
  simp -dsimp
  refine call_by (len_one h) ?_
  rintro _ h' ⟨⟨z, rfl⟩, hh⟩
  obtain rfl := hh.symm
  simp -dsimp
  refine call_by (pdq1 _ z fv h) ?_
  rintro _ h' ⟨rfl, hh⟩
  obtain rfl := hh.symm
  simp -dsimp
  exact hK _ _ ⟨rfl, rfl⟩
end Go.Proofs

/-
  The program's group-by of one cell; a key's cell; the law's example.
-/
namespace Go.HC
theorem put_newOne (c : CellM) : putM (newM 1) c = some [some c] := by
  have hf : findM (newM 1) c.key = some 0 := by
    have h0 : probe c.key (newM 1).length 0 = 0 := Nat.mod_one _
    have := find_hit (T := newM 1) (key := c.key) (i := 0) (by decide) (fun j hj => by omega) (by rw [h0]; rfl)
    rw [h0] at this
    exact this
  unfold putM
  rw [hf]
  rfl
end Go.HC
namespace Go.Proofs
open Go Go.HC

set_option maxHeartbeats 40000000 in
set_option maxRecDepth 10000 in
theorem fit1_spec {F : Nat → Prop} {h : Heap} {cs : List Value} {c : CellM} {sb : Nat} (hr : rCell.rep F h cs c) (hF : ∀ b, F b → b < h.size) (hc : CellSmall c) (hs : h[sb]? = some (.cells cs.toArray 46 (0, 0))) :
    CallH Tryz.prog 70 #[.slice (some ⟨sb, 0, none⟩) 1 1, .int .i64 1] h fun r h' => ∃ E v own, r = .tuple #[v, .bool true] ∧ Grow rCell 46 E h' v [c] own ∧ Keep none_ h h' ∧ (∀ b, E b → h.size ≤ b ∧ b < h'.size) ∧ ∀ b, own = some b → h.size ≤ b := by
  refine callH_by fun K hK => ?_
  have hlen := rCell.len hr
  have hone := rCell.one hr
  obtain ⟨v0, v1, v2, v3, v4, rfl⟩ : ∃ v0 v1 v2 v3 v4, cs = [v0, v1, v2, v3, v4] := by
    match cs, hlen with
    | [a, b, c, d, e], _ => exact ⟨a, b, c, d, e, rfl⟩
  simp only [List.all_cons, List.all_nil, Bool.and_true, Bool.and_eq_true] at hone
  obtain ⟨u0, u1, u2, u3, u4⟩ := hone
  have hsb := lt_of_blk hs
  refine enter [.tmp 4, .tmp 5] Tryz.func70 rfl rfl (by kernel_rfl) rfl ?_
  have hidx : ∀ (K : Value → Heap → Prop) (h : Heap), indexAddrS Tryz.prog 31 (.slice (some ⟨sb, 0, none⟩) 1 1) (.int .i64 0) h K = K (.pointer (some ⟨sb, 0, none⟩)) h := by
    intro K h
    rw [indexAddrS_slice (i := 0) _ _ _ _ _ (by omega) (by omega) rfl]
    simp [elSz]
  simp -dsimp
  refine call_by (hnew_spec 1 (by decide) h) ?_
  rintro tv h0 ⟨F0, t0, k0, n0⟩
  have e0 := k0.size
  obtain ⟨bs, htv⟩ : ∃ bs, tv = .pointer (some ⟨bs, 0, none⟩) := by
    obtain ⟨bs, _, _, _, rfl, _⟩ := t0; exact ⟨bs, rfl⟩
  subst htv
  simp -dsimp
  refine loop' (σ := Bool) (fun t => [(6, .pointer (some ⟨bs, 0, none⟩)), (12, .slice (some ⟨sb, 0, none⟩) 1 1), (13, .int .i64 1), (14, .int .i64 (if t = true then 1 else 0))]) (fun _ => [])
    (fun t h1 => (t = false ∧ h1 = h0) ∨ (t = true ∧ Keep none_ h h1 ∧ ∃ F1, TabAt (.pointer (some ⟨bs, 0, none⟩)) F1 h1 [some c] ∧ ∀ b, F1 b → h.size ≤ b))
    (fun t => if t = true then 0 else 1) false ?_ rfl (.inl ⟨rfl, rfl⟩) (by kernel_rfl) ?_
  · intro p hp
    simp at hp
    rcases hp with rfl | rfl | rfl | rfl <;> simp
  · rintro t h1 g (⟨rfl, rfl⟩ | ⟨rfl, k1, F1, t1, n1⟩)
    · have hs0 := k0.at hs (fun h => h)
      simp -dsimp [hidx, hs0, u0, u1, u2, u3, u4]
      generalize hB2 : Array.setIfInBounds _ h1.size _ = h2
      have k2 : Keep none_ h1 h2 := by rw [← hB2]; exact ((Keep.refl none_ h1).pushed _).setted _ (fun hh => absurd hh (by omega))
      have hz2 : h2.size = h1.size + 1 := by rw [← hB2]; simp
      have k02 := k0.trans k2 (fun _ _ h => h)
      have hr2 := rCell.mono hr fun b hb => (⟨hb, k02.blk b (hF b hb) (fun h => h)⟩ : F b ∧ h2[b]? = h[b]?)
      have t2 := t0.keep k2 (fun _ _ h => h)
      have hsm : TabSmall (newM 1) := fun k d hd => by
        unfold newM at hd
        rw [List.getElem?_replicate] at hd
        split at hd <;> cases hd
      refine call_by (hput_spec t2 (by decide) hsm hr2 (fun b hb => by have := hF b hb; omega) hc) ?_
      rintro _ h3 ⟨rfl, F3, t3, k3, n3⟩
      rw [put_newOne] at t3 ⊢
      have e3 := k3.size
      simp -dsimp
      refine ⟨true, ?_, rfl, .inr ⟨rfl, ⟨by omega, fun b hb _ => by rw [k3.blk b (by omega) (fun hf => by have := n0 b hf; omega), k02.blk b hb (fun h => h)]⟩, F3, t3, fun b hb => (n3 b hb).elim (n0 b) (fun h => by omega)⟩, by simp⟩
      intro p hp
      simp at hp
      rcases hp with rfl | rfl | rfl | rfl <;> simp
    · have hsm : TabSmall [some c] := fun k d hd => by
        match k, hd with
        | 0, hd => simp at hd; rw [← hd]; exact hc
        | k + 1, hd => simp at hd
      simp -dsimp
      refine call_by (hcells_spec t1 (show 1 < 1000000000 from by decide) hsm) ?_
      rintro _ h2 ⟨E, own, hg, k2, hE, ho⟩
      have hg' : Grow rCell 46 E h2 _ [c] own := hg
      obtain ⟨a2, c2, rfl⟩ := hg'.val
      have e1 := k1.size
      have hl1 : [c].length = 1 := rfl
      simp -dsimp
      refine call_by (sort1_spec a2 c2 _ h2) ?_
      rintro _ h2' ⟨rfl, hh⟩
      obtain rfl := hh.symm
      simp -dsimp
      exact hK _ _ ⟨E, _, own, rfl, hg', k1.trans k2 (fun _ _ h => h), fun b hb => by have := hE b hb; omega, fun b hb => by have := ho b hb; omega⟩

set_option maxRecDepth 10000 in
theorem hgroup1_spec {F : Nat → Prop} {h : Heap} {cs : List Value} {c : CellM} {sb : Nat} (hr : rCell.rep F h cs c) (hF : ∀ b, F b → b < h.size) (hc : CellSmall c) (hs : h[sb]? = some (.cells cs.toArray 46 (0, 0))) :
    CallH Tryz.prog 38 #[.slice (some ⟨sb, 0, none⟩) 1 1, .int .i64 1] h fun r h' => ∃ E v own, r = .tuple #[v, .int .i64 1] ∧ Grow rCell 46 E h' v [c] own ∧ Keep none_ h h' ∧ (∀ b, E b → h.size ≤ b ∧ b < h'.size) ∧ ∀ b, own = some b → h.size ≤ b := by
  refine callH_by fun K hK => ?_
  refine enter [.tmp 4, .tmp 5] Tryz.func38 rfl rfl (by kernel_rfl) rfl ?_
  simp -dsimp
  refine call_by (K' := fun r h' => ∃ E v own, r = .tuple #[v, .int .i64 1] ∧ Grow rCell 46 E h' v [c] own ∧ Keep none_ h h' ∧ (∀ b, E b → h.size ≤ b ∧ b < h'.size) ∧ ∀ b, own = some b → h.size ≤ b) ?_ ?_
  · refine callH_by fun K hK => ?_
    refine enter [.tmp 6, .tmp 7] Tryz.func54 rfl rfl (by kernel_rfl) rfl ?_
    simp -dsimp
    refine call_by (fit1_spec hr hF hc hs) ?_
    rintro _ h1 ⟨E, v, own, rfl, hg, k1, hE, ho⟩
    simp -dsimp
    exact hK _ _ ⟨E, v, own, rfl, hg, k1, hE, ho⟩
  · rintro _ h1 ⟨E, v, own, rfl, hg, k1, hE, ho⟩
    obtain ⟨a1, c1, rfl⟩ := hg.val
    simp -dsimp
    refine call_by (cloneCell_spec hg (fun b hb => (hE b hb).2) (by simp)) ?_
    rintro _ h2 ⟨own2, hg2, k2, ho2⟩
    obtain ⟨a2, c2, rfl⟩ := hg2.val
    have e1 := k1.size
    have e2 := k2.size
    simp -dsimp
    exact hK _ _ ⟨E, _, own2, rfl, hg2, k1.trans k2 (fun _ _ h => h), fun b hb => by have := hE b hb; omega, fun b hb => by have := ho2 b hb; omega⟩
end Go.Proofs

/-
  The program's table: a key's cell; the law's example.
-/
namespace Go.Proofs
open Go Go.HC

end Go.Proofs

/-
  The law's example; numbers within a bound; keys that are held against each other.
-/
namespace Go.HC
def cell1 (k : Int) : CellM := ⟨[k], 1, [], [], []⟩
theorem cell1_small (k : Int) : CellSmall (cell1 k) := ⟨by simp [cell1], by simp [cell1], by simp [cell1], by simp [cell1]⟩
end Go.HC
namespace Go.Proofs
open Go Go.HC

theorem rep_key1 {h : Heap} {b : Nat} {k : Int} {e : TypeId} {fz : Nat × Nat} (hb : h[b]? = some (.cells #[.int .i64 k] e fz)) : SlRep rInt (fun x => x = b) h (.slice (some ⟨b, 0, none⟩) 1 1) [k] :=
  ⟨_, 1, _, rfl, Nat.le_refl _, by decide, .inr ⟨b, 0, _, _, _, rfl, rfl, hb, rfl⟩, ints_map.2 rfl⟩
theorem rep_cell1 {h : Heap} {b : Nat} {k : Int} {e : TypeId} {fz : Nat × Nat} (hb : h[b]? = some (.cells #[.int .i64 k] e fz)) : rCell.rep (fun x => x = b) h [.slice (some ⟨b, 0, none⟩) 1 1, .int .i64 1, .slice none 0 0, .slice none 0 0, .slice none 0 0] (cell1 k) :=
  ⟨_, _, _, _, rfl, rep_key1 hb, .nil _ _ _, .nil _ _ _, .nil _ _ _⟩
theorem new1_small : TabSmall (newM 1) := fun k d hd => by
  unfold newM at hd
  rw [List.getElem?_replicate] at hd
  split at hd <;> cases hd
theorem one_small {c : CellM} (hc : CellSmall c) : TabSmall [some c] := fun k d hd => by
  match k, hd with
  | 0, hd => simp at hd; rw [← hd]; exact hc
  | k + 1, hd => simp at hd

end Go.Proofs

/-
  Cells of facts; tables that are given the same cells.
-/
namespace Go.HC
theorem pick_mem {s x : Int} : ∀ {xs : List Int} {i : Nat}, x ∈ pickM s i xs → x ∈ xs
  | [], _, h => by cases h
  | y :: ys, i, h => by
    rw [pickM] at h
    split at h
    · rcases List.mem_cons.1 h with rfl | h
      · exact List.mem_cons_self
      · exact List.mem_cons_of_mem _ (pick_mem h)
    · exact List.mem_cons_of_mem _ (pick_mem h)
/-- How many dimensions a set has, of so many. -/
def lvlM (s : Int) : Nat → Nat → Nat
  | _, 0 => 0
  | i, n + 1 => (if bitM s i then 1 else 0) + lvlM s (i + 1) n
theorem pick_len (s : Int) : ∀ (xs : List Int) (i : Nat), (pickM s i xs).length = lvlM s i xs.length
  | [], _ => rfl
  | x :: xs, i => by
    rw [pickM, List.length_cons, lvlM]
    split <;> simp [pick_len s xs (i + 1)] <;> omega
/-- Cells of facts: rows of measures alike long, keys alike long, of few values. -/
structure CellOk (m n : Nat) (c : CellM) : Prop where
  sml : Sml m c
  len : c.key.length = n
  key : ∀ v ∈ c.key, 0 ≤ v ∧ v < 16
theorem CellOk.keyOk {m n : Nat} {c : CellM} (h : CellOk m n c) : KeyOk c.key := fun v hv => by have := h.key v hv; omega
theorem CellOk.join {m n : Nat} {a b : CellM} (ha : CellOk m n a) (hb : CellOk m n b) : CellOk m n (joinC a b) := ⟨ha.sml.join hb.sml, ha.len, ha.key⟩
theorem FactsOk.cell {s : SchM} {rows : List RowM} (h : FactsOk s rows) (a : Int) : ∀ c ∈ rows.map (ofM a), CellOk s.ms.toNat (lvlM a 0 s.cards.length) c := by
  intro c hc
  obtain ⟨r, hr, rfl⟩ := List.mem_map.1 hc
  have hk := h.key r hr
  have hd := h.dims
  refine ⟨?_, ?_, fun v hv => ?_⟩
  · rw [← (h.m r hr).1]; exact .of (by omega)
  · simp only [ofM]; rw [pick_len, hk.1]
  · have hm := pick_mem hv
    obtain ⟨i, hi, rfl⟩ := List.getElem_of_mem hm
    have h1 := hk.2 i hi (by omega)
    have h2 := h.cards _ (List.getElem_mem (show i < s.cards.length by omega))
    omega
theorem put_cells {T T' : Tab} {c : CellM} {p : CellM → Prop} (hT : ∀ (k : Nat) (d : CellM), T[k]? = some (some d) → p d) (hc : p c) (hj : ∀ d, p d → p (joinC d c)) (h : putM T c = some T') : ∀ (k : Nat) (d : CellM), T'[k]? = some (some d) → p d := by
  unfold putM at h
  cases hf : findM T c.key with
  | none => rw [hf] at h; cases h
  | some k =>
    rw [hf] at h
    simp only [Option.some.injEq] at h
    intro j d hd
    rw [← h, List.getElem?_set] at hd
    split at hd
    · split at hd
      · simp only [Option.some.injEq] at hd
        rename_i e1 _
        subst e1
        split at hd
        · rename_i d' hd'
          cases hd
          exact hj d' (hT _ _ hd')
        · cases hd; exact hc
      · cases hd
    · exact hT j d hd
end Go.HC
namespace Go.Proofs
open Go Go.HC

/-- Two tables, the program's and the document's, of the same cells. -/
structure Twin (n0 : Nat) (tv xv : Value) (h : Heap) (T : Tab) (k m n : Nat) (F G : Nat → Prop) : Prop where
  t : TabAt tv F h T
  x : RTabT xv G h T
  ok : TabOk T
  len : T.length = k
  dis : ∀ b, F b → ¬ G b
  newF : ∀ b, F b → n0 ≤ b
  newG : ∀ b, G b → n0 ≤ b
  cells : ∀ (k : Nat) (d : CellM), T[k]? = some (some d) → CellOk m n d
theorem Twin.call {n0 : Nat} {tv xv : Value} {h h' : Heap} {T : Tab} {k m n : Nat} {F G : Nat → Prop} (w : Twin n0 tv xv h T k m n F G) (c : Keep none_ h h') : Twin n0 tv xv h' T k m n F G :=
  { w with t := w.t.keep c (fun _ _ h => h), x := w.x.keep c (fun _ _ h => h) }
theorem Twin.small {n0 : Nat} {tv xv : Value} {h : Heap} {T : Tab} {k m n : Nat} {F G : Nat → Prop} (w : Twin n0 tv xv h T k m n F G) (hm : m < 1000000000) : TabSmall T := fun k d hd => (w.cells k d hd).sml.small hm
end Go.Proofs

/-
  Cells parted by a number of their keys, plainly: in how many parts.
-/
namespace Go.HC
def atV (c : CellM) (i : Nat) : Int := (c.key[i]?).getD 0
def partC (i : Nat) (v : Int) (l : List CellM) : List CellM := l.filter fun c => decide (atV c i = v)
/-- The values at a place of the keys, rising. -/
structure Vals (i : Nat) (l : List CellM) (vs : List Int) : Prop where
  srt : vs.Pairwise (· < ·)
  mem : ∀ v, v ∈ vs ↔ ∃ c ∈ l, atV c i = v
theorem Vals.unique {i : Nat} {l : List CellM} {vs us : List Int} (h : Vals i l vs) (h' : Vals i l us) : vs = us := by
  have hp : vs.Perm us := (List.perm_ext_iff_of_nodup (h.srt.imp fun h e => by omega) (h'.srt.imp fun h e => by omega)).2 fun v => (h.mem v).trans (h'.mem v).symm
  exact hp.eq_of_pairwise (le := fun a b : Int => a < b) (fun a b _ _ h1 h2 => by omega) h.srt h'.srt
theorem Vals.perm {i : Nat} {l m : List CellM} {vs : List Int} (h : Vals i l vs) (hp : l.Perm m) : Vals i m vs :=
  ⟨h.srt, fun v => (h.mem v).trans ⟨fun ⟨c, hc, e⟩ => ⟨c, hp.mem_iff.1 hc, e⟩, fun ⟨c, hc, e⟩ => ⟨c, hp.mem_iff.2 hc, e⟩⟩⟩
def valsM (i : Nat) (l : List CellM) : List Int := ((List.range 16).map Int.ofNat).filter fun v => l.any fun c => decide (atV c i = v)
/-- Cells with keys of L numbers of few values, alike ahead of a place. -/
structure Pre (L i : Nat) (l : List CellM) : Prop where
  len : ∀ c ∈ l, c.key.length = L
  small : ∀ c ∈ l, ∀ v ∈ c.key, 0 ≤ v ∧ v < 16
  pre : ∀ c ∈ l, ∀ d ∈ l, c.key.take i = d.key.take i
section
variable {L i : Nat} {l m : List CellM} {vs : List Int} {v : Int}
theorem Pre.at (h : Pre L i l) (hi : i < L) {c : CellM} (hc : c ∈ l) : ∃ hk : i < c.key.length, atV c i = c.key[i] ∧ 0 ≤ atV c i ∧ atV c i < 16 := by
  have hk : i < c.key.length := by rw [h.len c hc]; exact hi
  have e : atV c i = c.key[i] := by unfold atV; rw [List.getElem?_eq_getElem hk]; rfl
  exact ⟨hk, e, by rw [e]; exact h.small c hc _ (List.getElem_mem hk)⟩
theorem Pre.vals (h : Pre L i l) (hi : i < L) : Vals i l (valsM i l) := by
  refine ⟨?_, fun v => ?_⟩
  · unfold valsM
    refine List.Pairwise.filter _ ?_
    rw [List.pairwise_map]
    exact List.pairwise_lt_range.imp fun h => by simpa using h
  · unfold valsM
    simp only [List.mem_filter, List.mem_map, List.mem_range, List.any_eq_true, decide_eq_true_eq]
    constructor
    · rintro ⟨_, c, hc, e⟩; exact ⟨c, hc, e⟩
    · rintro ⟨c, hc, e⟩
      obtain ⟨_, _, h0, h1⟩ := h.at hi hc
      exact ⟨⟨v.toNat, by omega, by rw [Int.ofNat_eq_natCast]; omega⟩, c, hc, e⟩
theorem mem_part {c : CellM} : c ∈ partC i v l ↔ c ∈ l ∧ atV c i = v := by unfold partC; simp
theorem Pre.part (h : Pre L i l) (hi : i < L) (v : Int) : Pre L (i + 1) (partC i v l) := by
  refine ⟨fun c hc => h.len c (mem_part.1 hc).1, fun c hc => h.small c (mem_part.1 hc).1, fun c hc d hd => ?_⟩
  obtain ⟨hc, ec⟩ := mem_part.1 hc
  obtain ⟨hd, ed⟩ := mem_part.1 hd
  obtain ⟨k1, e1, _⟩ := h.at hi hc
  obtain ⟨k2, e2, _⟩ := h.at hi hd
  rw [List.take_add_one, List.take_add_one, h.pre c hc d hd, List.getElem?_eq_getElem k1, List.getElem?_eq_getElem k2, ← e1, ← e2, ec, ed]
theorem Pre.start (hl : ∀ c ∈ l, c.key.length = L) (hs : ∀ c ∈ l, ∀ v ∈ c.key, 0 ≤ v ∧ v < 16) : Pre L 0 l := ⟨hl, hs, fun _ _ _ _ => rfl⟩
theorem Pre.perm (h : Pre L i l) (hp : l.Perm m) : Pre L i m :=
  ⟨fun c hc => h.len c (hp.mem_iff.2 hc), fun c hc => h.small c (hp.mem_iff.2 hc), fun c hc d hd => h.pre c (hp.mem_iff.2 hc) d (hp.mem_iff.2 hd)⟩
theorem lessM_pre : ∀ (i : Nat) {a b : List Int}, a.take i = b.take i → ∀ (ha : i < a.length) (hb : i < b.length), a[i] < b[i] → lessM a b < 0
  | 0, x :: xs, y :: ys, _, _, _, h => by
    simp only [List.getElem_cons_zero] at h
    rw [lessM, if_pos h]; decide
  | 0, [], _, _, ha, _, _ => by simp at ha
  | 0, _ :: _, [], _, _, hb, _ => by simp at hb
  | i + 1, [], _, _, ha, _, _ => by simp at ha
  | i + 1, _ :: _, [], _, _, hb, _ => by simp at hb
  | i + 1, x :: xs, y :: ys, e, ha, hb, h => by
    simp only [List.take_succ_cons, List.cons.injEq] at e
    simp only [List.getElem_cons_succ] at h
    rw [lessM, if_neg (by omega), if_neg (by omega)]
    exact lessM_pre i e.2 (by simpa using ha) (by simpa using hb) h
/-- A group's keys are those of its cells. -/
theorem group_key {c : CellM} (hc : c ∈ groupC l) : ∃ d ∈ l, d.key = c.key := by
  have h := ((grp_group l).mem c).1 hc
  refine Classical.byContradiction fun hn => ?_
  have := atKey_none.2 (fun d hd e => hn ⟨d, hd, e⟩ : ∀ d ∈ l, d.key ≠ c.key)
  rw [this] at h; cases h
theorem key_group {c : CellM} (hc : c ∈ l) : ∃ d ∈ groupC l, d.key = c.key := by
  cases ha : atKey c.key l with
  | none => exact absurd rfl (atKey_none.1 ha c hc)
  | some d => exact ⟨d, ((grp_group l).mem d).2 (by rw [atKey_key ha]; exact ha), atKey_key ha⟩
theorem atKey_part {key : List Int} (hv : (key[i]?).getD 0 = v) : atKey key (partC i v l) = atKey key l := by
  unfold atKey partC
  rw [List.filter_filter]
  congr 1
  apply List.filter_congr
  intro c _
  by_cases hk : c.key = key
  · have : atV c i = v := by unfold atV; rw [hk]; exact hv
    simp [hk, this]
  · simp [hk]
/-- The parts' group-bys, one behind the other, are the group-by. -/
theorem group_parts (h : Pre L i l) (hi : i < L) (hv : Vals i l vs) : vs.flatMap (fun v => groupC (partC i v l)) = groupC l := by
  refine Grp.eq ⟨?_, fun c => ?_⟩
  · unfold Srt
    rw [List.pairwise_flatMap]
    refine ⟨fun v _ => (grp_group _).srt, ?_⟩
    refine hv.srt.imp ?_
    intro v u hvu x hx y hy
    obtain ⟨c, hc, e1⟩ := group_key hx
    obtain ⟨d, hd, e2⟩ := group_key hy
    obtain ⟨hc, ec⟩ := mem_part.1 hc
    obtain ⟨hd, ed⟩ := mem_part.1 hd
    obtain ⟨k1, f1, _⟩ := h.at hi hc
    obtain ⟨k2, f2, _⟩ := h.at hi hd
    rw [← e1, ← e2]
    exact lessM_pre i (h.pre c hc d hd) k1 k2 (by rw [← f1, ← f2, ec, ed]; exact hvu)
  · rw [List.mem_flatMap]
    constructor
    · rintro ⟨v, _, hc⟩
      obtain ⟨d, hd, ed⟩ := group_key hc
      have hv : atV c i = v := by unfold atV; rw [← ed]; exact (mem_part.1 hd).2
      rw [← atKey_part (v := v) hv]
      exact ((grp_group _).mem c).1 hc
    · intro ha
      refine ⟨atV c i, ?_, ?_⟩
      · have : c ∈ groupC l := ((grp_group l).mem c).2 ha
        obtain ⟨d, hd, ed⟩ := group_key this
        exact (hv.mem _).2 ⟨d, hd, by unfold atV; rw [ed]⟩
      · refine ((grp_group _).mem c).2 ?_
        rw [atKey_part (v := atV c i) rfl]
        exact ha
theorem Pre.one (h : Pre L L l) : (groupC l).length ≤ 1 := by
  have hs := (grp_group l).srt
  match hg : groupC l with
  | [] => simp
  | [_] => simp
  | a :: b :: t =>
    exfalso
    rw [hg] at hs
    have hab : lessM a.key b.key < 0 := (List.pairwise_cons.1 hs).1 b List.mem_cons_self
    obtain ⟨c, hc, ec⟩ := group_key (l := l) (c := a) (by rw [hg]; exact List.mem_cons_self)
    obtain ⟨d, hd, ed⟩ := group_key (l := l) (c := b) (by rw [hg]; exact List.mem_cons_of_mem _ List.mem_cons_self)
    have hp := h.pre c hc d hd
    rw [List.take_of_length_le (by rw [h.len c hc]; exact Nat.le_refl _), List.take_of_length_le (by rw [h.len d hd]; exact Nat.le_refl _)] at hp
    rw [← ec, ← ed, hp, lessM_self] at hab
    omega
end
/-- In how many parts cells are grouped, by tables of n slots: those that have no place are parted by their keys' next number. -/
def cntM (n : Nat) : Nat → Nat → List CellM → Nat
  | 0, _, _ => 1
  | f + 1, i, l => if (groupC l).length ≤ n then 1 else ((valsM i l).map fun v => cntM n f (i + 1) (partC i v l)).sum
section
variable {L i f n : Nat} {l m : List CellM} {vs : List Int} {v : Int}
theorem cnt_one (h : (groupC l).length ≤ n) : cntM n f i l = 1 := by
  cases f with
  | zero => rfl
  | succ f => rw [cntM, if_pos h]
theorem part_pos (h : Pre L i l) (hi : i < L) (hv : v ∈ valsM i l) : ∃ c, c ∈ partC i v l := by
  obtain ⟨c, hc, e⟩ := ((h.vals hi).mem v).1 hv
  exact ⟨c, mem_part.2 ⟨hc, e⟩⟩
theorem vals_pos (h : Pre L i l) (hi : i < L) (hl : 0 < (groupC l).length) : ∃ v, v ∈ valsM i l := by
  obtain ⟨c, hc⟩ := List.exists_mem_of_length_pos hl
  obtain ⟨d, hd, _⟩ := group_key hc
  exact ⟨_, ((h.vals hi).mem _).2 ⟨d, hd, rfl⟩⟩
theorem sum_one {α : Type} {g : α → Nat} {vs : List α} (h : ∀ v ∈ vs, 1 ≤ g v) : vs.length ≤ (vs.map g).sum := by
  induction vs with
  | nil => simp
  | cons v vs ih =>
    have := h v List.mem_cons_self
    have := ih fun u hu => h u (List.mem_cons_of_mem _ hu)
    rw [List.map_cons, List.sum_cons, List.length_cons]; omega
theorem sum_le {α : Type} {g g' : α → Nat} {vs : List α} (h : ∀ v ∈ vs, g v ≤ g' v) : (vs.map g).sum ≤ (vs.map g').sum := by
  induction vs with
  | nil => simp
  | cons v vs ih =>
    have := h v List.mem_cons_self
    have := ih fun u hu => h u (List.mem_cons_of_mem _ hu)
    rw [List.map_cons, List.sum_cons, List.map_cons, List.sum_cons]; omega
theorem cnt_pos : ∀ {f i : Nat} {l : List CellM}, Pre (i + f) i l → 1 ≤ cntM n f i l
  | 0, _, _, _ => Nat.le_refl _
  | f + 1, i, l, h => by
    rw [cntM]
    split
    · exact Nat.le_refl _
    · rename_i hn
      have hi : i < i + (f + 1) := by omega
      obtain ⟨v, hv⟩ := vals_pos h hi (by omega)
      have h1 : ∀ v ∈ valsM i l, 1 ≤ cntM n f (i + 1) (partC i v l) := fun v _ => cnt_pos (by have := h.part hi v; rwa [show i + 1 + f = i + (f + 1) by omega])
      have := sum_one h1
      have := List.length_pos_of_mem hv
      omega
theorem part_all (h : Pre L i l) (hi : i < L) (he : valsM i l = [v]) : partC i v l = l := by
  unfold partC
  rw [List.filter_eq_self]
  intro c hc
  have := ((h.vals hi).mem (atV c i)).2 ⟨c, hc, rfl⟩
  rw [he, List.mem_singleton] at this
  simpa using this
theorem cnt_two (h0 : 0 < n) : ∀ {f i : Nat} {l : List CellM}, Pre (i + f) i l → n < (groupC l).length → 2 ≤ cntM n f i l
  | 0, i, l, h, hn => by
    have := h.one
    omega
  | f + 1, i, l, h, hn => by
    have hi : i < i + (f + 1) := by omega
    have hp : ∀ v, Pre (i + 1 + f) (i + 1) (partC i v l) := fun v => by have := h.part hi v; rwa [show i + 1 + f = i + (f + 1) by omega]
    rw [cntM, if_neg (by omega)]
    obtain ⟨v, hv⟩ := vals_pos h hi (by omega)
    match he : valsM i l with
    | [] => rw [he] at hv; cases hv
    | [u] =>
      have ha := part_all h hi he
      have := cnt_two h0 (hp u) (by rw [ha]; exact hn)
      simpa using this
    | u :: w :: t =>
      have := sum_one (g := fun v => cntM n f (i + 1) (partC i v l)) (vs := u :: w :: t) fun v _ => cnt_pos (hp v)
      simp only [List.length_cons] at this
      omega
theorem group_sum (h : Pre L i l) (hi : i < L) : (groupC l).length = ((valsM i l).map fun v => (groupC (partC i v l)).length).sum := by
  rw [← group_parts h hi (h.vals hi), List.length_flatMap]
theorem cnt_single : ∀ {f i : Nat} {l : List CellM}, Pre (i + f) i l → cntM 1 f i l = max 1 (groupC l).length
  | 0, i, l, h => by
    have := h.one
    rw [cntM]; omega
  | f + 1, i, l, h => by
    have hi : i < i + (f + 1) := by omega
    have hp : ∀ v, Pre (i + 1 + f) (i + 1) (partC i v l) := fun v => by have := h.part hi v; rwa [show i + 1 + f = i + (f + 1) by omega]
    rw [cntM]
    split
    · omega
    · rw [Nat.max_eq_right (by omega), group_sum h hi]
      congr 1
      apply List.map_congr_left
      intro v hv
      rw [cnt_single (hp v)]
      obtain ⟨c, hc⟩ := part_pos h hi hv
      obtain ⟨d, hd, _⟩ := key_group hc
      have := List.length_pos_of_mem hd
      omega
theorem cnt_mono : ∀ {f i : Nat} {l : List CellM}, Pre (i + f) i l → cntM (n + 1) f i l ≤ cntM n f i l
  | 0, _, _, _ => Nat.le_refl _
  | f + 1, i, l, h => by
    have hi : i < i + (f + 1) := by omega
    have hp : ∀ v, Pre (i + 1 + f) (i + 1) (partC i v l) := fun v => by have := h.part hi v; rwa [show i + 1 + f = i + (f + 1) by omega]
    by_cases hn : (groupC l).length ≤ n + 1
    · rw [cnt_one hn]; exact cnt_pos h
    · rw [cntM, cntM, if_neg hn, if_neg (by omega)]
      exact sum_le fun v _ => cnt_mono (hp v)
theorem part_perm (hp : l.Perm m) : (partC i v l).Perm (partC i v m) := hp.filter _
theorem cnt_perm : ∀ {f i : Nat} {l m : List CellM}, Pre (i + f) i l → l.Perm m → cntM n f i l = cntM n f i m
  | 0, _, _, _, _, _ => rfl
  | f + 1, i, l, m, h, hp => by
    have hi : i < i + (f + 1) := by omega
    have hq : ∀ v, Pre (i + 1 + f) (i + 1) (partC i v l) := fun v => by have := h.part hi v; rwa [show i + 1 + f = i + (f + 1) by omega]
    rw [cntM, cntM, group_perm hp, (h.vals hi).unique (((h.perm hp).vals hi).perm hp.symm)]
    have : ∀ v, cntM n f (i + 1) (partC i v l) = cntM n f (i + 1) (partC i v m) := fun v => cnt_perm (hq v) (part_perm hp)
    simp only [this]
theorem cnt_le : ∀ {f i : Nat} {l : List CellM}, Pre (i + f) i l → cntM n f i l ≤ max 1 (groupC l).length := by
  intro f i l h
  induction f generalizing i l with
  | zero => rw [cntM]; omega
  | succ f ih =>
    have hi : i < i + (f + 1) := by omega
    have hp : ∀ v, Pre (i + 1 + f) (i + 1) (partC i v l) := fun v => by have := h.part hi v; rwa [show i + 1 + f = i + (f + 1) by omega]
    rw [cntM]
    split
    · omega
    · rw [group_sum h hi]
      refine Nat.le_trans (sum_le (g' := fun v => (groupC (partC i v l)).length) fun v hv => ?_) (Nat.le_max_right _ _)
      have := ih (hp v)
      obtain ⟨c, hc⟩ := part_pos h hi hv
      obtain ⟨d, hd, _⟩ := key_group hc
      have := List.length_pos_of_mem hd
      omega
end
end Go.HC

/-
  HC, part 27: append of a make; copy; a function of the model's own that is called.
-/
namespace Go.HC
section
variable {P : Program} {h : Heap} {K : Value → Heap → Prop} {ty : TypeId}
theorem hp_asIntOf (k : IntKind) (i : Int) (K' : IntKind × Int → Heap → Prop) : hp P (asIntOf (.int k i)) K' h = K' (k, i) h := _root_.id rfl
/-- 'append(s, make([]T, m)...)' where there is no room. -/
theorem append_make {T iT e s by_ n c m : Nat} {z : Value} {cs : Array Bool} {F : Nat → Prop} {a : Option Addr} {old : List Value} {k : IntKind}
    (hT : elS P T = some e) (hi : P.underlying iT = some (.int k)) (hs : szS P e = some s) (hby : byS P e = some by_) (hz : zS P e = some z)
    (hold : old.length = n * s) (hro : Cells F h a old) (hm : m < 4611686018427387904) (hbig : (n + m) * by_ ≤ 140737488355328) (h63 : n + m < 9223372036854775808) (hms : m * s ≠ 0) (hc : c < n + m)
    (hk : ∀ cap, n + m ≤ cap → cap < 9223372036854775808 → K (.slice (some ⟨h.size, 0, none⟩) (n + m) cap) (h.push (.cells (old.toArray ++ Builtin.zeroCells z.cells m ++ Builtin.zeroCells z.cells (cap - (n + m))) e))) :
    builtinS P .append #[T, iT] ty cs #[.slice a n c, .int .i64 m] h K := by
  have hu := elS_spec hT
  unfold builtinS builtin Builtin.append_
  have hby' : ∃ i, P.info? e = some i ∧ i.bytes = by_ := by
    unfold byS at hby
    cases hi : P.info? e with
    | none => simp [hi] at hby
    | some i => simp [hi] at hby; exact ⟨i, rfl, hby⟩
  obtain ⟨i, hi', rfl⟩ := hby'
  have hmb : m * i.bytes ≤ 140737488355328 := Nat.le_trans (Nat.mul_le_mul_right _ (Nat.le_add_left m n)) hbig
  have hw : IntKind.i64.wrap (m : Int) = m := wrap_i64 (by omega) (by omega)
  have hl1 : ¬ ((m : Int) < 0) := by omega
  have e48 : (2 : Int) ^ 48 = 281474976710656 := by decide
  have hl2 : ¬ ((m : Int) * (i.bytes : Int) > 2 ^ 48) := by
    rw [e48, ← Int.natCast_mul]
    generalize m * i.bytes = q at hmb
    omega
  simp only [hp_bind, hp_underlying, hu, hi, hp_sizeOf, hs, hp_pure, List.getElem?_toArray, List.getElem?_cons_zero, List.getElem?_cons_succ, if_true, Bool.not_true, asInt, hp_asIntOf, hw, hp_ite, if_neg hl1, hp_typeInfo, hi', if_neg hl2, Int.toNat_natCast]
  have hroom : ¬ (n + m ≤ c) := by omega
  rw [if_neg hroom]
  have hcap := growslice_fits (old := c) (need := n + m) (bytes := i.bytes) (by omega) hbig
  have hmax : IntKind.i64.max = 9223372036854775807 := by decide
  rw [if_neg (by rw [hmax]; intro hh; have := hh.1; omega)]
  rw [if_neg (by omega)]
  simp only [hp_choose, Question.forced, Bool.false_eq_true, if_false, Question.cut]
  intro t
  have hge : n + m ≤ n + m + t % (2 ^ 63 - (n + m)) := Nat.le_add_right _ _
  have hlt : n + m + t % (2 ^ 63 - (n + m)) < 9223372036854775808 := by
    have := Nat.mod_lt t (show 0 < 2 ^ 63 - (n + m) by omega)
    omega
  have hk' := hk _ hge hlt
  simp only [hp_askRoom, hp_firstCells (n := n) (c := c) hro hold, if_neg hms, hp_zeroValue, hz, hp_bind, newRow, hp_newObj, hp_pure, nextK]
  exact hk'
/-- 'copy(dst, src)'. -/
theorem copy_cells {T e s dn dc m c2 bk off k : Nat} {cs : Array Bool} {F : Nat → Prop} {b : Option Addr} {news : List Value} {T2 : TypeId}
    (hT : elS P T = some e) (hs : szS P e = some s) (hnew : news.length = m * s) (hrn : Cells F h b news) (hk : k = Nat.min m dn) (hks : k * s ≠ 0) {o : Obj} (hw : writeIn h[bk]? off (news.take (k * s)) = some o)
    (hK : K (.int .i64 k) (h.setIfInBounds bk o)) :
    builtinS P .copy #[T, T2] ty cs #[.slice (some ⟨bk, off, none⟩) dn dc, .slice b m c2] h K := by
  have hu := elS_spec hT
  unfold builtinS builtin Builtin.copy_
  have hkm : k ≤ m := by rw [hk]; exact Nat.min_le_left _ _
  have hlen : (news.take (k * s)).length = k * s := by
    rw [List.length_take, hnew]
    exact Nat.min_eq_left (Nat.mul_le_mul_right _ hkm)
  have hne : (news.take (k * s)).toArray.toList ≠ [] := by
    intro e0
    have : (news.take (k * s)) = [] := e0
    rw [this] at hlen
    exact hks hlen.symm
  simp only [hp_bind, hp_underlying, hu, hp_sizeOf, hs, hp_pure, Builtin.lenOf, List.getElem?_toArray, List.getElem?_cons_zero, List.getElem?_cons_succ]
  rw [← hk]
  rw [hp_firstCells (n := m) (c := c2) (hrn.take (k * s)) hlen]
  rw [hp_storeCells _ _ _ _ _ _ hne, Nat.add_zero]
  have e0 : (news.take (k * s)).toArray.toList = news.take (k * s) := rfl
  rw [e0, hw]
  exact hK
theorem sliceS_from {T : TypeId} {a : Option Addr} {n c i : Nat} {k : IntKind} (hT : ((elS P T).bind (szS P)).isSome = true) (h1 : i ≤ n) (h2 : n ≤ c) :
    sliceS P T (.slice a n c) (some (.int k (i : Int))) none none h K = K (.slice (piece a i c (((elS P T).bind (szS P)).getD 0)) (n - i) (c - i)) h := by
  obtain ⟨e, s, he, hs⟩ : ∃ e s, elS P T = some e ∧ szS P e = some s := by
    cases he : elS P T with
    | none => rw [he] at hT; cases hT
    | some e =>
      cases hs : szS P e with
      | none => rw [he] at hT; simp [hs] at hT
      | some s => exact ⟨e, s, rfl, hs⟩
  rw [sliceS_slice he hs (.inl ⟨rfl, rfl⟩) (.inl ⟨rfl, rfl⟩) (.inr ⟨k, rfl⟩) h1 h2 (Nat.le_refl _), he, Option.bind_some, hs]
  rfl
theorem sliceS_to {T : TypeId} {a : Option Addr} {n c j : Nat} {k : IntKind} (hT : ((elS P T).bind (szS P)).isSome = true) (h1 : j ≤ c) :
    sliceS P T (.slice a n c) none (some (.int k (j : Int))) none h K = K (.slice (piece a 0 c (((elS P T).bind (szS P)).getD 0)) j c) h := by
  obtain ⟨e, s, he, hs⟩ : ∃ e s, elS P T = some e ∧ szS P e = some s := by
    cases he : elS P T with
    | none => rw [he] at hT; cases hT
    | some e =>
      cases hs : szS P e with
      | none => rw [he] at hT; simp [hs] at hT
      | some s => exact ⟨e, s, rfl, hs⟩
  rw [sliceS_slice he hs (.inl ⟨rfl, rfl⟩) (.inr ⟨k, rfl⟩) (.inl ⟨rfl, rfl⟩) (Nat.zero_le j) h1 (Nat.le_refl _), he, Option.bind_some, hs]
  rfl
theorem piece_mk {bk off i m s : Nat} (h : m ≠ i) : piece (some ⟨bk, off, none⟩) i m s = some ⟨bk, off + i * s, none⟩ := by
  unfold piece; rw [if_neg h, offs_mk]
theorem piece_zero {bk off m s : Nat} : piece (some ⟨bk, off, none⟩) 0 m s = some ⟨bk, off, none⟩ := by
  unfold piece; split
  · rfl
  · rw [offs_mk]; simp
theorem cap_slice (T : TypeId) (cs : Array Bool) (a : Option Addr) (n c : Nat) (he : (elS P T).isSome = true) : builtinS P .cap #[T] ty cs #[.slice a n c] h K = K (.int .i64 c) h := by
  obtain ⟨e, he⟩ := Option.isSome_iff_exists.1 he
  have hu := elS_spec he
  unfold builtinS builtin Builtin.cap_
  simp [hu, nextK, goInt]
theorem callS_extern {f : FuncId} {fn : Func} {e : Array Value → Sem Value} (hf : P.funcs[f]? = some fn) (hname : (fn.name == "runtime.NumGoroutine") = false) (hb : fn.body.isNone = true) (hn : Extern.findNext fn = none) (he : Extern.find fn = some e) (args : Array Value)
    (hK : hp P (e args) (fun v h => K v h) h) : callS P (.func (.func f) #[] #[]) args h K := by
  have h1 : fn.name ≠ "runtime.NumGoroutine" := by simpa using hname
  have h2 : fn.body = none := by simpa using hb
  show callV P _ _ _ _
  unfold callV
  simp only [Deferred.ofValue, hp_bind, hp_pure, invoke]
  rw [show #[] ++ args ++ #[] = args by simp]
  show hp P (callFunc f args) _ h
  unfold callFunc
  simp only [hp_bind, hp_program, hf, hname, hb, hn, he, Bool.false_eq_true, if_false, if_true, hp_mark, hp_pure]
  exact hK
end
end Go.HC

/-
  Keys held against each other by the library; a binary search among cells.
-/
namespace Go.HC
theorem posC_is {l : List CellM} {key : List Int} {i : Nat} (hi : i ≤ l.length) (h1 : ∀ (k : Nat) (hk : k < l.length), k < i → lessM l[k].key key < 0) (h2 : ∀ hk : i < l.length, ¬ lessM l[i].key key < 0) : posC l key = i := by
  have hp := posC_le l key
  rcases Nat.lt_trichotomy (posC l key) i with h | h | h
  · exact absurd (h1 _ (by omega) h) (posC_at (by omega))
  · exact h
  · exact absurd (posC_lt (l := l) (by omega) h) (h2 (by omega))
theorem Srt.get {l : List CellM} (hs : Srt l) {i j : Nat} (hi : i < l.length) (hj : j < l.length) (h : i < j) : lessM l[i].key l[j].key < 0 := List.pairwise_iff_getElem.1 hs i j hi hj h
theorem mid_op {i j : Nat} (hi : i < 4611686018427387904) (hj : j < 4611686018427387904) : intRes .shr .u64 (IntKind.u64.wrap (IntKind.i64.wrap ((i : Int) + (j : Int)))) 1 = some (.int .u64 (((i + j) / 2 : Nat) : Int)) := by
  have h0 : IntKind.i64.wrap ((i : Int) + (j : Int)) = (i : Int) + (j : Int) := by rw [wrap_i64 (by omega) (by omega)]
  have h1 : IntKind.u64.wrap ((i : Int) + (j : Int)) = (i : Int) + (j : Int) := by simp [IntKind.wrap, IntKind.bits, IntKind.signed]; omega
  rw [h0, h1, intRes_shr _ _ _ (by decide)]
  have h2 : (2 : Int) ^ min (1 : Int).toNat IntKind.u64.bits = 2 := by decide
  rw [h2]
  congr 2
  rw [Int.fdiv_eq_ediv_of_nonneg _ (by decide)]
  omega
theorem mid_back {k : Nat} (hk : k < 4611686018427387904) : IntKind.i64.wrap (k : Int) = k := wrap_i64 (by omega) (by omega)
end Go.HC
namespace Go.Proofs
open Go Go.HC

set_option maxRecDepth 10000 in
theorem isNaN_spec (x : Int) (h : Heap) : CallH Tryz.prog 126 #[.int .i64 x] h fun r h' => r = .bool false ∧ h' = h := by
  refine enter [.tmp 2] Tryz.func126 rfl rfl (by kernel_rfl) rfl ?_
  simp -dsimp
set_option maxRecDepth 10000 in
theorem cmpInt_spec (x y : Int) (h : Heap) : CallH Tryz.prog 110 #[.int .i64 x, .int .i64 y] h fun r h' => r = .int .i64 (if x < y then -1 else if y < x then 1 else 0) ∧ h' = h := by
  refine callH_by fun K hK => ?_
  refine enter [.tmp 4] Tryz.func110 rfl rfl (by kernel_rfl) rfl ?_
  simp -dsimp
  refine call_by (isNaN_spec x h) ?_
  rintro _ h1 ⟨rfl, hh⟩
  subst h1
  simp -dsimp
  refine call_by (isNaN_spec y h) ?_
  rintro _ h1 ⟨rfl, hh⟩
  subst h1
  simp -dsimp
  by_cases h1 : x < y
  · simp -dsimp [h1]
    exact hK _ _ ⟨by simp [h1], rfl⟩
  · by_cases h2 : y < x
    · simp -dsimp [h1, h2]
      exact hK _ _ ⟨by simp [h1, h2], rfl⟩
    · simp -dsimp [h1, h2]
      exact hK _ _ ⟨by simp [h1, h2], rfl⟩

set_option maxHeartbeats 4000000 in
set_option maxRecDepth 10000 in
theorem compare_spec {F G : Nat → Prop} {h : Heap} {av bv : Value} {xs ys : List Int} (ha : SlRep rInt F h av xs) (hb : SlRep rInt G h bv ys) :
    CallH Tryz.prog 92 #[av, bv] h fun r h' => r = .int .i64 (lessM xs ys) ∧ h' = h := by
  refine callH_by fun K hK => ?_
  refine enter [.tmp 4] Tryz.func92 rfl rfl (by kernel_rfl) rfl ?_
  obtain ⟨a0, c0, rfl, hc0, hc0'⟩ := ha.val
  obtain ⟨a1, c1, rfl, hc1, hc1'⟩ := hb.val
  simp -dsimp
  refine loopc (σ := Nat) (fun k => [(0, .slice a0 xs.length c0), (1, .slice a1 ys.length c1), (9, .slice a0 xs.length c0), (10, .int .i64 xs.length), (11, .int .i64 k)])
    (fun k h' => h' = h ∧ k ≤ xs.length ∧ k ≤ ys.length ∧ lessM xs ys = lessM (xs.drop k) (ys.drop k)) (fun k => xs.length - k) 0 0 (fun k _ => k = xs.length) (endR Tryz.prog [.tmp 4] K).rt (fun _ _ _ h => h) (by simp) ⟨rfl, Nat.zero_le _, Nat.zero_le _, rfl⟩ (by kernel_rfl) ?_ ?_
  · rintro k h1 g ⟨rfl, hk, hk', hpre⟩
    by_cases hx : k < xs.length
    · have wk := wrap_succ (k := k) (by omega)
      obtain ⟨b1, o1, e1, _, hc1⟩ := ha.int_at k hx
      rw [List.drop_eq_getElem_cons hx] at hpre
      by_cases hy : k < ys.length
      · obtain ⟨b2, o2, e2, _, hc2⟩ := hb.int_at k hy
        rw [List.drop_eq_getElem_cons hy, lessM] at hpre
        have hge : ¬ (ys.length ≤ k) := by omega
        simp -dsimp [hx, hge, e1, e2, idxA_nat hx, idxA_nat hy, hc1, hc2]
        refine call_by (cmpInt_spec xs[k] ys[k] h1) ?_
        rintro _ h2 ⟨rfl, hh⟩
        subst h2
        by_cases h1 : xs[k] < ys[k]
        · rw [if_pos h1] at hpre
          rw [if_pos h1]
          simp -dsimp
          exact hK _ _ ⟨by rw [hpre], rfl⟩
        · by_cases h2 : ys[k] < xs[k]
          · rw [if_neg h1, if_pos h2] at hpre
            rw [if_neg h1, if_pos h2]
            simp -dsimp
            exact hK _ _ ⟨by rw [hpre], rfl⟩
          · rw [if_neg h1, if_neg h2] at hpre
            rw [if_neg h1, if_neg h2]
            simp -dsimp [wk]
            exact ⟨k + 1, by simp [e1, e2], rfl, ⟨rfl, by omega, by omega, hpre⟩, by show xs.length - (k + 1) < xs.length - k; omega⟩
      · have hge : ys.length ≤ k := by omega
        rw [List.drop_of_length_le (l := ys) (by omega), lessM] at hpre
        simp -dsimp [hx, hge, e1, idxA_nat hx, hc1]
        exact hK _ _ ⟨by rw [hpre], rfl⟩
    · simp -dsimp [hx]
      exact ⟨rfl, k, by simp, rfl, ⟨rfl, hk, hk', hpre⟩, by omega⟩
  · rintro k h1 g ⟨rfl, hk, hk', hpre⟩ hkx
    have hkx' : k = xs.length := hkx
    rw [List.drop_of_length_le (l := xs) (by omega)] at hpre
    by_cases hl : xs.length < ys.length
    · rw [List.drop_eq_getElem_cons (l := ys) (by omega), lessM] at hpre
      simp -dsimp [hl]
      exact hK _ _ ⟨by rw [hpre], rfl⟩
    · rw [List.drop_of_length_le (l := ys) (by omega), lessM] at hpre
      simp -dsimp [hl]
      exact hK _ _ ⟨by rw [hpre], rfl⟩
set_option maxRecDepth 10000 in
theorem cless_spec {F G : Nat → Prop} {h : Heap} {av bv : Value} {xs ys : List Int} (ha : SlRep rInt F h av xs) (hb : SlRep rInt G h bv ys) :
    CallH Tryz.prog 73 #[av, bv] h fun r h' => r = .int .i64 (lessM xs ys) ∧ h' = h := by
  refine callH_by fun K hK => ?_
  refine enter [.tmp 4] Tryz.func73 rfl rfl (by kernel_rfl) rfl ?_
  simp -dsimp
  refine call_by (compare_spec ha hb) ?_
  rintro _ h1 ⟨rfl, hh⟩
  subst h1
  simp -dsimp
  exact hK _ _ ⟨rfl, rfl⟩
/-- A function that holds two cells against each other by their keys. -/
def CmpC (f : FuncId) : Prop := ∀ {h : Heap} {cs ds : List Value} {a b : CellM}, rCell.rep (Old h) h cs a → rCell.rep (Old h) h ds b →
  CallH Tryz.prog f #[.agg cs.toArray, .agg ds.toArray] h fun r h' => r = .int .i64 (lessM a.key b.key) ∧ Keep none_ h h'
set_option maxRecDepth 10000 in
theorem groupCmp : CmpC 72 := by
  intro h cs ds a b ha hb
  refine callH_by fun K hK => ?_
  refine enter [.tmp 4] Tryz.func72 rfl rfl (by kernel_rfl) rfl ?_
  obtain ⟨ka, kc, sa, sc, na, nc, xa, xc, rfl, r1, _⟩ := cell_open ha
  obtain ⟨ka', kc', sa', sc', na', nc', xa', xc', rfl, q1, _⟩ := cell_open hb
  simp -dsimp [boxS_eq]
  generalize hB : Array.push (Array.push h _) _ = h1
  have k1 : Keep none_ h h1 := by rw [← hB]; exact ((Keep.refl none_ h).pushed _).pushed _
  have hA : h1[h.size]? = some (.cells #[.slice ka a.key.length kc, .int .i64 a.count, .slice sa a.sum.length sc, .slice na a.mn.length nc, .slice xa a.mx.length xc] 46 (0, 0)) := by rw [← hB]; exact push_at (push_new _ _)
  have hB1 : h1[h.size + 1]? = some (.cells #[.slice ka' b.key.length kc', .int .i64 b.count, .slice sa' b.sum.length sc', .slice na' b.mn.length nc', .slice xa' b.mx.length xc'] 46 (0, 0)) := by rw [← hB]; exact push_get (by simp)
  simp -dsimp [hA, hB1]
  refine call_by (cless_spec (r1.mono ((Tr.of k1).ft (Nat.le_refl 0))) (q1.mono ((Tr.of k1).ft (Nat.le_refl 0)))) ?_
  rintro _ h2 ⟨rfl, hh⟩
  subst h2
  simp -dsimp
  exact hK _ _ ⟨rfl, k1⟩

set_option maxHeartbeats 4000000 in
set_option maxRecDepth 10000 in
theorem bsearch_spec {h : Heap} {v : Value} {cs : List Value} {l : List CellM} {c : CellM} {f : FuncId} (hf : FnOk Tryz.prog f) (hcmp : CmpC f) (hl : SlRep rCell (Old h) h v l) (hc : rCell.rep (Old h) h cs c) (hs : Srt l) (hn : l.length < 1000000) :
    CallH Tryz.prog 63 #[v, .agg cs.toArray, .func (.func f) #[] #[]] h fun r h' => r = .tuple #[.int .i64 (posC l c.key), .bool (decide (∃ hk : posC l c.key < l.length, lessM l[posC l c.key].key c.key = 0))] ∧ Keep none_ h h' := by
  refine callH_by fun K hK => ?_
  refine enter [.tmp 6, .tmp 7] Tryz.func63 rfl rfl (by kernel_rfl) rfl ?_
  obtain ⟨a0, c0, rfl, hc0, hc0'⟩ := hl.val
  obtain ⟨ka, kc, sa, sc, na, nc, xa, xc, rfl, r1, _⟩ := cell_open hc
  simp -dsimp [boxS_eq]
  generalize hB : Array.push h _ = h1
  have k1 : Keep none_ h h1 := by rw [← hB]; exact .push _ _ _
  have hC1 : h1[h.size]? = some (.cells #[.slice ka c.key.length kc, .int .i64 c.count, .slice sa c.sum.length sc, .slice na c.mn.length nc, .slice xa c.mx.length xc] 46 (0, 0)) := by rw [← hB]; exact push_new _ _
  have l1 := hl.mono ((Tr.of k1).ft (Nat.le_refl 0))
  have c1 := rCell.mono hc ((Tr.of k1).ft (Nat.le_refl 0))
  refine loopc (σ := Nat × Nat) (fun t => [(0, .slice a0 l.length c0), (2, .func (.func f) #[] #[]), (4, .pointer (some ⟨h.size, 0, none⟩)), (8, .int .i64 l.length), (9, .int .i64 t.1), (10, .int .i64 t.2)])
    (fun t h2 => Keep none_ h1 h2 ∧ t.1 ≤ t.2 ∧ t.2 ≤ l.length ∧ (∀ (k : Nat) (hk : k < l.length), k < t.1 → lessM l[k].key c.key < 0) ∧ ∀ (k : Nat) (hk : k < l.length), t.2 ≤ k → ¬ lessM l[k].key c.key < 0)
    (fun t => t.2 - t.1) (0, l.length) 0 (fun t _ => t.1 = t.2) noRet noRet_le (by simp) ⟨.refl _ _, Nat.zero_le _, Nat.le_refl _, fun _ _ h => by omega, fun _ _ h => by omega⟩ (by kernel_rfl) ?_ ?_
  · rintro ⟨i, j⟩ h2 g ⟨k2, hij, hj, hlo, hhi⟩
    simp only at hij hj hlo hhi
    have hC2 := k2.at hC1 (fun h => h)
    by_cases hlt : i < j
    · obtain ⟨m, em⟩ : ∃ m, m = (i + j) / 2 := ⟨_, rfl⟩
      have hm1 : i ≤ m := by omega
      have hm2 : m < j := by omega
      have hml : m < l.length := by omega
      have hop := mid_op (i := i) (j := j) (by omega) (by omega)
      have hbk := mid_back (k := m) (by omega)
      rw [← em] at hop
      have l2 := l1.mono ((Tr.of k2).ft (Nat.le_refl 0))
      obtain ⟨b1, o1, cs1, e1, _, hr1, hx1⟩ := l2.get m hml
      obtain ⟨ka1, kc1, sa1, sc1, na1, nc1, xa1, xc1, rfl, _⟩ := cell_open hr1
      have hx1' : HC.cellsIn h2[b1]? (o1 + m * 5) 5 = _ := hx1
      have wm := wrap_succ (k := m) (by omega)
      simp -dsimp [hlt, hop, hbk]
      refine drawn_by [⟨0, true, []⟩, ⟨1, true, []⟩, ⟨2, true, []⟩, ⟨3, true, []⟩, ⟨4, true, []⟩, ⟨5, true, []⟩, ⟨6, false, []⟩, ⟨7, true, []⟩] (by kernel_rfl) (by kernel_rfl) ?_
      simp -dsimp [e1, idxV_nat hml, elSz_eq, hx1', hC2, hf]
      refine call_by (hcmp hr1 (rCell.mono c1 ((Tr.of k2).ft (Nat.le_refl 0)))) ?_
      rintro _ h3 ⟨rfl, k3⟩
      have kk3 := k2.trans k3 fun _ _ h => h
      by_cases hl3 : lessM l[m].key c.key < 0
      · simp -dsimp [hl3, wm]
        refine ⟨(m + 1, j), by simp [e1], rfl, ⟨kk3, by show m + 1 ≤ j; omega, hj, fun k hk hkm => ?_, hhi⟩, by simp; omega⟩
        simp only at hkm
        rcases Nat.lt_or_ge k m with h | h
        · exact lessM_trans (hs.get hk hml h) hl3
        · have : k = m := by omega
          subst this; exact hl3
      · simp -dsimp [hl3]
        refine ⟨(i, m), by simp [e1], rfl, ⟨kk3, hm1, by show m ≤ l.length; omega, hlo, fun k hk hkm => ?_⟩, by simp; omega⟩
        simp only at hkm
        rcases Nat.lt_or_ge m k with h | h
        · intro hneg
          exact hl3 (lessM_trans (hs.get hml hk h) hneg)
        · have : k = m := by omega
          subst this; exact hl3
    · simp -dsimp [hlt]
      exact ⟨rfl, (i, j), by simp, rfl, ⟨k2, hij, hj, hlo, hhi⟩, by show i = j; omega⟩
  · rintro ⟨i, j⟩ h2 g ⟨k2, hij, hj, hlo, hhi⟩ hii
    simp only at hij hj hlo hhi hii
    subst hii
    have hpos : posC l c.key = i := posC_is hj hlo fun hk => hhi i hk (Nat.le_refl _)
    have hC2 := k2.at hC1 (fun h => h)
    simp -dsimp
    refine drawn_by [⟨0, true, []⟩, ⟨1, true, []⟩, ⟨2, true, []⟩, ⟨3, true, []⟩, ⟨4, true, []⟩, ⟨5, true, []⟩, ⟨6, true, []⟩, ⟨7, true, []⟩, ⟨8, true, []⟩, ⟨9, true, []⟩, ⟨10, true, []⟩, ⟨11, false, [0]⟩, ⟨12, true, []⟩, ⟨13, true, []⟩, ⟨14, true, []⟩, ⟨15, true, []⟩] (by kernel_rfl) (by kernel_rfl) ?_
    by_cases hil : i < l.length
    · have l2 := l1.mono ((Tr.of k2).ft (Nat.le_refl 0))
      obtain ⟨b1, o1, cs1, e1, _, hr1, hx1⟩ := l2.get i hil
      obtain ⟨ka1, kc1, sa1, sc1, na1, nc1, xa1, xc1, rfl, _⟩ := cell_open hr1
      have hx1' : HC.cellsIn h2[b1]? (o1 + i * 5) 5 = _ := hx1
      simp -dsimp [hil, e1, idxV_nat hil, elSz_eq, hx1', hC2, hf]
      refine call_by (hcmp hr1 (rCell.mono c1 ((Tr.of k2).ft (Nat.le_refl 0)))) ?_
      rintro _ h3 ⟨rfl, k3⟩
      simp -dsimp [again_cons]
      refine hK _ _ ⟨?_, (k1.trans k2 fun _ _ h => h).trans k3 fun _ _ h => h⟩
      subst hpos
      congr 3
      by_cases h0 : lessM l[posC l c.key].key c.key = 0
      · rw [decide_eq_true ⟨hil, h0⟩]; simp [h0]
      · rw [decide_eq_false (fun ⟨_, h⟩ => h0 h)]; simp [h0]
    · simp -dsimp [hil]
      refine hK _ _ ⟨?_, k1.trans k2 fun _ _ h => h⟩
      subst hpos
      rw [decide_eq_false (fun ⟨h, _⟩ => hil h)]
end Go.Proofs

/-
  A cell is laid in among others by the library.
-/
namespace Go.HC
theorem writeIn_ok {arr : Array Value} {e off : Nat} {vs : List Value} (h1 : vs.all Value.oneCell' = true) (h2 : off + vs.length ≤ arr.size) : writeIn (some (.cells arr e (0, 0))) off vs = some (.cells (writeC arr off vs) e (0, 0)) := by
  rw [writeIn_some, if_pos]
  simp [h1, h2]
section
variable {P : Program} {h : Heap} {K : Value → Heap → Prop}
theorem hp_bindI {α β : Type} {x : Sem α} {f : α → Sem β} {K : β → Heap → Prop} (h1 : hp P x (fun a h => hp P (f a) K h) h) : hp P (x >>= f) K h := by rw [hp_bind]; exact h1
theorem hp_iteI {α : Type} {c : Prop} [Decidable c] {x y : Sem α} {K : α → Heap → Prop} (h1 : c ∧ hp P x K h ∨ ¬ c ∧ hp P y K h) : hp P (if c then x else y) K h := by
  rcases h1 with ⟨hc, h1⟩ | ⟨hc, h1⟩
  · rw [if_pos hc]; exact h1
  · rw [if_neg hc]; exact h1
/-- Two slices in two blocks do not overlap. -/
theorem hp_overlaps {tS tR e size : Nat} {a b : Addr} {la ca lb cb : Nat} {ca' cb' : Array Value} {ea eb : TypeId} (ht : P.underlying tS = some (.slice e)) (hz : szS P e = some size) (hne : a.block ≠ b.block)
    (hsa : h[a.block]? = some (.cells ca' ea (0, 0))) (hsb : h[b.block]? = some (.cells cb' eb (0, 0))) (hkB : cb'.size ≠ 0) (hK : K (.bool false) h) :
    hp P (Extern.SlicesOverlaps.overlaps #[tS, tS] #[tR] #[.slice (some a) la ca, .slice (some b) lb cb]) K h := by
  have hnb : (a.block != b.block) = true := by simpa using hne
  have hnb' : (a.block == b.block) = false := by simpa using hne
  have hfa : ∀ off sp, frozenH h ⟨a.block, off, sp⟩ = false := fun off sp => by unfold frozenH; rw [hsa]; simp
  have sa : shapeH h a.block = some (ea, ca'.size) := by unfold shapeH; rw [hsa]
  have sb : shapeH h b.block = some (eb, cb'.size) := by unfold shapeH; rw [hsb]
  refine hp_bindI ?_
  have ht' : P.underlying #[tS, tS][0] = some (.slice e) := ht
  rw [hp_underlying, ht']
  cases hk : cb'.size with
  | zero => exact absurd hk hkB
  | succ kB =>
    rw [hk] at sb
    by_cases h0 : la = 0 ∨ lb = 0 ∨ size = 0
    · simp [hp_sizeOf, hz, h0, hK]
    · simp [hp_sizeOf, hz, h0, hnb, hnb', noView, viewAt, mayBeOne, stringish, sa, sb, hfa, hK]
end
/-- A slice that grows, off what lies in its block. -/
theorem Gr.raw {α : Type} {R : Rp α} {e n : Nat} {M : Nat → Prop} {h : Heap} {bk c m : Nat} {arr : Array Value} {xs : List α} {cs : List Value} (hb : h[bk]? = some (.cells arr e (0, 0))) (hM : M bk) (hm : m = xs.length) (hsz : arr.size = c * R.sz) (hc : m ≤ c) (hc' : c < 9223372036854775808)
    (ht : arr.toList.take (m * R.sz) = cs) (he : Elems R (Ft n M h) h cs xs) : Gr R e n M h (.slice (some ⟨bk, 0, none⟩) m c) xs (some bk) := by
  subst hm
  exact ⟨.inr ⟨bk, c, arr, cs, rfl, rfl, hb, fun hf => hf.2.2 hM, hsz, hc, hc', ht, he⟩, fun b hb => by cases hb; exact hM⟩
theorem zeroCells_len (z : Array Value) (n : Nat) : (Builtin.zeroCells z n).size = n * z.size := zeroCells_size z n
/-- Cells are moved to make room, and new ones laid in. -/
theorem insert_list {D old cs : List Value} {i n s c : Nat} (hold : D.take (n * s) = old) (hD : D.length = c * s) (hcs : cs.length = s) (hi : i ≤ n) (hc : n + 1 ≤ c) :
    let A1 := D.take ((i + 1) * s) ++ old.drop (i * s) ++ D.drop ((i + 1) * s + (old.drop (i * s)).length)
    let A2 := A1.take (i * s) ++ cs ++ A1.drop (i * s + cs.length)
    A2.take ((n + 1) * s) = old.take (i * s) ++ cs ++ old.drop (i * s) := by
  intro A1 A2
  have h1 : i * s ≤ n * s := Nat.mul_le_mul_right _ hi
  have h2 : (n + 1) * s ≤ c * s := Nat.mul_le_mul_right _ hc
  have h3 : (i + 1) * s = i * s + s := Nat.succ_mul i s
  have h4 : (n + 1) * s = n * s + s := Nat.succ_mul n s
  have hol : old.length = n * s := by rw [← hold, List.length_take, hD]; omega
  have e1 : A1.take (i * s) = old.take (i * s) := by
    show (D.take ((i + 1) * s) ++ old.drop (i * s) ++ _).take (i * s) = _
    rw [List.append_assoc, List.take_append_of_le_length (by rw [List.length_take, hD]; omega), List.take_take, Nat.min_eq_left (by omega), ← hold, List.take_take, Nat.min_eq_left h1]
  have e2 : A1.drop (i * s + cs.length) = old.drop (i * s) ++ D.drop ((i + 1) * s + (old.drop (i * s)).length) := by
    show (D.take ((i + 1) * s) ++ old.drop (i * s) ++ _).drop (i * s + cs.length) = _
    have : i * s + cs.length = (D.take ((i + 1) * s)).length := by rw [List.length_take, hD]; omega
    rw [List.append_assoc, this, List.drop_append_of_le_length (Nat.le_refl _), List.drop_length]
    rfl
  show (A1.take (i * s) ++ cs ++ A1.drop (i * s + cs.length)).take ((n + 1) * s) = _
  rw [e1, e2, ← List.append_assoc]
  have hlen : (old.take (i * s) ++ cs ++ old.drop (i * s)).length = (n + 1) * s := by
    simp only [List.length_append, List.length_take, List.length_drop, hol, hcs]; omega
  rw [← hlen, List.take_left]
/-- The same, in a new block. -/
theorem insert_new {old cs zs : List Value} {i n s c : Nat} (hold : old.length = n * s) (hz : zs.length = (c - i) * s) (hcs : cs.length = s) (hi : i ≤ n) (hc : n + 1 ≤ c) :
    let D := old.take (i * s) ++ zs
    let A1 := D.take (i * s) ++ cs ++ D.drop (i * s + cs.length)
    let A2 := A1.take ((i + 1) * s) ++ old.drop (i * s) ++ A1.drop ((i + 1) * s + (old.drop (i * s)).length)
    A2.take ((n + 1) * s) = old.take (i * s) ++ cs ++ old.drop (i * s) ∧ D.length = c * s := by
  intro D A1 A2
  have h1 : i * s ≤ n * s := Nat.mul_le_mul_right _ hi
  have h3 : (i + 1) * s = i * s + s := Nat.succ_mul i s
  have h4 : (n + 1) * s = n * s + s := Nat.succ_mul n s
  have h5 : (c - i) * s = c * s - i * s := Nat.sub_mul c i s
  have h6 : (n + 1) * s ≤ c * s := Nat.mul_le_mul_right _ hc
  have hti : (old.take (i * s)).length = i * s := by rw [List.length_take, hold]; omega
  have hDl : D.length = c * s := by
    show (old.take (i * s) ++ zs).length = _
    rw [List.length_append, hti, hz]; omega
  refine ⟨?_, hDl⟩
  have e1 : D.take (i * s) = old.take (i * s) := by
    show (old.take (i * s) ++ zs).take (i * s) = _
    rw [List.take_append_of_le_length (by omega), List.take_of_length_le (by omega)]
  have e2 : A1.take ((i + 1) * s) = old.take (i * s) ++ cs := by
    show (D.take (i * s) ++ cs ++ D.drop (i * s + cs.length)).take ((i + 1) * s) = _
    rw [e1]
    have : (i + 1) * s = (old.take (i * s) ++ cs).length := by rw [List.length_append, hti, hcs]; omega
    rw [this, List.take_left]
  show (A1.take ((i + 1) * s) ++ old.drop (i * s) ++ _).take ((n + 1) * s) = _
  rw [e2]
  have hlen : (old.take (i * s) ++ cs ++ old.drop (i * s)).length = (n + 1) * s := by
    simp only [List.length_append, hti, hcs, List.length_drop, hold]; omega
  rw [← hlen, List.take_left]
end Go.HC
namespace Go.Proofs
open Go Go.HC

set_option maxHeartbeats 8000000 in
set_option maxRecDepth 10000 in
theorem insert_gen {n : Nat} {M : Nat → Prop} {h : Heap} {v : Value} {xs : List CellM} {own : Option Nat} {i b2 c2 : Nat} {arr2 : Array Value} {cs : List Value} {c : CellM} (g : Gr rCell 46 n M h v xs own) (hM : ∀ b, M b → b < h.size) (hi : i ≤ xs.length) (hn : xs.length < 1000000)
    (hb2 : h[b2]? = some (.cells arr2 46 (0, 0))) (h25 : arr2.toList.take 5 = cs) (hM2 : ¬ M b2) (hc : rCell.rep (Ft n M h) h cs c) :
    CallH Tryz.prog 66 #[v, .int .i64 i, .slice (some ⟨b2, 0, none⟩) 1 c2] h fun r h' => ∃ own', Gr rCell 46 n (fun b => M b ∨ own' = some b) h' r (xs.take i ++ c :: xs.drop i) own' ∧
      Tr M (fun b => M b ∨ own' = some b) h h' ∧ Keep (fun b => own = some b) h h' ∧ ∀ b, own' = some b → own = some b ∨ h.size ≤ b := by
  refine callH_by fun K hK => ?_
  refine enter [.tmp 6] Tryz.func66 rfl rfl (by kernel_rfl) rfl ?_
  obtain ⟨va, vn, vc, ev, hvn⟩ := g.vals
  subst ev
  obtain ⟨csx, _, hvc, hvc', hcells, helems⟩ := g.grow.cells
  have hcl := rCell.len hc
  have hco := rCell.one hc
  have hin : i ≤ vn := by omega
  have hT : ((elS Tryz.prog 31).bind (szS Tryz.prog)).isSome = true := by simp
  simp -dsimp [sliceS_from hT hin hvc]
  by_cases hie : i = vn
  · have hie' : ((i : Int) == (vn : Int)) = true := by simp [hie]
    simp -dsimp [hie']
    refine gr_append (F2 := fun b => b = b2) (ys := [c]) (news := cs) cellT g hM rfl (.inr ⟨b2, 0, _, _, _, rfl, rfl, hb2, by rw [List.drop_zero, hcl]; exact h25⟩) (.single hc) (by simp; omega) (by simp; omega) ?_
    intro v' h' own' g' t' k' ho'
    simp -dsimp
    refine hK _ _ ⟨own', ?_, t', k', ho'⟩
    have : xs.take i ++ c :: xs.drop i = xs ++ [c] := by rw [hie, hvn, List.take_length, List.drop_length]
    rw [this]; exact g'
  · have hie' : ((i : Int) == (vn : Int)) = false := by simp; omega
    have w1 := wrap_succ (k := vn) (by omega)
    have hlt : i < vn := by omega
    rcases g.grow with ⟨_, h0, _⟩ | ⟨bk, c', arr, old, ev, eo, hb, hF, hsz, hle, hc63, htk, hel⟩
    · rw [h0] at hvn; simp at hvn; omega
    simp only [Value.slice.injEq] at ev
    obtain ⟨rfl, _, rfl⟩ := ev
    have hMb : M bk := g.mu bk eo
    have hol : old.length = vn * 5 := by rw [hvn]; exact hel.len
    have hsz' : arr.toList.length = vc * 5 := by rw [Array.length_toList]; exact hsz
    have htk' : arr.toList.take (vn * 5) = old := by rw [hvn]; exact htk
    have hoo : old.all Value.oneCell' = true := hel.one
    have hnb2 : b2 ≠ bk := fun e => hM2 (e ▸ hMb)
    have hnl : (xs.take i ++ c :: xs.drop i).length = vn + 1 := by rw [List.length_append, List.length_take, List.length_cons, List.length_drop]; omega
    have hE : ∀ {M' : Nat → Prop} {h' : Heap}, Tr M M' h h' → Elems rCell (Ft n M' h') h' (old.take (i * 5) ++ cs ++ old.drop (i * 5)) (xs.take i ++ c :: xs.drop i) := fun t => by
      have e1 := (hel.take i).mono (t.ft (Nat.le_refl n))
      have e2 := (hel.drop i).mono (t.ft (Nat.le_refl n))
      rw [List.append_assoc]
      exact e1.append (Elems.append (Elems.single (rCell.mono hc (t.ft (Nat.le_refl n)))) e2)
    simp -dsimp [hie', cap_slice, w1]
    have w2 : IntKind.i64.wrap ((vn : Int) + 1 - (i : Int)) = ((vn + 1 - i : Nat) : Int) := by rw [wrap_i64 (by omega) (by omega)]; omega
    have w3 := wrap_succ (k := i) (by omega)
    by_cases hroom : vc < vn + 1
    · have hroom' : ((vc : Int) < (vn : Int) + 1) = True := by simp; omega
      simp -dsimp [hroom', sliceS_to hT (show i ≤ vc by omega), piece_zero, w1, w2]
      refine append_make (F := Old h) (old := old.take (i * 5)) (k := .i64) Tryz.elS31 Tryz.underlying3 Tryz.szS46 Tryz.byS46 Tryz.zS46 ?_ ?_ (by omega) (by omega) (by omega) (by omega) (by omega) ?_
      · rw [List.length_take, hol]; omega
      · refine .inr ⟨bk, 0, arr, _, _, rfl, ⟨nz, lt_of_blk hb, fun h => h⟩, hb, ?_⟩
        rw [List.drop_zero, List.length_take, hol, ← htk', List.take_take, Nat.min_comm]
      · intro cap hcap hcap'
        have e1 : i + (vn + 1 - i) = vn + 1 := by omega
        rw [e1] at hcap ⊢
        have hB1 : ∀ o, (h.push o)[h.size]? = some o := fun o => push_new _ _
        have hb2p : ∀ o, (h.push o)[b2]? = _ := fun o => push_at hb2
        have hbp : ∀ o, (h.push o)[bk]? = _ := fun o => push_at hb
        obtain ⟨arr0, ea0⟩ : ∃ arr0 : Array Value, arr0 = (old.take (i * 5)).toArray ++ Builtin.zeroCells (Value.agg #[.slice none 0 0, .int .i64 0, .slice none 0 0, .slice none 0 0, .slice none 0 0]).cells (vn + 1 - i) ++ Builtin.zeroCells (Value.agg #[.slice none 0 0, .int .i64 0, .slice none 0 0, .slice none 0 0, .slice none 0 0]).cells (cap - (vn + 1)) := ⟨_, rfl⟩
        rw [← ea0]
        obtain ⟨hB, eB⟩ : ∃ hB, hB = h.push (.cells arr0 46) := ⟨_, rfl⟩
        rw [← eB]
        have kB : Keep none_ h hB := by rw [eB]; exact .push _ _ _
        have hbB : hB[h.size]? = some (.cells arr0 46 (0, 0)) := by rw [eB]; exact push_new _ _
        have hzl : (Builtin.zeroCells (Value.agg #[.slice none 0 0, .int .i64 0, .slice none 0 0, .slice none 0 0, .slice none 0 0]).cells (vn + 1 - i) ++ Builtin.zeroCells (Value.agg #[.slice none 0 0, .int .i64 0, .slice none 0 0, .slice none 0 0, .slice none 0 0]).cells (cap - (vn + 1))).toList.length = (cap - i) * 5 := by
          rw [Array.length_toList, Array.size_append, zeroCells_size, zeroCells_size]
          show (vn + 1 - i) * 5 + (cap - (vn + 1)) * 5 = (cap - i) * 5
          omega
        have hal : arr0.toList = old.take (i * 5) ++ (Builtin.zeroCells (Value.agg #[.slice none 0 0, .int .i64 0, .slice none 0 0, .slice none 0 0, .slice none 0 0]).cells (vn + 1 - i) ++ Builtin.zeroCells (Value.agg #[.slice none 0 0, .int .i64 0, .slice none 0 0, .slice none 0 0, .slice none 0 0]).cells (cap - (vn + 1))).toList := by
          rw [ea0, Array.append_assoc, Array.toList_append]
        obtain ⟨hin1, hin2⟩ := insert_new (s := 5) (c := cap) (i := i) hol hzl hcl (by omega) (by omega)
        rw [← hal] at hin1 hin2
        have hasz : arr0.size = cap * 5 := by rw [← Array.length_toList]; exact hin2
        have hb2B := kB.at hb2 (fun h => h)
        have hbkB := kB.at hb (fun h => h)
        have hw1 := writeIn_ok (arr := arr0) (e := 46) (off := i * 5) hco (by rw [hcl, hasz]; show i * 5 + 5 ≤ cap * 5; omega)
        simp -dsimp [sliceS_from hT (show i ≤ vn + 1 by omega) hcap, piece_mk (show cap ≠ i by omega)]
        refine copy_cells (F := Old hB) (k := 1) (news := cs) Tryz.elS31 Tryz.szS46 hcl (.inr ⟨b2, 0, _, _, _, rfl, ⟨nz, lt_of_blk hb2B, fun h => h⟩, hb2B, by rw [List.drop_zero, hcl]; exact h25⟩) (by show 1 = min 1 _; omega) (by decide) (o := .cells (writeC arr0 (i * 5) cs) 46) ?_ ?_
        · rw [hbB, List.take_of_length_le (by rw [hcl]; decide)]; exact hw1
        obtain ⟨arr1, ea1⟩ : ∃ arr1, arr1 = writeC arr0 (i * 5) cs := ⟨_, rfl⟩
        have hal1 : arr1.toList = arr0.toList.take (i * 5) ++ cs ++ arr0.toList.drop (i * 5 + cs.length) := by
          rw [ea1]; exact toList_writeC cs arr0 (i * 5) (by rw [hcl, hasz]; show i * 5 + 5 ≤ cap * 5; omega)
        have hasz1 : arr1.size = cap * 5 := by rw [ea1, size_writeC, hasz]
        rw [← ea1]
        obtain ⟨hD, eD⟩ : ∃ hD, hD = hB.setIfInBounds h.size (.cells arr1 46) := ⟨_, rfl⟩
        rw [← eD]
        have hbD : hD[h.size]? = some (.cells arr1 46 (0, 0)) := by rw [eD]; exact set_same _ (lt_of_blk hbB)
        have hlb := lt_of_blk hb
        have hbkD : hD[bk]? = some (.cells arr 46 (0, 0)) := by rw [eD, set_other _ (by omega)]; exact hbkB
        have hod : (old.drop (i * 5)).length = (vn - i) * 5 := by rw [List.length_drop, hol]; omega
        have hw2 := writeIn_ok (arr := arr1) (e := 46) (off := (i + 1) * 5) (vs := old.drop (i * 5)) (List.all_eq_true.2 fun x hx => (List.all_eq_true.1 hoo) x (List.mem_of_mem_drop hx)) (by rw [hod, hasz1]; omega)
        simp -dsimp
        refine drawn_by [⟨0, true, []⟩, ⟨1, true, []⟩, ⟨2, true, []⟩, ⟨3, true, []⟩, ⟨4, true, []⟩, ⟨5, true, []⟩, ⟨6, true, []⟩, ⟨7, true, []⟩, ⟨8, false, []⟩] (by kernel_rfl) (by kernel_rfl) ?_
        have hp1 : i + 1 ≤ vn + 1 := by omega
        have hp2 : vn + 1 ≤ cap := hcap
        have hp3 : i ≤ vn := by omega
        have hp4 : vn ≤ vc := hvc
        have hp0 : (0 : Int) ≤ (i : Int) + 1 := by omega
        simp -dsimp [elSz_eq, pieceV, natV, w3, hp0, hp1, hp2, hp3, hp4, piece_mk (show cap ≠ i + 1 by omega), piece_mk (show vc ≠ i by omega)]
        refine copy_cells (F := Old hD) (k := vn - i) (news := old.drop (i * 5)) Tryz.elS31 Tryz.szS46 hod (.inr ⟨bk, i * 5, _, _, _, rfl, ⟨nz, lt_of_blk hbkD, fun h => h⟩, hbkD, ?_⟩) (by show vn - i = min (vn - i) (vn - i); omega) (by show (vn - i) * 5 ≠ 0; omega) (o := .cells (writeC arr1 ((i + 1) * 5) (old.drop (i * 5))) 46) ?_ ?_
        · rw [← htk', List.drop_take, List.length_take, List.length_drop, hsz']
          congr 1; omega
        · rw [hbD, List.take_of_length_le (by rw [hod]; exact Nat.le_refl _)]
          exact hw2
        simp -dsimp
        have hlt2 := toList_writeC (old.drop (i * 5)) arr1 ((i + 1) * 5) (by rw [hod, hasz1]; omega)
        have tB : Tr M M h hB := by rw [eB]; exact Tr.push ⟨.refl _ _, fun _ h => .inl h, hM⟩ _
        have tD : Tr M (fun b => M b ∨ some h.size = some b) h ((hD.setIfInBounds h.size (.cells (writeC arr1 ((i + 1) * 5) (old.drop (i * 5))) 46))) := by
          refine ⟨⟨?_, fun b hb' hm => ?_⟩, fun b hb' => hb'.imp id fun e => by cases e; exact Nat.le_refl _, fun b hb' => ?_⟩
          · rw [Array.size_setIfInBounds, eD, Array.size_setIfInBounds]; exact kB.size
          · rw [set_other _ (by omega), eD, set_other _ (by omega)]; exact kB.blk b hb' (fun h => h)
          · rw [Array.size_setIfInBounds, eD, Array.size_setIfInBounds, eB]
            rcases hb' with hb' | hb'
            · have := hM b hb'; simp; omega
            · cases hb'; simp
        refine hK _ _ ⟨some h.size, ?_, tD, ⟨tD.size, fun b hb' hn' => ?_⟩, fun b hb' => .inr (by cases hb'; exact Nat.le_refl _)⟩
        · refine Gr.raw (cs := old.take (i * 5) ++ cs ++ old.drop (i * 5)) (set_same _ (lt_of_blk hbD)) (.inr rfl) hnl.symm (by rw [size_writeC, hasz1]; rfl) hcap hcap' ?_ (hE tD)
          rw [hlt2, hal1]
          exact hin1
        · rw [set_other _ (by omega), eD, set_other _ (by omega)]; exact kB.blk b hb' (fun h => h)
    · have hroom' : ((vc : Int) < (vn : Int) + 1) = False := by simp; omega
      have hsT : ∀ (K : Value → Heap → Prop) (h : Heap), sliceS Tryz.prog 31 (.slice (some ⟨bk, 0, none⟩) vn vc) none (some (.int .i64 ((vn : Int) + 1))) none h K = K (.slice (some ⟨bk, 0, none⟩) (vn + 1) vc) h := fun K h => by
        have := sliceS_to (P := Tryz.prog) (a := some ⟨bk, 0, none⟩) (n := vn) (k := .i64) (K := K) (h := h) hT (show vn + 1 ≤ vc by omega)
        rw [piece_zero] at this
        simpa using this
      have hsF : ∀ (K : Value → Heap → Prop) (h : Heap), sliceS Tryz.prog 31 (.slice (some ⟨bk, 0, none⟩) (vn + 1) vc) (some (.int .i64 ((i : Int) + 1))) none none h K = K (.slice (some ⟨bk, (i + 1) * 5, none⟩) (vn - i) (vc - (i + 1))) h := fun K h => by
        have := sliceS_from (P := Tryz.prog) (a := some ⟨bk, 0, none⟩) (k := .i64) (K := K) (h := h) hT (show i + 1 ≤ vn + 1 by omega) (show vn + 1 ≤ vc by omega)
        rw [piece_mk (by omega)] at this
        simpa [show vn + 1 - (i + 1) = vn - i by omega] using this
      have hsI : ∀ (K : Value → Heap → Prop) (h : Heap), sliceS Tryz.prog 31 (.slice (some ⟨bk, 0, none⟩) (vn + 1) vc) (some (.int .i64 (i : Int))) none none h K = K (.slice (some ⟨bk, i * 5, none⟩) (vn + 1 - i) (vc - i)) h := fun K h => by
        have := sliceS_from (P := Tryz.prog) (a := some ⟨bk, 0, none⟩) (k := .i64) (K := K) (h := h) hT (show i ≤ vn + 1 by omega) (show vn + 1 ≤ vc by omega)
        rw [piece_mk (by omega)] at this
        simpa using this
      have hss : arr.size = vc * 5 := hsz
      simp -dsimp [hroom', w1, w3, hsT, hsF]
      refine callS_extern (e := Extern.SlicesOverlaps.overlaps #[31, 31] #[4]) Tryz.func80 (by kernel_rfl) (by kernel_rfl) (by kernel_rfl) (by kernel_rfl) _ ?_
      refine hp_overlaps Tryz.underlying31 Tryz.szS46 hnb2 hb2 hb (by rw [hss]; omega) ?_
      simp -dsimp
      refine drawn_by [⟨0, true, []⟩, ⟨1, true, []⟩, ⟨2, true, []⟩, ⟨3, true, []⟩, ⟨4, true, []⟩, ⟨5, true, []⟩, ⟨6, true, []⟩, ⟨7, true, []⟩, ⟨8, false, []⟩] (by kernel_rfl) (by kernel_rfl) ?_
      have hp0 : (0 : Int) ≤ (i : Int) + 1 := by omega
      have hp1 : i + 1 ≤ vn + 1 := by omega
      have hp2 : vn + 1 ≤ vc := by omega
      have hp3 : i ≤ vn + 1 := by omega
      simp -dsimp [elSz_eq, pieceV, natV, w3, hp0, hp1, hp2, hp3, piece_mk (show vc ≠ i + 1 by omega), piece_mk (show vc ≠ i by omega)]
      have hns : ((arr.toList.drop (i * 5)).take ((vn + 1 - i) * 5)).length = (vn + 1 - i) * 5 := by rw [List.length_take, List.length_drop, hsz']; omega
      have hod : (old.drop (i * 5)).length = (vn - i) * 5 := by rw [List.length_drop, hol]; omega
      have hnt : ((arr.toList.drop (i * 5)).take ((vn + 1 - i) * 5)).take ((vn - i) * 5) = old.drop (i * 5) := by
        rw [List.take_take, ← htk', List.drop_take]
        congr 1; omega
      have hw1 := writeIn_ok (arr := arr) (e := 46) (off := (i + 1) * 5) (vs := old.drop (i * 5)) (List.all_eq_true.2 fun x hx => (List.all_eq_true.1 hoo) x (List.mem_of_mem_drop hx)) (by rw [hod, hss]; omega)
      refine copy_cells (F := Old h) (k := vn - i) (news := (arr.toList.drop (i * 5)).take ((vn + 1 - i) * 5)) Tryz.elS31 Tryz.szS46 hns (.inr ⟨bk, i * 5, _, _, _, rfl, ⟨nz, lt_of_blk hb, fun h => h⟩, hb, by rw [hns]⟩) (by show vn - i = min (vn + 1 - i) (vn - i); omega) (by show (vn - i) * 5 ≠ 0; omega) (o := .cells (writeC arr ((i + 1) * 5) (old.drop (i * 5))) 46) ?_ ?_
      · rw [hb]
        exact (congrArg _ hnt).trans hw1
      obtain ⟨arr1, ea1⟩ : ∃ arr1, arr1 = writeC arr ((i + 1) * 5) (old.drop (i * 5)) := ⟨_, rfl⟩
      have hal1 := toList_writeC (old.drop (i * 5)) arr ((i + 1) * 5) (by rw [hod, hss]; omega)
      have hasz1 : arr1.size = vc * 5 := by rw [ea1, size_writeC, hss]
      rw [← ea1] at hal1 ⊢
      obtain ⟨hD, eD⟩ : ∃ hD, hD = h.setIfInBounds bk (.cells arr1 46) := ⟨_, rfl⟩
      rw [← eD]
      have hbD : hD[bk]? = some (.cells arr1 46 (0, 0)) := by rw [eD]; exact set_same _ (lt_of_blk hb)
      have hb2D : hD[b2]? = some (.cells arr2 46 (0, 0)) := by rw [eD, set_other _ (fun e => hnb2 e.symm)]; exact hb2
      have hw2 := writeIn_ok (arr := arr1) (e := 46) (off := i * 5) hco (by rw [hcl, hasz1]; show i * 5 + 5 ≤ vc * 5; omega)
      simp -dsimp [hsI]
      refine copy_cells (F := Old hD) (k := 1) (news := cs) Tryz.elS31 Tryz.szS46 hcl (.inr ⟨b2, 0, _, _, _, rfl, ⟨nz, lt_of_blk hb2D, fun h => h⟩, hb2D, by rw [List.drop_zero, hcl]; exact h25⟩) (by show 1 = min 1 _; omega) (by decide) (o := .cells (writeC arr1 (i * 5) cs) 46) ?_ ?_
      · rw [hbD, List.take_of_length_le (by rw [hcl]; decide)]; exact hw2
      simp -dsimp
      have hlt2 := toList_writeC cs arr1 (i * 5) (by rw [hcl, hasz1]; show i * 5 + 5 ≤ vc * 5; omega)
      have tH : Tr M M h h := ⟨.refl _ _, fun _ h => .inl h, hM⟩
      have tD : Tr M (fun b => M b ∨ some bk = some b) h (hD.setIfInBounds bk (.cells (writeC arr1 (i * 5) cs) 46)) := by
        rw [eD]
        exact ((tH.set _ hMb).set _ hMb).less fun b hb' => hb'.elim id fun e => by cases e; exact hMb
      refine hK _ _ ⟨some bk, ?_, tD, ⟨tD.size, fun b hb' hn' => ?_⟩, fun b hb' => .inl (by rw [eo]; exact hb')⟩
      · refine Gr.raw (cs := old.take (i * 5) ++ cs ++ old.drop (i * 5)) (set_same _ (lt_of_blk hbD)) (.inr rfl) hnl.symm (by rw [size_writeC, hasz1]; rfl) (by omega) hvc' ?_ (hE tD)
        rw [hlt2, hal1]
        exact insert_list (s := 5) htk' hsz' hcl (by omega) (by omega)
      · have : b ≠ bk := fun e => hn' (by rw [eo, e])
        rw [set_other _ (fun e => this e.symm), eD, set_other _ (fun e => this e.symm)]
theorem insert_spec {n : Nat} {M : Nat → Prop} {h : Heap} {v : Value} {xs : List CellM} {own : Option Nat} {i b2 : Nat} {cs : List Value} {c : CellM} (g : Gr rCell 46 n M h v xs own) (hM : ∀ b, M b → b < h.size) (hi : i ≤ xs.length) (hn : xs.length < 1000000)
    (hb2 : h[b2]? = some (.cells cs.toArray 46 (0, 0))) (hM2 : ¬ M b2) (hc : rCell.rep (Ft n M h) h cs c) :
    CallH Tryz.prog 66 #[v, .int .i64 i, .slice (some ⟨b2, 0, none⟩) 1 1] h fun r h' => ∃ own', Gr rCell 46 n (fun b => M b ∨ own' = some b) h' r (xs.take i ++ c :: xs.drop i) own' ∧
      Tr M (fun b => M b ∨ own' = some b) h h' ∧ Keep (fun b => own = some b) h h' ∧ ∀ b, own' = some b → own = some b ∨ h.size ≤ b :=
  insert_gen g hM hi hn hb2 (by have := rCell.len hc; rw [List.take_of_length_le (by show cs.length ≤ 5; rw [this]; decide)]) hM2 hc
end Go.Proofs

/-
  The program's group-by.
-/
namespace Go.HC
theorem small_put {l : List CellM} {c : CellM} (hl : ∀ d ∈ l, CellSmall d) (hc : CellSmall c) : ∀ d ∈ putC l c, CellSmall d := by
  induction l with
  | nil => intro d hd; rw [putC, List.mem_singleton] at hd; rw [hd]; exact hc
  | cons e l ih =>
    intro d hd
    have he := hl e List.mem_cons_self
    have ih := ih fun d hd => hl d (List.mem_cons_of_mem _ hd)
    have hj : CellSmall (joinC e c) := ⟨he.key, by simp only [joinC, List.length_zipWith]; have := he.sum; omega, by simp only [joinC, List.length_zipWith]; have := he.mn; omega, by simp only [joinC, List.length_zipWith]; have := he.mx; omega⟩
    rw [putC] at hd
    split at hd
    · rcases List.mem_cons.1 hd with rfl | h
      · exact he
      · exact ih d h
    · split at hd
      · rcases List.mem_cons.1 hd with rfl | h
        · exact hj
        · exact hl d (List.mem_cons_of_mem _ h)
      · rcases List.mem_cons.1 hd with rfl | h
        · exact hc
        · exact hl d h
theorem small_group {l : List CellM} (hl : ∀ d ∈ l, CellSmall d) : ∀ d ∈ groupC l, CellSmall d := by
  have key : ∀ (l o : List CellM), (∀ d ∈ l, CellSmall d) → (∀ d ∈ o, CellSmall d) → ∀ d ∈ l.foldl putC o, CellSmall d := by
    intro l
    induction l with
    | nil => exact fun o _ ho => ho
    | cons c l ih => exact fun o hl ho => ih _ (fun d hd => hl d (List.mem_cons_of_mem _ hd)) (small_put ho (hl c List.mem_cons_self))
  exact key l [] hl fun d hd => by cases hd
/-- A row of cells in memory of its own, behind n0: its block may be changed, and the cells' blocks. -/
def NewC (e n0 : Nat) (h : Heap) (v : Value) (l : List CellM) : Prop := ∃ F own, Grow rCell e F h v l own ∧ (∀ b, F b → Nw n0 h b ∧ b < h.size) ∧ ∀ b, own = some b → n0 ≤ b
theorem NewC.rep {e n0 n : Nat} {h : Heap} {v : Value} {l : List CellM} (g : NewC e n0 h v l) (hn : n ≤ n0) : SlRep rCell (Ft n none_ h) h v l := by
  obtain ⟨F, own, g, hF, ho⟩ := g
  exact g.rep.mono fun b hb => ⟨hb.elim (fun h => ⟨(hF b h).1.less hn, (hF b h).2, fun h => h⟩) fun h => ⟨⟨Nat.le_trans hn (ho b h), fun _ => g.thaw b h⟩, g.own_lt b h, fun h => h⟩, rfl⟩
theorem NewC.keep {e n0 : Nat} {h h' : Heap} {v : Value} {l : List CellM} (g : NewC e n0 h v l) (k : Keep none_ h h') : NewC e n0 h' v l := by
  obtain ⟨F, own, g, hF, ho⟩ := g
  have hne : ∀ b, own = some b → ¬ F b := fun b hb => by
    rcases g with ⟨_, _, h0⟩ | ⟨bk, c, arr, cs, _, h0, _, h1, _⟩
    · rw [h0] at hb; cases hb
    · rw [h0] at hb; cases hb; exact h1
  exact ⟨F, own, g.mono (fun b hb => ⟨hb, k.blk b (hF b hb).2 (fun h => h)⟩) fun b hb => ⟨hne b hb, k.blk b (g.own_lt b hb) (fun h => h)⟩, fun b hb => ⟨(hF b hb).1.at (Nat.le_refl _) (k.blk b (hF b hb).2 (fun h => h)), Nat.lt_of_lt_of_le (hF b hb).2 k.size⟩, ho⟩
theorem NewC.older {e n0 n1 : Nat} {h : Heap} {v : Value} {l : List CellM} (g : NewC e n0 h v l) (hn : n1 ≤ n0) : NewC e n1 h v l := by
  obtain ⟨F, own, g, hF, ho⟩ := g
  exact ⟨F, own, g, fun b hb => ⟨(hF b hb).1.less hn, (hF b hb).2⟩, fun b hb => Nat.le_trans hn (ho b hb)⟩
end Go.HC
namespace Go.Proofs
open Go Go.HC

theorem join_new {h : Heap} {cs ds : List Value} {a b : CellM} (ha : rCell.rep (Old h) h cs a) (hb : rCell.rep (Old h) h ds b) (sa : CellSmall a) :
    CallH Tryz.prog 65 #[.agg cs.toArray, .agg ds.toArray] h fun r h' => ∃ es, r = .agg es.toArray ∧ rCell.rep (Ft h.size none_ h') h' es (joinC a b) ∧ Keep none_ h h' :=
  (join_th ha Old.lt sa hb Old.lt).mono fun _ _ ⟨ds, _, e, r, k, n, t⟩ => ⟨ds, e, rCell.mono r fun b hb => ⟨⟨⟨(n b hb).1, fun _ => t b hb⟩, (n b hb).2, fun h => h⟩, rfl⟩, k⟩
theorem own_new {h : Heap} {cs : List Value} {c : CellM} (hr : rCell.rep (Old h) h cs c) (hc : CellSmall c) :
    CallH Tryz.prog 47 #[.agg cs.toArray] h fun r h' => ∃ ds, r = .agg ds.toArray ∧ rCell.rep (Ft h.size none_ h') h' ds c ∧ Keep none_ h h' :=
  (cellOwn_th hr Old.lt hc).mono fun _ _ ⟨ds, _, e, r, k, n, t⟩ => ⟨ds, e, rCell.mono r fun b hb => ⟨⟨⟨(n b hb).1, fun _ => t b hb⟩, (n b hb).2, fun h => h⟩, rfl⟩, k⟩

set_option maxHeartbeats 4000000 in
set_option maxRecDepth 10000 in
theorem oput_spec {n : Nat} {M : Nat → Prop} {h : Heap} {bo : Nat} {v : Value} {xs : List CellM} {own : Option Nat} {cs : List Value} {c : CellM} (hb : h[bo]? = some (.cells #[v, .func (.func 72) #[] #[]] 106 (0, 0)))
    (g : Gr rCell 46 n M h v xs own) (hM : ∀ b, M b → b < h.size) (hMo : M bo) (hno : own ≠ some bo) (hr : rCell.rep (Ft n M h) h cs c) (hs : Srt xs) (hsm : ∀ d ∈ xs, CellSmall d) (_hc : CellSmall c) (hn : xs.length < 1000000) (hn0 : n ≤ h.size) :
    CallH Tryz.prog 74 #[.pointer (some ⟨bo, 0, none⟩), .agg cs.toArray, .func (.func 65) #[] #[]] h fun r h' => r = .tuple #[] ∧ ∃ M' v' own', Tr M M' h h' ∧ (∀ b, M b → M' b) ∧
      h'[bo]? = some (.cells #[v', .func (.func 72) #[] #[]] 106 (0, 0)) ∧ Gr rCell 46 n M' h' v' (putC xs c) own' ∧ (∀ b, own' = some b → own = some b ∨ h.size ≤ b) := by
  refine callH_by fun K hK => ?_
  refine enter [] Tryz.func74 rfl rfl (by kernel_rfl) rfl ?_
  obtain ⟨ka, kc, sa, sc, na, nc, xa, xc, rfl, r1, r2, r3, r4⟩ := cell_open hr
  obtain ⟨va, vn, vc, ev, hvn⟩ := g.vals
  subst ev
  have tH : Tr M M h h := ⟨.refl _ _, fun _ h => .inl h, hM⟩
  simp -dsimp [boxS_eq]
  generalize hB : Array.push h _ = h1
  have kb : Keep none_ h h1 := by rw [← hB]; exact .push _ _ _
  have t1 := tH.call kb
  have hC : h1[h.size]? = some (.cells #[.slice ka c.key.length kc, .int .i64 c.count, .slice sa c.sum.length sc, .slice na c.mn.length nc, .slice xa c.mx.length xc] 46 (0, 0)) := by rw [← hB]; exact push_new _ _
  have hb1 := kb.at hb (fun h => h)
  have hlb := lt_of_blk hb
  have g1 := g.call kb
  have c1 := rCell.mono hr (t1.ft (Nat.le_refl n))
  have hone : ∀ b, own = some b → 0 ≤ b := fun _ _ => Nat.zero_le _
  have l1 : SlRep rCell (Old h1) h1 _ xs := g1.rep (Nat.zero_le n) hone
  refine drawn_by [⟨0, true, []⟩, ⟨1, true, []⟩, ⟨2, true, []⟩, ⟨3, true, []⟩, ⟨4, true, []⟩, ⟨5, true, []⟩, ⟨6, true, []⟩, ⟨7, true, []⟩, ⟨8, true, []⟩, ⟨9, false, []⟩, ⟨10, true, []⟩, ⟨11, true, []⟩, ⟨12, true, []⟩, ⟨13, true, []⟩, ⟨14, true, []⟩] (by kernel_rfl) (by kernel_rfl) ?_
  simp -dsimp [hb1, hC]
  refine call_by (bsearch_spec (by simp) groupCmp l1 (rCell.mono c1 (Ft.free (Nat.zero_le _))) hs hn) ?_
  rintro _ h2 ⟨rfl, k2⟩
  have t2 := t1.call k2
  have hC2 := k2.at hC (fun h => h)
  have hb2 := k2.at hb1 (fun h => h)
  have g2 := g1.call k2
  have c2 := rCell.mono c1 (t1.here.call k2 |>.ft (Nat.le_refl n))
  obtain ⟨i, ei⟩ : ∃ i, i = posC xs c.key := ⟨_, rfl⟩
  have hpl := posC_le xs c.key
  rw [← ei] at hpl ⊢
  simp -dsimp
  by_cases h0 : ∃ hk : i < xs.length, lessM xs[i].key c.key = 0
  · obtain ⟨hil, h0⟩ := h0
    have hput : putC xs c = xs.set i (joinC xs[i] c) := by
      rw [putC_pos]
      subst ei
      rw [dif_pos ⟨hil, hil, h0⟩]
    have hin : i < vn := by omega
    rw [decide_eq_true ⟨hil, h0⟩]
    obtain ⟨bk, es, ea, eo, hre, hce⟩ := g2.elem i hil
    subst ea
    obtain ⟨ka1, kc1, sa1, sc1, na1, nc1, xa1, xc1, rfl, _⟩ := cell_open hre
    have hce' : HC.cellsIn h2[bk]? (i * 5) 5 = _ := hce
    simp -dsimp
    refine drawn_by [⟨0, true, []⟩, ⟨1, true, []⟩, ⟨2, true, []⟩, ⟨3, true, []⟩, ⟨4, true, []⟩, ⟨5, true, []⟩, ⟨6, true, []⟩, ⟨7, true, []⟩, ⟨8, true, []⟩, ⟨9, true, []⟩, ⟨10, true, []⟩, ⟨11, true, []⟩, ⟨12, true, []⟩, ⟨13, true, []⟩, ⟨14, false, [0, 1, 2, 3, 4]⟩, ⟨15, true, []⟩, ⟨16, false, []⟩] (by kernel_rfl) (by kernel_rfl) ?_
    simp -dsimp [hb2, hC2, idxV_nat hin, elSz_eq, hce']
    refine call_by (join_new (rCell.mono hre (Ft.free (Nat.zero_le _))) (rCell.mono c2 (Ft.free (Nat.zero_le _))) (hsm _ (List.getElem_mem hil))) ?_
    rintro _ h3 ⟨fs, rfl, r3', k3⟩
    have t3 := t2.call k3
    obtain ⟨bk', m', c', o', hv, hm', ho4, hw, g4⟩ := (g2.call k3).setE (i := i) hil (rCell.mono r3' (t2.ret (Nat.le_trans hn0 t2.size)))
    cases hv
    obtain ⟨ka5, kc5, sa5, sc5, na5, nc5, xa5, xc5, rfl, _⟩ := cell_open r3'
    have hw' : writeIn h3[bk]? (i * 5) _ = some o' := hw
    have hb3 := k3.at hb2 (fun h => h)
    have hne : bk ≠ bo := fun e => hno (by rw [ho4, e])
    simp -dsimp [hb3, idxV_nat hin, elSz_eq, again_cons, hw']
    exact hK _ _ ⟨rfl, M, _, own, t3.set o' (g.mu bk ho4), fun _ h => h, (set_other _ hne).trans hb3, by rw [hput]; exact g4, fun b hb => .inl hb⟩
  · rw [decide_eq_false h0]
    have hput : putC xs c = xs.take i ++ c :: xs.drop i := by
      rw [putC_pos, ← ei, dif_neg]
      rintro ⟨_, hx⟩; exact h0 hx
    simp -dsimp
    refine drawn_by [⟨0, true, []⟩, ⟨1, true, []⟩, ⟨2, true, []⟩, ⟨3, true, []⟩, ⟨4, true, []⟩, ⟨5, true, []⟩, ⟨6, true, []⟩, ⟨7, false, [0, 1, 2, 3, 4, 5]⟩, ⟨8, false, [0]⟩, ⟨9, true, []⟩, ⟨10, true, []⟩, ⟨11, false, []⟩] (by kernel_rfl) (by kernel_rfl) ?_
    have hb2p : ∀ o, (h2.push o)[bo]? = _ := fun o => push_at hb2
    simp -dsimp [hb2, hb2p, hC2, again_cons]
    generalize hB3 : Array.push h2 _ = h3
    have k3 : Keep none_ h2 h3 := by rw [← hB3]; exact .push _ _ _
    have t3 := t2.call k3
    have hN : h3[h2.size]? = some (.cells [.slice ka c.key.length kc, .int .i64 c.count, .slice sa c.sum.length sc, .slice na c.mn.length nc, .slice xa c.mx.length xc].toArray 46 (0, 0)) := by rw [← hB3]; exact push_new _ _
    refine call_by (insert_spec (g2.call k3) t3.lt hpl hn hN (fun hm => by have := t2.lt _ hm; omega) (rCell.mono c2 (t2.here.call k3 |>.ft (Nat.le_refl n)))) ?_
    rintro v4 h4 ⟨own4, g4, t4, k4, ho4⟩
    have hb3 := k3.at hb2 (fun h => h)
    have hb4 := k4.at hb3 hno
    have hl4 := lt_of_blk hb3
    obtain ⟨va4, vn4, vc4, ev4, _⟩ := g4.vals
    subst ev4
    simp -dsimp [hb4, again_cons]
    have hno4 : own4 ≠ some bo := fun e => (ho4 _ e).elim hno (fun h => by omega)
    have hs2 := t3.size
    refine hK _ _ ⟨rfl, _, _, own4, (t3.trans t4).set _ (.inl hMo), fun _ h => .inl h, set_same _ (lt_of_blk hb4), by rw [hput]; exact g4.set _ (.inl hMo) hno4, fun b hb => (ho4 b hb).imp id fun h => by omega⟩

set_option maxHeartbeats 4000000 in
set_option maxRecDepth 10000 in
/-- The group-by, in memory of its own. -/
theorem cgroup_spec {h : Heap} {v : Value} {l : List CellM} (hl : SlRep rCell (Old h) h v l) (hn : l.length < 1000000) (hsm : ∀ d ∈ l, CellSmall d) :
    CallH Tryz.prog 55 #[v] h fun r h' => NewC 46 h.size h' r (groupC l) ∧ Keep none_ h h' := by
  refine callH_by fun K hK => ?_
  refine enter [.tmp 2] Tryz.func55 rfl rfl (by kernel_rfl) rfl ?_
  obtain ⟨a0, c0, rfl, hc0, hc0'⟩ := hl.val
  simp -dsimp
  rw [push_set rfl]
  refine loopc (σ := Nat) (fun k => [(3, .pointer (some ⟨h.size, 0, none⟩)), (7, .slice a0 l.length c0), (8, .int .i64 l.length), (9, .int .i64 k)])
    (fun k h1 => ∃ M v own, Tr none_ M h h1 ∧ M h.size ∧ h1[h.size]? = some (.cells #[v, .func (.func 72) #[] #[]] 106 (0, 0)) ∧ Gr rCell 46 h.size M h1 v (groupC (l.take k)) own ∧ (∀ b, own = some b → h.size + 1 ≤ b) ∧ k ≤ l.length)
    (fun k => l.length - k) 0 0 (fun k _ => k = l.length) noRet noRet_le (by simp) ⟨_, _, none, (Tr.start h).pushM _, .inr rfl, push_new _ _, .nil _ _ _ _ _, (fun _ h => by cases h), Nat.zero_le _⟩ (by kernel_rfl) ?_ ?_
  · rintro k h1 g ⟨M, v, own, t1, hMo, hb1, g1, ho, hk⟩
    have wk := wrap_succ (k := k) (by omega)
    by_cases hkl : k < l.length
    · obtain ⟨b1, o1, cs, e1, _, hrep, hx1⟩ := (hl.mono t1.old).get k hkl
      obtain ⟨ka, kc, sa, sc, na, nc, xa, xc, rfl, _⟩ := cell_open hrep
      have hx1' : HC.cellsIn h1[b1]? (o1 + k * 5) 5 = _ := hx1
      simp -dsimp [hkl, e1, idxA_nat hkl, hx1']
      rw [push_set rfl]
      generalize hB2 : Array.push h1 _ = h2
      have k2 : Keep none_ h1 h2 := by rw [← hB2]; exact .push _ _ _
      have t2 := t1.call k2
      have hck := hsm _ (List.getElem_mem hkl)
      refine call_by (own_new (rCell.mono (rCell.mono hrep (t1.here.call k2 |>.ft (Nat.le_refl 0))) (Ft.free (Nat.le_refl 0))) hck) ?_
      rintro _ h3 ⟨ds, rfl, r3, k3⟩
      have t3 := t2.call k3
      have hb3 := (k2.trans k3 fun _ _ h => h).at hb1 (fun h => h)
      have hgl := groupC_le (l.take k)
      rw [List.length_take] at hgl
      simp -dsimp
      refine call_by (oput_spec hb3 ((g1.call k2).call k3) t3.lt hMo (fun e => by have := ho _ e; omega) (rCell.mono r3 (t2.ret t2.size)) (grp_group _).srt (small_group fun d hd => hsm d (List.mem_of_mem_take hd)) hck (by omega) t3.size) ?_
      rintro _ h4 ⟨rfl, M4, v4, own4, t4, hM4, hb4, g4, ho4⟩
      simp -dsimp [wk]
      have hl3 := lt_of_blk hb3
      refine ⟨k + 1, by simp [e1], rfl, ⟨M4, v4, own4, t3.trans t4, hM4 _ hMo, hb4, ?_, fun b hb => (ho4 b hb).elim (ho b) (fun h => by omega), by omega⟩, by show l.length - (k + 1) < l.length - k; omega⟩
      rw [group_take hkl]; exact g4
    · simp -dsimp [hkl]
      exact ⟨rfl, k, by simp, rfl, ⟨M, v, own, t1, hMo, hb1, g1, ho, hk⟩, by omega⟩
  · rintro k h1 g ⟨M, v, own, t1, hMo, hb1, g1, ho, hk⟩ hkl
    have hkl' : k = l.length := hkl
    rw [hkl', List.take_length] at g1
    obtain ⟨va, vn, vc, ev, hvn⟩ := g1.vals
    subst ev
    simp -dsimp [hb1]
    have hgl := groupC_le l
    refine call_by (cloneCell_spec g1.grow Ft.lt (by omega)) ?_
    rintro _ h2 ⟨own2, g2, k2, ho2⟩
    obtain ⟨a2, c2, rfl⟩ := g2.val
    simp -dsimp
    exact hK _ _ ⟨⟨_, own2, g2, fun b hb => ⟨hb.1.at (Nat.le_refl _) (k2.blk b hb.2.1 (fun h => h)), Nat.lt_of_lt_of_le hb.2.1 k2.size⟩, fun b hb => Nat.le_trans t1.size (ho2 b hb)⟩, t1.keep.trans k2 fun _ _ h => h⟩
end Go.Proofs

/-
  'slices.SortFunc[[]api.Cell,api.Cell]' of the library at this program's numbers, laid for the kit's contract; printed by a program of this work (wip/tools/lay2.py).
-/
namespace Go.Proofs
open Go.RowKit Go.Sort Go.Shelf
def Tryz.sortC_ren : Go.Shelf.Ren := ⟨fun | 6 => 88 | 15 => 91 | 14 => 98 | 28 => 108 | 29 => 109 | 20 => 113 | 21 => 114 | 22 => 115 | 23 => 116 | 24 => 117 | 25 => 118 | 26 => 119 | 27 => 120 | 46 => 127 | 47 => 122 | 48 => 123 | 49 => 128 | 50 => 129 | 57 => 131 | n => n, fun | 22 => 31 | 24 => 46 | 25 => 96 | 3 => 3 | 39 => 50 | 0 => 0 | 53 => 139 | 55 => 141 | 4 => 4 | 46 => 132 | 45 => 131 | 50 => 94 | 5 => 5 | 9 => 9 | 66 => 148 | 70 => 152 | 76 => 156 | 77 => 157 | n => n, fun n => n⟩
theorem Tryz.sortC : SlLaysF0.n6 Tryz.prog Tryz.sortC_ren where
  mixed := by kernel_rfl
  f6 := ⟨"slices.SortFunc[[]hypercube/api.Cell,hypercube/api.Cell]", by decide, Tryz.func88.trans (congrArg some (by kernel_rfl))⟩
  f14 := ⟨"slices.pdqsortCmpFunc[hypercube/api.Cell]", by decide, Tryz.func98.trans (congrArg some (by kernel_rfl))⟩
  f15 := Tryz.func91.trans (congrArg some (by kernel_rfl))
  f20 := ⟨"slices.insertionSortCmpFunc[hypercube/api.Cell]", by decide, Tryz.func113.trans (congrArg some (by kernel_rfl))⟩
  f21 := ⟨"slices.heapSortCmpFunc[hypercube/api.Cell]", by decide, Tryz.func114.trans (congrArg some (by kernel_rfl))⟩
  f22 := ⟨"slices.breakPatternsCmpFunc[hypercube/api.Cell]", by decide, Tryz.func115.trans (congrArg some (by kernel_rfl))⟩
  f23 := ⟨"slices.choosePivotCmpFunc[hypercube/api.Cell]", by decide, Tryz.func116.trans (congrArg some (by kernel_rfl))⟩
  f24 := ⟨"slices.reverseRangeCmpFunc[hypercube/api.Cell]", by decide, Tryz.func117.trans (congrArg some (by kernel_rfl))⟩
  f25 := ⟨"slices.partialInsertionSortCmpFunc[hypercube/api.Cell]", by decide, Tryz.func118.trans (congrArg some (by kernel_rfl))⟩
  f26 := ⟨"slices.partitionEqualCmpFunc[hypercube/api.Cell]", by decide, Tryz.func119.trans (congrArg some (by kernel_rfl))⟩
  f27 := ⟨"slices.partitionCmpFunc[hypercube/api.Cell]", by decide, Tryz.func120.trans (congrArg some (by kernel_rfl))⟩
  f28 := Tryz.func108.trans (congrArg some (by kernel_rfl))
  f29 := Tryz.func109.trans (congrArg some (by kernel_rfl))
  f46 := ⟨"slices.siftDownCmpFunc[hypercube/api.Cell]", by decide, Tryz.func127.trans (congrArg some (by kernel_rfl))⟩
  f47 := Tryz.func122.trans (congrArg some (by kernel_rfl))
  f48 := Tryz.func123.trans (congrArg some (by kernel_rfl))
  f49 := ⟨"slices.medianAdjacentCmpFunc[hypercube/api.Cell]", by decide, Tryz.func128.trans (congrArg some (by kernel_rfl))⟩
  f50 := ⟨"slices.medianCmpFunc[hypercube/api.Cell]", by decide, Tryz.func129.trans (congrArg some (by kernel_rfl))⟩
  f57 := ⟨"slices.order2CmpFunc[hypercube/api.Cell]", by decide, Tryz.func131.trans (congrArg some (by kernel_rfl))⟩
  t0 := Tryz.underlying0
  a0 := Tryz.isAgg0
  z0 := Tryz.sizeOf0
  v0 := Tryz.zeroValue0
  t3 := Tryz.underlying3
  a3 := Tryz.isAgg3
  z3 := Tryz.sizeOf3
  v3 := Tryz.zeroValue3
  t4 := Tryz.underlying4
  a4 := Tryz.isAgg4
  z4 := Tryz.sizeOf4
  v4 := Tryz.zeroValue4
  t5 := Tryz.underlying5
  a5 := Tryz.isAgg5
  z5 := Tryz.sizeOf5
  v5 := Tryz.zeroValue5
  t9 := Tryz.underlying9
  a9 := Tryz.isAgg9
  z9 := Tryz.sizeOf9
  v9 := Tryz.zeroValue9
  t22 := Tryz.underlying31
  a22 := Tryz.isAgg31
  z22 := Tryz.sizeOf31
  v22 := Tryz.zeroValue31
  t25 := Tryz.underlying96
  a25 := Tryz.isAgg96
  z25 := Tryz.sizeOf96
  v25 := Tryz.zeroValue96
  t39 := Tryz.underlying50
  a39 := Tryz.isAgg50
  z39 := Tryz.sizeOf50
  v39 := Tryz.zeroValue50
  t45 := Tryz.underlying131
  a45 := Tryz.isAgg131
  z45 := Tryz.sizeOf131
  v45 := Tryz.zeroValue131
  t46 := Tryz.underlying132
  a46 := Tryz.isAgg132
  z46 := Tryz.sizeOf132
  v46 := Tryz.zeroValue132
  t50 := Tryz.underlying94
  a50 := Tryz.isAgg94
  z50 := Tryz.sizeOf94
  v50 := Tryz.zeroValue94
  t53 := Tryz.underlying139
  a53 := Tryz.isAgg139
  z53 := Tryz.sizeOf139
  v53 := Tryz.zeroValue139
  t55 := Tryz.underlying141
  a55 := Tryz.isAgg141
  z55 := Tryz.sizeOf141
  v55 := Tryz.zeroValue141
  t66 := Tryz.underlying148
  a66 := Tryz.isAgg148
  z66 := Tryz.sizeOf148
  v66 := Tryz.zeroValue148
  t70 := Tryz.underlying152
  a70 := Tryz.isAgg152
  z70 := Tryz.sizeOf152
  v70 := Tryz.zeroValue152
  t76 := Tryz.underlying156
  a76 := Tryz.isAgg156
  z76 := Tryz.sizeOf156
  v76 := Tryz.zeroValue156
  t77 := Tryz.underlying157
  a77 := Tryz.isAgg157
  z77 := Tryz.sizeOf157
  v77 := Tryz.zeroValue157
end Go.Proofs

/-
  The library's sort of cells, by the kit's contract.
-/
namespace Go.HC
open Go.Sort Go.Proofs
/-- What a call did that changes no old block: draws, and blocks behind. -/
theorem same_grow {w w' : World} (s : Same w w') (k : Keep none_ w.heap w'.heap) : ∃ q os, w' = grow (w.drewN q) os := by
  obtain ⟨h1, h2, h3, h4⟩ := s
  refine ⟨w'.drawn - w.drawn, w'.heap.extract w.heap.size w'.heap.size, ?_⟩
  have hh : w'.heap = w.heap ++ w'.heap.extract w.heap.size w'.heap.size := by
    apply Array.ext_getElem?
    intro i
    have hk := k.size
    by_cases hi : i < w.heap.size
    · rw [Array.getElem?_append_left hi, k.blk i hi (fun h => h)]
    · rw [Array.getElem?_append_right (by omega)]
      simp only [Array.getElem?_extract]
      by_cases h2 : i < w'.heap.size
      · rw [if_pos (by omega)]; congr 1; omega
      · rw [if_neg (by omega), Array.getElem?_eq_none (by omega)]
  rcases w with ⟨⟩
  rcases w' with ⟨⟩
  simp only [grow, World.drewN] at *
  subst h1 h2 h3
  rw [← hh]
  congr 1
  omega
/-- Data with the cells that show them. -/
abbrev Shown {α : Type} (R : Rp α) (F : Nat → Prop) (h : Heap) := {p : List Value × α // R.rep F h p.1 p.2}
theorem elems_shown {α : Type} {R : Rp α} {F : Nat → Prop} {h : Heap} : ∀ {xs : List α} {cs : List Value}, Elems R F h cs xs → ∃ l : List (Shown R F h), l.map (fun p => p.1.2) = xs ∧ l.flatMap (fun p => p.1.1) = cs
  | [], cs, he => ⟨[], rfl, (show cs = [] from he).symm⟩
  | x :: xs, cs, ⟨c1, c2, e, hr, he⟩ => by
    obtain ⟨l, h1, h2⟩ := elems_shown he
    refine ⟨⟨(c1, x), hr⟩ :: l, ?_, ?_⟩
    · rw [List.map_cons, h1]
    · rw [List.flatMap_cons, h2, e]
theorem shown_elems {α : Type} {R : Rp α} {F : Nat → Prop} {h : Heap} : ∀ l : List (Shown R F h), Elems R F h (l.flatMap (fun p => p.1.1)) (l.map (fun p => p.1.2))
  | [] => rfl
  | p :: l => ⟨p.1.1, _, List.flatMap_cons, p.2, shown_elems l⟩
theorem flat_list {α : Type} [Inhabited α] {enc : α → List Value} {k : Nat} (hk : ∀ x, (enc x).length = k) (k0 : 0 < k) (l : List α) : (flatK enc k l.toArray).toList = l.flatMap enc := by
  have key : ∀ (l : List α) (j : Nat), (l.flatMap enc)[j]? = (l[j / k]?).bind fun x => (enc x)[j % k]? := by
    intro l
    induction l with
    | nil => intro j; simp
    | cons x l ih =>
      intro j
      rw [List.flatMap_cons]
      by_cases hj : j < k
      · rw [List.getElem?_append_left (by rw [hk]; exact hj), Nat.div_eq_of_lt hj, Nat.mod_eq_of_lt hj]; simp
      · rw [List.getElem?_append_right (by rw [hk]; omega), hk, ih]
        have e1 : j / k = (j - k) / k + 1 := by
          conv => lhs; rw [show j = (j - k) + k by omega]
          rw [Nat.add_div_right _ k0]
        have e2 : j % k = (j - k) % k := by
          conv => lhs; rw [show j = (j - k) + k by omega]
          rw [Nat.add_mod_right]
        rw [e1, e2, List.getElem?_cons_succ]
  have hlen : ∀ l : List α, (l.flatMap enc).length = l.length * k := by
    intro l
    induction l with
    | nil => simp
    | cons x l ih => rw [List.flatMap_cons, List.length_append, ih, hk, List.length_cons, Nat.add_mul, Nat.one_mul]; omega
  apply List.ext_getElem?
  intro j
  rw [key]
  by_cases hj : j < l.length * k

  · have hs : j < (flatK enc k l.toArray).size := by rw [size_flatK]; exact hj
    have hd : j / k < l.length := Nat.div_lt_of_lt_mul (by rw [Nat.mul_comm]; exact hj)
    rw [Array.getElem?_toList, Array.getElem?_eq_getElem hs, ← getElem!_pos (flatK enc k l.toArray) j hs, get_flatK _ _ _ _ (by simpa using hj)]
    rw [List.getElem?_eq_getElem hd, Option.bind_some, getElem!_pos l.toArray (j / k) (by simpa using hd)]
    have hm : j % k < (enc l[j / k]).length := by rw [hk]; exact Nat.mod_lt _ k0
    simp only [List.getElem_toArray]
    rw [getElem!_pos (enc l[j / k]) (j % k) hm, List.getElem?_eq_getElem hm]
  · rw [Array.getElem?_toList, Array.getElem?_eq_none (by rw [size_flatK]; simp; omega)]
    have : l.length ≤ j / k := (Nat.le_div_iff_mul_le k0).2 (by omega)
    rw [List.getElem?_eq_none this]; rfl
/-- Cells by their keys, none behind a greater one. -/
def Ris (l : List CellM) : Prop := l.Pairwise fun a b => lessM a.key b.key ≤ 0
theorem lessM_nle {xs ys : List Int} : ¬ lessM xs ys < 0 ↔ lessM ys xs ≤ 0 := by
  rw [lessM_neg xs ys]; omega
theorem lessM_letrans {xs ys zs : List Int} (h1 : lessM xs ys ≤ 0) (h2 : lessM ys zs ≤ 0) : lessM xs zs ≤ 0 := by
  rcases Int.lt_or_eq_of_le h1 with h1 | h1
  · rcases Int.lt_or_eq_of_le h2 with h2 | h2
    · exact Int.le_of_lt (lessM_trans h1 h2)
    · rw [lessM_zero] at h2; subst h2; exact Int.le_of_lt h1
  · rw [lessM_zero] at h1; subst h1; exact h2
theorem swo_key {α : Type} (key : α → List Int) : SWO (ltOf fun x y : α => lessM (key x) (key y)) where
  irrefl x := by unfold ltOf; simp [lessM_self]
  trans x y z h1 h2 := by
    unfold ltOf at *
    simp only [decide_eq_true_eq] at *
    exact lessM_trans h1 h2
  ntrans x y z h1 h2 := by
    unfold ltOf at *
    simp only [decide_eq_false_iff_not, lessM_nle] at *
    exact lessM_letrans h2 h1
/-- Sorted, grouped cells stand as the group-by has them. -/
theorem ris_group {x l : List CellM} (hp : x.Perm (groupC l)) (hr : Ris x) : x = groupC l := by
  have hg := grp_group l
  refine hp.eq_of_pairwise (le := fun a b : CellM => lessM a.key b.key ≤ 0) ?_ hr (hg.srt.imp fun h => Int.le_of_lt h)
  intro a b ha hb h1 h2
  have hk : a.key = b.key := by
    rw [lessM_neg a.key b.key] at h2
    exact lessM_zero.1 (by omega)
  have ha' := (hg.mem a).1 (hp.mem_iff.1 ha)
  have hb' := (hg.mem b).1 hb
  rw [hk, hb'] at ha'
  exact (Option.some.inj ha').symm
end Go.HC
namespace Go.Proofs
open Go Go.HC Go.Sort

set_option maxRecDepth 10000 in
theorem fitCmp : CmpC 89 := by
  intro h cs ds a b ha hb
  refine callH_by fun K hK => ?_
  refine enter [.tmp 4] Tryz.func89 rfl rfl (by kernel_rfl) rfl ?_
  obtain ⟨ka, kc, sa, sc, na, nc, xa, xc, rfl, r1, _⟩ := cell_open ha
  obtain ⟨ka', kc', sa', sc', na', nc', xa', xc', rfl, q1, _⟩ := cell_open hb
  simp -dsimp [boxS_eq]
  generalize hB : Array.push (Array.push h _) _ = h1
  have k1 : Keep none_ h h1 := by rw [← hB]; exact ((Keep.refl none_ h).pushed _).pushed _
  have hA : h1[h.size]? = some (.cells #[.slice ka a.key.length kc, .int .i64 a.count, .slice sa a.sum.length sc, .slice na a.mn.length nc, .slice xa a.mx.length xc] 46 (0, 0)) := by rw [← hB]; exact push_at (push_new _ _)
  have hB1 : h1[h.size + 1]? = some (.cells #[.slice ka' b.key.length kc', .int .i64 b.count, .slice sa' b.sum.length sc', .slice na' b.mn.length nc', .slice xa' b.mx.length xc'] 46 (0, 0)) := by rw [← hB]; exact push_get (by simp)
  simp -dsimp [hA, hB1]
  refine call_by (cless_spec (r1.mono ((Tr.of k1).ft (Nat.le_refl 0))) (q1.mono ((Tr.of k1).ft (Nat.le_refl 0)))) ?_
  rintro _ h2 ⟨rfl, hh⟩
  subst h2
  simp -dsimp
  exact hK _ _ ⟨rfl, k1⟩

theorem sortH {α : Type} [Inhabited α] (enc : α → List Value) (w : World) (blk n : Nat) (d : Array α) (os : Array Obj) :
    (sortWorldK enc 5 w blk 0 n d os).heap = (w.heap.modify blk (Sort.onCells (Sort.putCells id 0 (flatK enc 5 d)))) ++ os := rfl

set_option maxHeartbeats 4000000 in
/-- The sort of cells, in place. -/
theorem sortc_spec {f : FuncId} (hf : ∀ args w, (callFunc f args).run Tryz.prog w = .ok (.enter f args) w) (hcmp : CmpC f) {F : Nat → Prop} {h : Heap} {v : Value} {xs : List CellM} {own : Option Nat}
    (g : Grow rCell 46 F h v xs own) (hF : ∀ b, F b → b < h.size) (hn : xs.length < 1099511627776) :
    CallH Tryz.prog 88 #[v, .func (.func f) #[] #[]] h fun r h' => r = .tuple #[] ∧ ∃ ys, ys.Perm xs ∧ Ris ys ∧ Grow rCell 46 F h' v ys own ∧ Keep (fun b => own = some b) h h' := by
  rcases g with ⟨rfl, rfl, rfl⟩ | ⟨bk, c, arr, cs, rfl, rfl, h1, h2, h3, h4, h5, h6, h7⟩
  · intro w hw
    refine (AnyF.slices_SortFunc_none Tryz.sortC none 0 _ w).mono ?_
    rintro e w' ⟨rfl, rfl⟩
    exact ⟨_, rfl, .refl _, rfl, [], List.Perm.nil, List.Pairwise.nil, hw ▸ .nil _ _ _ _, hw ▸ .refl _ _⟩
  · intro w hw
    subst hw
    obtain ⟨l, hl1, hl2⟩ := elems_shown h7
    have hll : l.length = xs.length := by rw [← hl1, List.length_map]
    have h3' : arr.size = c * 5 := h3
    have h6' : arr.toList.take (xs.length * 5) = cs := h6
    have hbk := lt_of_blk h1
    have hk : ∀ x : Shown rCell F w.heap, x.1.1.length = 5 := fun x => rCell.len x.2
    haveI : Inhabited (Shown rCell F w.heap) := ⟨⟨([.slice none 0 0, .int .i64 0, .slice none 0 0, .slice none 0 0, .slice none 0 0], ⟨[], 0, [], [], []⟩), ⟨_, _, _, _, rfl, .nil _ _ _, .nil _ _ _, .nil _ _ _, .nil _ _ _⟩⟩⟩
    have hfl := flat_list (enc := fun p : Shown rCell F w.heap => p.1.1) hk (by decide) l
    have hH : HoldsK (fun p : Shown rCell F w.heap => p.1.1) 5 w bk 0 l.toArray := by
      intro j hj
      have hj' : j < xs.length * 5 := by rw [size_flatK] at hj; simpa [hll] using hj
      have hjc : j < arr.size := by omega
      constructor
      · show cellH w.heap _ = _
        unfold cellH
        simp only [h1, Nat.zero_add, Option.isSome_none, Bool.false_eq_true, if_false]
        rw [getElem!_pos _ j hj]
        have e1 : (flatK (fun p : Shown rCell F w.heap => p.1.1) 5 l.toArray).toList[j]? = arr.toList[j]? := by
          rw [hfl, hl2, ← h6', List.getElem?_take, if_pos hj']
        rw [Array.getElem?_toList, Array.getElem?_toList, Array.getElem?_eq_getElem hj] at e1
        exact e1.symm
      · show frozenH w.heap _ = _
        unfold frozenH
        simp [h1]
    have hc := AnyQ.slices_SortFunc Tryz.sortC 5 Tryz.isAgg46 Tryz.sizeOf46 (fun p : Shown rCell F w.heap => p.1.1) hk (fun x v hv => List.all_eq_true.1 (rCell.one x.2) v hv)
      (fun x y => lessM x.1.2.key y.1.2.key) (swo_key _) f #[] bk 0 c l.toArray w hf (by
        intro m os dk hdk x y
        have kS : Keep (fun b => b = bk) w.heap (sortWorldK (fun p : Shown rCell F w.heap => p.1.1) 5 w bk 0 m dk os).heap := by
          rw [sortH]
          refine ⟨by simp, fun b hb hne => ?_⟩
          rw [Array.getElem?_append_left (by simpa using hb), Array.getElem?_modify, if_neg (fun e => hne e.symm)]
        generalize sortWorldK (fun p : Shown rCell F w.heap => p.1.1) 5 w bk 0 m dk os = W at kS ⊢
        have hr : ∀ p : Shown rCell F w.heap, rCell.rep (Old W.heap) W.heap p.1.1 p.1.2 := fun p => rCell.mono p.2 fun b hb => ⟨⟨nz, Nat.lt_of_lt_of_le (hF b hb) kS.size, fun h => h⟩, kS.blk b (hF b hb) (fun e => h2 (e ▸ hb))⟩
        refine (hcmp (hr x) (hr y) W rfl).mono ?_
        rintro e w' ⟨v, rfl, s, rfl, k⟩
        exact ⟨rfl, same_grow s k⟩) hH hbk (by simp [hll]; omega)
    have hsz : l.toArray.size = xs.length := by simp [hll]
    rw [hsz] at hc
    refine hc.mono ?_
    rintro e w' ⟨rfl, d', n, os, hp, hs, rfl⟩
    obtain ⟨hp1, _, hp2⟩ := hp
    have hdl : d'.toList.length = xs.length := by rw [Array.length_toList, hp1, hsz]
    have hpl : d'.toList.Perm l := by
      have e1 : d'.extract 0 xs.length = d' := by
        rw [← hsz, ← hp1, Array.extract_size]
      have e2 : l.toArray.extract 0 xs.length = l.toArray := by
        rw [← hsz, Array.extract_size]
      rw [e1, e2] at hp2
      exact hp2
    have hfd := flat_list (enc := fun p : Shown rCell F w.heap => p.1.1) hk (by decide) d'.toList
    rw [Array.toArray_toList] at hfd
    refine ⟨_, rfl, ⟨rfl, rfl, rfl, by simp [sortWorldK, putRowK, putRow, mapBlock, grow]⟩, rfl, d'.toList.map (fun p => p.1.2), ?_, ?_, ?_, ?_⟩
    · rw [← hl1]; exact hpl.map _
    · unfold Ris
      rw [List.pairwise_map, List.pairwise_iff_getElem]
      intro i j hi hj hij
      have h0 := hs i j (Nat.zero_le _) hij (by omega)
      rw [getElem!_pos d' j (by simpa using hj), getElem!_pos d' i (by simpa using hi)] at h0
      unfold ltOf at h0
      rw [decide_eq_false_iff_not, lessM_nle] at h0
      exact h0
    · refine .inr ⟨bk, c, Sort.putCells id 0 (flatK (fun p : Shown rCell F w.heap => p.1.1) 5 d') arr, (flatK (fun p : Shown rCell F w.heap => p.1.1) 5 d').toList, by rw [List.length_map, hdl], rfl, ?_, h2, by simp only [Sort.putCells, Array.size_mapIdx]; exact h3, by rw [List.length_map, hdl]; exact h4, h5, ?_, ?_⟩
      · rw [sortH, Array.getElem?_append_left (by simpa using hbk), Array.getElem?_modify, if_pos rfl, h1]
        rfl
      · rw [List.length_map, hdl]
        apply List.ext_getElem?
        intro i
        have hs5 : (flatK (fun p : Shown rCell F w.heap => p.1.1) 5 d').size = xs.length * 5 := by rw [size_flatK, hp1, hsz]
        generalize flatK (fun p : Shown rCell F w.heap => p.1.1) 5 d' = fl at hs5 ⊢
        rw [List.getElem?_take, Array.getElem?_toList, Array.getElem?_toList]
        have hz : rCell.sz = 5 := rfl
        rw [hz]
        by_cases hi : i < xs.length * 5
        · have hi' : i < arr.size := by omega
          have hi2 : i < fl.size := by omega
          rw [if_pos hi, Array.getElem?_eq_getElem hi2]
          simp only [Sort.putCells, Array.getElem?_mapIdx, Array.getElem?_eq_getElem hi', Option.map_some, id]
          rw [if_pos ⟨Nat.zero_le _, by omega⟩, Nat.sub_zero, getElem!_pos fl i hi2]
        · rw [if_neg hi, Array.getElem?_eq_none (by omega)]
      · rw [hfd]
        exact (shown_elems d'.toList).mono fun b hb => ⟨hb, by
          rw [sortH, Array.getElem?_append_left (by simpa using hF b hb), Array.getElem?_modify, if_neg (fun e => h2 (by rw [e]; exact hb))]⟩
    · rw [sortH]
      refine ⟨by simp, fun b hb hne => ?_⟩
      rw [Array.getElem?_append_left (by simpa using hb), Array.getElem?_modify, if_neg (fun e => hne (by rw [e]))]
end Go.Proofs

/-
  'slices.Sort[[]int,int]' of the library at this program's numbers, laid for the kit's contract; printed by a program of this work (wip/tools/lay2.py).
-/
namespace Go.Proofs
open Go.RowKit Go.Sort Go.Shelf
def Tryz.sortI_ren : Go.Shelf.Ren := ⟨fun | 5 => 71 | 8 => 91 | 7 => 90 | 19 => 108 | 20 => 109 | 10 => 99 | 11 => 100 | 12 => 101 | 13 => 102 | 14 => 103 | 15 => 104 | 16 => 105 | 17 => 106 | 18 => 107 | 30 => 121 | 31 => 122 | 32 => 123 | 33 => 124 | 34 => 125 | 35 => 126 | 40 => 130 | n => n, fun | 23 => 22 | 25 => 3 | 3 => 3 | 32 => 50 | 22 => 22 | 0 => 0 | 44 => 139 | 46 => 141 | 4 => 4 | 36 => 132 | 35 => 131 | 41 => 94 | 5 => 5 | 9 => 9 | 53 => 148 | 57 => 152 | 63 => 156 | 64 => 157 | n => n, fun n => n⟩
theorem Tryz.sortI : SlLaysM.n5 Tryz.prog Tryz.sortI_ren where
  mixed := by kernel_rfl
  f5 := ⟨"slices.Sort[[]int,int]", by decide, Tryz.func71.trans (congrArg some (by kernel_rfl))⟩
  f7 := ⟨"slices.pdqsortOrdered[int]", by decide, Tryz.func90.trans (congrArg some (by kernel_rfl))⟩
  f8 := Tryz.func91.trans (congrArg some (by kernel_rfl))
  f10 := ⟨"slices.insertionSortOrdered[int]", by decide, Tryz.func99.trans (congrArg some (by kernel_rfl))⟩
  f11 := ⟨"slices.heapSortOrdered[int]", by decide, Tryz.func100.trans (congrArg some (by kernel_rfl))⟩
  f12 := ⟨"slices.breakPatternsOrdered[int]", by decide, Tryz.func101.trans (congrArg some (by kernel_rfl))⟩
  f13 := ⟨"slices.choosePivotOrdered[int]", by decide, Tryz.func102.trans (congrArg some (by kernel_rfl))⟩
  f14 := ⟨"slices.reverseRangeOrdered[int]", by decide, Tryz.func103.trans (congrArg some (by kernel_rfl))⟩
  f15 := ⟨"slices.partialInsertionSortOrdered[int]", by decide, Tryz.func104.trans (congrArg some (by kernel_rfl))⟩
  f16 := ⟨"cmp.Less[int]", by decide, Tryz.func105.trans (congrArg some (by kernel_rfl))⟩
  f17 := ⟨"slices.partitionEqualOrdered[int]", by decide, Tryz.func106.trans (congrArg some (by kernel_rfl))⟩
  f18 := ⟨"slices.partitionOrdered[int]", by decide, Tryz.func107.trans (congrArg some (by kernel_rfl))⟩
  f19 := Tryz.func108.trans (congrArg some (by kernel_rfl))
  f20 := Tryz.func109.trans (congrArg some (by kernel_rfl))
  f30 := ⟨"slices.siftDownOrdered[int]", by decide, Tryz.func121.trans (congrArg some (by kernel_rfl))⟩
  f31 := Tryz.func122.trans (congrArg some (by kernel_rfl))
  f32 := Tryz.func123.trans (congrArg some (by kernel_rfl))
  f33 := ⟨"slices.medianAdjacentOrdered[int]", by decide, Tryz.func124.trans (congrArg some (by kernel_rfl))⟩
  f34 := ⟨"slices.medianOrdered[int]", by decide, Tryz.func125.trans (congrArg some (by kernel_rfl))⟩
  f35 := ⟨"cmp.isNaN[int]", by decide, Tryz.func126.trans (congrArg some (by kernel_rfl))⟩
  f40 := ⟨"slices.order2Ordered[int]", by decide, Tryz.func130.trans (congrArg some (by kernel_rfl))⟩
  t0 := Tryz.underlying0
  a0 := Tryz.isAgg0
  z0 := Tryz.sizeOf0
  v0 := Tryz.zeroValue0
  t3 := Tryz.underlying3
  a3 := Tryz.isAgg3
  z3 := Tryz.sizeOf3
  v3 := Tryz.zeroValue3
  t4 := Tryz.underlying4
  a4 := Tryz.isAgg4
  z4 := Tryz.sizeOf4
  v4 := Tryz.zeroValue4
  t5 := Tryz.underlying5
  a5 := Tryz.isAgg5
  z5 := Tryz.sizeOf5
  v5 := Tryz.zeroValue5
  t9 := Tryz.underlying9
  a9 := Tryz.isAgg9
  z9 := Tryz.sizeOf9
  v9 := Tryz.zeroValue9
  t22 := Tryz.underlying22
  a22 := Tryz.isAgg22
  z22 := Tryz.sizeOf22
  v22 := Tryz.zeroValue22
  t23 := Tryz.underlying22
  a23 := Tryz.isAgg22
  z23 := Tryz.sizeOf22
  v23 := Tryz.zeroValue22
  t25 := Tryz.underlying3
  a25 := Tryz.isAgg3
  z25 := Tryz.sizeOf3
  v25 := Tryz.zeroValue3
  t32 := Tryz.underlying50
  a32 := Tryz.isAgg50
  z32 := Tryz.sizeOf50
  v32 := Tryz.zeroValue50
  t35 := Tryz.underlying131
  a35 := Tryz.isAgg131
  z35 := Tryz.sizeOf131
  v35 := Tryz.zeroValue131
  t36 := Tryz.underlying132
  a36 := Tryz.isAgg132
  z36 := Tryz.sizeOf132
  v36 := Tryz.zeroValue132
  t41 := Tryz.underlying94
  a41 := Tryz.isAgg94
  z41 := Tryz.sizeOf94
  v41 := Tryz.zeroValue94
  t44 := Tryz.underlying139
  a44 := Tryz.isAgg139
  z44 := Tryz.sizeOf139
  v44 := Tryz.zeroValue139
  t46 := Tryz.underlying141
  a46 := Tryz.isAgg141
  z46 := Tryz.sizeOf141
  v46 := Tryz.zeroValue141
  t53 := Tryz.underlying148
  a53 := Tryz.isAgg148
  z53 := Tryz.sizeOf148
  v53 := Tryz.zeroValue148
  t57 := Tryz.underlying152
  a57 := Tryz.isAgg152
  z57 := Tryz.sizeOf152
  v57 := Tryz.zeroValue152
  t63 := Tryz.underlying156
  a63 := Tryz.isAgg156
  z63 := Tryz.sizeOf156
  v63 := Tryz.zeroValue156
  t64 := Tryz.underlying157
  a64 := Tryz.isAgg157
  z64 := Tryz.sizeOf157
  v64 := Tryz.zeroValue157
end Go.Proofs

/-
  The library's sort of numbers, by the kit's contract.
-/
namespace Go.HC
open Go.Sort Go.Proofs
/-- Numbers in their order. -/
def sortI (xs : List Int) : List Int := xs.mergeSort fun x y => decide (x ≤ y)
theorem sortI_perm (xs : List Int) : (sortI xs).Perm xs := List.mergeSort_perm xs _
theorem sortI_sorted (xs : List Int) : (sortI xs).Pairwise (· ≤ ·) := by
  have h := List.pairwise_mergeSort (le := fun x y : Int => decide (x ≤ y)) (fun a b c h1 h2 => by simp only [decide_eq_true_eq] at *; omega) (fun a b => by simp only [Bool.or_eq_true, decide_eq_true_eq]; omega) xs
  exact h.imp fun h => by simpa using h
theorem sortI_length (xs : List Int) : (sortI xs).length = xs.length := (sortI_perm xs).length_eq
/-- Values that stand once each, sorted. -/
theorem Vals.sort {i : Nat} {l : List CellM} {xs : List Int} (hn : xs.Nodup) (hm : ∀ v, v ∈ xs ↔ ∃ c ∈ l, atV c i = v) : Vals i l (sortI xs) := by
  refine ⟨?_, fun v => ((sortI_perm xs).mem_iff).trans (hm v)⟩
  have h1 := sortI_sorted xs
  have h2 : (sortI xs).Nodup := (sortI_perm xs).nodup_iff.2 hn
  exact (h1.and h2).imp fun {a b} h => by
    have := h.1; have := h.2; omega
end Go.HC
namespace Go.Proofs
open Go Go.HC Go.Sort

theorem sorti_spec {F : Nat → Prop} {h : Heap} {v : Value} {xs : List Int} {own : Option Nat} (hg : Grow rInt 3 F h v xs own) (hF : ∀ b, F b → b < h.size) (hn : xs.length < 1099511627776) :
    CallH Tryz.prog 71 #[v] h fun r h' => r = .tuple #[] ∧ Grow rInt 3 F h' v (sortI xs) own ∧ Keep (fun b => own = some b) h h' := by
  rcases hg with ⟨rfl, rfl, rfl⟩ | ⟨bk, c, arr, cs, rfl, rfl, h1, h2, h3, h4, h5, h6, h7⟩
  · intro w hw
    refine (AnyM.slices_Sort_int_none Tryz.sortI none 0 w).mono ?_
    rintro e w' ⟨rfl, rfl⟩
    exact ⟨_, rfl, .refl _, rfl, hw ▸ .inl ⟨rfl, by simp [sortI], rfl⟩, hw ▸ .refl _ _⟩
  · intro w hw
    subst hw
    have hcs := ints_map.1 h7
    have h3' : arr.size = c := by simpa [rInt] using h3
    have h6' : arr.toList.take xs.length = xs.map (Value.int .i64) := by
      rw [← hcs, ← h6]; simp [rInt]
    have hget : ∀ j (hj : j < xs.length), arr[j]? = some (.int .i64 xs[j]) := by
      intro j hj
      have := congrArg (·[j]?) h6'
      simp only [List.getElem?_take, hj, if_true, List.getElem?_map, List.getElem?_eq_getElem hj, Option.map_some] at this
      simpa using this
    have hc := AnyM.slices_Sort_int Tryz.sortI bk 0 c xs w (by
      intro j hj
      have hj' : j < xs.length := by simpa using hj
      constructor
      · show cellH w.heap _ = _
        unfold cellH
        simp only [h1, Nat.zero_add, Option.isSome_none, Bool.false_eq_true, if_false]
        rw [hget j hj']
        rw [getElem!_pos xs.toArray j (by simpa using hj')]
        simp
      · show frozenH w.heap _ = _
        unfold frozenH
        simp [h1]) (lt_of_blk h1) (by omega)
    refine hc.mono ?_
    rintro e w' ⟨rfl, n, os, rfl⟩
    have hbk := lt_of_blk h1
    have hd : (xs.mergeSort fun x y => decide (x ≤ y)) = sortI xs := rfl
    rw [hd]
    have hdl := sortI_length xs
    generalize sortI xs = d at hdl ⊢
    have hH : (Sort.grow (Sort.putRow (Value.int .i64) (Sort.ahead w n) bk 0 d.toArray) os).heap = (w.heap.modify bk (Sort.onCells (Sort.putCells (Value.int .i64) 0 d.toArray))) ++ os := rfl
    refine ⟨_, rfl, ⟨rfl, rfl, rfl, by simp [putRow, mapBlock, grow]⟩, rfl, ?_, ?_⟩
    · refine .inr ⟨bk, c, Sort.putCells (Value.int .i64) 0 d.toArray arr, d.map (Value.int .i64), by rw [hdl], rfl, ?_, h2, ?_, by rw [hdl]; exact h4, h5, ?_, ?_⟩
      · rw [hH, Array.getElem?_append_left (by simpa using hbk), Array.getElem?_modify, if_pos rfl, h1]
        rfl
      · simp only [Sort.putCells, Array.size_mapIdx]; exact h3
      · rw [hdl]
        apply List.ext_getElem?
        intro i
        simp only [List.getElem?_take, Sort.putCells]
        by_cases hi : i < xs.length
        · have : i < arr.size := by omega
          simp [rInt, hi, this, hdl]
        · simp [rInt, hi, hdl]
      · exact ints_map.2 rfl
    · refine ⟨by rw [hH]; simp, fun b hb hne => ?_⟩
      rw [hH, Array.getElem?_append_left (by simpa using hb), Array.getElem?_modify, if_neg (fun e => hne (by rw [e]))]
end Go.Proofs

/-
  Tables that are given cells, plainly: what is told of a key is what its cells come to.
-/
namespace Go.HC
/-- The table holds, of each key, what these cells come to. -/
structure Holds (T : Tab) (l : List CellM) : Prop where
  ok : TabOk T
  mem : ∀ c, (∃ k : Nat, T[k]? = some (some c)) ↔ atKey c.key l = some c
theorem Holds.new (n : Nat) : Holds (newM n) [] := ⟨newM_ok n, fun c => by
  rw [atKey_nil]
  constructor
  · rintro ⟨k, h⟩
    unfold newM at h
    rw [List.getElem?_replicate] at h
    split at h <;> cases h
  · intro h; cases h⟩
theorem Holds.get {T : Tab} {l : List CellM} (h : Holds T l) (key : List Int) : getM T key = atKey key l := by
  cases ha : atKey key l with
  | some c =>
    have hk := atKey_key ha
    obtain ⟨k, hc⟩ := (h.mem c).2 (by rw [hk]; exact ha)
    have := find_there h.ok hc
    unfold getM
    rw [← hk, this]
    simp [hc]
  | none =>
    unfold getM
    cases hf : findM T key with
    | none => rfl
    | some k =>
      obtain ⟨_, h1 | ⟨c, h1, hc⟩, _⟩ := find_spec_some hf
      · simp [h1]
      · have := (h.mem c).1 ⟨k, h1⟩
        rw [hc, ha] at this; cases this
theorem putM_at {T : Tab} {c : CellM} {k : Nat} (hf : findM T c.key = some k) : putM T c = some (T.set k (some (joinO (T[k]?).join c))) := by
  unfold putM
  rw [hf]
  simp only [Option.some.injEq]
  congr 1
  rcases T[k]? with _ | (_ | d) <;> rfl
theorem Holds.put {T T' : Tab} {l : List CellM} {c : CellM} (h : Holds T l) (hp : putM T c = some T') : Holds T' (l ++ [c]) := by
  refine ⟨(put_ok h.ok hp).1, fun d => ?_⟩
  have hg := h.get c.key
  cases hf : findM T c.key with
  | none => unfold putM at hp; rw [hf] at hp; cases hp
  | some k =>
    rw [putM_at hf] at hp
    simp only [Option.some.injEq] at hp
    obtain ⟨hk, hor, _⟩ := find_spec_some hf
    unfold getM at hg
    rw [hf] at hg
    simp only at hg
    have hat : c.key = d.key → atKey d.key l = (T[k]?).join := fun e => by rw [← e, hg]
    rw [atKey_snoc]
    have hset : ∀ j : Nat, T'[j]? = if k = j then some (some (joinO (T[k]?).join c)) else T[j]? := by
      intro j
      rw [← hp, List.getElem?_set]
      by_cases e : k = j
      · rw [if_pos e, if_pos e, if_pos hk]
      · rw [if_neg e, if_neg e]
    have hkey : (joinO (T[k]?).join c).key = c.key := by
      rcases hor with h0 | ⟨d', h0, hd'⟩
      · rw [h0]; rfl
      · rw [h0]; exact hd'
    constructor
    · rintro ⟨j, hj⟩
      by_cases e : k = j
      · subst e
        rw [hset, if_pos rfl] at hj
        simp only [Option.some.injEq] at hj
        have hcd : c.key = d.key := by rw [← hkey, hj]
        rw [if_pos hcd, hat hcd, hj]
      · rw [hset, if_neg e] at hj
        have hm := (h.mem d).1 ⟨j, hj⟩
        rw [if_neg]
        · exact hm
        · intro hk'
          have := find_there h.ok hj
          rw [← hk', hf] at this
          cases this; exact e rfl
    · intro hd
      by_cases hk' : c.key = d.key
      · rw [if_pos hk', hat hk'] at hd
        simp only [Option.some.injEq] at hd
        exact ⟨k, by rw [hset, if_pos rfl, hd]⟩
      · rw [if_neg hk'] at hd
        obtain ⟨j, hj⟩ := (h.mem d).2 hd
        refine ⟨j, ?_⟩
        rw [hset, if_neg]
        · exact hj
        · rintro rfl
          rcases hor with h0 | ⟨d', h0, hd'⟩
          · rw [h0] at hj; cases hj
          · rw [h0] at hj; cases hj; exact hk' hd'.symm
theorem Holds.cells {T : Tab} {l : List CellM} (h : Holds T l) (c : CellM) : c ∈ cellsM T ↔ c ∈ groupC l := by
  rw [(grp_group l).mem, ← h.mem]
  unfold cellsM
  simp only [List.mem_filterMap, id]
  constructor
  · rintro ⟨x, hx, rfl⟩
    obtain ⟨k, hk⟩ := List.mem_iff_getElem?.1 hx
    exact ⟨k, hk⟩
  · rintro ⟨k, hk⟩
    exact ⟨_, List.mem_of_getElem? hk, rfl⟩
theorem Srt.nodup {l : List CellM} (h : Srt l) : l.Nodup := h.imp fun h e => by rw [e, lessM_self] at h; omega
/-- A table's cells stand once each. -/
theorem TabOk.nodup {T : Tab} (h : TabOk T) : (cellsM T).Nodup := by
  have key : ∀ (S : Tab) (off : Nat), (∀ (i : Nat) (c : CellM), S[i]? = some (some c) → T[off + i]? = some (some c)) → (cellsM S).Nodup := by
    intro S
    induction S with
    | nil => exact fun _ _ => List.nodup_nil
    | cons x S ih =>
      intro off hs
      have hr := ih (off + 1) fun i c hi => by
        have := hs (i + 1) c (by simpa using hi)
        rwa [Nat.add_assoc, Nat.add_comm 1 i]
      cases x with
      | none => exact hr
      | some c =>
        refine List.nodup_cons.2 ⟨fun hc => ?_, hr⟩
        have hm : ∃ i : Nat, S[i]? = some (some c) := by
          unfold cellsM at hc
          simp only [List.mem_filterMap, id] at hc
          obtain ⟨y, hy, rfl⟩ := hc
          obtain ⟨k, hk⟩ := List.mem_iff_getElem?.1 hy
          exact ⟨k, hk⟩
        obtain ⟨i, hi⟩ := hm
        have h1 := find_there h (hs 0 c rfl)
        have h2 := find_there h (hs (i + 1) c (by simpa using hi))
        rw [h1] at h2
        simp at h2
  exact key T 0 fun i c hi => by simpa using hi
theorem Holds.perm {T : Tab} {l : List CellM} (h : Holds T l) : (cellsM T).Perm (groupC l) :=
  (List.perm_ext_iff_of_nodup h.ok.nodup (grp_group l).srt.nodup).2 h.cells
theorem Holds.taken {T : Tab} {l : List CellM} (h : Holds T l) : takenM T = (groupC l).length := by
  rw [← cells_len, h.perm.length_eq]
/-- As long as there is room for a key a cell is taken. -/
theorem Holds.goes {T : Tab} {l : List CellM} (h : Holds T l) (c : CellM) (hn : (groupC (l ++ [c])).length ≤ T.length) : ∃ T', putM T c = some T' := by
  have hg := put_goes (T := T) c
  cases hp : putM T c with
  | some T' => exact ⟨T', rfl⟩
  | none =>
    rw [hp] at hg
    simp only [Option.isSome_none, Bool.false_eq_true, false_iff, not_or] at hg
    obtain ⟨h1, h2⟩ := hg
    exfalso
    have h3 := taken_le T
    rw [h.taken] at h2 h3
    rw [groupC_snoc] at hn
    have hno : ∀ d ∈ groupC l, d.key ≠ c.key := fun d hd e => h1 (mem_keys.2 (by
      obtain ⟨k, hk⟩ := (h.mem d).2 (((grp_group l).mem d).1 hd)
      exact ⟨k, d, hk, e⟩))
    have hl : ∀ o : List CellM, (∀ d ∈ o, d.key ≠ c.key) → (putC o c).length = o.length + 1 := by
      intro o
      induction o with
      | nil => exact fun _ => rfl
      | cons d o ih =>
        intro ho
        rw [putC]
        split
        · simpa using ih fun d hd => ho d (List.mem_cons_of_mem _ hd)
        · split
          · rename_i h0
            exact absurd (lessM_zero.1 h0) (ho d List.mem_cons_self)
          · rfl
    rw [hl _ hno] at hn
    omega
end Go.HC

/-
  The program's tables of all cells at once: they fit, or there is no place.
-/
namespace Go.HC
theorem group_grow : ∀ (l o : List CellM), o.length ≤ (l.foldl putC o).length
  | [], _ => Nat.le_refl _
  | c :: l, o => by
    have := group_grow l (putC o c)
    have := putC_len (l := o) c
    rw [List.foldl_cons]; omega
theorem group_take_le (l : List CellM) (k : Nat) : (groupC (l.take k)).length ≤ (groupC l).length := by
  conv => rhs; rw [← List.take_append_drop k l]
  unfold groupC
  rw [List.foldl_append]
  exact group_grow _ _
theorem keep_from {n0 : Nat} {h h1 h2 : Heap} {F : Nat → Prop} (k : Keep none_ h h1) (k2 : Keep F h1 h2) (hF : ∀ b, F b → n0 ≤ b) (hn : h.size ≤ n0) : Keep none_ h h2 := k.trans k2 fun b hb hf => by have := hF b hf; omega
theorem take_snoc {α : Type} {l : List α} {k : Nat} (hk : k < l.length) : l.take (k + 1) = l.take k ++ [l[k]] := by
  rw [List.take_add_one, List.getElem?_eq_getElem hk, Option.toList_some]
theorem new_small (n : Nat) : TabSmall (newM n) := fun k d hd => by
  unfold newM at hd
  rw [List.getElem?_replicate] at hd
  split at hd <;> cases hd
theorem new_len (n : Nat) : (newM n).length = n := by unfold newM; simp
end Go.HC
namespace Go.Proofs
open Go Go.HC

set_option maxRecDepth 10000 in
theorem fitEnters : ∀ args w, (callFunc 89 args).run Tryz.prog w = .ok (.enter 89 args) w := enters_of Tryz.func89 (by kernel_rfl) rfl

set_option maxHeartbeats 4000000 in
set_option maxRecDepth 10000 in
theorem fit_spec {h : Heap} {v : Value} {l : List CellM} {n : Nat} (hl : SlRep rCell (Old h) h v l) (hn : n < 1000000000) (hln : l.length < 1000000) (hsm : ∀ d ∈ l, CellSmall d) :
    CallH Tryz.prog 70 #[v, .int .i64 n] h fun r h' => (((groupC l).length ≤ n ∧ ∃ rv, r = .tuple #[rv, .bool true] ∧ NewC 46 h.size h' rv (groupC l)) ∨ (n < (groupC l).length ∧ r = .tuple #[.slice none 0 0, .bool false])) ∧ Keep none_ h h' := by
  refine callH_by fun K hK => ?_
  refine enter [.tmp 4, .tmp 5] Tryz.func70 rfl rfl (by kernel_rfl) rfl ?_
  obtain ⟨a0, c0, rfl, hc0, hc0'⟩ := hl.val
  simp -dsimp
  refine call_by (hnew_spec n hn h) ?_
  rintro tv h0 ⟨F0, t0, k0, n0⟩
  obtain ⟨bs, htv⟩ : ∃ bs, tv = .pointer (some ⟨bs, 0, none⟩) := by
    obtain ⟨bs, _, _, _, rfl, _⟩ := t0; exact ⟨bs, rfl⟩
  subst htv
  simp -dsimp
  refine loopc (σ := Nat) (fun k => [(4, .slice none 0 0), (5, .bool false), (6, .pointer (some ⟨bs, 0, none⟩)), (12, .slice a0 l.length c0), (13, .int .i64 l.length), (14, .int .i64 k)])
    (fun k h1 => k ≤ l.length ∧ Keep none_ h h1 ∧ ∃ F T, TabAt (.pointer (some ⟨bs, 0, none⟩)) F h1 T ∧ (∀ b, F b → h.size ≤ b) ∧ T.length = n ∧ TabSmall T ∧ Holds T (l.take k)) (fun k => l.length - k) 0 0 (fun k _ => k = l.length) (endR Tryz.prog [.tmp 4, .tmp 5] K).rt (fun _ _ _ h => h) (by simp)
    ⟨Nat.zero_le _, k0, F0, _, t0, n0, new_len n, new_small n, .new n⟩ (by kernel_rfl) ?_ ?_
  · rintro k h1 g ⟨hk, k1, F, T, t1, n1, hT, hTs, hH⟩
    by_cases hkl : k < l.length
    · have wk := wrap_succ (k := k) (by omega)
      obtain ⟨b1, o1, cs, e1, _, hrep, hx1⟩ := (hl.mono ((Tr.of k1).ft (Nat.le_refl 0))).get k hkl
      obtain ⟨ka, kc, sa, sc, na, nc, xa, xc, rfl, _⟩ := cell_open hrep
      have hx1' : HC.cellsIn h1[b1]? (o1 + k * 5) 5 = _ := hx1
      simp -dsimp [hkl, e1, idxA_nat hkl, hx1']
      rw [push_set rfl]
      generalize hB2 : Array.push h1 _ = h2
      have k2 : Keep none_ h1 h2 := by rw [← hB2]; exact .push _ _ _
      have hC : h2[h1.size]? = some (.cells #[.slice ka l[k].key.length kc, .int .i64 l[k].count, .slice sa l[k].sum.length sc, .slice na l[k].mn.length nc, .slice xa l[k].mx.length xc] 46 (0, 0)) := by rw [← hB2]; exact push_new _ _
      have hck := hsm _ (List.getElem_mem hkl)
      have t2 := t1.keep k2 (fun _ _ h => h)
      refine call_by (hput_spec t2 (by omega) hTs (rCell.mono hrep ((Tr.of k2).ft (Nat.le_refl 0))) Old.lt hck) ?_
      rintro _ h3 ⟨rfl, F3, t3, k3, n3⟩
      have kk3 : Keep none_ h h3 := keep_from (k1.trans k2 fun _ _ h => h) k3 n1 (Nat.le_refl _)
      have s1 := k1.size
      have s2 := k2.size
      cases hp : putM T l[k] with
      | none =>
        simp -dsimp
        refine hK _ _ ⟨.inr ⟨?_, rfl⟩, kk3⟩
        refine Classical.byContradiction fun hle => ?_
        have := group_take_le l (k + 1)
        obtain ⟨T', hT'⟩ := hH.goes l[k] (by rw [take_snoc hkl] at this; rw [hT]; omega)
        rw [hp] at hT'; cases hT'
      | some T' =>
        rw [hp] at t3
        simp -dsimp [wk]
        refine ⟨k + 1, by simp [e1], rfl, ⟨by omega, kk3, F3, T', t3, fun b hb => (n3 b hb).elim (n1 b) (by omega), by rw [put_len hp, hT], put_small hTs hck hp, ?_⟩, by show l.length - (k + 1) < l.length - k; omega⟩
        rw [take_snoc hkl]
        exact hH.put hp
    · simp -dsimp [hkl]
      exact ⟨rfl, k, by simp, rfl, ⟨hk, k1, F, T, t1, n1, hT, hTs, hH⟩, by omega⟩
  · rintro k h1 g ⟨hk, k1, F, T, t1, n1, hT, hTs, hH⟩ hkl
    have hkl' : k = l.length := hkl
    rw [hkl', List.take_length] at hH
    simp -dsimp
    refine call_by (hcells_th t1 (by omega) hTs) ?_
    rintro _ h2 ⟨E, own, hg, k2, hE, ho⟩
    obtain ⟨a2, c2, rfl⟩ := hg.val
    have s1 := k1.size
    have hcl : (cellsM T).length ≤ l.length := by rw [hH.perm.length_eq]; exact groupC_le l
    simp -dsimp
    refine call_by (sortc_spec fitEnters fitCmp hg (fun b hb => (hE b hb).2.1) (by omega)) ?_
    rintro _ h3 ⟨rfl, ys, hp, hr, hg3, k3⟩
    have hys : ys = groupC l := ris_group (hp.trans hH.perm) hr
    subst hys
    obtain ⟨a3, c3, hv3⟩ := hg3.val
    have hlen : (cellsM T).length = (groupC l).length := hH.perm.length_eq
    simp -dsimp
    refine hK _ _ ⟨.inl ⟨?_, _, rfl, E, own, hg3, fun b hb => ⟨⟨by have := (hE b hb).1; omega, fun _ => (hE b hb).2.2.at (k3.blk b (hE b hb).2.1 fun e => hg.notF b e hb)⟩, Nat.lt_of_lt_of_le (hE b hb).2.1 k3.size⟩, fun b hb => by have := ho b hb; omega⟩, (k1.trans k2 fun _ _ h => h).trans k3 fun b hb h => by have := ho b h; omega⟩
    have := taken_le T
    rw [hH.taken, hT] at this
    exact this
end Go.Proofs

/-
  Parts of cells in a map: slices that grow, by their values.
-/
namespace Go.HC
section
variable {P : Program} {h : Heap} {K : Value → Heap → Prop}
theorem lookup_int {T kt et : TypeId} {r : Nat} {es : Ents Int} {clock : Nat} {x : Int} {ok : Bool} {z : Value} (hm : mapS P T = some (kt, et)) (hk : P.underlying kt = some (.int .i64)) (hz : zS P et = some z)
    (hr : h[r]? = some (.map (entsOf kInt es) clock)) :
    lookupS P T (.map (some r)) (.int .i64 x) ok h K = K (if ok then .tuple #[(getE x es).getD z, .bool (getE x es).isSome] else (getE x es).getD z) h := lookup_map (k := kInt) hm hk hz hr
theorem update_int {T kt et : TypeId} {r : Nat} {es : Ents Int} {clock : Nat} {x : Int} {v : Value} (hm : mapS P T = some (kt, et)) (hk : P.underlying kt = some (.int .i64))
    (hr : h[r]? = some (.map (entsOf kInt es) clock)) :
    mapUpdateS P T (.map (some r)) (.int .i64 x) v h K = K undef (h.setIfInBounds r (.map (entsOf kInt (putE x v clock es)) (clockE x es clock))) := update_map (k := kInt) hm hk hr
end
theorem part_snoc (i : Nat) (v : Int) (l : List CellM) (c : CellM) : partC i v (l ++ [c]) = if atV c i = v then partC i v l ++ [c] else partC i v l := by
  unfold partC
  rw [List.filter_append]
  by_cases h : atV c i = v <;> simp [h]
/-- The slice of a value; nil where there is none. -/
def slotE (x : Int) (es : Ents Int) : Value := (getE x es).getD (.slice none 0 0)
/-- Parts in a map, the values in a slice: tI, tC: the numbers of the types int and Cell. -/
structure PJ (tI tC i : Nat) (l : List CellM) (h0 h : Heap) (bm : Nat) (vv : Value) (vs : List Int) (own : Option Nat) (es : Ents Int) (clock : Nat) (M : Nat → Prop) (O : Int → Option Nat) : Prop where
  tr : Tr none_ M h0 h
  mbm : M bm
  map : h[bm]? = some (.map (entsOf kInt es) clock)
  vals : Gr rInt tI 0 M h vv vs own
  part : ∀ x, Gr rCell tC 0 M h (slotE x es) (partC i x l) (O x)
  dis : ∀ x y b, O x = some b → O y = some b → x = y
  diso : ∀ x b, O x = some b → own ≠ some b
  disb : ∀ x, O x ≠ some bm
  disv : own ≠ some bm
/-- What the values are. -/
structure PV (i : Nat) (l : List CellM) (vs : List Int) (es : Ents Int) : Prop where
  nod : vs.Nodup
  mem : ∀ v, v ∈ vs ↔ ∃ c ∈ l, atV c i = v
  is : ∀ x, (getE x es).isSome = true ↔ x ∈ vs
section
variable {tI tC i : Nat} {l : List CellM} {h0 h h' : Heap} {bm : Nat} {vv v' : Value} {vs vs' : List Int} {own own' : Option Nat} {es : Ents Int} {clock : Nat} {M M' : Nat → Prop} {O : Int → Option Nat} {c : CellM}
theorem PV.nil : PV i [] [] [] := ⟨List.nodup_nil, fun v => by simp, fun x => by simp [getE, findI]⟩
theorem PV.put {x : Int} {v : Value} (p : PV i l vs es) (hx : atV c i = x) : PV i (l ++ [c]) (if (getE x es).isSome then vs else vs ++ [x]) (putE x v clock es) := by
  have hm : ∀ u, (∃ d ∈ l ++ [c], atV d i = u) ↔ u ∈ vs ∨ u = x := fun u => by
    rw [p.mem]
    constructor
    · rintro ⟨d, hd, e⟩
      rcases List.mem_append.1 hd with hd | hd
      · exact .inl ⟨d, hd, e⟩
      · rw [List.mem_singleton] at hd; subst hd; exact .inr (e.symm.trans hx)
    · rintro (⟨d, hd, e⟩ | rfl)
      · exact ⟨d, List.mem_append_left _ hd, e⟩
      · exact ⟨c, List.mem_append_right _ (List.mem_singleton.2 rfl), hx⟩
  have hi : ∀ u, (getE u (putE x v clock es)).isSome = true ↔ u ∈ vs ∨ u = x := fun u => by
    rw [getE_put]
    split
    · rename_i e; simp [e]
    · rename_i e; rw [p.is]; simp [e]
  by_cases hs : (getE x es).isSome = true
  · rw [if_pos hs]
    have hxv := (p.is x).1 hs
    refine ⟨p.nod, fun u => by rw [hm]; exact ⟨.inl, fun h => h.elim id fun e => e ▸ hxv⟩, fun u => by rw [hi]; exact ⟨fun h => h.elim id fun e => e ▸ hxv, .inl⟩⟩
  · rw [if_neg hs]
    have hxv : x ∉ vs := fun h => hs ((p.is x).2 h)
    refine ⟨?_, fun u => by rw [hm]; simp, fun u => by rw [hi]; simp⟩
    rw [List.nodup_append]
    exact ⟨p.nod, by simp, fun a ha b hb => by rw [List.mem_singleton] at hb; subst hb; rintro rfl; exact hxv ha⟩
theorem PJ.start {h1 : Heap} (t : Tr none_ M' h0 h1) : PJ tI tC i [] h0 (h1.push (.map #[] 0)) h1.size (.slice none 0 0) [] none [] 0 (fun b => M' b ∨ b = h1.size) (fun _ => none) where
  tr := t.pushM _
  mbm := .inr rfl
  map := push_new _ _
  vals := .nil _ _ _ _ _
  part _ := .nil _ _ _ _ _
  dis _ _ _ h := by cases h
  diso _ _ h := by cases h
  disb _ h := by cases h
  disv h := by cases h
theorem PJ.keep (p : PJ tI tC i l h0 h bm vv vs own es clock M O) (k : Keep none_ h h') : PJ tI tC i l h0 h' bm vv vs own es clock M O :=
  ⟨p.tr.call k, p.mbm, k.at p.map (fun h => h), p.vals.call k, fun x => (p.part x).call k, p.dis, p.diso, p.disb, p.disv⟩
/-- A value is appended. -/
theorem PJ.val (p : PJ tI tC i l h0 h bm vv vs own es clock M O) (g : Gr rInt tI 0 (fun b => M b ∨ own' = some b) h' v' vs' own') (t : Tr M (fun b => M b ∨ own' = some b) h h') (k : Keep (fun b => own = some b) h h')
    (ho : ∀ b, own' = some b → own = some b ∨ h.size ≤ b) : PJ tI tC i l h0 h' bm v' vs' own' es clock (fun b => M b ∨ own' = some b) O := by
  have hl : ∀ x b, O x = some b → b < h.size := fun x => (p.part x).own_lt
  have hb : bm < h.size := lt_of_blk p.map
  refine ⟨p.tr.trans t, .inl p.mbm, k.at p.map p.disv, g, fun x => (p.part x).mono t (Nat.le_refl 0) fun b hb => ⟨.inl ((p.part x).mu b hb), k.blk b (hl x b hb) (p.diso x b hb)⟩, p.dis, fun x b hx e => ?_, p.disb, fun e => ?_⟩
  · rcases ho b e with e | e
    · exact p.diso x b hx e
    · have := hl x b hx; omega
  · rcases ho bm e with e | e
    · exact p.disv e
    · omega
/-- A cell is appended to those of its value. -/
theorem PJ.cell {x : Int} (p : PJ tI tC i l h0 h bm vv vs own es clock M O) (hx : atV c i = x) (g : Gr rCell tC 0 (fun b => M b ∨ own' = some b) h' v' (partC i x l ++ [c]) own') (t : Tr M (fun b => M b ∨ own' = some b) h h') (k : Keep (fun b => O x = some b) h h')
    (ho : ∀ b, own' = some b → O x = some b ∨ h.size ≤ b) :
    PJ tI tC i (l ++ [c]) h0 (h'.setIfInBounds bm (.map (entsOf kInt (putE x v' clock es)) (clockE x es clock))) bm vv vs own (putE x v' clock es) (clockE x es clock) (fun b => M b ∨ own' = some b) (fun y => if y = x then own' else O y) := by
  have hl : ∀ x b, O x = some b → b < h.size := fun x => (p.part x).own_lt
  have hb : bm < h.size := lt_of_blk p.map
  have hvl := p.vals.own_lt
  have hob : own' ≠ some bm := fun e => (ho bm e).elim (p.disb x) fun e => by omega
  have hsl : ∀ y, slotE y (putE x v' clock es) = if y = x then v' else slotE y es := fun y => by
    unfold slotE; rw [getE_put]; split <;> rfl
  refine ⟨(p.tr.trans t).set _ (.inl p.mbm), .inl p.mbm, set_same _ (Nat.lt_of_lt_of_le hb t.size), ?_, fun y => ?_, ?_, fun y b hy e => ?_, fun y => ?_, p.disv⟩
  · refine (p.vals.mono t (Nat.le_refl 0) fun b hb => ⟨.inl (p.vals.mu b hb), k.blk b (hvl b hb) fun e => p.diso x b e hb⟩).set _ (.inl p.mbm) p.disv
  · rw [hsl, part_snoc, hx]
    by_cases e : y = x
    · subst e
      simp only [if_true]
      exact g.set _ (.inl p.mbm) hob
    · simp only [if_neg e, if_neg (fun h : x = y => e h.symm)]
      exact ((p.part y).mono t (Nat.le_refl 0) fun b hb => ⟨.inl ((p.part y).mu b hb), k.blk b (hl y b hb) fun h => e (p.dis y x b hb h)⟩).set _ (.inl p.mbm) (p.disb y)
  · intro y z b hy hz
    by_cases ey : y = x <;> by_cases ez : z = x <;> simp only [ey, ez, if_true, if_false] at hy hz
    · rw [ey, ez]
    · rcases ho b hy with h1 | h1
      · exact absurd (p.dis x z b h1 hz).symm ez
      · have := hl z b hz; omega
    · rcases ho b hz with h1 | h1
      · exact absurd (p.dis y x b hy h1) ey
      · have := hl y b hy; omega
    · exact p.dis y z b hy hz
  · by_cases ey : y = x <;> simp only [ey, if_true, if_false] at hy
    · rcases ho b hy with h1 | h1
      · exact p.diso x b h1 e
      · have := hvl b e; omega
    · exact p.diso y b hy e
  · by_cases ey : y = x <;> simp only [ey, if_true, if_false]
    · exact hob
    · exact p.disb y
end
end Go.HC

/-
  The program's group-by by tables, parted by the keys' numbers.
-/
namespace Go.HC
theorem PV.vals {i : Nat} {l : List CellM} {vs : List Int} {es : Ents Int} (p : PV i l vs es) : Vals i l (sortI vs) := .sort p.nod p.mem
theorem part_len {i : Nat} {v : Int} {l : List CellM} : (partC i v l).length ≤ l.length := List.length_filter_le ..
theorem sum_take {α : Type} (g : α → Nat) {vs : List α} {k : Nat} (hk : k < vs.length) : ((vs.take (k + 1)).map g).sum = ((vs.take k).map g).sum + g vs[k] := by
  rw [take_snoc hk, List.map_append, List.sum_append]; simp
theorem sum_take_le {α : Type} (g : α → Nat) (vs : List α) (k : Nat) : ((vs.take k).map g).sum ≤ (vs.map g).sum := by
  conv => rhs; rw [← List.take_append_drop k vs]
  rw [List.map_append, List.sum_append]; omega
theorem flat_take {α β : Type} (g : α → List β) {vs : List α} {k : Nat} (hk : k < vs.length) : (vs.take (k + 1)).flatMap g = (vs.take k).flatMap g ++ g vs[k] := by
  rw [take_snoc hk, List.flatMap_append]; simp
theorem flat_take_le {α β : Type} (g : α → List β) (vs : List α) (k : Nat) : ((vs.take k).flatMap g).length ≤ (vs.flatMap g).length := by
  conv => rhs; rw [← List.take_append_drop k vs]
  rw [List.flatMap_append, List.length_append]; omega
theorem Gr.newC {e n n0 : Nat} {M : Nat → Prop} {h : Heap} {v : Value} {l : List CellM} {own : Option Nat} (g : Gr rCell e n M h v l own) (hn : n0 ≤ n) (ho : ∀ b, own = some b → n0 ≤ b) : NewC e n0 h v l :=
  ⟨Ft n M h, own, g.grow, fun _ hb => ⟨hb.1.less hn, hb.2.1⟩, ho⟩
end Go.HC
namespace Go.Proofs
open Go Go.HC

/-- The group-by of cells whose keys have f numbers from the place i on. -/
def PartedOk (f : Nat) : Prop := ∀ {i n : Nat} {h : Heap} {v : Value} {l : List CellM}, Pre (i + f) i l → SlRep rCell (Old h) h v l → 0 < n → n < 1000000000 → l.length < 1000000 → (∀ d ∈ l, CellSmall d) → i + f < 1000000 →
  CallH Tryz.prog 54 #[v, .int .i64 n, .int .i64 i] h fun r h' => (∃ rv, r = .tuple #[rv, .int .i64 (cntM n f i l : Nat)] ∧ NewC 46 h.size h' rv (groupC l)) ∧ Keep none_ h h'

set_option maxHeartbeats 4000000 in
set_option maxRecDepth 10000 in
theorem parted_step (f : Nat) (ih : ∀ f', f = f' + 1 → PartedOk f') : PartedOk f := by
  intro i n h v l hpre hl h0 hn hln hsm hif
  refine callH_by fun K hK => ?_
  refine enter [.tmp 6, .tmp 7] Tryz.func54 rfl rfl (by kernel_rfl) rfl ?_
  obtain ⟨a0, c0, rfl, hc0, hc0'⟩ := hl.val
  simp -dsimp
  refine call_by (fit_spec hl hn hln hsm) ?_
  rintro _ h1 ⟨⟨hnk, rv, rfl, hnew⟩ | ⟨hnk, rfl⟩, k1⟩
  · obtain ⟨ra, rn, rc, rfl⟩ : ∃ a n c, rv = .slice a n c := by
      obtain ⟨F, own, g, _⟩ := hnew
      obtain ⟨a, c, rfl⟩ := g.val
      exact ⟨a, _, c, rfl⟩
    simp -dsimp
    refine hK _ _ ⟨⟨_, ?_, hnew⟩, k1⟩
    rw [cnt_one hnk]; rfl
  · cases f with
    | zero =>
      have := hpre.one
      omega
    | succ f =>
      have hi : i < i + (f + 1) := by omega
      simp -dsimp
      refine loopc (σ := Nat × Value) (fun t => [(0, .slice a0 l.length c0), (1, .int .i64 n), (2, .int .i64 i), (10, .map (some h1.size)), (11, t.2), (32, .slice a0 l.length c0), (33, .int .i64 l.length), (34, .int .i64 t.1)])
        (fun t h2 => t.1 ≤ l.length ∧ ∃ vs own es clock M O, PJ 3 46 i (l.take t.1) h h2 h1.size t.2 vs own es clock M O ∧ EntsOk es clock ∧ PV i (l.take t.1) vs es ∧ vs.length ≤ t.1) (fun t => l.length - t.1) (0, .slice none 0 0) 0 (fun t _ => t.1 = l.length) noRet noRet_le (by simp) ?_ (by kernel_rfl) ?_ ?_
      · exact ⟨Nat.zero_le _, [], none, [], 0, _, _, .start (Tr.of k1), .nil _, .nil, Nat.le_refl _⟩
      · rintro ⟨k, vv⟩ h2 g ⟨hk, vs, own, es, clock, M, O, p, hok, pv, hvl⟩
        simp only at hk p hok pv hvl
        by_cases hkl : k < l.length
        · have wk := wrap_succ (k := k) (by omega)
          have hlt := hl.mono p.tr.old
          obtain ⟨b1, o1, cs, e1, _, hrep, hx1⟩ := (hl.mono p.tr.old).get k hkl
          obtain ⟨ka, kc, sa, sc, na, nc, xa, xc, rfl, r1, _⟩ := cell_open hrep
          have hx1' : HC.cellsIn h2[b1]? (o1 + k * 5) 5 = _ := hx1
          obtain ⟨va, vn, vc, ev, hvn⟩ := p.vals.vals
          subst ev
          obtain ⟨hik, hat, _⟩ := hpre.at hi (List.getElem_mem hkl)
          have hge : ¬ (l[k].key.length ≤ i) := by omega
          have hmap := p.map
          have hbm := lt_of_blk hmap
          have hsn := take_snoc hkl
          simp -dsimp [hkl, e1, idxA_nat hkl, hx1']
          rw [push_set rfl]
          generalize hB2 : Array.push h2 _ = h3
          have k2 : Keep none_ h2 h3 := by rw [← hB2]; exact .push _ _ _
          have hC : h3[h2.size]? = some (.cells #[.slice ka l[k].key.length kc, .int .i64 l[k].count, .slice sa l[k].sum.length sc, .slice na l[k].mn.length nc, .slice xa l[k].mx.length xc] 46 (0, 0)) := by rw [← hB2]; exact push_new _ _
          have p3 := p.keep k2
          obtain ⟨b2, o2, e2, _, hc2⟩ := (r1.mono (p.tr.here.call k2 |>.ft (Nat.le_refl 0))).int_at i hik
          have hmap3 := p3.map
          simp -dsimp [hC, hge, e2, idxA_nat hik, hc2, lookup_int (T := 88) Tryz.mapS88 Tryz.underlying3 Tryz.zS31 hmap3]
          obtain ⟨x, ex⟩ : ∃ x, x = l[k].key[i] := ⟨_, rfl⟩
          rw [← ex] at hat hc2 ⊢
          obtain ⟨vs4, evs4⟩ : ∃ vs4, vs4 = if (getE x es).isSome then vs else vs ++ [x] := ⟨_, rfl⟩
          have lo := p.vals.own_lt
          refine if hs : (getE x es).isNone = true then ?t1 else ?t2
          case' t1 =>
            have hs' : (getE x es).isSome = false := by rw [Option.isSome_eq_false_iff]; exact hs
            have evs5 := evs4
            rw [if_neg (by rw [hs']; decide)] at evs5
            simp -dsimp [hs]
            refine gr_app1 (x := x) rfl intT p3.vals p3.tr.lt rfl rfl (by omega) (by omega) ?_
            intro v4 h4 own4 g4 t4 k4 ho4
            rw [← evs5] at g4
            have p4 := p3.val g4 t4 k4 ho4
            have hC4 := k4.at hC (fun e => by have := lo _ e; omega)
            obtain ⟨M4, eM4⟩ : ∃ M4, M4 = fun b => M b ∨ own4 = some b := ⟨_, rfl⟩
            rw [← eM4] at p4
            have hvl4 : vs4.length ≤ k + 1 := by rw [evs5]; simp; omega
            obtain ⟨va, vn, vc, ev4, hvn4⟩ := p4.vals.vals
            subst ev4
            have hrep4 := rCell.mono (rCell.mono hrep (p.tr.here.call k2 |>.ft (Nat.le_refl 0))) (t4.ft (Nat.le_refl 0))
            rw [← eM4] at hrep4
          case' t2 =>
            have hs2 : (getE x es).isNone = false := by simpa only [Bool.not_eq_true] using hs
            have hs' : (getE x es).isSome = true := by
              cases hgx : getE x es with
              | none => rw [hgx] at hs; exact absurd rfl hs
              | some u => rfl
            have hrep4 := rCell.mono hrep (p.tr.here.call k2 |>.ft (Nat.le_refl 0))
            have evs5 := evs4
            rw [if_pos hs'] at evs5
            simp -dsimp [hs2]
            obtain ⟨h4, e4⟩ : ∃ h4, h4 = h3 := ⟨_, rfl⟩
            obtain ⟨M4, eM4⟩ : ∃ M4, M4 = M := ⟨_, rfl⟩
            subst e4
            rw [← evs5, ← eM4] at p3
            rw [← eM4] at hrep4
            have p4 := p3
            have hC4 := hC
            have hvl4 : vs4.length ≤ k + 1 := by rw [evs5]; omega
          all_goals
            have hmap4 := p4.map
            have hpl := part_len (i := i) (v := x) (l := l.take k)
            rw [List.length_take] at hpl
            simp -dsimp [hC4, lookup_int (T := 88) Tryz.mapS88 Tryz.underlying3 Tryz.zS31 hmap4]
            refine gr_app1 (x := l[k]) rfl cellT (p4.part x) p4.tr.lt hrep4 rfl (by omega) (by omega) ?_
            intro v5 h5 own5 g5 t5 k5 ho5
            have hmap5 := k5.at hmap4 (p4.disb x)
            have p5 := p4.cell hat g5 t5 k5 ho5
            have pv5 := pv.put (clock := clock) (v := v5) hat
            rw [← evs4, ← hsn] at pv5
            rw [← hsn] at p5
            simp -dsimp [wk, update_int (T := 88) Tryz.mapS88 Tryz.underlying3 hmap5]
            exact ⟨(k + 1, _), by simp [e1], rfl, ⟨by omega, vs4, _, _, _, _, _, p5, hok.put x v5, pv5, hvl4⟩, by show l.length - (k + 1) < l.length - k; omega⟩
        · simp -dsimp [hkl]
          exact ⟨rfl, (k, vv), by simp, rfl, ⟨hk, vs, own, es, clock, M, O, p, hok, pv, hvl⟩, by show k = l.length; omega⟩
      · rintro ⟨k, vv⟩ h2 g ⟨hk, vs, own, es, clock, M, O, p, hok, pv, hvl⟩ hkl
        simp only at hk p hok pv hvl hkl
        subst hkl
        rw [List.take_length] at p pv
        obtain ⟨va, vn, vc, ev, hvn⟩ := p.vals.vals
        subst ev
        have hvs := pv.vals
        simp -dsimp
        refine call_by (sorti_spec p.vals.grow Ft.lt (by omega)) ?_
        rintro _ h3 ⟨rfl, gv, k3⟩
        have hus := hvs.unique (hpre.vals hi)
        have hlen : vs.length = (sortI vs).length := (sortI_length vs).symm
        obtain ⟨us, eus⟩ : ∃ us, us = sortI vs := ⟨_, rfl⟩
        rw [← eus] at gv hvs hus hlen
        have t3 : Tr none_ M h h3 := p.tr.trans ⟨k3.weaken fun b _ hb => p.vals.mu b hb, fun b hb => .inl hb, fun b hb => Nat.lt_of_lt_of_le (p.tr.lt b hb) k3.size⟩
        have hmap := k3.at p.map p.disv
        have hpart : ∀ x, Gr rCell 46 0 M h3 (slotE x es) (partC i x l) (O x) := fun x => (p.part x).mono ⟨k3.weaken fun b _ hb => p.vals.mu b hb, fun b hb => .inl hb, fun b hb => Nat.lt_of_lt_of_le (p.tr.lt b hb) k3.size⟩ (Nat.le_refl 0)
          fun b hb => ⟨(p.part x).mu b hb, k3.blk b ((p.part x).own_lt b hb) fun e => p.diso x b hb e⟩
        have hval : SlRep rInt (Old h3) h3 (.slice va vn vc) us := gv.rep.mono fun b hb => ⟨⟨nz, hb.elim (fun hf => Nat.lt_of_lt_of_le hf.2.1 k3.size) (fun hf => gv.own_lt b hf), fun h => h⟩, rfl⟩
        have hvnu : vn = us.length := by omega
        subst hvnu
        simp -dsimp
        have hwi := wrap_succ (k := i) (by omega)
        have hcl := cnt_le (n := n) hpre
        have hgl := groupC_le l
        have hcnt : cntM n (f + 1) i l = (us.map fun v => cntM n f (i + 1) (partC i v l)).sum := by rw [cntM, if_neg (by omega), hus]
        have hgrp := group_parts hpre hi hvs
        have k03 := t3.keep
        obtain ⟨sm, hsmk⟩ : ∃ sm : Nat → Nat, ∀ k, sm k = ((us.take k).map fun v => cntM n f (i + 1) (partC i v l)).sum := ⟨_, fun _ => rfl⟩
        have sm0 : sm 0 = 0 := by rw [hsmk]; rfl
        refine loopc (σ := Nat × Value) (fun t => [(1, .int .i64 n), (2, .int .i64 i), (10, .map (some h1.size)), (17, t.2), (18, .int .i64 (sm t.1 : Nat)), (73, .slice va us.length vc), (74, .int .i64 us.length), (75, .int .i64 t.1)])
          (fun t h4 => t.1 ≤ us.length ∧ ∃ M2 own2, Tr none_ M2 h3 h4 ∧ Gr rCell 46 h.size M2 h4 t.2 ((us.take t.1).flatMap fun v => groupC (partC i v l)) own2 ∧ ∀ b, own2 = some b → h.size ≤ b) (fun t => us.length - t.1) (0, .slice none 0 0) 2 (fun t _ => t.1 = us.length) noRet noRet_le (by simp [sm0]) ?_ (by kernel_rfl) ?_ ?_
        · exact ⟨Nat.zero_le _, none_, none, .start h3, .nil _ _ _ _ _, fun b hb => by cases hb⟩
        · rintro ⟨k, ov⟩ h4 g ⟨hk, M2, own2, t4, g4, ho4⟩
          simp only at hk g4
          have k4 := t4.keep
          have s34 := k4.size
          have s03 := k03.size
          by_cases hkl : k < us.length
          · have wk := wrap_succ (k := k) (by omega)
            obtain ⟨b1, o1, e1, _, hx1⟩ := (hval.mono ((Tr.of k4).ft (Nat.le_refl 0))).int_at k hkl
            have hmap4 := k4.at hmap (fun h => h)
            have hp4 : SlRep rCell (Old h4) h4 (slotE us[k] es) (partC i us[k] l) := ((hpart us[k]).rep (Nat.le_refl 0) (fun _ _ => Nat.zero_le _)).mono ((Tr.of k4).ft (Nat.le_refl 0))
            obtain ⟨x, ex⟩ : ∃ x, x = us[k] := ⟨_, rfl⟩
            have hpl := part_len (i := i) (v := x) (l := l)
            have hst := sum_take (fun v => cntM n f (i + 1) (partC i v l)) hkl
            have hstl := sum_take_le (fun v => cntM n f (i + 1) (partC i v l)) us (k + 1)
            have hft := flat_take (fun v => groupC (partC i v l)) hkl
            have hftl := flat_take_le (fun v => groupC (partC i v l)) us (k + 1)
            rw [hgrp] at hftl
            rw [← hcnt, ← hsmk] at hstl
            rw [← hsmk, ← hsmk] at hst
            rw [← ex] at hx1 hp4 hst hft
            obtain ⟨oa, on, oc, eo, hon⟩ := g4.vals
            subst eo
            simp -dsimp [hkl, e1, idxA_nat hkl, hx1, hwi, lookup_int (T := 88) Tryz.mapS88 Tryz.underlying3 Tryz.zS31 hmap4]
            refine call_by (ih f rfl (i := i + 1) (show Pre (i + 1 + f) (i + 1) (partC i x l) by have := hpre.part hi x; rwa [show i + 1 + f = i + (f + 1) by omega]) hp4 h0 hn (by omega) (fun d hd => hsm d (mem_part.1 hd).1) (show i + 1 + f < 1000000 by omega)) ?_
            rintro _ h5 ⟨⟨rv, rfl, hnew⟩, k5⟩
            have hs5 : SlRep rCell (Ft h.size M2 h5) h5 rv (groupC (partC i x l)) := (hnew.rep (Nat.le_refl _)).mono (t4.ret (by omega))
            obtain ⟨ra, rc, rfl, _, _⟩ := hs5.val
            obtain ⟨cs5, _, _, _, hc5, he5⟩ := hs5.open_
            have t5 := t4.call k5
            have hadd : IntKind.i64.wrap ((sm k : Nat) + ((cntM n f (i + 1) (partC i x l) : Nat) : Int)) = (sm (k + 1) : Nat) := by
              rw [wrap_i64 (by omega) (by omega), hst]; omega
            rw [hft, List.length_append] at hftl
            simp -dsimp
            refine gr_append cellT (g4.call k5) t5.lt rfl hc5 he5 (by omega) (by omega) ?_
            intro v6 h6 own6 g6 t6 k6 ho6
            simp -dsimp [wk, hadd]
            refine ⟨(k + 1, v6), by simp [e1], rfl, ⟨by show k + 1 ≤ us.length; omega, _, own6, t5.trans t6, by rw [hft]; exact g6, fun b hb => (ho6 b hb).elim (ho4 b) (fun h => by have := k5.size; omega)⟩, by show us.length - (k + 1) < us.length - k; omega⟩
          · simp -dsimp [hkl]
            exact ⟨rfl, (k, ov), by simp, rfl, ⟨hk, M2, own2, t4, g4, ho4⟩, by show k = us.length; omega⟩
        · rintro ⟨k, ov⟩ h4 g ⟨hk, M2, own2, t4, g4, ho4⟩ hkl
          simp only at hk g4 hkl
          subst hkl
          rw [List.take_length] at g4
          rw [hgrp] at g4
          obtain ⟨oa, on, oc, eo, hon⟩ := g4.vals
          subst eo
          simp -dsimp
          refine hK _ _ ⟨⟨_, ?_, g4.newC (Nat.le_refl _) ho4⟩, k03.trans t4.keep fun _ _ h => h⟩
          rw [hsmk, List.take_length, ← hcnt]
theorem parted_spec (f : Nat) : PartedOk f := by
  induction f with
  | zero => exact parted_step 0 fun f' h => by omega
  | succ f ih =>
    exact parted_step (f + 1) fun f' h => by
      cases h
      exact ih
end Go.Proofs
