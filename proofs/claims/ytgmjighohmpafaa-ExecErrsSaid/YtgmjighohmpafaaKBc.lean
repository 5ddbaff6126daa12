/-
  The program's table: its cells are told; a key's cell is told.
-/
import Derived.Test.YtgmjighohmpafaaKBb
import Derived.Lib.Overlaps
import Derived.Shelf.SlSortCmp.WholeK
import Derived.Ground.SlsfProg
import Derived.Shelf.SlSortCmp.NoneTotal
import Derived.Shelf.SortM.Plain
import Derived.Shelf.SortM.SortNone
import Derived.Ground.SlgmProg

namespace Go.HC
theorem cells_take {T : Tab} {k : Nat} (hk : k < T.length) : cellsM (T.take (k + 1)) = cellsM (T.take k) ++ (match T[k] with | some c => [c] | none => []) := by
  unfold cellsM
  rw [List.take_add_one, List.getElem?_eq_getElem hk, List.filterMap_append]
  cases T[k] <;> rfl
end Go.HC
namespace Go.Proofs
open Go Go.HC

set_option maxHeartbeats 40000000 in
set_option maxRecDepth 10000 in
theorem hcells_th {v : Value} {F : Nat → Prop} {h : Heap} {T : Tab} (s : TabAt v F h T) (hT : T.length < 1000000000) (hsm : TabSmall T) :
    CallH Try.prog 50 #[v] h fun r h' => ∃ E own, Grow rCell 31 E h' r (cellsM T) own ∧ Keep none_ h h' ∧ (∀ b, E b → h.size ≤ b ∧ b < h'.size ∧ Thaw h' b) ∧ ∀ b, own = some b → h.size ≤ b := by
  refine callH_by fun K hK => ?_
  obtain ⟨bs, sv, os, R, rfl, rfl, s⟩ := s
  refine enter [.tmp 2] Try.func50 rfl rfl (by kernel_rfl) rfl ?_
  have hs := s.str
  have hRl : ∀ b, R b → b < h.size := fun b hb => (s.sep b hb).1
  obtain ⟨ta, tc, rfl⟩ := s.slots.val
  simp -dsimp [hs]
  refine loop' (σ := Nat × Value) (fun t => [(3, t.2), (9, .slice ta T.length tc), (10, .int .i64 T.length), (11, .int .i64 t.1)]) (fun _ => [])
    (fun t h1 => Keep none_ h h1 ∧ t.1 ≤ T.length ∧ ∃ E own, Grow rCell 31 E h1 t.2 (cellsM (T.take t.1)) own ∧ (∀ b, E b → h.size ≤ b ∧ b < h1.size ∧ Thaw h1 b) ∧ ∀ b, own = some b → h.size ≤ b)
    (fun t => T.length - t.1) (0, .slice none 0 0) ?_ rfl ⟨.refl _ _, Nat.zero_le _, none_, none, .nil _ _ _ _, (fun b hb => hb.elim), fun b hb => by cases hb⟩ (by kernel_rfl) ?_
  · intro p hp
    simp at hp
    rcases hp with rfl | rfl | rfl | rfl <;> simp
  · rintro ⟨k, tv⟩ h1 g ⟨k1, hk, E, own, hg, hE, ho⟩
    simp only at hk hg
    have e1 := k1.size
    have s1 := s.mono (h' := h1) e1 fun b hb => k1.blk b (s.lt b hb) (fun h => h)
    obtain ⟨va, vc, htv⟩ := hg.val
    obtain ⟨m, hm⟩ : ∃ m, (cellsM (T.take k)).length = m := ⟨_, rfl⟩
    have hmT : m ≤ T.length := by
      rw [← hm, cells_len]
      exact Nat.le_trans (taken_le _) (by simp; omega)
    rw [hm] at htv
    subst htv
    by_cases hkl : k < T.length
    · obtain ⟨bk, es, rfl, hown, hrs, hce⟩ := s1.slots.elem k hkl
      obtain ⟨w0, wn, w2, w3, w4, rfl, hkey, u0, u2, u3, u4⟩ := slot_cells hrs
      have hce' : HC.cellsIn h1[bk]? (k * 6) 6 = some [w0, .int .i64 wn, w2, w3, w4, .bool T[k].isSome] := hce
      have hidx : ∀ (K : Value → Heap → Prop) (h : Heap), indexAddrS Try.prog 95 (.slice (some ⟨bk, 0, none⟩) T.length tc) (.int .i64 (k : Int)) h K = K (.pointer (some ⟨bk, k * 6, none⟩)) h := by
        intro K h
        rw [indexAddrS_slice _ _ _ _ _ _ (by omega) (by omega) rfl]
        simp [elSz]
      have wk : IntKind.i64.wrap ((k : Int) + 1) = ((k + 1 : Nat) : Int) := by rw [wrap_i64 (by omega) (by omega)]; rfl
      have hct := cells_take hkl
      simp -dsimp [hkl, hidx, hce', u0, u2, u3, u4]
      generalize hB2 : Array.setIfInBounds _ h1.size _ = h2
      have k2 : Keep none_ h1 h2 := by rw [← hB2]; exact ((Keep.refl none_ h1).pushed _).setted _ (fun hh => absurd hh (by omega))
      have hz2 : h2.size = h1.size + 1 := by rw [← hB2]; simp
      have hfb : h2[h1.size]? = some (.cells #[w0, .int .i64 wn, w2, w3, w4, .bool T[k].isSome] 100 (0, 0)) := by rw [← hB2]; exact set_same _ (by simp)
      have k02 := k1.trans k2 (fun _ _ h => h)
      have lo := hg.own_lt
      have hg2 : Grow rCell 31 E h2 (.slice va m vc) (cellsM (T.take k)) own := hg.mono (fun b hb => ⟨hb, k2.blk b (hE b hb).2.1 (fun h => h)⟩) fun b hb => ⟨fun hEb => by
        rcases hg with ⟨_, _, rfl⟩ | ⟨_, _, _, _, _, rfl, _, hn, _⟩
        · cases hb
        · cases hb; exact hn hEb, k2.blk b (lo b hb) (fun h => h)⟩
      cases hta : T[k] with
      | none =>
        rw [hta] at hfb hct
        simp only [List.append_nil] at hct
        rw [← hct] at hg2
        simp -dsimp [wk]
        refine ⟨(k + 1, .slice va m vc), ?_, rfl, ⟨k02, by show k + 1 ≤ T.length; omega, E, own, hg2, fun b hb => by have := hE b hb; exact ⟨this.1, by omega, this.2.2.at (k2.blk b this.2.1 (fun h => h))⟩, ho⟩, by show T.length - (k + 1) < T.length - k; omega⟩
        intro p hp
        simp at hp
        rcases hp with rfl | rfl | rfl | rfl <;> simp
      | some d =>
        rw [hta] at hfb hct hrs
        obtain ⟨ds0, hd1, hd2⟩ := hrs
        have hdl := rCell.len hd1
        obtain rfl : ds0 = [w0, .int .i64 wn, w2, w3, w4] := by
          match ds0, hdl with
          | [a, b, c, d, e], _ =>
            simp at hd2
            obtain ⟨rfl, rfl, rfl, rfl, rfl⟩ := hd2
            rfl
        have hd2' : rCell.rep R h2 [w0, .int .i64 wn, w2, w3, w4] d := rCell.mono hd1 fun b hb => ⟨hb, k2.blk b (by have := hRl b hb; omega) (fun h => h)⟩
        have hds : CellSmall d := hsm k d (by rw [List.getElem?_eq_getElem hkl, hta])
        simp -dsimp [hfb]
        refine call_by (hashOwn_th hd2' (fun b hb => by have := hRl b hb; omega) hds) ?_
        rintro _ h3 ⟨ds, E3, rfl, hr3, k3, hE3⟩
        have e3 := k3.size
        have hlen3 := rCell.len hr3
        have hone3 := rCell.one hr3
        obtain ⟨z0, z1, z2, z3, z4, rfl⟩ : ∃ z0 z1 z2 z3 z4, ds = [z0, z1, z2, z3, z4] := by
          match ds, hlen3 with
          | [a, b, c, d, e], _ => exact ⟨a, b, c, d, e, rfl⟩
        simp only [List.all_cons, List.all_nil, Bool.and_true, Bool.and_eq_true] at hone3
        obtain ⟨y0, y1, y2, y3, y4⟩ := hone3
        have lo2 := hg2.own_lt
        have hg3 : Grow rCell 31 (fun b => E b ∨ E3 b) h3 (.slice va m vc) (cellsM (T.take k)) own := hg2.mono (fun b hb => ⟨.inl hb, k3.blk b (by have := (hE b hb).2.1; omega) (fun h => h)⟩) fun b hb => ⟨fun hEb => by
          rcases hEb with hEb | hEb
          · rcases hg with ⟨_, _, rfl⟩ | ⟨_, _, _, _, _, rfl, _, hn, _⟩
            · cases hb
            · cases hb; exact hn hEb
          · have := (hE3 b hEb).1; have := lo2 b hb; omega, k3.blk b (lo2 b hb) (fun h => h)⟩
        have hFF : ∀ b, E b ∨ E3 b → b < h3.size := fun b hb => hb.elim (fun h => by have := (hE b h).2.1; omega) (fun h => (hE3 b h).2.1)
        have hps : (h3.push (.cells #[z0, z1, z2, z3, z4] 31)).size = h3.size + 1 := by simp
        have hr4 : rCell.rep (fun b => E b ∨ E3 b) (h3.push (.cells #[z0, z1, z2, z3, z4] 31)) [z0, z1, z2, z3, z4] d := rCell.mono hr3 fun b hb => ⟨.inr hb, push_old _ (hE3 b hb).2.1⟩
        simp -dsimp
        refine append_grow (F := fun b => E b ∨ E3 b) (F2 := fun b => b = h3.size) (ys := [d]) cellT (hg3.push hFF _) (fun b hb => by have := hFF b hb; omega) rfl
          (.inr ⟨h3.size, 0, _, _, _, rfl, rfl, push_new _ _, rfl⟩) (.single hr4) (by rw [hm]; simp; omega) (by rw [hm]; simp; omega) ?_
        intro tv' h5 own' hg5 kk5 ho5
        rw [hps] at ho5
        have e5 := kk5.size
        rw [hps] at e5
        rw [← hct] at hg5
        simp -dsimp [wk]
        refine ⟨(k + 1, tv'), ?_, rfl, ⟨⟨by omega, fun b hb _ => by rw [kk5.blk b (by omega) (fun e => by have := ho b e; omega), push_old _ (by omega), k3.blk b (by omega) (fun h => h), k02.blk b hb (fun h => h)]⟩, by show k + 1 ≤ T.length; omega, _, own', hg5, fun b hb => hb.elim (fun h => by have := hE b h; exact ⟨this.1, by omega, this.2.2.at (by rw [kk5.blk b (by omega) (fun e => hg.notF b e h), push_old _ (by omega), k3.blk b (by omega) (fun h => h), k2.blk b (by omega) (fun h => h)])⟩) (fun h => by have := hE3 b h; exact ⟨by omega, by omega, this.2.2.at (by rw [kk5.blk b (by omega) (fun e => by have := lo2 b e; omega), push_old _ (by omega)])⟩), fun b hb => (ho5 b hb).elim (ho b) (fun h => by omega)⟩, by show T.length - (k + 1) < T.length - k; omega⟩
        intro p hp
        simp at hp
        rcases hp with rfl | rfl | rfl | rfl <;> simp
    · have hall : T.take k = T := List.take_of_length_le (by omega)
      rw [hall] at hg hm
      simp -dsimp [hkl]
      refine call_by (cloneCell_spec hg (fun b hb => (hE b hb).2.1) (by rw [hm]; omega)) ?_
      rintro _ h2 ⟨own2, hg2, k2, ho2⟩
      obtain ⟨a2, c2, hv2⟩ := hg2.val
      rw [hm] at hv2
      subst hv2
      have e2 := k2.size
      simp -dsimp
      exact hK _ _ ⟨E, own2, hg2, k1.trans k2 (fun _ _ h => h), fun b hb => by have := hE b hb; exact ⟨this.1, by omega, this.2.2.at (k2.blk b this.2.1 (fun h => h))⟩, fun b hb => by have := ho2 b hb; omega⟩
theorem hcells_spec {v : Value} {F : Nat → Prop} {h : Heap} {T : Tab} (s : TabAt v F h T) (hT : T.length < 1000000000) (hsm : TabSmall T) :
    CallH Try.prog 50 #[v] h fun r h' => ∃ E own, Grow rCell 31 E h' r (cellsM T) own ∧ Keep none_ h h' ∧ (∀ b, E b → h.size ≤ b ∧ b < h'.size) ∧ ∀ b, own = some b → h.size ≤ b :=
  (hcells_th s hT hsm).mono fun _ _ ⟨E, own, g, k, n, o⟩ => ⟨E, own, g, k, fun b hb => ⟨(n b hb).1, (n b hb).2.1⟩, o⟩
end Go.Proofs

/-
  The document's table: a new one; what is asked for; all cells.
-/
namespace Go.HC
/-- The first cell of a key. -/
def scanM (T : Tab) (key : List Int) : Option CellM := (cellsM T).find? fun c => decide (c.key = key)
theorem cellsM_mem {T : Tab} {c : CellM} : c ∈ cellsM T ↔ ∃ k : Nat, T[k]? = some (some c) := by
  unfold cellsM
  simp only [List.mem_filterMap, id]
  constructor
  · rintro ⟨x, hx, rfl⟩
    obtain ⟨k, hk⟩ := List.mem_iff_getElem?.1 hx
    exact ⟨k, hk⟩
  · rintro ⟨k, hk⟩
    exact ⟨_, List.mem_of_getElem? hk, rfl⟩
theorem scan_get {T : Tab} (hT : TabOk T) (key : List Int) : scanM T key = getM T key := by
  unfold scanM
  cases hf : (cellsM T).find? (fun c => decide (c.key = key)) with
  | none =>
    rw [List.find?_eq_none] at hf
    unfold getM
    cases hk : findM T key with
    | none => rfl
    | some k =>
      obtain ⟨_, h | ⟨c, h, hc⟩, _⟩ := find_spec_some hk
      · simp [h]
      · exact absurd hc (by simpa using hf c (cellsM_mem.2 ⟨k, h⟩))
  | some c =>
    have hm := List.mem_of_find?_eq_some hf
    have hk := List.find?_some hf
    simp only [decide_eq_true_eq] at hk
    obtain ⟨k, h⟩ := cellsM_mem.1 hm
    have := find_there hT h
    unfold getM
    rw [← hk, this]
    simp [h]
end Go.HC
namespace Go.Proofs
open Go Go.HC

end Go.Proofs

/-
  The library's sort of one cell.
-/
namespace Go.Proofs
open Go Go.HC
set_option maxRecDepth 10000 in
theorem len64_one (h : Heap) : CallH Try.prog 71 #[.int .u64 1] h fun r h' => (∃ z : Int, r = .int .i64 z) ∧ h' = h := by
  refine callH_by fun K hK => ?_
  refine enter [.tmp 2] Try.func71 rfl rfl (by kernel_rfl) rfl ?_
  simp -dsimp
  rw [indexS_string (c := 1) Try.strT9 (by decide) rfl]
  simp -dsimp
  exact hK _ _ ⟨⟨_, rfl⟩, rfl⟩
set_option maxRecDepth 10000 in
theorem len_one (h : Heap) : CallH Try.prog 54 #[.int .u64 1] h fun r h' => (∃ z : Int, r = .int .i64 z) ∧ h' = h := by
  refine callH_by fun K hK => ?_
  refine enter [.tmp 2] Try.func54 rfl rfl (by kernel_rfl) rfl ?_
  simp -dsimp
  refine call_by (len64_one h) ?_
  rintro _ h' ⟨⟨z, rfl⟩, hh⟩
  obtain rfl := hh.symm
  simp -dsimp
  exact hK _ _ ⟨⟨z, rfl⟩, rfl⟩
set_option maxRecDepth 10000 in
theorem insertion1 (v : Value) (fv : Value) (h : Heap) : CallH Try.prog 75 #[v, .int .i64 0, .int .i64 1, fv] h fun r h' => r = .tuple #[] ∧ h' = h := by
  refine callH_by fun K hK => ?_
  refine enter [] Try.func75 rfl rfl (by kernel_rfl) rfl ?_
  have w1 : IntKind.i64.wrap 1 = 1 := by decide
  simp -dsimp [w1]
  refine loop' (σ := Unit) (fun _ => [(2, .int .i64 1), (8, .int .i64 1)]) (fun _ => []) (fun _ h' => h' = h) (fun _ => 0) () ?_ rfl rfl (by kernel_rfl) ?_
  · intro p hp
    simp at hp
    rcases hp with rfl | rfl <;> simp
  · rintro _ h' g rfl
    simp -dsimp
    exact hK _ _ ⟨rfl, rfl⟩
set_option maxHeartbeats 4000000 in
set_option maxRecDepth 10000 in
theorem pdq1 (v : Value) (z : Int) (fv : Value) (h : Heap) : CallH Try.prog 60 #[v, .int .i64 0, .int .i64 1, .int .i64 z, fv] h fun r h' => r = .tuple #[] ∧ h' = h := by
  refine callH_by fun K hK => ?_
  refine enter [] Try.func60 rfl rfl (by kernel_rfl) rfl ?_
  simp -dsimp
  refine loop' (σ := Unit) (fun _ => [(0, v), (1, .int .i64 0), (2, .int .i64 1), (4, fv)]) (fun _ => []) (fun _ h' => h' = h) (fun _ => 0) () ?_ rfl rfl (by kernel_rfl) ?_
  · intro p hp
    simp at hp
    rcases hp with rfl | rfl | rfl | rfl <;> simp
  · rintro _ h' g rfl
    simp -dsimp
    refine call_by (insertion1 v fv h') ?_
    rintro _ h2 ⟨rfl, hh⟩
    obtain rfl := hh.symm
    simp -dsimp
    exact hK _ _ ⟨rfl, rfl⟩
set_option maxRecDepth 10000 in
theorem sort1_spec (a : Option Addr) (c : Nat) (fv : Value) (h : Heap) : CallH Try.prog 51 #[.slice a 1 c, fv] h fun r h' => r = .tuple #[] ∧ h' = h := by
  refine callH_by fun K hK => ?_
  refine enter [] Try.func51 rfl rfl (by kernel_rfl) rfl ?_
  simp -dsimp
  refine call_by (len_one h) ?_
  rintro _ h' ⟨⟨z, rfl⟩, hh⟩
  obtain rfl := hh.symm
  simp -dsimp
  refine call_by (pdq1 _ z fv h) ?_
  rintro _ h' ⟨rfl, hh⟩
  obtain rfl := hh.symm
  simp -dsimp
  exact hK _ _ ⟨rfl, rfl⟩
end Go.Proofs

/-
  The program's group-by of one cell; a key's cell; the law's example.
-/
namespace Go.HC
theorem put_newOne (c : CellM) : putM (newM 1) c = some [some c] := by
  have hf : findM (newM 1) c.key = some 0 := by
    have h0 : probe c.key (newM 1).length 0 = 0 := Nat.mod_one _
    have := find_hit (T := newM 1) (key := c.key) (i := 0) (by decide) (fun j hj => by omega) (by rw [h0]; rfl)
    rw [h0] at this
    exact this
  unfold putM
  rw [hf]
  rfl
end Go.HC
namespace Go.Proofs
open Go Go.HC

set_option maxHeartbeats 40000000 in
set_option maxRecDepth 10000 in
theorem fit1_spec {F : Nat → Prop} {h : Heap} {cs : List Value} {c : CellM} {sb : Nat} (hr : rCell.rep F h cs c) (hF : ∀ b, F b → b < h.size) (hc : CellSmall c) (hs : h[sb]? = some (.cells cs.toArray 31 (0, 0))) :
    CallH Try.prog 34 #[.slice (some ⟨sb, 0, none⟩) 1 1, .int .i64 1] h fun r h' => ∃ E v own, r = .tuple #[v, .bool true] ∧ Grow rCell 31 E h' v [c] own ∧ Keep none_ h h' ∧ (∀ b, E b → h.size ≤ b ∧ b < h'.size) ∧ ∀ b, own = some b → h.size ≤ b := by
  refine callH_by fun K hK => ?_
  have hlen := rCell.len hr
  have hone := rCell.one hr
  obtain ⟨v0, v1, v2, v3, v4, rfl⟩ : ∃ v0 v1 v2 v3 v4, cs = [v0, v1, v2, v3, v4] := by
    match cs, hlen with
    | [a, b, c, d, e], _ => exact ⟨a, b, c, d, e, rfl⟩
  simp only [List.all_cons, List.all_nil, Bool.and_true, Bool.and_eq_true] at hone
  obtain ⟨u0, u1, u2, u3, u4⟩ := hone
  have hsb := lt_of_blk hs
  refine enter [.tmp 4, .tmp 5] Try.func34 rfl rfl (by kernel_rfl) rfl ?_
  have hidx : ∀ (K : Value → Heap → Prop) (h : Heap), indexAddrS Try.prog 24 (.slice (some ⟨sb, 0, none⟩) 1 1) (.int .i64 0) h K = K (.pointer (some ⟨sb, 0, none⟩)) h := by
    intro K h
    rw [indexAddrS_slice (i := 0) _ _ _ _ _ (by omega) (by omega) rfl]
    simp [elSz]
  simp -dsimp
  refine call_by (hnew_spec 1 (by decide) h) ?_
  rintro tv h0 ⟨F0, t0, k0, n0⟩
  have e0 := k0.size
  obtain ⟨bs, htv⟩ : ∃ bs, tv = .pointer (some ⟨bs, 0, none⟩) := by
    obtain ⟨bs, _, _, _, rfl, _⟩ := t0; exact ⟨bs, rfl⟩
  subst htv
  simp -dsimp
  refine loop' (σ := Bool) (fun t => [(6, .pointer (some ⟨bs, 0, none⟩)), (12, .slice (some ⟨sb, 0, none⟩) 1 1), (13, .int .i64 1), (14, .int .i64 (if t = true then 1 else 0))]) (fun _ => [])
    (fun t h1 => (t = false ∧ h1 = h0) ∨ (t = true ∧ Keep none_ h h1 ∧ ∃ F1, TabAt (.pointer (some ⟨bs, 0, none⟩)) F1 h1 [some c] ∧ ∀ b, F1 b → h.size ≤ b))
    (fun t => if t = true then 0 else 1) false ?_ rfl (.inl ⟨rfl, rfl⟩) (by kernel_rfl) ?_
  · intro p hp
    simp at hp
    rcases hp with rfl | rfl | rfl | rfl <;> simp
  · rintro t h1 g (⟨rfl, rfl⟩ | ⟨rfl, k1, F1, t1, n1⟩)
    · have hs0 := k0.at hs (fun h => h)
      simp -dsimp [hidx, hs0, u0, u1, u2, u3, u4]
      generalize hB2 : Array.setIfInBounds _ h1.size _ = h2
      have k2 : Keep none_ h1 h2 := by rw [← hB2]; exact ((Keep.refl none_ h1).pushed _).setted _ (fun hh => absurd hh (by omega))
      have hz2 : h2.size = h1.size + 1 := by rw [← hB2]; simp
      have k02 := k0.trans k2 (fun _ _ h => h)
      have hr2 := rCell.mono hr fun b hb => (⟨hb, k02.blk b (hF b hb) (fun h => h)⟩ : F b ∧ h2[b]? = h[b]?)
      have t2 := t0.keep k2 (fun _ _ h => h)
      have hsm : TabSmall (newM 1) := fun k d hd => by
        unfold newM at hd
        rw [List.getElem?_replicate] at hd
        split at hd <;> cases hd
      refine call_by (hput_spec t2 (by decide) hsm hr2 (fun b hb => by have := hF b hb; omega) hc) ?_
      rintro _ h3 ⟨rfl, F3, t3, k3, n3⟩
      rw [put_newOne] at t3 ⊢
      have e3 := k3.size
      simp -dsimp
      refine ⟨true, ?_, rfl, .inr ⟨rfl, ⟨by omega, fun b hb _ => by rw [k3.blk b (by omega) (fun hf => by have := n0 b hf; omega), k02.blk b hb (fun h => h)]⟩, F3, t3, fun b hb => (n3 b hb).elim (n0 b) (fun h => by omega)⟩, by simp⟩
      intro p hp
      simp at hp
      rcases hp with rfl | rfl | rfl | rfl <;> simp
    · have hsm : TabSmall [some c] := fun k d hd => by
        match k, hd with
        | 0, hd => simp at hd; rw [← hd]; exact hc
        | k + 1, hd => simp at hd
      simp -dsimp
      refine call_by (hcells_spec t1 (show 1 < 1000000000 from by decide) hsm) ?_
      rintro _ h2 ⟨E, own, hg, k2, hE, ho⟩
      have hg' : Grow rCell 31 E h2 _ [c] own := hg
      obtain ⟨a2, c2, rfl⟩ := hg'.val
      have e1 := k1.size
      have hl1 : [c].length = 1 := rfl
      simp -dsimp
      refine call_by (sort1_spec a2 c2 _ h2) ?_
      rintro _ h2' ⟨rfl, hh⟩
      obtain rfl := hh.symm
      simp -dsimp
      exact hK _ _ ⟨E, _, own, rfl, hg', k1.trans k2 (fun _ _ h => h), fun b hb => by have := hE b hb; omega, fun b hb => by have := ho b hb; omega⟩

set_option maxRecDepth 10000 in
theorem hgroup1_spec {F : Nat → Prop} {h : Heap} {cs : List Value} {c : CellM} {sb : Nat} (hr : rCell.rep F h cs c) (hF : ∀ b, F b → b < h.size) (hc : CellSmall c) (hs : h[sb]? = some (.cells cs.toArray 31 (0, 0))) :
    CallH Try.prog 15 #[.slice (some ⟨sb, 0, none⟩) 1 1, .int .i64 1] h fun r h' => ∃ E v own, r = .tuple #[v, .int .i64 1] ∧ Grow rCell 31 E h' v [c] own ∧ Keep none_ h h' ∧ (∀ b, E b → h.size ≤ b ∧ b < h'.size) ∧ ∀ b, own = some b → h.size ≤ b := by
  refine callH_by fun K hK => ?_
  refine enter [.tmp 4, .tmp 5] Try.func15 rfl rfl (by kernel_rfl) rfl ?_
  simp -dsimp
  refine call_by (K' := fun r h' => ∃ E v own, r = .tuple #[v, .int .i64 1] ∧ Grow rCell 31 E h' v [c] own ∧ Keep none_ h h' ∧ (∀ b, E b → h.size ≤ b ∧ b < h'.size) ∧ ∀ b, own = some b → h.size ≤ b) ?_ ?_
  · refine callH_by fun K hK => ?_
    refine enter [.tmp 6, .tmp 7] Try.func24 rfl rfl (by kernel_rfl) rfl ?_
    simp -dsimp
    refine call_by (fit1_spec hr hF hc hs) ?_
    rintro _ h1 ⟨E, v, own, rfl, hg, k1, hE, ho⟩
    simp -dsimp
    exact hK _ _ ⟨E, v, own, rfl, hg, k1, hE, ho⟩
  · rintro _ h1 ⟨E, v, own, rfl, hg, k1, hE, ho⟩
    obtain ⟨a1, c1, rfl⟩ := hg.val
    simp -dsimp
    refine call_by (cloneCell_spec hg (fun b hb => (hE b hb).2) (by simp)) ?_
    rintro _ h2 ⟨own2, hg2, k2, ho2⟩
    obtain ⟨a2, c2, rfl⟩ := hg2.val
    have e1 := k1.size
    have e2 := k2.size
    simp -dsimp
    exact hK _ _ ⟨E, _, own2, rfl, hg2, k1.trans k2 (fun _ _ h => h), fun b hb => by have := hE b hb; omega, fun b hb => by have := ho2 b hb; omega⟩
end Go.Proofs

/-
  The program's table: a key's cell; the law's example.
-/
namespace Go.Proofs
open Go Go.HC

end Go.Proofs

/-
  The law's example; numbers within a bound; keys that are held against each other.
-/
namespace Go.HC
def cell1 (k : Int) : CellM := ⟨[k], 1, [], [], []⟩
theorem cell1_small (k : Int) : CellSmall (cell1 k) := ⟨by simp [cell1], by simp [cell1], by simp [cell1], by simp [cell1]⟩
end Go.HC
namespace Go.Proofs
open Go Go.HC

theorem rep_key1 {h : Heap} {b : Nat} {k : Int} {e : TypeId} {fz : Nat × Nat} (hb : h[b]? = some (.cells #[.int .i64 k] e fz)) : SlRep rInt (fun x => x = b) h (.slice (some ⟨b, 0, none⟩) 1 1) [k] :=
  ⟨_, 1, _, rfl, Nat.le_refl _, by decide, .inr ⟨b, 0, _, _, _, rfl, rfl, hb, rfl⟩, ints_map.2 rfl⟩
theorem rep_cell1 {h : Heap} {b : Nat} {k : Int} {e : TypeId} {fz : Nat × Nat} (hb : h[b]? = some (.cells #[.int .i64 k] e fz)) : rCell.rep (fun x => x = b) h [.slice (some ⟨b, 0, none⟩) 1 1, .int .i64 1, .slice none 0 0, .slice none 0 0, .slice none 0 0] (cell1 k) :=
  ⟨_, _, _, _, rfl, rep_key1 hb, .nil _ _ _, .nil _ _ _, .nil _ _ _⟩
theorem new1_small : TabSmall (newM 1) := fun k d hd => by
  unfold newM at hd
  rw [List.getElem?_replicate] at hd
  split at hd <;> cases hd
theorem one_small {c : CellM} (hc : CellSmall c) : TabSmall [some c] := fun k d hd => by
  match k, hd with
  | 0, hd => simp at hd; rw [← hd]; exact hc
  | k + 1, hd => simp at hd

end Go.Proofs

/-
  Cells of facts; tables that are given the same cells.
-/
namespace Go.HC
theorem pick_mem {s x : Int} : ∀ {xs : List Int} {i : Nat}, x ∈ pickM s i xs → x ∈ xs
  | [], _, h => by cases h
  | y :: ys, i, h => by
    rw [pickM] at h
    split at h
    · rcases List.mem_cons.1 h with rfl | h
      · exact List.mem_cons_self
      · exact List.mem_cons_of_mem _ (pick_mem h)
    · exact List.mem_cons_of_mem _ (pick_mem h)
/-- How many dimensions a set has, of so many. -/
def lvlM (s : Int) : Nat → Nat → Nat
  | _, 0 => 0
  | i, n + 1 => (if bitM s i then 1 else 0) + lvlM s (i + 1) n
theorem pick_len (s : Int) : ∀ (xs : List Int) (i : Nat), (pickM s i xs).length = lvlM s i xs.length
  | [], _ => rfl
  | x :: xs, i => by
    rw [pickM, List.length_cons, lvlM]
    split <;> simp [pick_len s xs (i + 1)] <;> omega
/-- Cells of facts: rows of measures alike long, keys alike long, of few values. -/
structure CellOk (m n : Nat) (c : CellM) : Prop where
  sml : Sml m c
  len : c.key.length = n
  key : ∀ v ∈ c.key, 0 ≤ v ∧ v < 16
theorem CellOk.keyOk {m n : Nat} {c : CellM} (h : CellOk m n c) : KeyOk c.key := fun v hv => by have := h.key v hv; omega
theorem CellOk.join {m n : Nat} {a b : CellM} (ha : CellOk m n a) (hb : CellOk m n b) : CellOk m n (joinC a b) := ⟨ha.sml.join hb.sml, ha.len, ha.key⟩
theorem FactsOk.cell {s : SchM} {rows : List RowM} (h : FactsOk s rows) (a : Int) : ∀ c ∈ rows.map (ofM a), CellOk s.ms.toNat (lvlM a 0 s.cards.length) c := by
  intro c hc
  obtain ⟨r, hr, rfl⟩ := List.mem_map.1 hc
  have hk := h.key r hr
  have hd := h.dims
  refine ⟨?_, ?_, fun v hv => ?_⟩
  · rw [← (h.m r hr).1]; exact .of (by omega)
  · simp only [ofM]; rw [pick_len, hk.1]
  · have hm := pick_mem hv
    obtain ⟨i, hi, rfl⟩ := List.getElem_of_mem hm
    have h1 := hk.2 i hi (by omega)
    have h2 := h.cards _ (List.getElem_mem (show i < s.cards.length by omega))
    omega
theorem put_cells {T T' : Tab} {c : CellM} {p : CellM → Prop} (hT : ∀ (k : Nat) (d : CellM), T[k]? = some (some d) → p d) (hc : p c) (hj : ∀ d, p d → p (joinC d c)) (h : putM T c = some T') : ∀ (k : Nat) (d : CellM), T'[k]? = some (some d) → p d := by
  unfold putM at h
  cases hf : findM T c.key with
  | none => rw [hf] at h; cases h
  | some k =>
    rw [hf] at h
    simp only [Option.some.injEq] at h
    intro j d hd
    rw [← h, List.getElem?_set] at hd
    split at hd
    · split at hd
      · simp only [Option.some.injEq] at hd
        rename_i e1 _
        subst e1
        split at hd
        · rename_i d' hd'
          cases hd
          exact hj d' (hT _ _ hd')
        · cases hd; exact hc
      · cases hd
    · exact hT j d hd
end Go.HC
namespace Go.Proofs
open Go Go.HC

end Go.Proofs

/-
  Cells parted by a number of their keys, plainly: in how many parts.
-/
namespace Go.HC
def atV (c : CellM) (i : Nat) : Int := (c.key[i]?).getD 0
def partC (i : Nat) (v : Int) (l : List CellM) : List CellM := l.filter fun c => decide (atV c i = v)
/-- The values at a place of the keys, rising. -/
structure Vals (i : Nat) (l : List CellM) (vs : List Int) : Prop where
  srt : vs.Pairwise (· < ·)
  mem : ∀ v, v ∈ vs ↔ ∃ c ∈ l, atV c i = v
theorem Vals.unique {i : Nat} {l : List CellM} {vs us : List Int} (h : Vals i l vs) (h' : Vals i l us) : vs = us := by
  have hp : vs.Perm us := (List.perm_ext_iff_of_nodup (h.srt.imp fun h e => by omega) (h'.srt.imp fun h e => by omega)).2 fun v => (h.mem v).trans (h'.mem v).symm
  exact hp.eq_of_pairwise (le := fun a b : Int => a < b) (fun a b _ _ h1 h2 => by omega) h.srt h'.srt
theorem Vals.perm {i : Nat} {l m : List CellM} {vs : List Int} (h : Vals i l vs) (hp : l.Perm m) : Vals i m vs :=
  ⟨h.srt, fun v => (h.mem v).trans ⟨fun ⟨c, hc, e⟩ => ⟨c, hp.mem_iff.1 hc, e⟩, fun ⟨c, hc, e⟩ => ⟨c, hp.mem_iff.2 hc, e⟩⟩⟩
def valsM (i : Nat) (l : List CellM) : List Int := ((List.range 16).map Int.ofNat).filter fun v => l.any fun c => decide (atV c i = v)
/-- Cells with keys of L numbers of few values, alike ahead of a place. -/
structure Pre (L i : Nat) (l : List CellM) : Prop where
  len : ∀ c ∈ l, c.key.length = L
  small : ∀ c ∈ l, ∀ v ∈ c.key, 0 ≤ v ∧ v < 16
  pre : ∀ c ∈ l, ∀ d ∈ l, c.key.take i = d.key.take i
section
variable {L i : Nat} {l m : List CellM} {vs : List Int} {v : Int}
theorem Pre.at (h : Pre L i l) (hi : i < L) {c : CellM} (hc : c ∈ l) : ∃ hk : i < c.key.length, atV c i = c.key[i] ∧ 0 ≤ atV c i ∧ atV c i < 16 := by
  have hk : i < c.key.length := by rw [h.len c hc]; exact hi
  have e : atV c i = c.key[i] := by unfold atV; rw [List.getElem?_eq_getElem hk]; rfl
  exact ⟨hk, e, by rw [e]; exact h.small c hc _ (List.getElem_mem hk)⟩
theorem Pre.vals (h : Pre L i l) (hi : i < L) : Vals i l (valsM i l) := by
  refine ⟨?_, fun v => ?_⟩
  · unfold valsM
    refine List.Pairwise.filter _ ?_
    rw [List.pairwise_map]
    exact List.pairwise_lt_range.imp fun h => by simpa using h
  · unfold valsM
    simp only [List.mem_filter, List.mem_map, List.mem_range, List.any_eq_true, decide_eq_true_eq]
    constructor
    · rintro ⟨_, c, hc, e⟩; exact ⟨c, hc, e⟩
    · rintro ⟨c, hc, e⟩
      obtain ⟨_, _, h0, h1⟩ := h.at hi hc
      exact ⟨⟨v.toNat, by omega, by rw [Int.ofNat_eq_natCast]; omega⟩, c, hc, e⟩
theorem mem_part {c : CellM} : c ∈ partC i v l ↔ c ∈ l ∧ atV c i = v := by unfold partC; simp
theorem Pre.part (h : Pre L i l) (hi : i < L) (v : Int) : Pre L (i + 1) (partC i v l) := by
  refine ⟨fun c hc => h.len c (mem_part.1 hc).1, fun c hc => h.small c (mem_part.1 hc).1, fun c hc d hd => ?_⟩
  obtain ⟨hc, ec⟩ := mem_part.1 hc
  obtain ⟨hd, ed⟩ := mem_part.1 hd
  obtain ⟨k1, e1, _⟩ := h.at hi hc
  obtain ⟨k2, e2, _⟩ := h.at hi hd
  rw [List.take_add_one, List.take_add_one, h.pre c hc d hd, List.getElem?_eq_getElem k1, List.getElem?_eq_getElem k2, ← e1, ← e2, ec, ed]
theorem Pre.start (hl : ∀ c ∈ l, c.key.length = L) (hs : ∀ c ∈ l, ∀ v ∈ c.key, 0 ≤ v ∧ v < 16) : Pre L 0 l := ⟨hl, hs, fun _ _ _ _ => rfl⟩
theorem Pre.perm (h : Pre L i l) (hp : l.Perm m) : Pre L i m :=
  ⟨fun c hc => h.len c (hp.mem_iff.2 hc), fun c hc => h.small c (hp.mem_iff.2 hc), fun c hc d hd => h.pre c (hp.mem_iff.2 hc) d (hp.mem_iff.2 hd)⟩
theorem lessM_pre : ∀ (i : Nat) {a b : List Int}, a.take i = b.take i → ∀ (ha : i < a.length) (hb : i < b.length), a[i] < b[i] → lessM a b < 0
  | 0, x :: xs, y :: ys, _, _, _, h => by
    simp only [List.getElem_cons_zero] at h
    rw [lessM, if_pos h]; decide
  | 0, [], _, _, ha, _, _ => by simp at ha
  | 0, _ :: _, [], _, _, hb, _ => by simp at hb
  | i + 1, [], _, _, ha, _, _ => by simp at ha
  | i + 1, _ :: _, [], _, _, hb, _ => by simp at hb
  | i + 1, x :: xs, y :: ys, e, ha, hb, h => by
    simp only [List.take_succ_cons, List.cons.injEq] at e
    simp only [List.getElem_cons_succ] at h
    rw [lessM, if_neg (by omega), if_neg (by omega)]
    exact lessM_pre i e.2 (by simpa using ha) (by simpa using hb) h
/-- A group's keys are those of its cells. -/
theorem group_key {c : CellM} (hc : c ∈ groupC l) : ∃ d ∈ l, d.key = c.key := by
  have h := ((grp_group l).mem c).1 hc
  refine Classical.byContradiction fun hn => ?_
  have := atKey_none.2 (fun d hd e => hn ⟨d, hd, e⟩ : ∀ d ∈ l, d.key ≠ c.key)
  rw [this] at h; cases h
theorem key_group {c : CellM} (hc : c ∈ l) : ∃ d ∈ groupC l, d.key = c.key := by
  cases ha : atKey c.key l with
  | none => exact absurd rfl (atKey_none.1 ha c hc)
  | some d => exact ⟨d, ((grp_group l).mem d).2 (by rw [atKey_key ha]; exact ha), atKey_key ha⟩
theorem atKey_part {key : List Int} (hv : (key[i]?).getD 0 = v) : atKey key (partC i v l) = atKey key l := by
  unfold atKey partC
  rw [List.filter_filter]
  congr 1
  apply List.filter_congr
  intro c _
  by_cases hk : c.key = key
  · have : atV c i = v := by unfold atV; rw [hk]; exact hv
    simp [hk, this]
  · simp [hk]
/-- The parts' group-bys, one behind the other, are the group-by. -/
theorem group_parts (h : Pre L i l) (hi : i < L) (hv : Vals i l vs) : vs.flatMap (fun v => groupC (partC i v l)) = groupC l := by
  refine Grp.eq ⟨?_, fun c => ?_⟩
  · unfold Srt
    rw [List.pairwise_flatMap]
    refine ⟨fun v _ => (grp_group _).srt, ?_⟩
    refine hv.srt.imp ?_
    intro v u hvu x hx y hy
    obtain ⟨c, hc, e1⟩ := group_key hx
    obtain ⟨d, hd, e2⟩ := group_key hy
    obtain ⟨hc, ec⟩ := mem_part.1 hc
    obtain ⟨hd, ed⟩ := mem_part.1 hd
    obtain ⟨k1, f1, _⟩ := h.at hi hc
    obtain ⟨k2, f2, _⟩ := h.at hi hd
    rw [← e1, ← e2]
    exact lessM_pre i (h.pre c hc d hd) k1 k2 (by rw [← f1, ← f2, ec, ed]; exact hvu)
  · rw [List.mem_flatMap]
    constructor
    · rintro ⟨v, _, hc⟩
      obtain ⟨d, hd, ed⟩ := group_key hc
      have hv : atV c i = v := by unfold atV; rw [← ed]; exact (mem_part.1 hd).2
      rw [← atKey_part (v := v) hv]
      exact ((grp_group _).mem c).1 hc
    · intro ha
      refine ⟨atV c i, ?_, ?_⟩
      · have : c ∈ groupC l := ((grp_group l).mem c).2 ha
        obtain ⟨d, hd, ed⟩ := group_key this
        exact (hv.mem _).2 ⟨d, hd, by unfold atV; rw [ed]⟩
      · refine ((grp_group _).mem c).2 ?_
        rw [atKey_part (v := atV c i) rfl]
        exact ha
theorem Pre.one (h : Pre L L l) : (groupC l).length ≤ 1 := by
  have hs := (grp_group l).srt
  match hg : groupC l with
  | [] => simp
  | [_] => simp
  | a :: b :: t =>
    exfalso
    rw [hg] at hs
    have hab : lessM a.key b.key < 0 := (List.pairwise_cons.1 hs).1 b List.mem_cons_self
    obtain ⟨c, hc, ec⟩ := group_key (l := l) (c := a) (by rw [hg]; exact List.mem_cons_self)
    obtain ⟨d, hd, ed⟩ := group_key (l := l) (c := b) (by rw [hg]; exact List.mem_cons_of_mem _ List.mem_cons_self)
    have hp := h.pre c hc d hd
    rw [List.take_of_length_le (by rw [h.len c hc]; exact Nat.le_refl _), List.take_of_length_le (by rw [h.len d hd]; exact Nat.le_refl _)] at hp
    rw [← ec, ← ed, hp, lessM_self] at hab
    omega
end
/-- In how many parts cells are grouped, by tables of n slots: those that have no place are parted by their keys' next number. -/
def cntM (n : Nat) : Nat → Nat → List CellM → Nat
  | 0, _, _ => 1
  | f + 1, i, l => if (groupC l).length ≤ n then 1 else ((valsM i l).map fun v => cntM n f (i + 1) (partC i v l)).sum
section
variable {L i f n : Nat} {l m : List CellM} {vs : List Int} {v : Int}
theorem cnt_one (h : (groupC l).length ≤ n) : cntM n f i l = 1 := by
  cases f with
  | zero => rfl
  | succ f => rw [cntM, if_pos h]
theorem part_pos (h : Pre L i l) (hi : i < L) (hv : v ∈ valsM i l) : ∃ c, c ∈ partC i v l := by
  obtain ⟨c, hc, e⟩ := ((h.vals hi).mem v).1 hv
  exact ⟨c, mem_part.2 ⟨hc, e⟩⟩
theorem vals_pos (h : Pre L i l) (hi : i < L) (hl : 0 < (groupC l).length) : ∃ v, v ∈ valsM i l := by
  obtain ⟨c, hc⟩ := List.exists_mem_of_length_pos hl
  obtain ⟨d, hd, _⟩ := group_key hc
  exact ⟨_, ((h.vals hi).mem _).2 ⟨d, hd, rfl⟩⟩
theorem sum_one {α : Type} {g : α → Nat} {vs : List α} (h : ∀ v ∈ vs, 1 ≤ g v) : vs.length ≤ (vs.map g).sum := by
  induction vs with
  | nil => simp
  | cons v vs ih =>
    have := h v List.mem_cons_self
    have := ih fun u hu => h u (List.mem_cons_of_mem _ hu)
    rw [List.map_cons, List.sum_cons, List.length_cons]; omega
theorem sum_le {α : Type} {g g' : α → Nat} {vs : List α} (h : ∀ v ∈ vs, g v ≤ g' v) : (vs.map g).sum ≤ (vs.map g').sum := by
  induction vs with
  | nil => simp
  | cons v vs ih =>
    have := h v List.mem_cons_self
    have := ih fun u hu => h u (List.mem_cons_of_mem _ hu)
    rw [List.map_cons, List.sum_cons, List.map_cons, List.sum_cons]; omega
theorem cnt_pos : ∀ {f i : Nat} {l : List CellM}, Pre (i + f) i l → 1 ≤ cntM n f i l
  | 0, _, _, _ => Nat.le_refl _
  | f + 1, i, l, h => by
    rw [cntM]
    split
    · exact Nat.le_refl _
    · rename_i hn
      have hi : i < i + (f + 1) := by omega
      obtain ⟨v, hv⟩ := vals_pos h hi (by omega)
      have h1 : ∀ v ∈ valsM i l, 1 ≤ cntM n f (i + 1) (partC i v l) := fun v _ => cnt_pos (by have := h.part hi v; rwa [show i + 1 + f = i + (f + 1) by omega])
      have := sum_one h1
      have := List.length_pos_of_mem hv
      omega
theorem part_all (h : Pre L i l) (hi : i < L) (he : valsM i l = [v]) : partC i v l = l := by
  unfold partC
  rw [List.filter_eq_self]
  intro c hc
  have := ((h.vals hi).mem (atV c i)).2 ⟨c, hc, rfl⟩
  rw [he, List.mem_singleton] at this
  simpa using this
theorem cnt_two (h0 : 0 < n) : ∀ {f i : Nat} {l : List CellM}, Pre (i + f) i l → n < (groupC l).length → 2 ≤ cntM n f i l
  | 0, i, l, h, hn => by
    have := h.one
    omega
  | f + 1, i, l, h, hn => by
    have hi : i < i + (f + 1) := by omega
    have hp : ∀ v, Pre (i + 1 + f) (i + 1) (partC i v l) := fun v => by have := h.part hi v; rwa [show i + 1 + f = i + (f + 1) by omega]
    rw [cntM, if_neg (by omega)]
    obtain ⟨v, hv⟩ := vals_pos h hi (by omega)
    match he : valsM i l with
    | [] => rw [he] at hv; cases hv
    | [u] =>
      have ha := part_all h hi he
      have := cnt_two h0 (hp u) (by rw [ha]; exact hn)
      simpa using this
    | u :: w :: t =>
      have := sum_one (g := fun v => cntM n f (i + 1) (partC i v l)) (vs := u :: w :: t) fun v _ => cnt_pos (hp v)
      simp only [List.length_cons] at this
      omega
theorem group_sum (h : Pre L i l) (hi : i < L) : (groupC l).length = ((valsM i l).map fun v => (groupC (partC i v l)).length).sum := by
  rw [← group_parts h hi (h.vals hi), List.length_flatMap]
theorem cnt_single : ∀ {f i : Nat} {l : List CellM}, Pre (i + f) i l → cntM 1 f i l = max 1 (groupC l).length
  | 0, i, l, h => by
    have := h.one
    rw [cntM]; omega
  | f + 1, i, l, h => by
    have hi : i < i + (f + 1) := by omega
    have hp : ∀ v, Pre (i + 1 + f) (i + 1) (partC i v l) := fun v => by have := h.part hi v; rwa [show i + 1 + f = i + (f + 1) by omega]
    rw [cntM]
    split
    · omega
    · rw [Nat.max_eq_right (by omega), group_sum h hi]
      congr 1
      apply List.map_congr_left
      intro v hv
      rw [cnt_single (hp v)]
      obtain ⟨c, hc⟩ := part_pos h hi hv
      obtain ⟨d, hd, _⟩ := key_group hc
      have := List.length_pos_of_mem hd
      omega
theorem cnt_mono : ∀ {f i : Nat} {l : List CellM}, Pre (i + f) i l → cntM (n + 1) f i l ≤ cntM n f i l
  | 0, _, _, _ => Nat.le_refl _
  | f + 1, i, l, h => by
    have hi : i < i + (f + 1) := by omega
    have hp : ∀ v, Pre (i + 1 + f) (i + 1) (partC i v l) := fun v => by have := h.part hi v; rwa [show i + 1 + f = i + (f + 1) by omega]
    by_cases hn : (groupC l).length ≤ n + 1
    · rw [cnt_one hn]; exact cnt_pos h
    · rw [cntM, cntM, if_neg hn, if_neg (by omega)]
      exact sum_le fun v _ => cnt_mono (hp v)
theorem part_perm (hp : l.Perm m) : (partC i v l).Perm (partC i v m) := hp.filter _
theorem cnt_perm : ∀ {f i : Nat} {l m : List CellM}, Pre (i + f) i l → l.Perm m → cntM n f i l = cntM n f i m
  | 0, _, _, _, _, _ => rfl
  | f + 1, i, l, m, h, hp => by
    have hi : i < i + (f + 1) := by omega
    have hq : ∀ v, Pre (i + 1 + f) (i + 1) (partC i v l) := fun v => by have := h.part hi v; rwa [show i + 1 + f = i + (f + 1) by omega]
    rw [cntM, cntM, group_perm hp, (h.vals hi).unique (((h.perm hp).vals hi).perm hp.symm)]
    have : ∀ v, cntM n f (i + 1) (partC i v l) = cntM n f (i + 1) (partC i v m) := fun v => cnt_perm (hq v) (part_perm hp)
    simp only [this]
theorem cnt_le : ∀ {f i : Nat} {l : List CellM}, Pre (i + f) i l → cntM n f i l ≤ max 1 (groupC l).length := by
  intro f i l h
  induction f generalizing i l with
  | zero => rw [cntM]; omega
  | succ f ih =>
    have hi : i < i + (f + 1) := by omega
    have hp : ∀ v, Pre (i + 1 + f) (i + 1) (partC i v l) := fun v => by have := h.part hi v; rwa [show i + 1 + f = i + (f + 1) by omega]
    rw [cntM]
    split
    · omega
    · rw [group_sum h hi]
      refine Nat.le_trans (sum_le (g' := fun v => (groupC (partC i v l)).length) fun v hv => ?_) (Nat.le_max_right _ _)
      have := ih (hp v)
      obtain ⟨c, hc⟩ := part_pos h hi hv
      obtain ⟨d, hd, _⟩ := key_group hc
      have := List.length_pos_of_mem hd
      omega
end
end Go.HC

/-
  HC, part 27: append of a make; copy; a function of the model's own that is called.
-/
namespace Go.HC
section
variable {P : Program} {h : Heap} {K : Value → Heap → Prop} {ty : TypeId}
theorem hp_asIntOf (k : IntKind) (i : Int) (K' : IntKind × Int → Heap → Prop) : hp P (asIntOf (.int k i)) K' h = K' (k, i) h := _root_.id rfl
/-- 'append(s, make([]T, m)...)' where there is no room. -/
theorem append_make {T iT e s by_ n c m : Nat} {z : Value} {cs : Array Bool} {F : Nat → Prop} {a : Option Addr} {old : List Value} {k : IntKind}
    (hT : elS P T = some e) (hi : P.underlying iT = some (.int k)) (hs : szS P e = some s) (hby : byS P e = some by_) (hz : zS P e = some z)
    (hold : old.length = n * s) (hro : Cells F h a old) (hm : m < 4611686018427387904) (hbig : (n + m) * by_ ≤ 140737488355328) (h63 : n + m < 9223372036854775808) (hms : m * s ≠ 0) (hc : c < n + m)
    (hk : ∀ cap, n + m ≤ cap → cap < 9223372036854775808 → K (.slice (some ⟨h.size, 0, none⟩) (n + m) cap) (h.push (.cells (old.toArray ++ Builtin.zeroCells z.cells m ++ Builtin.zeroCells z.cells (cap - (n + m))) e))) :
    builtinS P .append #[T, iT] ty cs #[.slice a n c, .int .i64 m] h K := by
  have hu := elS_spec hT
  unfold builtinS builtin Builtin.append_
  have hby' : ∃ i, P.info? e = some i ∧ i.bytes = by_ := by
    unfold byS at hby
    cases hi : P.info? e with
    | none => simp [hi] at hby
    | some i => simp [hi] at hby; exact ⟨i, rfl, hby⟩
  obtain ⟨i, hi', rfl⟩ := hby'
  have hmb : m * i.bytes ≤ 140737488355328 := Nat.le_trans (Nat.mul_le_mul_right _ (Nat.le_add_left m n)) hbig
  have hw : IntKind.i64.wrap (m : Int) = m := wrap_i64 (by omega) (by omega)
  have hl1 : ¬ ((m : Int) < 0) := by omega
  have e48 : (2 : Int) ^ 48 = 281474976710656 := by decide
  have hl2 : ¬ ((m : Int) * (i.bytes : Int) > 2 ^ 48) := by
    rw [e48, ← Int.natCast_mul]
    generalize m * i.bytes = q at hmb
    omega
  simp only [hp_bind, hp_underlying, hu, hi, hp_sizeOf, hs, hp_pure, List.getElem?_toArray, List.getElem?_cons_zero, List.getElem?_cons_succ, if_true, Bool.not_true, asInt, hp_asIntOf, hw, hp_ite, if_neg hl1, hp_typeInfo, hi', if_neg hl2, Int.toNat_natCast]
  have hroom : ¬ (n + m ≤ c) := by omega
  rw [if_neg hroom]
  have hcap := growslice_fits (old := c) (need := n + m) (bytes := i.bytes) (by omega) hbig
  have hmax : IntKind.i64.max = 9223372036854775807 := by decide
  rw [if_neg (by rw [hmax]; intro hh; have := hh.1; omega)]
  rw [if_neg (by omega)]
  simp only [hp_choose, Question.forced, Bool.false_eq_true, if_false, Question.cut]
  intro t
  have hge : n + m ≤ n + m + t % (2 ^ 63 - (n + m)) := Nat.le_add_right _ _
  have hlt : n + m + t % (2 ^ 63 - (n + m)) < 9223372036854775808 := by
    have := Nat.mod_lt t (show 0 < 2 ^ 63 - (n + m) by omega)
    omega
  have hk' := hk _ hge hlt
  simp only [hp_askRoom, hp_firstCells (n := n) (c := c) hro hold, if_neg hms, hp_zeroValue, hz, hp_bind, newRow, hp_newObj, hp_pure, nextK]
  exact hk'
/-- 'copy(dst, src)'. -/
theorem copy_cells {T e s dn dc m c2 bk off k : Nat} {cs : Array Bool} {F : Nat → Prop} {b : Option Addr} {news : List Value} {T2 : TypeId}
    (hT : elS P T = some e) (hs : szS P e = some s) (hnew : news.length = m * s) (hrn : Cells F h b news) (hk : k = Nat.min m dn) (hks : k * s ≠ 0) {o : Obj} (hw : writeIn h[bk]? off (news.take (k * s)) = some o)
    (hK : K (.int .i64 k) (h.setIfInBounds bk o)) :
    builtinS P .copy #[T, T2] ty cs #[.slice (some ⟨bk, off, none⟩) dn dc, .slice b m c2] h K := by
  have hu := elS_spec hT
  unfold builtinS builtin Builtin.copy_
  have hkm : k ≤ m := by rw [hk]; exact Nat.min_le_left _ _
  have hlen : (news.take (k * s)).length = k * s := by
    rw [List.length_take, hnew]
    exact Nat.min_eq_left (Nat.mul_le_mul_right _ hkm)
  have hne : (news.take (k * s)).toArray.toList ≠ [] := by
    intro e0
    have : (news.take (k * s)) = [] := e0
    rw [this] at hlen
    exact hks hlen.symm
  simp only [hp_bind, hp_underlying, hu, hp_sizeOf, hs, hp_pure, Builtin.lenOf, List.getElem?_toArray, List.getElem?_cons_zero, List.getElem?_cons_succ]
  rw [← hk]
  rw [hp_firstCells (n := m) (c := c2) (hrn.take (k * s)) hlen]
  rw [hp_storeCells _ _ _ _ _ _ hne, Nat.add_zero]
  have e0 : (news.take (k * s)).toArray.toList = news.take (k * s) := rfl
  rw [e0, hw]
  exact hK
theorem sliceS_from {T : TypeId} {a : Option Addr} {n c i : Nat} {k : IntKind} (hT : ((elS P T).bind (szS P)).isSome = true) (h1 : i ≤ n) (h2 : n ≤ c) :
    sliceS P T (.slice a n c) (some (.int k (i : Int))) none none h K = K (.slice (piece a i c (((elS P T).bind (szS P)).getD 0)) (n - i) (c - i)) h := by
  obtain ⟨e, s, he, hs⟩ : ∃ e s, elS P T = some e ∧ szS P e = some s := by
    cases he : elS P T with
    | none => rw [he] at hT; cases hT
    | some e =>
      cases hs : szS P e with
      | none => rw [he] at hT; simp [hs] at hT
      | some s => exact ⟨e, s, rfl, hs⟩
  rw [sliceS_slice he hs (.inl ⟨rfl, rfl⟩) (.inl ⟨rfl, rfl⟩) (.inr ⟨k, rfl⟩) h1 h2 (Nat.le_refl _), he, Option.bind_some, hs]
  rfl
theorem sliceS_to {T : TypeId} {a : Option Addr} {n c j : Nat} {k : IntKind} (hT : ((elS P T).bind (szS P)).isSome = true) (h1 : j ≤ c) :
    sliceS P T (.slice a n c) none (some (.int k (j : Int))) none h K = K (.slice (piece a 0 c (((elS P T).bind (szS P)).getD 0)) j c) h := by
  obtain ⟨e, s, he, hs⟩ : ∃ e s, elS P T = some e ∧ szS P e = some s := by
    cases he : elS P T with
    | none => rw [he] at hT; cases hT
    | some e =>
      cases hs : szS P e with
      | none => rw [he] at hT; simp [hs] at hT
      | some s => exact ⟨e, s, rfl, hs⟩
  rw [sliceS_slice he hs (.inl ⟨rfl, rfl⟩) (.inr ⟨k, rfl⟩) (.inl ⟨rfl, rfl⟩) (Nat.zero_le j) h1 (Nat.le_refl _), he, Option.bind_some, hs]
  rfl
theorem piece_mk {bk off i m s : Nat} (h : m ≠ i) : piece (some ⟨bk, off, none⟩) i m s = some ⟨bk, off + i * s, none⟩ := by
  unfold piece; rw [if_neg h, offs_mk]
theorem piece_zero {bk off m s : Nat} : piece (some ⟨bk, off, none⟩) 0 m s = some ⟨bk, off, none⟩ := by
  unfold piece; split
  · rfl
  · rw [offs_mk]; simp
theorem cap_slice (T : TypeId) (cs : Array Bool) (a : Option Addr) (n c : Nat) (he : (elS P T).isSome = true) : builtinS P .cap #[T] ty cs #[.slice a n c] h K = K (.int .i64 c) h := by
  obtain ⟨e, he⟩ := Option.isSome_iff_exists.1 he
  have hu := elS_spec he
  unfold builtinS builtin Builtin.cap_
  simp [hu, nextK, goInt]
theorem callS_extern {f : FuncId} {fn : Func} {e : Array Value → Sem Value} (hf : P.funcs[f]? = some fn) (hname : (fn.name == "runtime.NumGoroutine") = false) (hb : fn.body.isNone = true) (hn : Extern.findNext fn = none) (he : Extern.find fn = some e) (args : Array Value)
    (hK : hp P (e args) (fun v h => K v h) h) : callS P (.func (.func f) #[] #[]) args h K := by
  have h1 : fn.name ≠ "runtime.NumGoroutine" := by simpa using hname
  have h2 : fn.body = none := by simpa using hb
  show callV P _ _ _ _
  unfold callV
  simp only [Deferred.ofValue, hp_bind, hp_pure, invoke]
  rw [show #[] ++ args ++ #[] = args by simp]
  show hp P (callFunc f args) _ h
  unfold callFunc
  simp only [hp_bind, hp_program, hf, hname, hb, hn, he, Bool.false_eq_true, if_false, if_true, hp_mark, hp_pure]
  exact hK
end
end Go.HC

/-
  Keys held against each other by the library; a binary search among cells.
-/
namespace Go.HC
theorem posC_is {l : List CellM} {key : List Int} {i : Nat} (hi : i ≤ l.length) (h1 : ∀ (k : Nat) (hk : k < l.length), k < i → lessM l[k].key key < 0) (h2 : ∀ hk : i < l.length, ¬ lessM l[i].key key < 0) : posC l key = i := by
  have hp := posC_le l key
  rcases Nat.lt_trichotomy (posC l key) i with h | h | h
  · exact absurd (h1 _ (by omega) h) (posC_at (by omega))
  · exact h
  · exact absurd (posC_lt (l := l) (by omega) h) (h2 (by omega))
theorem Srt.get {l : List CellM} (hs : Srt l) {i j : Nat} (hi : i < l.length) (hj : j < l.length) (h : i < j) : lessM l[i].key l[j].key < 0 := List.pairwise_iff_getElem.1 hs i j hi hj h
theorem mid_op {i j : Nat} (hi : i < 4611686018427387904) (hj : j < 4611686018427387904) : intRes .shr .u64 (IntKind.u64.wrap (IntKind.i64.wrap ((i : Int) + (j : Int)))) 1 = some (.int .u64 (((i + j) / 2 : Nat) : Int)) := by
  have h0 : IntKind.i64.wrap ((i : Int) + (j : Int)) = (i : Int) + (j : Int) := by rw [wrap_i64 (by omega) (by omega)]
  have h1 : IntKind.u64.wrap ((i : Int) + (j : Int)) = (i : Int) + (j : Int) := by simp [IntKind.wrap, IntKind.bits, IntKind.signed]; omega
  rw [h0, h1, intRes_shr _ _ _ (by decide)]
  have h2 : (2 : Int) ^ min (1 : Int).toNat IntKind.u64.bits = 2 := by decide
  rw [h2]
  congr 2
  rw [Int.fdiv_eq_ediv_of_nonneg _ (by decide)]
  omega
theorem mid_back {k : Nat} (hk : k < 4611686018427387904) : IntKind.i64.wrap (k : Int) = k := wrap_i64 (by omega) (by omega)
end Go.HC
namespace Go.Proofs
open Go Go.HC

set_option maxRecDepth 10000 in
theorem isNaN_spec (x : Int) (h : Heap) : CallH Try.prog 88 #[.int .i64 x] h fun r h' => r = .bool false ∧ h' = h := by
  refine enter [.tmp 2] Try.func88 rfl rfl (by kernel_rfl) rfl ?_
  simp -dsimp
set_option maxRecDepth 10000 in
theorem cmpInt_spec (x y : Int) (h : Heap) : CallH Try.prog 72 #[.int .i64 x, .int .i64 y] h fun r h' => r = .int .i64 (if x < y then -1 else if y < x then 1 else 0) ∧ h' = h := by
  refine callH_by fun K hK => ?_
  refine enter [.tmp 4] Try.func72 rfl rfl (by kernel_rfl) rfl ?_
  simp -dsimp
  refine call_by (isNaN_spec x h) ?_
  rintro _ h1 ⟨rfl, hh⟩
  subst h1
  simp -dsimp
  refine call_by (isNaN_spec y h) ?_
  rintro _ h1 ⟨rfl, hh⟩
  subst h1
  simp -dsimp
  by_cases h1 : x < y
  · simp -dsimp [h1]
    exact hK _ _ ⟨by simp [h1], rfl⟩
  · by_cases h2 : y < x
    · simp -dsimp [h1, h2]
      exact hK _ _ ⟨by simp [h1, h2], rfl⟩
    · simp -dsimp [h1, h2]
      exact hK _ _ ⟨by simp [h1, h2], rfl⟩

set_option maxHeartbeats 4000000 in
set_option maxRecDepth 10000 in
theorem compare_spec {F G : Nat → Prop} {h : Heap} {av bv : Value} {xs ys : List Int} (ha : SlRep rInt F h av xs) (hb : SlRep rInt G h bv ys) :
    CallH Try.prog 55 #[av, bv] h fun r h' => r = .int .i64 (lessM xs ys) ∧ h' = h := by
  refine callH_by fun K hK => ?_
  refine enter [.tmp 4] Try.func55 rfl rfl (by kernel_rfl) rfl ?_
  obtain ⟨a0, c0, rfl, hc0, hc0'⟩ := ha.val
  obtain ⟨a1, c1, rfl, hc1, hc1'⟩ := hb.val
  simp -dsimp
  refine loopc (σ := Nat) (fun k => [(0, .slice a0 xs.length c0), (1, .slice a1 ys.length c1), (9, .slice a0 xs.length c0), (10, .int .i64 xs.length), (11, .int .i64 k)])
    (fun k h' => h' = h ∧ k ≤ xs.length ∧ k ≤ ys.length ∧ lessM xs ys = lessM (xs.drop k) (ys.drop k)) (fun k => xs.length - k) 0 0 (fun k _ => k = xs.length) (endR Try.prog [.tmp 4] K).rt (fun _ _ _ h => h) (by simp) ⟨rfl, Nat.zero_le _, Nat.zero_le _, rfl⟩ (by kernel_rfl) ?_ ?_
  · rintro k h1 g ⟨rfl, hk, hk', hpre⟩
    by_cases hx : k < xs.length
    · have wk := wrap_succ (k := k) (by omega)
      obtain ⟨b1, o1, e1, _, hc1⟩ := ha.int_at k hx
      rw [List.drop_eq_getElem_cons hx] at hpre
      by_cases hy : k < ys.length
      · obtain ⟨b2, o2, e2, _, hc2⟩ := hb.int_at k hy
        rw [List.drop_eq_getElem_cons hy, lessM] at hpre
        have hge : ¬ (ys.length ≤ k) := by omega
        simp -dsimp [hx, hge, e1, e2, idxA_nat hx, idxA_nat hy, hc1, hc2]
        refine call_by (cmpInt_spec xs[k] ys[k] h1) ?_
        rintro _ h2 ⟨rfl, hh⟩
        subst h2
        by_cases h1 : xs[k] < ys[k]
        · rw [if_pos h1] at hpre
          rw [if_pos h1]
          simp -dsimp
          exact hK _ _ ⟨by rw [hpre], rfl⟩
        · by_cases h2 : ys[k] < xs[k]
          · rw [if_neg h1, if_pos h2] at hpre
            rw [if_neg h1, if_pos h2]
            simp -dsimp
            exact hK _ _ ⟨by rw [hpre], rfl⟩
          · rw [if_neg h1, if_neg h2] at hpre
            rw [if_neg h1, if_neg h2]
            simp -dsimp [wk]
            exact ⟨k + 1, by simp [e1, e2], rfl, ⟨rfl, by omega, by omega, hpre⟩, by show xs.length - (k + 1) < xs.length - k; omega⟩
      · have hge : ys.length ≤ k := by omega
        rw [List.drop_of_length_le (l := ys) (by omega), lessM] at hpre
        simp -dsimp [hx, hge, e1, idxA_nat hx, hc1]
        exact hK _ _ ⟨by rw [hpre], rfl⟩
    · simp -dsimp [hx]
      exact ⟨rfl, k, by simp, rfl, ⟨rfl, hk, hk', hpre⟩, by omega⟩
  · rintro k h1 g ⟨rfl, hk, hk', hpre⟩ hkx
    have hkx' : k = xs.length := hkx
    rw [List.drop_of_length_le (l := xs) (by omega)] at hpre
    by_cases hl : xs.length < ys.length
    · rw [List.drop_eq_getElem_cons (l := ys) (by omega), lessM] at hpre
      simp -dsimp [hl]
      exact hK _ _ ⟨by rw [hpre], rfl⟩
    · rw [List.drop_of_length_le (l := ys) (by omega), lessM] at hpre
      simp -dsimp [hl]
      exact hK _ _ ⟨by rw [hpre], rfl⟩
set_option maxRecDepth 10000 in
theorem cless_spec {F G : Nat → Prop} {h : Heap} {av bv : Value} {xs ys : List Int} (ha : SlRep rInt F h av xs) (hb : SlRep rInt G h bv ys) :
    CallH Try.prog 37 #[av, bv] h fun r h' => r = .int .i64 (lessM xs ys) ∧ h' = h := by
  refine callH_by fun K hK => ?_
  refine enter [.tmp 4] Try.func37 rfl rfl (by kernel_rfl) rfl ?_
  simp -dsimp
  refine call_by (compare_spec ha hb) ?_
  rintro _ h1 ⟨rfl, hh⟩
  subst h1
  simp -dsimp
  exact hK _ _ ⟨rfl, rfl⟩
/-- A function that holds two cells against each other by their keys. -/
def CmpC (f : FuncId) : Prop := ∀ {h : Heap} {cs ds : List Value} {a b : CellM}, rCell.rep (Old h) h cs a → rCell.rep (Old h) h ds b →
  CallH Try.prog f #[.agg cs.toArray, .agg ds.toArray] h fun r h' => r = .int .i64 (lessM a.key b.key) ∧ Keep none_ h h'
set_option maxRecDepth 10000 in
theorem groupCmp : CmpC 36 := by
  intro h cs ds a b ha hb
  refine callH_by fun K hK => ?_
  refine enter [.tmp 4] Try.func36 rfl rfl (by kernel_rfl) rfl ?_
  obtain ⟨ka, kc, sa, sc, na, nc, xa, xc, rfl, r1, _⟩ := cell_open ha
  obtain ⟨ka', kc', sa', sc', na', nc', xa', xc', rfl, q1, _⟩ := cell_open hb
  simp -dsimp [boxS_eq]
  generalize hB : Array.push (Array.push h _) _ = h1
  have k1 : Keep none_ h h1 := by rw [← hB]; exact ((Keep.refl none_ h).pushed _).pushed _
  have hA : h1[h.size]? = some (.cells #[.slice ka a.key.length kc, .int .i64 a.count, .slice sa a.sum.length sc, .slice na a.mn.length nc, .slice xa a.mx.length xc] 31 (0, 0)) := by rw [← hB]; exact push_at (push_new _ _)
  have hB1 : h1[h.size + 1]? = some (.cells #[.slice ka' b.key.length kc', .int .i64 b.count, .slice sa' b.sum.length sc', .slice na' b.mn.length nc', .slice xa' b.mx.length xc'] 31 (0, 0)) := by rw [← hB]; exact push_get (by simp)
  simp -dsimp [hA, hB1]
  refine call_by (cless_spec (r1.mono ((Tr.of k1).ft (Nat.le_refl 0))) (q1.mono ((Tr.of k1).ft (Nat.le_refl 0)))) ?_
  rintro _ h2 ⟨rfl, hh⟩
  subst h2
  simp -dsimp
  exact hK _ _ ⟨rfl, k1⟩

set_option maxHeartbeats 4000000 in
set_option maxRecDepth 10000 in
theorem bsearch_spec {h : Heap} {v : Value} {cs : List Value} {l : List CellM} {c : CellM} {f : FuncId} (hf : FnOk Try.prog f) (hcmp : CmpC f) (hl : SlRep rCell (Old h) h v l) (hc : rCell.rep (Old h) h cs c) (hs : Srt l) (hn : l.length < 1000000) :
    CallH Try.prog 27 #[v, .agg cs.toArray, .func (.func f) #[] #[]] h fun r h' => r = .tuple #[.int .i64 (posC l c.key), .bool (decide (∃ hk : posC l c.key < l.length, lessM l[posC l c.key].key c.key = 0))] ∧ Keep none_ h h' := by
  refine callH_by fun K hK => ?_
  refine enter [.tmp 6, .tmp 7] Try.func27 rfl rfl (by kernel_rfl) rfl ?_
  obtain ⟨a0, c0, rfl, hc0, hc0'⟩ := hl.val
  obtain ⟨ka, kc, sa, sc, na, nc, xa, xc, rfl, r1, _⟩ := cell_open hc
  simp -dsimp [boxS_eq]
  generalize hB : Array.push h _ = h1
  have k1 : Keep none_ h h1 := by rw [← hB]; exact .push _ _ _
  have hC1 : h1[h.size]? = some (.cells #[.slice ka c.key.length kc, .int .i64 c.count, .slice sa c.sum.length sc, .slice na c.mn.length nc, .slice xa c.mx.length xc] 31 (0, 0)) := by rw [← hB]; exact push_new _ _
  have l1 := hl.mono ((Tr.of k1).ft (Nat.le_refl 0))
  have c1 := rCell.mono hc ((Tr.of k1).ft (Nat.le_refl 0))
  refine loopc (σ := Nat × Nat) (fun t => [(0, .slice a0 l.length c0), (2, .func (.func f) #[] #[]), (4, .pointer (some ⟨h.size, 0, none⟩)), (8, .int .i64 l.length), (9, .int .i64 t.1), (10, .int .i64 t.2)])
    (fun t h2 => Keep none_ h1 h2 ∧ t.1 ≤ t.2 ∧ t.2 ≤ l.length ∧ (∀ (k : Nat) (hk : k < l.length), k < t.1 → lessM l[k].key c.key < 0) ∧ ∀ (k : Nat) (hk : k < l.length), t.2 ≤ k → ¬ lessM l[k].key c.key < 0)
    (fun t => t.2 - t.1) (0, l.length) 0 (fun t _ => t.1 = t.2) noRet noRet_le (by simp) ⟨.refl _ _, Nat.zero_le _, Nat.le_refl _, fun _ _ h => by omega, fun _ _ h => by omega⟩ (by kernel_rfl) ?_ ?_
  · rintro ⟨i, j⟩ h2 g ⟨k2, hij, hj, hlo, hhi⟩
    simp only at hij hj hlo hhi
    have hC2 := k2.at hC1 (fun h => h)
    by_cases hlt : i < j
    · obtain ⟨m, em⟩ : ∃ m, m = (i + j) / 2 := ⟨_, rfl⟩
      have hm1 : i ≤ m := by omega
      have hm2 : m < j := by omega
      have hml : m < l.length := by omega
      have hop := mid_op (i := i) (j := j) (by omega) (by omega)
      have hbk := mid_back (k := m) (by omega)
      rw [← em] at hop
      have l2 := l1.mono ((Tr.of k2).ft (Nat.le_refl 0))
      obtain ⟨b1, o1, cs1, e1, _, hr1, hx1⟩ := l2.get m hml
      obtain ⟨ka1, kc1, sa1, sc1, na1, nc1, xa1, xc1, rfl, _⟩ := cell_open hr1
      have hx1' : HC.cellsIn h2[b1]? (o1 + m * 5) 5 = _ := hx1
      have wm := wrap_succ (k := m) (by omega)
      simp -dsimp [hlt, hop, hbk]
      refine drawn_by [⟨0, true, []⟩, ⟨1, true, []⟩, ⟨2, true, []⟩, ⟨3, true, []⟩, ⟨4, true, []⟩, ⟨5, true, []⟩, ⟨6, false, []⟩, ⟨7, true, []⟩] (by kernel_rfl) (by kernel_rfl) ?_
      simp -dsimp [e1, idxV_nat hml, elSz_eq, hx1', hC2, hf]
      refine call_by (hcmp hr1 (rCell.mono c1 ((Tr.of k2).ft (Nat.le_refl 0)))) ?_
      rintro _ h3 ⟨rfl, k3⟩
      have kk3 := k2.trans k3 fun _ _ h => h
      by_cases hl3 : lessM l[m].key c.key < 0
      · simp -dsimp [hl3, wm]
        refine ⟨(m + 1, j), by simp [e1], rfl, ⟨kk3, by show m + 1 ≤ j; omega, hj, fun k hk hkm => ?_, hhi⟩, by simp; omega⟩
        simp only at hkm
        rcases Nat.lt_or_ge k m with h | h
        · exact lessM_trans (hs.get hk hml h) hl3
        · have : k = m := by omega
          subst this; exact hl3
      · simp -dsimp [hl3]
        refine ⟨(i, m), by simp [e1], rfl, ⟨kk3, hm1, by show m ≤ l.length; omega, hlo, fun k hk hkm => ?_⟩, by simp; omega⟩
        simp only at hkm
        rcases Nat.lt_or_ge m k with h | h
        · intro hneg
          exact hl3 (lessM_trans (hs.get hml hk h) hneg)
        · have : k = m := by omega
          subst this; exact hl3
    · simp -dsimp [hlt]
      exact ⟨rfl, (i, j), by simp, rfl, ⟨k2, hij, hj, hlo, hhi⟩, by show i = j; omega⟩
  · rintro ⟨i, j⟩ h2 g ⟨k2, hij, hj, hlo, hhi⟩ hii
    simp only at hij hj hlo hhi hii
    subst hii
    have hpos : posC l c.key = i := posC_is hj hlo fun hk => hhi i hk (Nat.le_refl _)
    have hC2 := k2.at hC1 (fun h => h)
    simp -dsimp
    refine drawn_by [⟨0, true, []⟩, ⟨1, true, []⟩, ⟨2, true, []⟩, ⟨3, true, []⟩, ⟨4, true, []⟩, ⟨5, true, []⟩, ⟨6, true, []⟩, ⟨7, true, []⟩, ⟨8, true, []⟩, ⟨9, true, []⟩, ⟨10, true, []⟩, ⟨11, false, [0]⟩, ⟨12, true, []⟩, ⟨13, true, []⟩, ⟨14, true, []⟩, ⟨15, true, []⟩] (by kernel_rfl) (by kernel_rfl) ?_
    by_cases hil : i < l.length
    · have l2 := l1.mono ((Tr.of k2).ft (Nat.le_refl 0))
      obtain ⟨b1, o1, cs1, e1, _, hr1, hx1⟩ := l2.get i hil
      obtain ⟨ka1, kc1, sa1, sc1, na1, nc1, xa1, xc1, rfl, _⟩ := cell_open hr1
      have hx1' : HC.cellsIn h2[b1]? (o1 + i * 5) 5 = _ := hx1
      simp -dsimp [hil, e1, idxV_nat hil, elSz_eq, hx1', hC2, hf]
      refine call_by (hcmp hr1 (rCell.mono c1 ((Tr.of k2).ft (Nat.le_refl 0)))) ?_
      rintro _ h3 ⟨rfl, k3⟩
      simp -dsimp [again_cons]
      refine hK _ _ ⟨?_, (k1.trans k2 fun _ _ h => h).trans k3 fun _ _ h => h⟩
      subst hpos
      congr 3
      by_cases h0 : lessM l[posC l c.key].key c.key = 0
      · rw [decide_eq_true ⟨hil, h0⟩]; simp [h0]
      · rw [decide_eq_false (fun ⟨_, h⟩ => h0 h)]; simp [h0]
    · simp -dsimp [hil]
      refine hK _ _ ⟨?_, k1.trans k2 fun _ _ h => h⟩
      subst hpos
      rw [decide_eq_false (fun ⟨h, _⟩ => hil h)]
end Go.Proofs

/-
  A cell is laid in among others by the library.
-/
namespace Go.HC
theorem writeIn_ok {arr : Array Value} {e off : Nat} {vs : List Value} (h1 : vs.all Value.oneCell' = true) (h2 : off + vs.length ≤ arr.size) : writeIn (some (.cells arr e (0, 0))) off vs = some (.cells (writeC arr off vs) e (0, 0)) := by
  rw [writeIn_some, if_pos]
  simp [h1, h2]
section
variable {P : Program} {h : Heap} {K : Value → Heap → Prop}
theorem hp_bindI {α β : Type} {x : Sem α} {f : α → Sem β} {K : β → Heap → Prop} (h1 : hp P x (fun a h => hp P (f a) K h) h) : hp P (x >>= f) K h := by rw [hp_bind]; exact h1
theorem hp_iteI {α : Type} {c : Prop} [Decidable c] {x y : Sem α} {K : α → Heap → Prop} (h1 : c ∧ hp P x K h ∨ ¬ c ∧ hp P y K h) : hp P (if c then x else y) K h := by
  rcases h1 with ⟨hc, h1⟩ | ⟨hc, h1⟩
  · rw [if_pos hc]; exact h1
  · rw [if_neg hc]; exact h1
/-- Two slices in two blocks do not overlap. -/
theorem hp_overlaps {tS tR e size : Nat} {a b : Addr} {la ca lb cb : Nat} {ca' cb' : Array Value} {ea eb : TypeId} (ht : P.underlying tS = some (.slice e)) (hz : szS P e = some size) (hne : a.block ≠ b.block)
    (hsa : h[a.block]? = some (.cells ca' ea (0, 0))) (hsb : h[b.block]? = some (.cells cb' eb (0, 0))) (hkB : cb'.size ≠ 0) (hK : K (.bool false) h) :
    hp P (Extern.SlicesOverlaps.overlaps #[tS, tS] #[tR] #[.slice (some a) la ca, .slice (some b) lb cb]) K h := by
  have hnb : (a.block != b.block) = true := by simpa using hne
  have hnb' : (a.block == b.block) = false := by simpa using hne
  have hfa : ∀ off sp, frozenH h ⟨a.block, off, sp⟩ = false := fun off sp => by unfold frozenH; rw [hsa]; simp
  have sa : shapeH h a.block = some (ea, ca'.size) := by unfold shapeH; rw [hsa]
  have sb : shapeH h b.block = some (eb, cb'.size) := by unfold shapeH; rw [hsb]
  refine hp_bindI ?_
  have ht' : P.underlying #[tS, tS][0] = some (.slice e) := ht
  rw [hp_underlying, ht']
  cases hk : cb'.size with
  | zero => exact absurd hk hkB
  | succ kB =>
    rw [hk] at sb
    by_cases h0 : la = 0 ∨ lb = 0 ∨ size = 0
    · simp [hp_sizeOf, hz, h0, hK]
    · simp [hp_sizeOf, hz, h0, hnb, hnb', noView, viewAt, mayBeOne, stringish, sa, sb, hfa, hK]
end
/-- A slice that grows, off what lies in its block. -/
theorem Gr.raw {α : Type} {R : Rp α} {e n : Nat} {M : Nat → Prop} {h : Heap} {bk c m : Nat} {arr : Array Value} {xs : List α} {cs : List Value} (hb : h[bk]? = some (.cells arr e (0, 0))) (hM : M bk) (hm : m = xs.length) (hsz : arr.size = c * R.sz) (hc : m ≤ c) (hc' : c < 9223372036854775808)
    (ht : arr.toList.take (m * R.sz) = cs) (he : Elems R (Ft n M h) h cs xs) : Gr R e n M h (.slice (some ⟨bk, 0, none⟩) m c) xs (some bk) := by
  subst hm
  exact ⟨.inr ⟨bk, c, arr, cs, rfl, rfl, hb, fun hf => hf.2.2 hM, hsz, hc, hc', ht, he⟩, fun b hb => by cases hb; exact hM⟩
theorem zeroCells_len (z : Array Value) (n : Nat) : (Builtin.zeroCells z n).size = n * z.size := zeroCells_size z n
/-- Cells are moved to make room, and new ones laid in. -/
theorem insert_list {D old cs : List Value} {i n s c : Nat} (hold : D.take (n * s) = old) (hD : D.length = c * s) (hcs : cs.length = s) (hi : i ≤ n) (hc : n + 1 ≤ c) :
    let A1 := D.take ((i + 1) * s) ++ old.drop (i * s) ++ D.drop ((i + 1) * s + (old.drop (i * s)).length)
    let A2 := A1.take (i * s) ++ cs ++ A1.drop (i * s + cs.length)
    A2.take ((n + 1) * s) = old.take (i * s) ++ cs ++ old.drop (i * s) := by
  intro A1 A2
  have h1 : i * s ≤ n * s := Nat.mul_le_mul_right _ hi
  have h2 : (n + 1) * s ≤ c * s := Nat.mul_le_mul_right _ hc
  have h3 : (i + 1) * s = i * s + s := Nat.succ_mul i s
  have h4 : (n + 1) * s = n * s + s := Nat.succ_mul n s
  have hol : old.length = n * s := by rw [← hold, List.length_take, hD]; omega
  have e1 : A1.take (i * s) = old.take (i * s) := by
    show (D.take ((i + 1) * s) ++ old.drop (i * s) ++ _).take (i * s) = _
    rw [List.append_assoc, List.take_append_of_le_length (by rw [List.length_take, hD]; omega), List.take_take, Nat.min_eq_left (by omega), ← hold, List.take_take, Nat.min_eq_left h1]
  have e2 : A1.drop (i * s + cs.length) = old.drop (i * s) ++ D.drop ((i + 1) * s + (old.drop (i * s)).length) := by
    show (D.take ((i + 1) * s) ++ old.drop (i * s) ++ _).drop (i * s + cs.length) = _
    have : i * s + cs.length = (D.take ((i + 1) * s)).length := by rw [List.length_take, hD]; omega
    rw [List.append_assoc, this, List.drop_append_of_le_length (Nat.le_refl _), List.drop_length]
    rfl
  show (A1.take (i * s) ++ cs ++ A1.drop (i * s + cs.length)).take ((n + 1) * s) = _
  rw [e1, e2, ← List.append_assoc]
  have hlen : (old.take (i * s) ++ cs ++ old.drop (i * s)).length = (n + 1) * s := by
    simp only [List.length_append, List.length_take, List.length_drop, hol, hcs]; omega
  rw [← hlen, List.take_left]
/-- The same, in a new block. -/
theorem insert_new {old cs zs : List Value} {i n s c : Nat} (hold : old.length = n * s) (hz : zs.length = (c - i) * s) (hcs : cs.length = s) (hi : i ≤ n) (hc : n + 1 ≤ c) :
    let D := old.take (i * s) ++ zs
    let A1 := D.take (i * s) ++ cs ++ D.drop (i * s + cs.length)
    let A2 := A1.take ((i + 1) * s) ++ old.drop (i * s) ++ A1.drop ((i + 1) * s + (old.drop (i * s)).length)
    A2.take ((n + 1) * s) = old.take (i * s) ++ cs ++ old.drop (i * s) ∧ D.length = c * s := by
  intro D A1 A2
  have h1 : i * s ≤ n * s := Nat.mul_le_mul_right _ hi
  have h3 : (i + 1) * s = i * s + s := Nat.succ_mul i s
  have h4 : (n + 1) * s = n * s + s := Nat.succ_mul n s
  have h5 : (c - i) * s = c * s - i * s := Nat.sub_mul c i s
  have h6 : (n + 1) * s ≤ c * s := Nat.mul_le_mul_right _ hc
  have hti : (old.take (i * s)).length = i * s := by rw [List.length_take, hold]; omega
  have hDl : D.length = c * s := by
    show (old.take (i * s) ++ zs).length = _
    rw [List.length_append, hti, hz]; omega
  refine ⟨?_, hDl⟩
  have e1 : D.take (i * s) = old.take (i * s) := by
    show (old.take (i * s) ++ zs).take (i * s) = _
    rw [List.take_append_of_le_length (by omega), List.take_of_length_le (by omega)]
  have e2 : A1.take ((i + 1) * s) = old.take (i * s) ++ cs := by
    show (D.take (i * s) ++ cs ++ D.drop (i * s + cs.length)).take ((i + 1) * s) = _
    rw [e1]
    have : (i + 1) * s = (old.take (i * s) ++ cs).length := by rw [List.length_append, hti, hcs]; omega
    rw [this, List.take_left]
  show (A1.take ((i + 1) * s) ++ old.drop (i * s) ++ _).take ((n + 1) * s) = _
  rw [e2]
  have hlen : (old.take (i * s) ++ cs ++ old.drop (i * s)).length = (n + 1) * s := by
    simp only [List.length_append, hti, hcs, List.length_drop, hold]; omega
  rw [← hlen, List.take_left]
end Go.HC
namespace Go.Proofs
open Go Go.HC

set_option maxHeartbeats 8000000 in
set_option maxRecDepth 10000 in
theorem insert_gen {n : Nat} {M : Nat → Prop} {h : Heap} {v : Value} {xs : List CellM} {own : Option Nat} {i b2 c2 : Nat} {arr2 : Array Value} {cs : List Value} {c : CellM} (g : Gr rCell 31 n M h v xs own) (hM : ∀ b, M b → b < h.size) (hi : i ≤ xs.length) (hn : xs.length < 1000000)
    (hb2 : h[b2]? = some (.cells arr2 31 (0, 0))) (h25 : arr2.toList.take 5 = cs) (hM2 : ¬ M b2) (hc : rCell.rep (Ft n M h) h cs c) :
    CallH Try.prog 30 #[v, .int .i64 i, .slice (some ⟨b2, 0, none⟩) 1 c2] h fun r h' => ∃ own', Gr rCell 31 n (fun b => M b ∨ own' = some b) h' r (xs.take i ++ c :: xs.drop i) own' ∧
      Tr M (fun b => M b ∨ own' = some b) h h' ∧ Keep (fun b => own = some b) h h' ∧ ∀ b, own' = some b → own = some b ∨ h.size ≤ b := by
  refine callH_by fun K hK => ?_
  refine enter [.tmp 6] Try.func30 rfl rfl (by kernel_rfl) rfl ?_
  obtain ⟨va, vn, vc, ev, hvn⟩ := g.vals
  subst ev
  obtain ⟨csx, _, hvc, hvc', hcells, helems⟩ := g.grow.cells
  have hcl := rCell.len hc
  have hco := rCell.one hc
  have hin : i ≤ vn := by omega
  have hT : ((elS Try.prog 24).bind (szS Try.prog)).isSome = true := by simp
  simp -dsimp [sliceS_from hT hin hvc]
  by_cases hie : i = vn
  · have hie' : ((i : Int) == (vn : Int)) = true := by simp [hie]
    simp -dsimp [hie']
    refine gr_append (F2 := fun b => b = b2) (ys := [c]) (news := cs) cellT g hM rfl (.inr ⟨b2, 0, _, _, _, rfl, rfl, hb2, by rw [List.drop_zero, hcl]; exact h25⟩) (.single hc) (by simp; omega) (by simp; omega) ?_
    intro v' h' own' g' t' k' ho'
    simp -dsimp
    refine hK _ _ ⟨own', ?_, t', k', ho'⟩
    have : xs.take i ++ c :: xs.drop i = xs ++ [c] := by rw [hie, hvn, List.take_length, List.drop_length]
    rw [this]; exact g'
  · have hie' : ((i : Int) == (vn : Int)) = false := by simp; omega
    have w1 := wrap_succ (k := vn) (by omega)
    have hlt : i < vn := by omega
    rcases g.grow with ⟨_, h0, _⟩ | ⟨bk, c', arr, old, ev, eo, hb, hF, hsz, hle, hc63, htk, hel⟩
    · rw [h0] at hvn; simp at hvn; omega
    simp only [Value.slice.injEq] at ev
    obtain ⟨rfl, _, rfl⟩ := ev
    have hMb : M bk := g.mu bk eo
    have hol : old.length = vn * 5 := by rw [hvn]; exact hel.len
    have hsz' : arr.toList.length = vc * 5 := by rw [Array.length_toList]; exact hsz
    have htk' : arr.toList.take (vn * 5) = old := by rw [hvn]; exact htk
    have hoo : old.all Value.oneCell' = true := hel.one
    have hnb2 : b2 ≠ bk := fun e => hM2 (e ▸ hMb)
    have hnl : (xs.take i ++ c :: xs.drop i).length = vn + 1 := by rw [List.length_append, List.length_take, List.length_cons, List.length_drop]; omega
    have hE : ∀ {M' : Nat → Prop} {h' : Heap}, Tr M M' h h' → Elems rCell (Ft n M' h') h' (old.take (i * 5) ++ cs ++ old.drop (i * 5)) (xs.take i ++ c :: xs.drop i) := fun t => by
      have e1 := (hel.take i).mono (t.ft (Nat.le_refl n))
      have e2 := (hel.drop i).mono (t.ft (Nat.le_refl n))
      rw [List.append_assoc]
      exact e1.append (Elems.append (Elems.single (rCell.mono hc (t.ft (Nat.le_refl n)))) e2)
    simp -dsimp [hie', cap_slice, w1]
    have w2 : IntKind.i64.wrap ((vn : Int) + 1 - (i : Int)) = ((vn + 1 - i : Nat) : Int) := by rw [wrap_i64 (by omega) (by omega)]; omega
    have w3 := wrap_succ (k := i) (by omega)
    by_cases hroom : vc < vn + 1
    · have hroom' : ((vc : Int) < (vn : Int) + 1) = True := by simp; omega
      simp -dsimp [hroom', sliceS_to hT (show i ≤ vc by omega), piece_zero, w1, w2]
      refine append_make (F := Old h) (old := old.take (i * 5)) (k := .i64) Try.elS24 Try.underlying3 Try.szS31 Try.byS31 Try.zS31 ?_ ?_ (by omega) (by omega) (by omega) (by omega) (by omega) ?_
      · rw [List.length_take, hol]; omega
      · refine .inr ⟨bk, 0, arr, _, _, rfl, ⟨nz, lt_of_blk hb, fun h => h⟩, hb, ?_⟩
        rw [List.drop_zero, List.length_take, hol, ← htk', List.take_take, Nat.min_comm]
      · intro cap hcap hcap'
        have e1 : i + (vn + 1 - i) = vn + 1 := by omega
        rw [e1] at hcap ⊢
        have hB1 : ∀ o, (h.push o)[h.size]? = some o := fun o => push_new _ _
        have hb2p : ∀ o, (h.push o)[b2]? = _ := fun o => push_at hb2
        have hbp : ∀ o, (h.push o)[bk]? = _ := fun o => push_at hb
        obtain ⟨arr0, ea0⟩ : ∃ arr0 : Array Value, arr0 = (old.take (i * 5)).toArray ++ Builtin.zeroCells (Value.agg #[.slice none 0 0, .int .i64 0, .slice none 0 0, .slice none 0 0, .slice none 0 0]).cells (vn + 1 - i) ++ Builtin.zeroCells (Value.agg #[.slice none 0 0, .int .i64 0, .slice none 0 0, .slice none 0 0, .slice none 0 0]).cells (cap - (vn + 1)) := ⟨_, rfl⟩
        rw [← ea0]
        obtain ⟨hB, eB⟩ : ∃ hB, hB = h.push (.cells arr0 31) := ⟨_, rfl⟩
        rw [← eB]
        have kB : Keep none_ h hB := by rw [eB]; exact .push _ _ _
        have hbB : hB[h.size]? = some (.cells arr0 31 (0, 0)) := by rw [eB]; exact push_new _ _
        have hzl : (Builtin.zeroCells (Value.agg #[.slice none 0 0, .int .i64 0, .slice none 0 0, .slice none 0 0, .slice none 0 0]).cells (vn + 1 - i) ++ Builtin.zeroCells (Value.agg #[.slice none 0 0, .int .i64 0, .slice none 0 0, .slice none 0 0, .slice none 0 0]).cells (cap - (vn + 1))).toList.length = (cap - i) * 5 := by
          rw [Array.length_toList, Array.size_append, zeroCells_size, zeroCells_size]
          show (vn + 1 - i) * 5 + (cap - (vn + 1)) * 5 = (cap - i) * 5
          omega
        have hal : arr0.toList = old.take (i * 5) ++ (Builtin.zeroCells (Value.agg #[.slice none 0 0, .int .i64 0, .slice none 0 0, .slice none 0 0, .slice none 0 0]).cells (vn + 1 - i) ++ Builtin.zeroCells (Value.agg #[.slice none 0 0, .int .i64 0, .slice none 0 0, .slice none 0 0, .slice none 0 0]).cells (cap - (vn + 1))).toList := by
          rw [ea0, Array.append_assoc, Array.toList_append]
        obtain ⟨hin1, hin2⟩ := insert_new (s := 5) (c := cap) (i := i) hol hzl hcl (by omega) (by omega)
        rw [← hal] at hin1 hin2
        have hasz : arr0.size = cap * 5 := by rw [← Array.length_toList]; exact hin2
        have hb2B := kB.at hb2 (fun h => h)
        have hbkB := kB.at hb (fun h => h)
        have hw1 := writeIn_ok (arr := arr0) (e := 31) (off := i * 5) hco (by rw [hcl, hasz]; show i * 5 + 5 ≤ cap * 5; omega)
        simp -dsimp [sliceS_from hT (show i ≤ vn + 1 by omega) hcap, piece_mk (show cap ≠ i by omega)]
        refine copy_cells (F := Old hB) (k := 1) (news := cs) Try.elS24 Try.szS31 hcl (.inr ⟨b2, 0, _, _, _, rfl, ⟨nz, lt_of_blk hb2B, fun h => h⟩, hb2B, by rw [List.drop_zero, hcl]; exact h25⟩) (by show 1 = min 1 _; omega) (by decide) (o := .cells (writeC arr0 (i * 5) cs) 31) ?_ ?_
        · rw [hbB, List.take_of_length_le (by rw [hcl]; decide)]; exact hw1
        obtain ⟨arr1, ea1⟩ : ∃ arr1, arr1 = writeC arr0 (i * 5) cs := ⟨_, rfl⟩
        have hal1 : arr1.toList = arr0.toList.take (i * 5) ++ cs ++ arr0.toList.drop (i * 5 + cs.length) := by
          rw [ea1]; exact toList_writeC cs arr0 (i * 5) (by rw [hcl, hasz]; show i * 5 + 5 ≤ cap * 5; omega)
        have hasz1 : arr1.size = cap * 5 := by rw [ea1, size_writeC, hasz]
        rw [← ea1]
        obtain ⟨hD, eD⟩ : ∃ hD, hD = hB.setIfInBounds h.size (.cells arr1 31) := ⟨_, rfl⟩
        rw [← eD]
        have hbD : hD[h.size]? = some (.cells arr1 31 (0, 0)) := by rw [eD]; exact set_same _ (lt_of_blk hbB)
        have hlb := lt_of_blk hb
        have hbkD : hD[bk]? = some (.cells arr 31 (0, 0)) := by rw [eD, set_other _ (by omega)]; exact hbkB
        have hod : (old.drop (i * 5)).length = (vn - i) * 5 := by rw [List.length_drop, hol]; omega
        have hw2 := writeIn_ok (arr := arr1) (e := 31) (off := (i + 1) * 5) (vs := old.drop (i * 5)) (List.all_eq_true.2 fun x hx => (List.all_eq_true.1 hoo) x (List.mem_of_mem_drop hx)) (by rw [hod, hasz1]; omega)
        simp -dsimp
        refine drawn_by [⟨0, true, []⟩, ⟨1, true, []⟩, ⟨2, true, []⟩, ⟨3, true, []⟩, ⟨4, true, []⟩, ⟨5, true, []⟩, ⟨6, true, []⟩, ⟨7, true, []⟩, ⟨8, false, []⟩] (by kernel_rfl) (by kernel_rfl) ?_
        have hp1 : i + 1 ≤ vn + 1 := by omega
        have hp2 : vn + 1 ≤ cap := hcap
        have hp3 : i ≤ vn := by omega
        have hp4 : vn ≤ vc := hvc
        have hp0 : (0 : Int) ≤ (i : Int) + 1 := by omega
        simp -dsimp [elSz_eq, pieceV, natV, w3, hp0, hp1, hp2, hp3, hp4, piece_mk (show cap ≠ i + 1 by omega), piece_mk (show vc ≠ i by omega)]
        refine copy_cells (F := Old hD) (k := vn - i) (news := old.drop (i * 5)) Try.elS24 Try.szS31 hod (.inr ⟨bk, i * 5, _, _, _, rfl, ⟨nz, lt_of_blk hbkD, fun h => h⟩, hbkD, ?_⟩) (by show vn - i = min (vn - i) (vn - i); omega) (by show (vn - i) * 5 ≠ 0; omega) (o := .cells (writeC arr1 ((i + 1) * 5) (old.drop (i * 5))) 31) ?_ ?_
        · rw [← htk', List.drop_take, List.length_take, List.length_drop, hsz']
          congr 1; omega
        · rw [hbD, List.take_of_length_le (by rw [hod]; exact Nat.le_refl _)]
          exact hw2
        simp -dsimp
        have hlt2 := toList_writeC (old.drop (i * 5)) arr1 ((i + 1) * 5) (by rw [hod, hasz1]; omega)
        have tB : Tr M M h hB := by rw [eB]; exact Tr.push ⟨.refl _ _, fun _ h => .inl h, hM⟩ _
        have tD : Tr M (fun b => M b ∨ some h.size = some b) h ((hD.setIfInBounds h.size (.cells (writeC arr1 ((i + 1) * 5) (old.drop (i * 5))) 31))) := by
          refine ⟨⟨?_, fun b hb' hm => ?_⟩, fun b hb' => hb'.imp id fun e => by cases e; exact Nat.le_refl _, fun b hb' => ?_⟩
          · rw [Array.size_setIfInBounds, eD, Array.size_setIfInBounds]; exact kB.size
          · rw [set_other _ (by omega), eD, set_other _ (by omega)]; exact kB.blk b hb' (fun h => h)
          · rw [Array.size_setIfInBounds, eD, Array.size_setIfInBounds, eB]
            rcases hb' with hb' | hb'
            · have := hM b hb'; simp; omega
            · cases hb'; simp
        refine hK _ _ ⟨some h.size, ?_, tD, ⟨tD.size, fun b hb' hn' => ?_⟩, fun b hb' => .inr (by cases hb'; exact Nat.le_refl _)⟩
        · refine Gr.raw (cs := old.take (i * 5) ++ cs ++ old.drop (i * 5)) (set_same _ (lt_of_blk hbD)) (.inr rfl) hnl.symm (by rw [size_writeC, hasz1]; rfl) hcap hcap' ?_ (hE tD)
          rw [hlt2, hal1]
          exact hin1
        · rw [set_other _ (by omega), eD, set_other _ (by omega)]; exact kB.blk b hb' (fun h => h)
    · have hroom' : ((vc : Int) < (vn : Int) + 1) = False := by simp; omega
      have hsT : ∀ (K : Value → Heap → Prop) (h : Heap), sliceS Try.prog 24 (.slice (some ⟨bk, 0, none⟩) vn vc) none (some (.int .i64 ((vn : Int) + 1))) none h K = K (.slice (some ⟨bk, 0, none⟩) (vn + 1) vc) h := fun K h => by
        have := sliceS_to (P := Try.prog) (a := some ⟨bk, 0, none⟩) (n := vn) (k := .i64) (K := K) (h := h) hT (show vn + 1 ≤ vc by omega)
        rw [piece_zero] at this
        simpa using this
      have hsF : ∀ (K : Value → Heap → Prop) (h : Heap), sliceS Try.prog 24 (.slice (some ⟨bk, 0, none⟩) (vn + 1) vc) (some (.int .i64 ((i : Int) + 1))) none none h K = K (.slice (some ⟨bk, (i + 1) * 5, none⟩) (vn - i) (vc - (i + 1))) h := fun K h => by
        have := sliceS_from (P := Try.prog) (a := some ⟨bk, 0, none⟩) (k := .i64) (K := K) (h := h) hT (show i + 1 ≤ vn + 1 by omega) (show vn + 1 ≤ vc by omega)
        rw [piece_mk (by omega)] at this
        simpa [show vn + 1 - (i + 1) = vn - i by omega] using this
      have hsI : ∀ (K : Value → Heap → Prop) (h : Heap), sliceS Try.prog 24 (.slice (some ⟨bk, 0, none⟩) (vn + 1) vc) (some (.int .i64 (i : Int))) none none h K = K (.slice (some ⟨bk, i * 5, none⟩) (vn + 1 - i) (vc - i)) h := fun K h => by
        have := sliceS_from (P := Try.prog) (a := some ⟨bk, 0, none⟩) (k := .i64) (K := K) (h := h) hT (show i ≤ vn + 1 by omega) (show vn + 1 ≤ vc by omega)
        rw [piece_mk (by omega)] at this
        simpa using this
      have hss : arr.size = vc * 5 := hsz
      simp -dsimp [hroom', w1, w3, hsT, hsF]
      refine callS_extern (e := Extern.SlicesOverlaps.overlaps #[24, 24] #[4]) Try.func43 (by kernel_rfl) (by kernel_rfl) (by kernel_rfl) (by kernel_rfl) _ ?_
      refine hp_overlaps Try.underlying24 Try.szS31 hnb2 hb2 hb (by rw [hss]; omega) ?_
      simp -dsimp
      refine drawn_by [⟨0, true, []⟩, ⟨1, true, []⟩, ⟨2, true, []⟩, ⟨3, true, []⟩, ⟨4, true, []⟩, ⟨5, true, []⟩, ⟨6, true, []⟩, ⟨7, true, []⟩, ⟨8, false, []⟩] (by kernel_rfl) (by kernel_rfl) ?_
      have hp0 : (0 : Int) ≤ (i : Int) + 1 := by omega
      have hp1 : i + 1 ≤ vn + 1 := by omega
      have hp2 : vn + 1 ≤ vc := by omega
      have hp3 : i ≤ vn + 1 := by omega
      simp -dsimp [elSz_eq, pieceV, natV, w3, hp0, hp1, hp2, hp3, piece_mk (show vc ≠ i + 1 by omega), piece_mk (show vc ≠ i by omega)]
      have hns : ((arr.toList.drop (i * 5)).take ((vn + 1 - i) * 5)).length = (vn + 1 - i) * 5 := by rw [List.length_take, List.length_drop, hsz']; omega
      have hod : (old.drop (i * 5)).length = (vn - i) * 5 := by rw [List.length_drop, hol]; omega
      have hnt : ((arr.toList.drop (i * 5)).take ((vn + 1 - i) * 5)).take ((vn - i) * 5) = old.drop (i * 5) := by
        rw [List.take_take, ← htk', List.drop_take]
        congr 1; omega
      have hw1 := writeIn_ok (arr := arr) (e := 31) (off := (i + 1) * 5) (vs := old.drop (i * 5)) (List.all_eq_true.2 fun x hx => (List.all_eq_true.1 hoo) x (List.mem_of_mem_drop hx)) (by rw [hod, hss]; omega)
      refine copy_cells (F := Old h) (k := vn - i) (news := (arr.toList.drop (i * 5)).take ((vn + 1 - i) * 5)) Try.elS24 Try.szS31 hns (.inr ⟨bk, i * 5, _, _, _, rfl, ⟨nz, lt_of_blk hb, fun h => h⟩, hb, by rw [hns]⟩) (by show vn - i = min (vn + 1 - i) (vn - i); omega) (by show (vn - i) * 5 ≠ 0; omega) (o := .cells (writeC arr ((i + 1) * 5) (old.drop (i * 5))) 31) ?_ ?_
      · rw [hb]
        exact (congrArg _ hnt).trans hw1
      obtain ⟨arr1, ea1⟩ : ∃ arr1, arr1 = writeC arr ((i + 1) * 5) (old.drop (i * 5)) := ⟨_, rfl⟩
      have hal1 := toList_writeC (old.drop (i * 5)) arr ((i + 1) * 5) (by rw [hod, hss]; omega)
      have hasz1 : arr1.size = vc * 5 := by rw [ea1, size_writeC, hss]
      rw [← ea1] at hal1 ⊢
      obtain ⟨hD, eD⟩ : ∃ hD, hD = h.setIfInBounds bk (.cells arr1 31) := ⟨_, rfl⟩
      rw [← eD]
      have hbD : hD[bk]? = some (.cells arr1 31 (0, 0)) := by rw [eD]; exact set_same _ (lt_of_blk hb)
      have hb2D : hD[b2]? = some (.cells arr2 31 (0, 0)) := by rw [eD, set_other _ (fun e => hnb2 e.symm)]; exact hb2
      have hw2 := writeIn_ok (arr := arr1) (e := 31) (off := i * 5) hco (by rw [hcl, hasz1]; show i * 5 + 5 ≤ vc * 5; omega)
      simp -dsimp [hsI]
      refine copy_cells (F := Old hD) (k := 1) (news := cs) Try.elS24 Try.szS31 hcl (.inr ⟨b2, 0, _, _, _, rfl, ⟨nz, lt_of_blk hb2D, fun h => h⟩, hb2D, by rw [List.drop_zero, hcl]; exact h25⟩) (by show 1 = min 1 _; omega) (by decide) (o := .cells (writeC arr1 (i * 5) cs) 31) ?_ ?_
      · rw [hbD, List.take_of_length_le (by rw [hcl]; decide)]; exact hw2
      simp -dsimp
      have hlt2 := toList_writeC cs arr1 (i * 5) (by rw [hcl, hasz1]; show i * 5 + 5 ≤ vc * 5; omega)
      have tH : Tr M M h h := ⟨.refl _ _, fun _ h => .inl h, hM⟩
      have tD : Tr M (fun b => M b ∨ some bk = some b) h (hD.setIfInBounds bk (.cells (writeC arr1 (i * 5) cs) 31)) := by
        rw [eD]
        exact ((tH.set _ hMb).set _ hMb).less fun b hb' => hb'.elim id fun e => by cases e; exact hMb
      refine hK _ _ ⟨some bk, ?_, tD, ⟨tD.size, fun b hb' hn' => ?_⟩, fun b hb' => .inl (by rw [eo]; exact hb')⟩
      · refine Gr.raw (cs := old.take (i * 5) ++ cs ++ old.drop (i * 5)) (set_same _ (lt_of_blk hbD)) (.inr rfl) hnl.symm (by rw [size_writeC, hasz1]; rfl) (by omega) hvc' ?_ (hE tD)
        rw [hlt2, hal1]
        exact insert_list (s := 5) htk' hsz' hcl (by omega) (by omega)
      · have : b ≠ bk := fun e => hn' (by rw [eo, e])
        rw [set_other _ (fun e => this e.symm), eD, set_other _ (fun e => this e.symm)]
theorem insert_spec {n : Nat} {M : Nat → Prop} {h : Heap} {v : Value} {xs : List CellM} {own : Option Nat} {i b2 : Nat} {cs : List Value} {c : CellM} (g : Gr rCell 31 n M h v xs own) (hM : ∀ b, M b → b < h.size) (hi : i ≤ xs.length) (hn : xs.length < 1000000)
    (hb2 : h[b2]? = some (.cells cs.toArray 31 (0, 0))) (hM2 : ¬ M b2) (hc : rCell.rep (Ft n M h) h cs c) :
    CallH Try.prog 30 #[v, .int .i64 i, .slice (some ⟨b2, 0, none⟩) 1 1] h fun r h' => ∃ own', Gr rCell 31 n (fun b => M b ∨ own' = some b) h' r (xs.take i ++ c :: xs.drop i) own' ∧
      Tr M (fun b => M b ∨ own' = some b) h h' ∧ Keep (fun b => own = some b) h h' ∧ ∀ b, own' = some b → own = some b ∨ h.size ≤ b :=
  insert_gen g hM hi hn hb2 (by have := rCell.len hc; rw [List.take_of_length_le (by show cs.length ≤ 5; rw [this]; decide)]) hM2 hc
end Go.Proofs

/-
  The program's group-by.
-/
namespace Go.HC
theorem small_put {l : List CellM} {c : CellM} (hl : ∀ d ∈ l, CellSmall d) (hc : CellSmall c) : ∀ d ∈ putC l c, CellSmall d := by
  induction l with
  | nil => intro d hd; rw [putC, List.mem_singleton] at hd; rw [hd]; exact hc
  | cons e l ih =>
    intro d hd
    have he := hl e List.mem_cons_self
    have ih := ih fun d hd => hl d (List.mem_cons_of_mem _ hd)
    have hj : CellSmall (joinC e c) := ⟨he.key, by simp only [joinC, List.length_zipWith]; have := he.sum; omega, by simp only [joinC, List.length_zipWith]; have := he.mn; omega, by simp only [joinC, List.length_zipWith]; have := he.mx; omega⟩
    rw [putC] at hd
    split at hd
    · rcases List.mem_cons.1 hd with rfl | h
      · exact he
      · exact ih d h
    · split at hd
      · rcases List.mem_cons.1 hd with rfl | h
        · exact hj
        · exact hl d (List.mem_cons_of_mem _ h)
      · rcases List.mem_cons.1 hd with rfl | h
        · exact hc
        · exact hl d h
theorem small_group {l : List CellM} (hl : ∀ d ∈ l, CellSmall d) : ∀ d ∈ groupC l, CellSmall d := by
  have key : ∀ (l o : List CellM), (∀ d ∈ l, CellSmall d) → (∀ d ∈ o, CellSmall d) → ∀ d ∈ l.foldl putC o, CellSmall d := by
    intro l
    induction l with
    | nil => exact fun o _ ho => ho
    | cons c l ih => exact fun o hl ho => ih _ (fun d hd => hl d (List.mem_cons_of_mem _ hd)) (small_put ho (hl c List.mem_cons_self))
  exact key l [] hl fun d hd => by cases hd
/-- A row of cells in memory of its own, behind n0: its block may be changed, and the cells' blocks. -/
def NewC (e n0 : Nat) (h : Heap) (v : Value) (l : List CellM) : Prop := ∃ F own, Grow rCell e F h v l own ∧ (∀ b, F b → Nw n0 h b ∧ b < h.size) ∧ ∀ b, own = some b → n0 ≤ b
theorem NewC.rep {e n0 n : Nat} {h : Heap} {v : Value} {l : List CellM} (g : NewC e n0 h v l) (hn : n ≤ n0) : SlRep rCell (Ft n none_ h) h v l := by
  obtain ⟨F, own, g, hF, ho⟩ := g
  exact g.rep.mono fun b hb => ⟨hb.elim (fun h => ⟨(hF b h).1.less hn, (hF b h).2, fun h => h⟩) fun h => ⟨⟨Nat.le_trans hn (ho b h), fun _ => g.thaw b h⟩, g.own_lt b h, fun h => h⟩, rfl⟩
theorem NewC.keep {e n0 : Nat} {h h' : Heap} {v : Value} {l : List CellM} (g : NewC e n0 h v l) (k : Keep none_ h h') : NewC e n0 h' v l := by
  obtain ⟨F, own, g, hF, ho⟩ := g
  have hne : ∀ b, own = some b → ¬ F b := fun b hb => by
    rcases g with ⟨_, _, h0⟩ | ⟨bk, c, arr, cs, _, h0, _, h1, _⟩
    · rw [h0] at hb; cases hb
    · rw [h0] at hb; cases hb; exact h1
  exact ⟨F, own, g.mono (fun b hb => ⟨hb, k.blk b (hF b hb).2 (fun h => h)⟩) fun b hb => ⟨hne b hb, k.blk b (g.own_lt b hb) (fun h => h)⟩, fun b hb => ⟨(hF b hb).1.at (Nat.le_refl _) (k.blk b (hF b hb).2 (fun h => h)), Nat.lt_of_lt_of_le (hF b hb).2 k.size⟩, ho⟩
theorem NewC.older {e n0 n1 : Nat} {h : Heap} {v : Value} {l : List CellM} (g : NewC e n0 h v l) (hn : n1 ≤ n0) : NewC e n1 h v l := by
  obtain ⟨F, own, g, hF, ho⟩ := g
  exact ⟨F, own, g, fun b hb => ⟨(hF b hb).1.less hn, (hF b hb).2⟩, fun b hb => Nat.le_trans hn (ho b hb)⟩
end Go.HC
namespace Go.Proofs
open Go Go.HC

theorem join_new {h : Heap} {cs ds : List Value} {a b : CellM} (ha : rCell.rep (Old h) h cs a) (hb : rCell.rep (Old h) h ds b) (sa : CellSmall a) :
    CallH Try.prog 29 #[.agg cs.toArray, .agg ds.toArray] h fun r h' => ∃ es, r = .agg es.toArray ∧ rCell.rep (Ft h.size none_ h') h' es (joinC a b) ∧ Keep none_ h h' :=
  (join_th ha Old.lt sa hb Old.lt).mono fun _ _ ⟨ds, _, e, r, k, n, t⟩ => ⟨ds, e, rCell.mono r fun b hb => ⟨⟨⟨(n b hb).1, fun _ => t b hb⟩, (n b hb).2, fun h => h⟩, rfl⟩, k⟩
theorem own_new {h : Heap} {cs : List Value} {c : CellM} (hr : rCell.rep (Old h) h cs c) (hc : CellSmall c) :
    CallH Try.prog 17 #[.agg cs.toArray] h fun r h' => ∃ ds, r = .agg ds.toArray ∧ rCell.rep (Ft h.size none_ h') h' ds c ∧ Keep none_ h h' :=
  (cellOwn_th hr Old.lt hc).mono fun _ _ ⟨ds, _, e, r, k, n, t⟩ => ⟨ds, e, rCell.mono r fun b hb => ⟨⟨⟨(n b hb).1, fun _ => t b hb⟩, (n b hb).2, fun h => h⟩, rfl⟩, k⟩

set_option maxHeartbeats 4000000 in
set_option maxRecDepth 10000 in
theorem oput_spec {n : Nat} {M : Nat → Prop} {h : Heap} {bo : Nat} {v : Value} {xs : List CellM} {own : Option Nat} {cs : List Value} {c : CellM} (hb : h[bo]? = some (.cells #[v, .func (.func 36) #[] #[]] 79 (0, 0)))
    (g : Gr rCell 31 n M h v xs own) (hM : ∀ b, M b → b < h.size) (hMo : M bo) (hno : own ≠ some bo) (hr : rCell.rep (Ft n M h) h cs c) (hs : Srt xs) (hsm : ∀ d ∈ xs, CellSmall d) (_hc : CellSmall c) (hn : xs.length < 1000000) (hn0 : n ≤ h.size) :
    CallH Try.prog 38 #[.pointer (some ⟨bo, 0, none⟩), .agg cs.toArray, .func (.func 29) #[] #[]] h fun r h' => r = .tuple #[] ∧ ∃ M' v' own', Tr M M' h h' ∧ (∀ b, M b → M' b) ∧
      h'[bo]? = some (.cells #[v', .func (.func 36) #[] #[]] 79 (0, 0)) ∧ Gr rCell 31 n M' h' v' (putC xs c) own' ∧ (∀ b, own' = some b → own = some b ∨ h.size ≤ b) := by
  refine callH_by fun K hK => ?_
  refine enter [] Try.func38 rfl rfl (by kernel_rfl) rfl ?_
  obtain ⟨ka, kc, sa, sc, na, nc, xa, xc, rfl, r1, r2, r3, r4⟩ := cell_open hr
  obtain ⟨va, vn, vc, ev, hvn⟩ := g.vals
  subst ev
  have tH : Tr M M h h := ⟨.refl _ _, fun _ h => .inl h, hM⟩
  simp -dsimp [boxS_eq]
  generalize hB : Array.push h _ = h1
  have kb : Keep none_ h h1 := by rw [← hB]; exact .push _ _ _
  have t1 := tH.call kb
  have hC : h1[h.size]? = some (.cells #[.slice ka c.key.length kc, .int .i64 c.count, .slice sa c.sum.length sc, .slice na c.mn.length nc, .slice xa c.mx.length xc] 31 (0, 0)) := by rw [← hB]; exact push_new _ _
  have hb1 := kb.at hb (fun h => h)
  have hlb := lt_of_blk hb
  have g1 := g.call kb
  have c1 := rCell.mono hr (t1.ft (Nat.le_refl n))
  have hone : ∀ b, own = some b → 0 ≤ b := fun _ _ => Nat.zero_le _
  have l1 : SlRep rCell (Old h1) h1 _ xs := g1.rep (Nat.zero_le n) hone
  refine drawn_by [⟨0, true, []⟩, ⟨1, true, []⟩, ⟨2, true, []⟩, ⟨3, true, []⟩, ⟨4, true, []⟩, ⟨5, true, []⟩, ⟨6, true, []⟩, ⟨7, true, []⟩, ⟨8, true, []⟩, ⟨9, false, []⟩, ⟨10, true, []⟩, ⟨11, true, []⟩, ⟨12, true, []⟩, ⟨13, true, []⟩, ⟨14, true, []⟩] (by kernel_rfl) (by kernel_rfl) ?_
  simp -dsimp [hb1, hC]
  refine call_by (bsearch_spec (by simp) groupCmp l1 (rCell.mono c1 (Ft.free (Nat.zero_le _))) hs hn) ?_
  rintro _ h2 ⟨rfl, k2⟩
  have t2 := t1.call k2
  have hC2 := k2.at hC (fun h => h)
  have hb2 := k2.at hb1 (fun h => h)
  have g2 := g1.call k2
  have c2 := rCell.mono c1 (t1.here.call k2 |>.ft (Nat.le_refl n))
  obtain ⟨i, ei⟩ : ∃ i, i = posC xs c.key := ⟨_, rfl⟩
  have hpl := posC_le xs c.key
  rw [← ei] at hpl ⊢
  simp -dsimp
  by_cases h0 : ∃ hk : i < xs.length, lessM xs[i].key c.key = 0
  · obtain ⟨hil, h0⟩ := h0
    have hput : putC xs c = xs.set i (joinC xs[i] c) := by
      rw [putC_pos]
      subst ei
      rw [dif_pos ⟨hil, hil, h0⟩]
    have hin : i < vn := by omega
    rw [decide_eq_true ⟨hil, h0⟩]
    obtain ⟨bk, es, ea, eo, hre, hce⟩ := g2.elem i hil
    subst ea
    obtain ⟨ka1, kc1, sa1, sc1, na1, nc1, xa1, xc1, rfl, _⟩ := cell_open hre
    have hce' : HC.cellsIn h2[bk]? (i * 5) 5 = _ := hce
    simp -dsimp
    refine drawn_by [⟨0, true, []⟩, ⟨1, true, []⟩, ⟨2, true, []⟩, ⟨3, true, []⟩, ⟨4, true, []⟩, ⟨5, true, []⟩, ⟨6, true, []⟩, ⟨7, true, []⟩, ⟨8, true, []⟩, ⟨9, true, []⟩, ⟨10, true, []⟩, ⟨11, true, []⟩, ⟨12, true, []⟩, ⟨13, true, []⟩, ⟨14, false, [0, 1, 2, 3, 4]⟩, ⟨15, true, []⟩, ⟨16, false, []⟩] (by kernel_rfl) (by kernel_rfl) ?_
    simp -dsimp [hb2, hC2, idxV_nat hin, elSz_eq, hce']
    refine call_by (join_new (rCell.mono hre (Ft.free (Nat.zero_le _))) (rCell.mono c2 (Ft.free (Nat.zero_le _))) (hsm _ (List.getElem_mem hil))) ?_
    rintro _ h3 ⟨fs, rfl, r3', k3⟩
    have t3 := t2.call k3
    obtain ⟨bk', m', c', o', hv, hm', ho4, hw, g4⟩ := (g2.call k3).setE (i := i) hil (rCell.mono r3' (t2.ret (Nat.le_trans hn0 t2.size)))
    cases hv
    obtain ⟨ka5, kc5, sa5, sc5, na5, nc5, xa5, xc5, rfl, _⟩ := cell_open r3'
    have hw' : writeIn h3[bk]? (i * 5) _ = some o' := hw
    have hb3 := k3.at hb2 (fun h => h)
    have hne : bk ≠ bo := fun e => hno (by rw [ho4, e])
    simp -dsimp [hb3, idxV_nat hin, elSz_eq, again_cons, hw']
    exact hK _ _ ⟨rfl, M, _, own, t3.set o' (g.mu bk ho4), fun _ h => h, (set_other _ hne).trans hb3, by rw [hput]; exact g4, fun b hb => .inl hb⟩
  · rw [decide_eq_false h0]
    have hput : putC xs c = xs.take i ++ c :: xs.drop i := by
      rw [putC_pos, ← ei, dif_neg]
      rintro ⟨_, hx⟩; exact h0 hx
    simp -dsimp
    refine drawn_by [⟨0, true, []⟩, ⟨1, true, []⟩, ⟨2, true, []⟩, ⟨3, true, []⟩, ⟨4, true, []⟩, ⟨5, true, []⟩, ⟨6, true, []⟩, ⟨7, false, [0, 1, 2, 3, 4, 5]⟩, ⟨8, false, [0]⟩, ⟨9, true, []⟩, ⟨10, true, []⟩, ⟨11, false, []⟩] (by kernel_rfl) (by kernel_rfl) ?_
    have hb2p : ∀ o, (h2.push o)[bo]? = _ := fun o => push_at hb2
    simp -dsimp [hb2, hb2p, hC2, again_cons]
    generalize hB3 : Array.push h2 _ = h3
    have k3 : Keep none_ h2 h3 := by rw [← hB3]; exact .push _ _ _
    have t3 := t2.call k3
    have hN : h3[h2.size]? = some (.cells [.slice ka c.key.length kc, .int .i64 c.count, .slice sa c.sum.length sc, .slice na c.mn.length nc, .slice xa c.mx.length xc].toArray 31 (0, 0)) := by rw [← hB3]; exact push_new _ _
    refine call_by (insert_spec (g2.call k3) t3.lt hpl hn hN (fun hm => by have := t2.lt _ hm; omega) (rCell.mono c2 (t2.here.call k3 |>.ft (Nat.le_refl n)))) ?_
    rintro v4 h4 ⟨own4, g4, t4, k4, ho4⟩
    have hb3 := k3.at hb2 (fun h => h)
    have hb4 := k4.at hb3 hno
    have hl4 := lt_of_blk hb3
    obtain ⟨va4, vn4, vc4, ev4, _⟩ := g4.vals
    subst ev4
    simp -dsimp [hb4, again_cons]
    have hno4 : own4 ≠ some bo := fun e => (ho4 _ e).elim hno (fun h => by omega)
    have hs2 := t3.size
    refine hK _ _ ⟨rfl, _, _, own4, (t3.trans t4).set _ (.inl hMo), fun _ h => .inl h, set_same _ (lt_of_blk hb4), by rw [hput]; exact g4.set _ (.inl hMo) hno4, fun b hb => (ho4 b hb).imp id fun h => by omega⟩

set_option maxHeartbeats 4000000 in
set_option maxRecDepth 10000 in
/-- The group-by, in memory of its own. -/
theorem cgroup_spec {h : Heap} {v : Value} {l : List CellM} (hl : SlRep rCell (Old h) h v l) (hn : l.length < 1000000) (hsm : ∀ d ∈ l, CellSmall d) :
    CallH Try.prog 25 #[v] h fun r h' => NewC 31 h.size h' r (groupC l) ∧ Keep none_ h h' := by
  refine callH_by fun K hK => ?_
  refine enter [.tmp 2] Try.func25 rfl rfl (by kernel_rfl) rfl ?_
  obtain ⟨a0, c0, rfl, hc0, hc0'⟩ := hl.val
  simp -dsimp
  rw [push_set rfl]
  refine loopc (σ := Nat) (fun k => [(3, .pointer (some ⟨h.size, 0, none⟩)), (7, .slice a0 l.length c0), (8, .int .i64 l.length), (9, .int .i64 k)])
    (fun k h1 => ∃ M v own, Tr none_ M h h1 ∧ M h.size ∧ h1[h.size]? = some (.cells #[v, .func (.func 36) #[] #[]] 79 (0, 0)) ∧ Gr rCell 31 h.size M h1 v (groupC (l.take k)) own ∧ (∀ b, own = some b → h.size + 1 ≤ b) ∧ k ≤ l.length)
    (fun k => l.length - k) 0 0 (fun k _ => k = l.length) noRet noRet_le (by simp) ⟨_, _, none, (Tr.start h).pushM _, .inr rfl, push_new _ _, .nil _ _ _ _ _, (fun _ h => by cases h), Nat.zero_le _⟩ (by kernel_rfl) ?_ ?_
  · rintro k h1 g ⟨M, v, own, t1, hMo, hb1, g1, ho, hk⟩
    have wk := wrap_succ (k := k) (by omega)
    by_cases hkl : k < l.length
    · obtain ⟨b1, o1, cs, e1, _, hrep, hx1⟩ := (hl.mono t1.old).get k hkl
      obtain ⟨ka, kc, sa, sc, na, nc, xa, xc, rfl, _⟩ := cell_open hrep
      have hx1' : HC.cellsIn h1[b1]? (o1 + k * 5) 5 = _ := hx1
      simp -dsimp [hkl, e1, idxA_nat hkl, hx1']
      rw [push_set rfl]
      generalize hB2 : Array.push h1 _ = h2
      have k2 : Keep none_ h1 h2 := by rw [← hB2]; exact .push _ _ _
      have t2 := t1.call k2
      have hck := hsm _ (List.getElem_mem hkl)
      refine call_by (own_new (rCell.mono (rCell.mono hrep (t1.here.call k2 |>.ft (Nat.le_refl 0))) (Ft.free (Nat.le_refl 0))) hck) ?_
      rintro _ h3 ⟨ds, rfl, r3, k3⟩
      have t3 := t2.call k3
      have hb3 := (k2.trans k3 fun _ _ h => h).at hb1 (fun h => h)
      have hgl := groupC_le (l.take k)
      rw [List.length_take] at hgl
      simp -dsimp
      refine call_by (oput_spec hb3 ((g1.call k2).call k3) t3.lt hMo (fun e => by have := ho _ e; omega) (rCell.mono r3 (t2.ret t2.size)) (grp_group _).srt (small_group fun d hd => hsm d (List.mem_of_mem_take hd)) hck (by omega) t3.size) ?_
      rintro _ h4 ⟨rfl, M4, v4, own4, t4, hM4, hb4, g4, ho4⟩
      simp -dsimp [wk]
      have hl3 := lt_of_blk hb3
      refine ⟨k + 1, by simp [e1], rfl, ⟨M4, v4, own4, t3.trans t4, hM4 _ hMo, hb4, ?_, fun b hb => (ho4 b hb).elim (ho b) (fun h => by omega), by omega⟩, by show l.length - (k + 1) < l.length - k; omega⟩
      rw [group_take hkl]; exact g4
    · simp -dsimp [hkl]
      exact ⟨rfl, k, by simp, rfl, ⟨M, v, own, t1, hMo, hb1, g1, ho, hk⟩, by omega⟩
  · rintro k h1 g ⟨M, v, own, t1, hMo, hb1, g1, ho, hk⟩ hkl
    have hkl' : k = l.length := hkl
    rw [hkl', List.take_length] at g1
    obtain ⟨va, vn, vc, ev, hvn⟩ := g1.vals
    subst ev
    simp -dsimp [hb1]
    have hgl := groupC_le l
    refine call_by (cloneCell_spec g1.grow Ft.lt (by omega)) ?_
    rintro _ h2 ⟨own2, g2, k2, ho2⟩
    obtain ⟨a2, c2, rfl⟩ := g2.val
    simp -dsimp
    exact hK _ _ ⟨⟨_, own2, g2, fun b hb => ⟨hb.1.at (Nat.le_refl _) (k2.blk b hb.2.1 (fun h => h)), Nat.lt_of_lt_of_le hb.2.1 k2.size⟩, fun b hb => Nat.le_trans t1.size (ho2 b hb)⟩, t1.keep.trans k2 fun _ _ h => h⟩
end Go.Proofs

/-
  'slices.SortFunc[[]api.Cell,api.Cell]' of the library at this program's numbers, laid for the kit's contract; printed by a program of this work (wip/tools/lay2.py).
-/
namespace Go.Proofs
open Go.RowKit Go.Sort Go.Shelf
def Try.sortC_ren : Go.Shelf.Ren := ⟨fun | 6 => 51 | 15 => 54 | 14 => 60 | 28 => 70 | 29 => 71 | 20 => 75 | 21 => 76 | 22 => 77 | 23 => 78 | 24 => 79 | 25 => 80 | 26 => 81 | 27 => 82 | 46 => 89 | 47 => 84 | 48 => 85 | 49 => 90 | 50 => 91 | 57 => 93 | n => n, fun | 22 => 24 | 24 => 31 | 25 => 66 | 3 => 3 | 39 => 81 | 0 => 0 | 53 => 110 | 55 => 112 | 4 => 4 | 46 => 104 | 45 => 103 | 50 => 64 | 5 => 5 | 9 => 9 | 66 => 120 | 70 => 124 | 76 => 128 | 77 => 129 | n => n, fun n => n⟩
theorem Try.sortC : SlLaysF0.n6 Try.prog Try.sortC_ren where
  mixed := by kernel_rfl
  f6 := ⟨"slices.SortFunc[[]hypercube/api.Cell,hypercube/api.Cell]", by decide, Try.func51.trans (congrArg some (by kernel_rfl))⟩
  f14 := ⟨"slices.pdqsortCmpFunc[hypercube/api.Cell]", by decide, Try.func60.trans (congrArg some (by kernel_rfl))⟩
  f15 := Try.func54.trans (congrArg some (by kernel_rfl))
  f20 := ⟨"slices.insertionSortCmpFunc[hypercube/api.Cell]", by decide, Try.func75.trans (congrArg some (by kernel_rfl))⟩
  f21 := ⟨"slices.heapSortCmpFunc[hypercube/api.Cell]", by decide, Try.func76.trans (congrArg some (by kernel_rfl))⟩
  f22 := ⟨"slices.breakPatternsCmpFunc[hypercube/api.Cell]", by decide, Try.func77.trans (congrArg some (by kernel_rfl))⟩
  f23 := ⟨"slices.choosePivotCmpFunc[hypercube/api.Cell]", by decide, Try.func78.trans (congrArg some (by kernel_rfl))⟩
  f24 := ⟨"slices.reverseRangeCmpFunc[hypercube/api.Cell]", by decide, Try.func79.trans (congrArg some (by kernel_rfl))⟩
  f25 := ⟨"slices.partialInsertionSortCmpFunc[hypercube/api.Cell]", by decide, Try.func80.trans (congrArg some (by kernel_rfl))⟩
  f26 := ⟨"slices.partitionEqualCmpFunc[hypercube/api.Cell]", by decide, Try.func81.trans (congrArg some (by kernel_rfl))⟩
  f27 := ⟨"slices.partitionCmpFunc[hypercube/api.Cell]", by decide, Try.func82.trans (congrArg some (by kernel_rfl))⟩
  f28 := Try.func70.trans (congrArg some (by kernel_rfl))
  f29 := Try.func71.trans (congrArg some (by kernel_rfl))
  f46 := ⟨"slices.siftDownCmpFunc[hypercube/api.Cell]", by decide, Try.func89.trans (congrArg some (by kernel_rfl))⟩
  f47 := Try.func84.trans (congrArg some (by kernel_rfl))
  f48 := Try.func85.trans (congrArg some (by kernel_rfl))
  f49 := ⟨"slices.medianAdjacentCmpFunc[hypercube/api.Cell]", by decide, Try.func90.trans (congrArg some (by kernel_rfl))⟩
  f50 := ⟨"slices.medianCmpFunc[hypercube/api.Cell]", by decide, Try.func91.trans (congrArg some (by kernel_rfl))⟩
  f57 := ⟨"slices.order2CmpFunc[hypercube/api.Cell]", by decide, Try.func93.trans (congrArg some (by kernel_rfl))⟩
  t0 := Try.underlying0
  a0 := Try.isAgg0
  z0 := Try.sizeOf0
  v0 := Try.zeroValue0
  t3 := Try.underlying3
  a3 := Try.isAgg3
  z3 := Try.sizeOf3
  v3 := Try.zeroValue3
  t4 := Try.underlying4
  a4 := Try.isAgg4
  z4 := Try.sizeOf4
  v4 := Try.zeroValue4
  t5 := Try.underlying5
  a5 := Try.isAgg5
  z5 := Try.sizeOf5
  v5 := Try.zeroValue5
  t9 := Try.underlying9
  a9 := Try.isAgg9
  z9 := Try.sizeOf9
  v9 := Try.zeroValue9
  t22 := Try.underlying24
  a22 := Try.isAgg24
  z22 := Try.sizeOf24
  v22 := Try.zeroValue24
  t25 := Try.underlying66
  a25 := Try.isAgg66
  z25 := Try.sizeOf66
  v25 := Try.zeroValue66
  t39 := Try.underlying81
  a39 := Try.isAgg81
  z39 := Try.sizeOf81
  v39 := Try.zeroValue81
  t45 := Try.underlying103
  a45 := Try.isAgg103
  z45 := Try.sizeOf103
  v45 := Try.zeroValue103
  t46 := Try.underlying104
  a46 := Try.isAgg104
  z46 := Try.sizeOf104
  v46 := Try.zeroValue104
  t50 := Try.underlying64
  a50 := Try.isAgg64
  z50 := Try.sizeOf64
  v50 := Try.zeroValue64
  t53 := Try.underlying110
  a53 := Try.isAgg110
  z53 := Try.sizeOf110
  v53 := Try.zeroValue110
  t55 := Try.underlying112
  a55 := Try.isAgg112
  z55 := Try.sizeOf112
  v55 := Try.zeroValue112
  t66 := Try.underlying120
  a66 := Try.isAgg120
  z66 := Try.sizeOf120
  v66 := Try.zeroValue120
  t70 := Try.underlying124
  a70 := Try.isAgg124
  z70 := Try.sizeOf124
  v70 := Try.zeroValue124
  t76 := Try.underlying128
  a76 := Try.isAgg128
  z76 := Try.sizeOf128
  v76 := Try.zeroValue128
  t77 := Try.underlying129
  a77 := Try.isAgg129
  z77 := Try.sizeOf129
  v77 := Try.zeroValue129
end Go.Proofs

/-
  The library's sort of cells, by the kit's contract.
-/
namespace Go.HC
open Go.Sort Go.Proofs
/-- What a call did that changes no old block: draws, and blocks behind. -/
theorem same_grow {w w' : World} (s : Same w w') (k : Keep none_ w.heap w'.heap) : ∃ q os, w' = grow (w.drewN q) os := by
  obtain ⟨h1, h2, h3, h4⟩ := s
  refine ⟨w'.drawn - w.drawn, w'.heap.extract w.heap.size w'.heap.size, ?_⟩
  have hh : w'.heap = w.heap ++ w'.heap.extract w.heap.size w'.heap.size := by
    apply Array.ext_getElem?
    intro i
    have hk := k.size
    by_cases hi : i < w.heap.size
    · rw [Array.getElem?_append_left hi, k.blk i hi (fun h => h)]
    · rw [Array.getElem?_append_right (by omega)]
      simp only [Array.getElem?_extract]
      by_cases h2 : i < w'.heap.size
      · rw [if_pos (by omega)]; congr 1; omega
      · rw [if_neg (by omega), Array.getElem?_eq_none (by omega)]
  rcases w with ⟨⟩
  rcases w' with ⟨⟩
  simp only [grow, World.drewN] at *
  subst h1 h2 h3
  rw [← hh]
  congr 1
  omega
/-- Data with the cells that show them. -/
abbrev Shown {α : Type} (R : Rp α) (F : Nat → Prop) (h : Heap) := {p : List Value × α // R.rep F h p.1 p.2}
theorem elems_shown {α : Type} {R : Rp α} {F : Nat → Prop} {h : Heap} : ∀ {xs : List α} {cs : List Value}, Elems R F h cs xs → ∃ l : List (Shown R F h), l.map (fun p => p.1.2) = xs ∧ l.flatMap (fun p => p.1.1) = cs
  | [], cs, he => ⟨[], rfl, (show cs = [] from he).symm⟩
  | x :: xs, cs, ⟨c1, c2, e, hr, he⟩ => by
    obtain ⟨l, h1, h2⟩ := elems_shown he
    refine ⟨⟨(c1, x), hr⟩ :: l, ?_, ?_⟩
    · rw [List.map_cons, h1]
    · rw [List.flatMap_cons, h2, e]
theorem shown_elems {α : Type} {R : Rp α} {F : Nat → Prop} {h : Heap} : ∀ l : List (Shown R F h), Elems R F h (l.flatMap (fun p => p.1.1)) (l.map (fun p => p.1.2))
  | [] => rfl
  | p :: l => ⟨p.1.1, _, List.flatMap_cons, p.2, shown_elems l⟩
theorem flat_list {α : Type} [Inhabited α] {enc : α → List Value} {k : Nat} (hk : ∀ x, (enc x).length = k) (k0 : 0 < k) (l : List α) : (flatK enc k l.toArray).toList = l.flatMap enc := by
  have key : ∀ (l : List α) (j : Nat), (l.flatMap enc)[j]? = (l[j / k]?).bind fun x => (enc x)[j % k]? := by
    intro l
    induction l with
    | nil => intro j; simp
    | cons x l ih =>
      intro j
      rw [List.flatMap_cons]
      by_cases hj : j < k
      · rw [List.getElem?_append_left (by rw [hk]; exact hj), Nat.div_eq_of_lt hj, Nat.mod_eq_of_lt hj]; simp
      · rw [List.getElem?_append_right (by rw [hk]; omega), hk, ih]
        have e1 : j / k = (j - k) / k + 1 := by
          conv => lhs; rw [show j = (j - k) + k by omega]
          rw [Nat.add_div_right _ k0]
        have e2 : j % k = (j - k) % k := by
          conv => lhs; rw [show j = (j - k) + k by omega]
          rw [Nat.add_mod_right]
        rw [e1, e2, List.getElem?_cons_succ]
  have hlen : ∀ l : List α, (l.flatMap enc).length = l.length * k := by
    intro l
    induction l with
    | nil => simp
    | cons x l ih => rw [List.flatMap_cons, List.length_append, ih, hk, List.length_cons, Nat.add_mul, Nat.one_mul]; omega
  apply List.ext_getElem?
  intro j
  rw [key]
  by_cases hj : j < l.length * k

  · have hs : j < (flatK enc k l.toArray).size := by rw [size_flatK]; exact hj
    have hd : j / k < l.length := Nat.div_lt_of_lt_mul (by rw [Nat.mul_comm]; exact hj)
    rw [Array.getElem?_toList, Array.getElem?_eq_getElem hs, ← getElem!_pos (flatK enc k l.toArray) j hs, get_flatK _ _ _ _ (by simpa using hj)]
    rw [List.getElem?_eq_getElem hd, Option.bind_some, getElem!_pos l.toArray (j / k) (by simpa using hd)]
    have hm : j % k < (enc l[j / k]).length := by rw [hk]; exact Nat.mod_lt _ k0
    simp only [List.getElem_toArray]
    rw [getElem!_pos (enc l[j / k]) (j % k) hm, List.getElem?_eq_getElem hm]
  · rw [Array.getElem?_toList, Array.getElem?_eq_none (by rw [size_flatK]; simp; omega)]
    have : l.length ≤ j / k := (Nat.le_div_iff_mul_le k0).2 (by omega)
    rw [List.getElem?_eq_none this]; rfl
/-- Cells by their keys, none behind a greater one. -/
def Ris (l : List CellM) : Prop := l.Pairwise fun a b => lessM a.key b.key ≤ 0
theorem lessM_nle {xs ys : List Int} : ¬ lessM xs ys < 0 ↔ lessM ys xs ≤ 0 := by
  rw [lessM_neg xs ys]; omega
theorem lessM_letrans {xs ys zs : List Int} (h1 : lessM xs ys ≤ 0) (h2 : lessM ys zs ≤ 0) : lessM xs zs ≤ 0 := by
  rcases Int.lt_or_eq_of_le h1 with h1 | h1
  · rcases Int.lt_or_eq_of_le h2 with h2 | h2
    · exact Int.le_of_lt (lessM_trans h1 h2)
    · rw [lessM_zero] at h2; subst h2; exact Int.le_of_lt h1
  · rw [lessM_zero] at h1; subst h1; exact h2
theorem swo_key {α : Type} (key : α → List Int) : SWO (ltOf fun x y : α => lessM (key x) (key y)) where
  irrefl x := by unfold ltOf; simp [lessM_self]
  trans x y z h1 h2 := by
    unfold ltOf at *
    simp only [decide_eq_true_eq] at *
    exact lessM_trans h1 h2
  ntrans x y z h1 h2 := by
    unfold ltOf at *
    simp only [decide_eq_false_iff_not, lessM_nle] at *
    exact lessM_letrans h2 h1
/-- Sorted, grouped cells stand as the group-by has them. -/
theorem ris_group {x l : List CellM} (hp : x.Perm (groupC l)) (hr : Ris x) : x = groupC l := by
  have hg := grp_group l
  refine hp.eq_of_pairwise (le := fun a b : CellM => lessM a.key b.key ≤ 0) ?_ hr (hg.srt.imp fun h => Int.le_of_lt h)
  intro a b ha hb h1 h2
  have hk : a.key = b.key := by
    rw [lessM_neg a.key b.key] at h2
    exact lessM_zero.1 (by omega)
  have ha' := (hg.mem a).1 (hp.mem_iff.1 ha)
  have hb' := (hg.mem b).1 hb
  rw [hk, hb'] at ha'
  exact (Option.some.inj ha').symm
end Go.HC
namespace Go.Proofs
open Go Go.HC Go.Sort

set_option maxRecDepth 10000 in
theorem fitCmp : CmpC 52 := by
  intro h cs ds a b ha hb
  refine callH_by fun K hK => ?_
  refine enter [.tmp 4] Try.func52 rfl rfl (by kernel_rfl) rfl ?_
  obtain ⟨ka, kc, sa, sc, na, nc, xa, xc, rfl, r1, _⟩ := cell_open ha
  obtain ⟨ka', kc', sa', sc', na', nc', xa', xc', rfl, q1, _⟩ := cell_open hb
  simp -dsimp [boxS_eq]
  generalize hB : Array.push (Array.push h _) _ = h1
  have k1 : Keep none_ h h1 := by rw [← hB]; exact ((Keep.refl none_ h).pushed _).pushed _
  have hA : h1[h.size]? = some (.cells #[.slice ka a.key.length kc, .int .i64 a.count, .slice sa a.sum.length sc, .slice na a.mn.length nc, .slice xa a.mx.length xc] 31 (0, 0)) := by rw [← hB]; exact push_at (push_new _ _)
  have hB1 : h1[h.size + 1]? = some (.cells #[.slice ka' b.key.length kc', .int .i64 b.count, .slice sa' b.sum.length sc', .slice na' b.mn.length nc', .slice xa' b.mx.length xc'] 31 (0, 0)) := by rw [← hB]; exact push_get (by simp)
  simp -dsimp [hA, hB1]
  refine call_by (cless_spec (r1.mono ((Tr.of k1).ft (Nat.le_refl 0))) (q1.mono ((Tr.of k1).ft (Nat.le_refl 0)))) ?_
  rintro _ h2 ⟨rfl, hh⟩
  subst h2
  simp -dsimp
  exact hK _ _ ⟨rfl, k1⟩

theorem sortH {α : Type} [Inhabited α] (enc : α → List Value) (w : World) (blk n : Nat) (d : Array α) (os : Array Obj) :
    (sortWorldK enc 5 w blk 0 n d os).heap = (w.heap.modify blk (Sort.onCells (Sort.putCells id 0 (flatK enc 5 d)))) ++ os := rfl

set_option maxHeartbeats 4000000 in
/-- The sort of cells, in place. -/
theorem sortc_spec {f : FuncId} (hf : ∀ args w, (callFunc f args).run Try.prog w = .ok (.enter f args) w) (hcmp : CmpC f) {F : Nat → Prop} {h : Heap} {v : Value} {xs : List CellM} {own : Option Nat}
    (g : Grow rCell 31 F h v xs own) (hF : ∀ b, F b → b < h.size) (hn : xs.length < 1099511627776) :
    CallH Try.prog 51 #[v, .func (.func f) #[] #[]] h fun r h' => r = .tuple #[] ∧ ∃ ys, ys.Perm xs ∧ Ris ys ∧ Grow rCell 31 F h' v ys own ∧ Keep (fun b => own = some b) h h' := by
  rcases g with ⟨rfl, rfl, rfl⟩ | ⟨bk, c, arr, cs, rfl, rfl, h1, h2, h3, h4, h5, h6, h7⟩
  · intro w hw
    refine (AnyF.slices_SortFunc_none Try.sortC none 0 _ w).mono ?_
    rintro e w' ⟨rfl, rfl⟩
    exact ⟨_, rfl, .refl _, rfl, [], List.Perm.nil, List.Pairwise.nil, hw ▸ .nil _ _ _ _, hw ▸ .refl _ _⟩
  · intro w hw
    subst hw
    obtain ⟨l, hl1, hl2⟩ := elems_shown h7
    have hll : l.length = xs.length := by rw [← hl1, List.length_map]
    have h3' : arr.size = c * 5 := h3
    have h6' : arr.toList.take (xs.length * 5) = cs := h6
    have hbk := lt_of_blk h1
    have hk : ∀ x : Shown rCell F w.heap, x.1.1.length = 5 := fun x => rCell.len x.2
    haveI : Inhabited (Shown rCell F w.heap) := ⟨⟨([.slice none 0 0, .int .i64 0, .slice none 0 0, .slice none 0 0, .slice none 0 0], ⟨[], 0, [], [], []⟩), ⟨_, _, _, _, rfl, .nil _ _ _, .nil _ _ _, .nil _ _ _, .nil _ _ _⟩⟩⟩
    have hfl := flat_list (enc := fun p : Shown rCell F w.heap => p.1.1) hk (by decide) l
    have hH : HoldsK (fun p : Shown rCell F w.heap => p.1.1) 5 w bk 0 l.toArray := by
      intro j hj
      have hj' : j < xs.length * 5 := by rw [size_flatK] at hj; simpa [hll] using hj
      have hjc : j < arr.size := by omega
      constructor
      · show cellH w.heap _ = _
        unfold cellH
        simp only [h1, Nat.zero_add, Option.isSome_none, Bool.false_eq_true, if_false]
        rw [getElem!_pos _ j hj]
        have e1 : (flatK (fun p : Shown rCell F w.heap => p.1.1) 5 l.toArray).toList[j]? = arr.toList[j]? := by
          rw [hfl, hl2, ← h6', List.getElem?_take, if_pos hj']
        rw [Array.getElem?_toList, Array.getElem?_toList, Array.getElem?_eq_getElem hj] at e1
        exact e1.symm
      · show frozenH w.heap _ = _
        unfold frozenH
        simp [h1]
    have hc := AnyQ.slices_SortFunc Try.sortC 5 Try.isAgg31 Try.sizeOf31 (fun p : Shown rCell F w.heap => p.1.1) hk (fun x v hv => List.all_eq_true.1 (rCell.one x.2) v hv)
      (fun x y => lessM x.1.2.key y.1.2.key) (swo_key _) f #[] bk 0 c l.toArray w hf (by
        intro m os dk hdk x y
        have kS : Keep (fun b => b = bk) w.heap (sortWorldK (fun p : Shown rCell F w.heap => p.1.1) 5 w bk 0 m dk os).heap := by
          rw [sortH]
          refine ⟨by simp, fun b hb hne => ?_⟩
          rw [Array.getElem?_append_left (by simpa using hb), Array.getElem?_modify, if_neg (fun e => hne e.symm)]
        generalize sortWorldK (fun p : Shown rCell F w.heap => p.1.1) 5 w bk 0 m dk os = W at kS ⊢
        have hr : ∀ p : Shown rCell F w.heap, rCell.rep (Old W.heap) W.heap p.1.1 p.1.2 := fun p => rCell.mono p.2 fun b hb => ⟨⟨nz, Nat.lt_of_lt_of_le (hF b hb) kS.size, fun h => h⟩, kS.blk b (hF b hb) (fun e => h2 (e ▸ hb))⟩
        refine (hcmp (hr x) (hr y) W rfl).mono ?_
        rintro e w' ⟨v, rfl, s, rfl, k⟩
        exact ⟨rfl, same_grow s k⟩) hH hbk (by simp [hll]; omega)
    have hsz : l.toArray.size = xs.length := by simp [hll]
    rw [hsz] at hc
    refine hc.mono ?_
    rintro e w' ⟨rfl, d', n, os, hp, hs, rfl⟩
    obtain ⟨hp1, _, hp2⟩ := hp
    have hdl : d'.toList.length = xs.length := by rw [Array.length_toList, hp1, hsz]
    have hpl : d'.toList.Perm l := by
      have e1 : d'.extract 0 xs.length = d' := by
        rw [← hsz, ← hp1, Array.extract_size]
      have e2 : l.toArray.extract 0 xs.length = l.toArray := by
        rw [← hsz, Array.extract_size]
      rw [e1, e2] at hp2
      exact hp2
    have hfd := flat_list (enc := fun p : Shown rCell F w.heap => p.1.1) hk (by decide) d'.toList
    rw [Array.toArray_toList] at hfd
    refine ⟨_, rfl, ⟨rfl, rfl, rfl, by simp [sortWorldK, putRowK, putRow, mapBlock, grow]⟩, rfl, d'.toList.map (fun p => p.1.2), ?_, ?_, ?_, ?_⟩
    · rw [← hl1]; exact hpl.map _
    · unfold Ris
      rw [List.pairwise_map, List.pairwise_iff_getElem]
      intro i j hi hj hij
      have h0 := hs i j (Nat.zero_le _) hij (by omega)
      rw [getElem!_pos d' j (by simpa using hj), getElem!_pos d' i (by simpa using hi)] at h0
      unfold ltOf at h0
      rw [decide_eq_false_iff_not, lessM_nle] at h0
      exact h0
    · refine .inr ⟨bk, c, Sort.putCells id 0 (flatK (fun p : Shown rCell F w.heap => p.1.1) 5 d') arr, (flatK (fun p : Shown rCell F w.heap => p.1.1) 5 d').toList, by rw [List.length_map, hdl], rfl, ?_, h2, by simp only [Sort.putCells, Array.size_mapIdx]; exact h3, by rw [List.length_map, hdl]; exact h4, h5, ?_, ?_⟩
      · rw [sortH, Array.getElem?_append_left (by simpa using hbk), Array.getElem?_modify, if_pos rfl, h1]
        rfl
      · rw [List.length_map, hdl]
        apply List.ext_getElem?
        intro i
        have hs5 : (flatK (fun p : Shown rCell F w.heap => p.1.1) 5 d').size = xs.length * 5 := by rw [size_flatK, hp1, hsz]
        generalize flatK (fun p : Shown rCell F w.heap => p.1.1) 5 d' = fl at hs5 ⊢
        rw [List.getElem?_take, Array.getElem?_toList, Array.getElem?_toList]
        have hz : rCell.sz = 5 := rfl
        rw [hz]
        by_cases hi : i < xs.length * 5
        · have hi' : i < arr.size := by omega
          have hi2 : i < fl.size := by omega
          rw [if_pos hi, Array.getElem?_eq_getElem hi2]
          simp only [Sort.putCells, Array.getElem?_mapIdx, Array.getElem?_eq_getElem hi', Option.map_some, id]
          rw [if_pos ⟨Nat.zero_le _, by omega⟩, Nat.sub_zero, getElem!_pos fl i hi2]
        · rw [if_neg hi, Array.getElem?_eq_none (by omega)]
      · rw [hfd]
        exact (shown_elems d'.toList).mono fun b hb => ⟨hb, by
          rw [sortH, Array.getElem?_append_left (by simpa using hF b hb), Array.getElem?_modify, if_neg (fun e => h2 (by rw [e]; exact hb))]⟩
    · rw [sortH]
      refine ⟨by simp, fun b hb hne => ?_⟩
      rw [Array.getElem?_append_left (by simpa using hb), Array.getElem?_modify, if_neg (fun e => hne (by rw [e]))]
end Go.Proofs

/-
  'slices.Sort[[]int,int]' of the library at this program's numbers, laid for the kit's contract; printed by a program of this work (wip/tools/lay2.py).
-/
namespace Go.Proofs
open Go.RowKit Go.Sort Go.Shelf
def Try.sortI_ren : Go.Shelf.Ren := ⟨fun | 5 => 35 | 8 => 54 | 7 => 53 | 19 => 70 | 20 => 71 | 10 => 61 | 11 => 62 | 12 => 63 | 13 => 64 | 14 => 65 | 15 => 66 | 16 => 67 | 17 => 68 | 18 => 69 | 30 => 83 | 31 => 84 | 32 => 85 | 33 => 86 | 34 => 87 | 35 => 88 | 40 => 92 | n => n, fun | 23 => 29 | 25 => 3 | 3 => 3 | 32 => 81 | 22 => 29 | 0 => 0 | 44 => 110 | 46 => 112 | 4 => 4 | 36 => 104 | 35 => 103 | 41 => 64 | 5 => 5 | 9 => 9 | 53 => 120 | 57 => 124 | 63 => 128 | 64 => 129 | n => n, fun n => n⟩
theorem Try.sortI : SlLaysM.n5 Try.prog Try.sortI_ren where
  mixed := by kernel_rfl
  f5 := ⟨"slices.Sort[[]int,int]", by decide, Try.func35.trans (congrArg some (by kernel_rfl))⟩
  f7 := ⟨"slices.pdqsortOrdered[int]", by decide, Try.func53.trans (congrArg some (by kernel_rfl))⟩
  f8 := Try.func54.trans (congrArg some (by kernel_rfl))
  f10 := ⟨"slices.insertionSortOrdered[int]", by decide, Try.func61.trans (congrArg some (by kernel_rfl))⟩
  f11 := ⟨"slices.heapSortOrdered[int]", by decide, Try.func62.trans (congrArg some (by kernel_rfl))⟩
  f12 := ⟨"slices.breakPatternsOrdered[int]", by decide, Try.func63.trans (congrArg some (by kernel_rfl))⟩
  f13 := ⟨"slices.choosePivotOrdered[int]", by decide, Try.func64.trans (congrArg some (by kernel_rfl))⟩
  f14 := ⟨"slices.reverseRangeOrdered[int]", by decide, Try.func65.trans (congrArg some (by kernel_rfl))⟩
  f15 := ⟨"slices.partialInsertionSortOrdered[int]", by decide, Try.func66.trans (congrArg some (by kernel_rfl))⟩
  f16 := ⟨"cmp.Less[int]", by decide, Try.func67.trans (congrArg some (by kernel_rfl))⟩
  f17 := ⟨"slices.partitionEqualOrdered[int]", by decide, Try.func68.trans (congrArg some (by kernel_rfl))⟩
  f18 := ⟨"slices.partitionOrdered[int]", by decide, Try.func69.trans (congrArg some (by kernel_rfl))⟩
  f19 := Try.func70.trans (congrArg some (by kernel_rfl))
  f20 := Try.func71.trans (congrArg some (by kernel_rfl))
  f30 := ⟨"slices.siftDownOrdered[int]", by decide, Try.func83.trans (congrArg some (by kernel_rfl))⟩
  f31 := Try.func84.trans (congrArg some (by kernel_rfl))
  f32 := Try.func85.trans (congrArg some (by kernel_rfl))
  f33 := ⟨"slices.medianAdjacentOrdered[int]", by decide, Try.func86.trans (congrArg some (by kernel_rfl))⟩
  f34 := ⟨"slices.medianOrdered[int]", by decide, Try.func87.trans (congrArg some (by kernel_rfl))⟩
  f35 := ⟨"cmp.isNaN[int]", by decide, Try.func88.trans (congrArg some (by kernel_rfl))⟩
  f40 := ⟨"slices.order2Ordered[int]", by decide, Try.func92.trans (congrArg some (by kernel_rfl))⟩
  t0 := Try.underlying0
  a0 := Try.isAgg0
  z0 := Try.sizeOf0
  v0 := Try.zeroValue0
  t3 := Try.underlying3
  a3 := Try.isAgg3
  z3 := Try.sizeOf3
  v3 := Try.zeroValue3
  t4 := Try.underlying4
  a4 := Try.isAgg4
  z4 := Try.sizeOf4
  v4 := Try.zeroValue4
  t5 := Try.underlying5
  a5 := Try.isAgg5
  z5 := Try.sizeOf5
  v5 := Try.zeroValue5
  t9 := Try.underlying9
  a9 := Try.isAgg9
  z9 := Try.sizeOf9
  v9 := Try.zeroValue9
  t22 := Try.underlying29
  a22 := Try.isAgg29
  z22 := Try.sizeOf29
  v22 := Try.zeroValue29
  t23 := Try.underlying29
  a23 := Try.isAgg29
  z23 := Try.sizeOf29
  v23 := Try.zeroValue29
  t25 := Try.underlying3
  a25 := Try.isAgg3
  z25 := Try.sizeOf3
  v25 := Try.zeroValue3
  t32 := Try.underlying81
  a32 := Try.isAgg81
  z32 := Try.sizeOf81
  v32 := Try.zeroValue81
  t35 := Try.underlying103
  a35 := Try.isAgg103
  z35 := Try.sizeOf103
  v35 := Try.zeroValue103
  t36 := Try.underlying104
  a36 := Try.isAgg104
  z36 := Try.sizeOf104
  v36 := Try.zeroValue104
  t41 := Try.underlying64
  a41 := Try.isAgg64
  z41 := Try.sizeOf64
  v41 := Try.zeroValue64
  t44 := Try.underlying110
  a44 := Try.isAgg110
  z44 := Try.sizeOf110
  v44 := Try.zeroValue110
  t46 := Try.underlying112
  a46 := Try.isAgg112
  z46 := Try.sizeOf112
  v46 := Try.zeroValue112
  t53 := Try.underlying120
  a53 := Try.isAgg120
  z53 := Try.sizeOf120
  v53 := Try.zeroValue120
  t57 := Try.underlying124
  a57 := Try.isAgg124
  z57 := Try.sizeOf124
  v57 := Try.zeroValue124
  t63 := Try.underlying128
  a63 := Try.isAgg128
  z63 := Try.sizeOf128
  v63 := Try.zeroValue128
  t64 := Try.underlying129
  a64 := Try.isAgg129
  z64 := Try.sizeOf129
  v64 := Try.zeroValue129
end Go.Proofs

/-
  The library's sort of numbers, by the kit's contract.
-/
namespace Go.HC
open Go.Sort Go.Proofs
/-- Numbers in their order. -/
def sortI (xs : List Int) : List Int := xs.mergeSort fun x y => decide (x ≤ y)
theorem sortI_perm (xs : List Int) : (sortI xs).Perm xs := List.mergeSort_perm xs _
theorem sortI_sorted (xs : List Int) : (sortI xs).Pairwise (· ≤ ·) := by
  have h := List.pairwise_mergeSort (le := fun x y : Int => decide (x ≤ y)) (fun a b c h1 h2 => by simp only [decide_eq_true_eq] at *; omega) (fun a b => by simp only [Bool.or_eq_true, decide_eq_true_eq]; omega) xs
  exact h.imp fun h => by simpa using h
theorem sortI_length (xs : List Int) : (sortI xs).length = xs.length := (sortI_perm xs).length_eq
/-- Values that stand once each, sorted. -/
theorem Vals.sort {i : Nat} {l : List CellM} {xs : List Int} (hn : xs.Nodup) (hm : ∀ v, v ∈ xs ↔ ∃ c ∈ l, atV c i = v) : Vals i l (sortI xs) := by
  refine ⟨?_, fun v => ((sortI_perm xs).mem_iff).trans (hm v)⟩
  have h1 := sortI_sorted xs
  have h2 : (sortI xs).Nodup := (sortI_perm xs).nodup_iff.2 hn
  exact (h1.and h2).imp fun {a b} h => by
    have := h.1; have := h.2; omega
end Go.HC
namespace Go.Proofs
open Go Go.HC Go.Sort

theorem sorti_spec {F : Nat → Prop} {h : Heap} {v : Value} {xs : List Int} {own : Option Nat} (hg : Grow rInt 3 F h v xs own) (hF : ∀ b, F b → b < h.size) (hn : xs.length < 1099511627776) :
    CallH Try.prog 35 #[v] h fun r h' => r = .tuple #[] ∧ Grow rInt 3 F h' v (sortI xs) own ∧ Keep (fun b => own = some b) h h' := by
  rcases hg with ⟨rfl, rfl, rfl⟩ | ⟨bk, c, arr, cs, rfl, rfl, h1, h2, h3, h4, h5, h6, h7⟩
  · intro w hw
    refine (AnyM.slices_Sort_int_none Try.sortI none 0 w).mono ?_
    rintro e w' ⟨rfl, rfl⟩
    exact ⟨_, rfl, .refl _, rfl, hw ▸ .inl ⟨rfl, by simp [sortI], rfl⟩, hw ▸ .refl _ _⟩
  · intro w hw
    subst hw
    have hcs := ints_map.1 h7
    have h3' : arr.size = c := by simpa [rInt] using h3
    have h6' : arr.toList.take xs.length = xs.map (Value.int .i64) := by
      rw [← hcs, ← h6]; simp [rInt]
    have hget : ∀ j (hj : j < xs.length), arr[j]? = some (.int .i64 xs[j]) := by
      intro j hj
      have := congrArg (·[j]?) h6'
      simp only [List.getElem?_take, hj, if_true, List.getElem?_map, List.getElem?_eq_getElem hj, Option.map_some] at this
      simpa using this
    have hc := AnyM.slices_Sort_int Try.sortI bk 0 c xs w (by
      intro j hj
      have hj' : j < xs.length := by simpa using hj
      constructor
      · show cellH w.heap _ = _
        unfold cellH
        simp only [h1, Nat.zero_add, Option.isSome_none, Bool.false_eq_true, if_false]
        rw [hget j hj']
        rw [getElem!_pos xs.toArray j (by simpa using hj')]
        simp
      · show frozenH w.heap _ = _
        unfold frozenH
        simp [h1]) (lt_of_blk h1) (by omega)
    refine hc.mono ?_
    rintro e w' ⟨rfl, n, os, rfl⟩
    have hbk := lt_of_blk h1
    have hd : (xs.mergeSort fun x y => decide (x ≤ y)) = sortI xs := rfl
    rw [hd]
    have hdl := sortI_length xs
    generalize sortI xs = d at hdl ⊢
    have hH : (Sort.grow (Sort.putRow (Value.int .i64) (Sort.ahead w n) bk 0 d.toArray) os).heap = (w.heap.modify bk (Sort.onCells (Sort.putCells (Value.int .i64) 0 d.toArray))) ++ os := rfl
    refine ⟨_, rfl, ⟨rfl, rfl, rfl, by simp [putRow, mapBlock, grow]⟩, rfl, ?_, ?_⟩
    · refine .inr ⟨bk, c, Sort.putCells (Value.int .i64) 0 d.toArray arr, d.map (Value.int .i64), by rw [hdl], rfl, ?_, h2, ?_, by rw [hdl]; exact h4, h5, ?_, ?_⟩
      · rw [hH, Array.getElem?_append_left (by simpa using hbk), Array.getElem?_modify, if_pos rfl, h1]
        rfl
      · simp only [Sort.putCells, Array.size_mapIdx]; exact h3
      · rw [hdl]
        apply List.ext_getElem?
        intro i
        simp only [List.getElem?_take, Sort.putCells]
        by_cases hi : i < xs.length
        · have : i < arr.size := by omega
          simp [rInt, hi, this, hdl]
        · simp [rInt, hi, hdl]
      · exact ints_map.2 rfl
    · refine ⟨by rw [hH]; simp, fun b hb hne => ?_⟩
      rw [hH, Array.getElem?_append_left (by simpa using hb), Array.getElem?_modify, if_neg (fun e => hne (by rw [e]))]
end Go.Proofs

/-
  Tables that are given cells, plainly: what is told of a key is what its cells come to.
-/
namespace Go.HC
/-- The table holds, of each key, what these cells come to. -/
structure Holds (T : Tab) (l : List CellM) : Prop where
  ok : TabOk T
  mem : ∀ c, (∃ k : Nat, T[k]? = some (some c)) ↔ atKey c.key l = some c
theorem Holds.new (n : Nat) : Holds (newM n) [] := ⟨newM_ok n, fun c => by
  rw [atKey_nil]
  constructor
  · rintro ⟨k, h⟩
    unfold newM at h
    rw [List.getElem?_replicate] at h
    split at h <;> cases h
  · intro h; cases h⟩
theorem Holds.get {T : Tab} {l : List CellM} (h : Holds T l) (key : List Int) : getM T key = atKey key l := by
  cases ha : atKey key l with
  | some c =>
    have hk := atKey_key ha
    obtain ⟨k, hc⟩ := (h.mem c).2 (by rw [hk]; exact ha)
    have := find_there h.ok hc
    unfold getM
    rw [← hk, this]
    simp [hc]
  | none =>
    unfold getM
    cases hf : findM T key with
    | none => rfl
    | some k =>
      obtain ⟨_, h1 | ⟨c, h1, hc⟩, _⟩ := find_spec_some hf
      · simp [h1]
      · have := (h.mem c).1 ⟨k, h1⟩
        rw [hc, ha] at this; cases this
theorem putM_at {T : Tab} {c : CellM} {k : Nat} (hf : findM T c.key = some k) : putM T c = some (T.set k (some (joinO (T[k]?).join c))) := by
  unfold putM
  rw [hf]
  simp only [Option.some.injEq]
  congr 1
  rcases T[k]? with _ | (_ | d) <;> rfl
theorem Holds.put {T T' : Tab} {l : List CellM} {c : CellM} (h : Holds T l) (hp : putM T c = some T') : Holds T' (l ++ [c]) := by
  refine ⟨(put_ok h.ok hp).1, fun d => ?_⟩
  have hg := h.get c.key
  cases hf : findM T c.key with
  | none => unfold putM at hp; rw [hf] at hp; cases hp
  | some k =>
    rw [putM_at hf] at hp
    simp only [Option.some.injEq] at hp
    obtain ⟨hk, hor, _⟩ := find_spec_some hf
    unfold getM at hg
    rw [hf] at hg
    simp only at hg
    have hat : c.key = d.key → atKey d.key l = (T[k]?).join := fun e => by rw [← e, hg]
    rw [atKey_snoc]
    have hset : ∀ j : Nat, T'[j]? = if k = j then some (some (joinO (T[k]?).join c)) else T[j]? := by
      intro j
      rw [← hp, List.getElem?_set]
      by_cases e : k = j
      · rw [if_pos e, if_pos e, if_pos hk]
      · rw [if_neg e, if_neg e]
    have hkey : (joinO (T[k]?).join c).key = c.key := by
      rcases hor with h0 | ⟨d', h0, hd'⟩
      · rw [h0]; rfl
      · rw [h0]; exact hd'
    constructor
    · rintro ⟨j, hj⟩
      by_cases e : k = j
      · subst e
        rw [hset, if_pos rfl] at hj
        simp only [Option.some.injEq] at hj
        have hcd : c.key = d.key := by rw [← hkey, hj]
        rw [if_pos hcd, hat hcd, hj]
      · rw [hset, if_neg e] at hj
        have hm := (h.mem d).1 ⟨j, hj⟩
        rw [if_neg]
        · exact hm
        · intro hk'
          have := find_there h.ok hj
          rw [← hk', hf] at this
          cases this; exact e rfl
    · intro hd
      by_cases hk' : c.key = d.key
      · rw [if_pos hk', hat hk'] at hd
        simp only [Option.some.injEq] at hd
        exact ⟨k, by rw [hset, if_pos rfl, hd]⟩
      · rw [if_neg hk'] at hd
        obtain ⟨j, hj⟩ := (h.mem d).2 hd
        refine ⟨j, ?_⟩
        rw [hset, if_neg]
        · exact hj
        · rintro rfl
          rcases hor with h0 | ⟨d', h0, hd'⟩
          · rw [h0] at hj; cases hj
          · rw [h0] at hj; cases hj; exact hk' hd'.symm
theorem Holds.cells {T : Tab} {l : List CellM} (h : Holds T l) (c : CellM) : c ∈ cellsM T ↔ c ∈ groupC l := by
  rw [(grp_group l).mem, ← h.mem]
  unfold cellsM
  simp only [List.mem_filterMap, id]
  constructor
  · rintro ⟨x, hx, rfl⟩
    obtain ⟨k, hk⟩ := List.mem_iff_getElem?.1 hx
    exact ⟨k, hk⟩
  · rintro ⟨k, hk⟩
    exact ⟨_, List.mem_of_getElem? hk, rfl⟩
theorem Srt.nodup {l : List CellM} (h : Srt l) : l.Nodup := h.imp fun h e => by rw [e, lessM_self] at h; omega
/-- A table's cells stand once each. -/
theorem TabOk.nodup {T : Tab} (h : TabOk T) : (cellsM T).Nodup := by
  have key : ∀ (S : Tab) (off : Nat), (∀ (i : Nat) (c : CellM), S[i]? = some (some c) → T[off + i]? = some (some c)) → (cellsM S).Nodup := by
    intro S
    induction S with
    | nil => exact fun _ _ => List.nodup_nil
    | cons x S ih =>
      intro off hs
      have hr := ih (off + 1) fun i c hi => by
        have := hs (i + 1) c (by simpa using hi)
        rwa [Nat.add_assoc, Nat.add_comm 1 i]
      cases x with
      | none => exact hr
      | some c =>
        refine List.nodup_cons.2 ⟨fun hc => ?_, hr⟩
        have hm : ∃ i : Nat, S[i]? = some (some c) := by
          unfold cellsM at hc
          simp only [List.mem_filterMap, id] at hc
          obtain ⟨y, hy, rfl⟩ := hc
          obtain ⟨k, hk⟩ := List.mem_iff_getElem?.1 hy
          exact ⟨k, hk⟩
        obtain ⟨i, hi⟩ := hm
        have h1 := find_there h (hs 0 c rfl)
        have h2 := find_there h (hs (i + 1) c (by simpa using hi))
        rw [h1] at h2
        simp at h2
  exact key T 0 fun i c hi => by simpa using hi
theorem Holds.perm {T : Tab} {l : List CellM} (h : Holds T l) : (cellsM T).Perm (groupC l) :=
  (List.perm_ext_iff_of_nodup h.ok.nodup (grp_group l).srt.nodup).2 h.cells
theorem Holds.taken {T : Tab} {l : List CellM} (h : Holds T l) : takenM T = (groupC l).length := by
  rw [← cells_len, h.perm.length_eq]
/-- As long as there is room for a key a cell is taken. -/
theorem Holds.goes {T : Tab} {l : List CellM} (h : Holds T l) (c : CellM) (hn : (groupC (l ++ [c])).length ≤ T.length) : ∃ T', putM T c = some T' := by
  have hg := put_goes (T := T) c
  cases hp : putM T c with
  | some T' => exact ⟨T', rfl⟩
  | none =>
    rw [hp] at hg
    simp only [Option.isSome_none, Bool.false_eq_true, false_iff, not_or] at hg
    obtain ⟨h1, h2⟩ := hg
    exfalso
    have h3 := taken_le T
    rw [h.taken] at h2 h3
    rw [groupC_snoc] at hn
    have hno : ∀ d ∈ groupC l, d.key ≠ c.key := fun d hd e => h1 (mem_keys.2 (by
      obtain ⟨k, hk⟩ := (h.mem d).2 (((grp_group l).mem d).1 hd)
      exact ⟨k, d, hk, e⟩))
    have hl : ∀ o : List CellM, (∀ d ∈ o, d.key ≠ c.key) → (putC o c).length = o.length + 1 := by
      intro o
      induction o with
      | nil => exact fun _ => rfl
      | cons d o ih =>
        intro ho
        rw [putC]
        split
        · simpa using ih fun d hd => ho d (List.mem_cons_of_mem _ hd)
        · split
          · rename_i h0
            exact absurd (lessM_zero.1 h0) (ho d List.mem_cons_self)
          · rfl
    rw [hl _ hno] at hn
    omega
end Go.HC

/-
  The program's tables of all cells at once: they fit, or there is no place.
-/
namespace Go.HC
theorem group_grow : ∀ (l o : List CellM), o.length ≤ (l.foldl putC o).length
  | [], _ => Nat.le_refl _
  | c :: l, o => by
    have := group_grow l (putC o c)
    have := putC_len (l := o) c
    rw [List.foldl_cons]; omega
theorem group_take_le (l : List CellM) (k : Nat) : (groupC (l.take k)).length ≤ (groupC l).length := by
  conv => rhs; rw [← List.take_append_drop k l]
  unfold groupC
  rw [List.foldl_append]
  exact group_grow _ _
theorem keep_from {n0 : Nat} {h h1 h2 : Heap} {F : Nat → Prop} (k : Keep none_ h h1) (k2 : Keep F h1 h2) (hF : ∀ b, F b → n0 ≤ b) (hn : h.size ≤ n0) : Keep none_ h h2 := k.trans k2 fun b hb hf => by have := hF b hf; omega
theorem take_snoc {α : Type} {l : List α} {k : Nat} (hk : k < l.length) : l.take (k + 1) = l.take k ++ [l[k]] := by
  rw [List.take_add_one, List.getElem?_eq_getElem hk, Option.toList_some]
theorem new_small (n : Nat) : TabSmall (newM n) := fun k d hd => by
  unfold newM at hd
  rw [List.getElem?_replicate] at hd
  split at hd <;> cases hd
theorem new_len (n : Nat) : (newM n).length = n := by unfold newM; simp
end Go.HC
namespace Go.Proofs
open Go Go.HC

set_option maxRecDepth 10000 in
theorem fitEnters : ∀ args w, (callFunc 52 args).run Try.prog w = .ok (.enter 52 args) w := enters_of Try.func52 (by kernel_rfl) rfl

set_option maxHeartbeats 4000000 in
set_option maxRecDepth 10000 in
theorem fit_spec {h : Heap} {v : Value} {l : List CellM} {n : Nat} (hl : SlRep rCell (Old h) h v l) (hn : n < 1000000000) (hln : l.length < 1000000) (hsm : ∀ d ∈ l, CellSmall d) :
    CallH Try.prog 34 #[v, .int .i64 n] h fun r h' => (((groupC l).length ≤ n ∧ ∃ rv, r = .tuple #[rv, .bool true] ∧ NewC 31 h.size h' rv (groupC l)) ∨ (n < (groupC l).length ∧ r = .tuple #[.slice none 0 0, .bool false])) ∧ Keep none_ h h' := by
  refine callH_by fun K hK => ?_
  refine enter [.tmp 4, .tmp 5] Try.func34 rfl rfl (by kernel_rfl) rfl ?_
  obtain ⟨a0, c0, rfl, hc0, hc0'⟩ := hl.val
  simp -dsimp
  refine call_by (hnew_spec n hn h) ?_
  rintro tv h0 ⟨F0, t0, k0, n0⟩
  obtain ⟨bs, htv⟩ : ∃ bs, tv = .pointer (some ⟨bs, 0, none⟩) := by
    obtain ⟨bs, _, _, _, rfl, _⟩ := t0; exact ⟨bs, rfl⟩
  subst htv
  simp -dsimp
  refine loopc (σ := Nat) (fun k => [(4, .slice none 0 0), (5, .bool false), (6, .pointer (some ⟨bs, 0, none⟩)), (12, .slice a0 l.length c0), (13, .int .i64 l.length), (14, .int .i64 k)])
    (fun k h1 => k ≤ l.length ∧ Keep none_ h h1 ∧ ∃ F T, TabAt (.pointer (some ⟨bs, 0, none⟩)) F h1 T ∧ (∀ b, F b → h.size ≤ b) ∧ T.length = n ∧ TabSmall T ∧ Holds T (l.take k)) (fun k => l.length - k) 0 0 (fun k _ => k = l.length) (endR Try.prog [.tmp 4, .tmp 5] K).rt (fun _ _ _ h => h) (by simp)
    ⟨Nat.zero_le _, k0, F0, _, t0, n0, new_len n, new_small n, .new n⟩ (by kernel_rfl) ?_ ?_
  · rintro k h1 g ⟨hk, k1, F, T, t1, n1, hT, hTs, hH⟩
    by_cases hkl : k < l.length
    · have wk := wrap_succ (k := k) (by omega)
      obtain ⟨b1, o1, cs, e1, _, hrep, hx1⟩ := (hl.mono ((Tr.of k1).ft (Nat.le_refl 0))).get k hkl
      obtain ⟨ka, kc, sa, sc, na, nc, xa, xc, rfl, _⟩ := cell_open hrep
      have hx1' : HC.cellsIn h1[b1]? (o1 + k * 5) 5 = _ := hx1
      simp -dsimp [hkl, e1, idxA_nat hkl, hx1']
      rw [push_set rfl]
      generalize hB2 : Array.push h1 _ = h2
      have k2 : Keep none_ h1 h2 := by rw [← hB2]; exact .push _ _ _
      have hC : h2[h1.size]? = some (.cells #[.slice ka l[k].key.length kc, .int .i64 l[k].count, .slice sa l[k].sum.length sc, .slice na l[k].mn.length nc, .slice xa l[k].mx.length xc] 31 (0, 0)) := by rw [← hB2]; exact push_new _ _
      have hck := hsm _ (List.getElem_mem hkl)
      have t2 := t1.keep k2 (fun _ _ h => h)
      refine call_by (hput_spec t2 (by omega) hTs (rCell.mono hrep ((Tr.of k2).ft (Nat.le_refl 0))) Old.lt hck) ?_
      rintro _ h3 ⟨rfl, F3, t3, k3, n3⟩
      have kk3 : Keep none_ h h3 := keep_from (k1.trans k2 fun _ _ h => h) k3 n1 (Nat.le_refl _)
      have s1 := k1.size
      have s2 := k2.size
      cases hp : putM T l[k] with
      | none =>
        simp -dsimp
        refine hK _ _ ⟨.inr ⟨?_, rfl⟩, kk3⟩
        refine Classical.byContradiction fun hle => ?_
        have := group_take_le l (k + 1)
        obtain ⟨T', hT'⟩ := hH.goes l[k] (by rw [take_snoc hkl] at this; rw [hT]; omega)
        rw [hp] at hT'; cases hT'
      | some T' =>
        rw [hp] at t3
        simp -dsimp [wk]
        refine ⟨k + 1, by simp [e1], rfl, ⟨by omega, kk3, F3, T', t3, fun b hb => (n3 b hb).elim (n1 b) (by omega), by rw [put_len hp, hT], put_small hTs hck hp, ?_⟩, by show l.length - (k + 1) < l.length - k; omega⟩
        rw [take_snoc hkl]
        exact hH.put hp
    · simp -dsimp [hkl]
      exact ⟨rfl, k, by simp, rfl, ⟨hk, k1, F, T, t1, n1, hT, hTs, hH⟩, by omega⟩
  · rintro k h1 g ⟨hk, k1, F, T, t1, n1, hT, hTs, hH⟩ hkl
    have hkl' : k = l.length := hkl
    rw [hkl', List.take_length] at hH
    simp -dsimp
    refine call_by (hcells_th t1 (by omega) hTs) ?_
    rintro _ h2 ⟨E, own, hg, k2, hE, ho⟩
    obtain ⟨a2, c2, rfl⟩ := hg.val
    have s1 := k1.size
    have hcl : (cellsM T).length ≤ l.length := by rw [hH.perm.length_eq]; exact groupC_le l
    simp -dsimp
    refine call_by (sortc_spec fitEnters fitCmp hg (fun b hb => (hE b hb).2.1) (by omega)) ?_
    rintro _ h3 ⟨rfl, ys, hp, hr, hg3, k3⟩
    have hys : ys = groupC l := ris_group (hp.trans hH.perm) hr
    subst hys
    obtain ⟨a3, c3, hv3⟩ := hg3.val
    have hlen : (cellsM T).length = (groupC l).length := hH.perm.length_eq
    simp -dsimp
    refine hK _ _ ⟨.inl ⟨?_, _, rfl, E, own, hg3, fun b hb => ⟨⟨by have := (hE b hb).1; omega, fun _ => (hE b hb).2.2.at (k3.blk b (hE b hb).2.1 fun e => hg.notF b e hb)⟩, Nat.lt_of_lt_of_le (hE b hb).2.1 k3.size⟩, fun b hb => by have := ho b hb; omega⟩, (k1.trans k2 fun _ _ h => h).trans k3 fun b hb h => by have := ho b h; omega⟩
    have := taken_le T
    rw [hH.taken, hT] at this
    exact this
end Go.Proofs

/-
  Parts of cells in a map: slices that grow, by their values.
-/
namespace Go.HC
section
variable {P : Program} {h : Heap} {K : Value → Heap → Prop}
theorem lookup_int {T kt et : TypeId} {r : Nat} {es : Ents Int} {clock : Nat} {x : Int} {ok : Bool} {z : Value} (hm : mapS P T = some (kt, et)) (hk : P.underlying kt = some (.int .i64)) (hz : zS P et = some z)
    (hr : h[r]? = some (.map (entsOf kInt es) clock)) :
    lookupS P T (.map (some r)) (.int .i64 x) ok h K = K (if ok then .tuple #[(getE x es).getD z, .bool (getE x es).isSome] else (getE x es).getD z) h := lookup_map (k := kInt) hm hk hz hr
theorem update_int {T kt et : TypeId} {r : Nat} {es : Ents Int} {clock : Nat} {x : Int} {v : Value} (hm : mapS P T = some (kt, et)) (hk : P.underlying kt = some (.int .i64))
    (hr : h[r]? = some (.map (entsOf kInt es) clock)) :
    mapUpdateS P T (.map (some r)) (.int .i64 x) v h K = K undef (h.setIfInBounds r (.map (entsOf kInt (putE x v clock es)) (clockE x es clock))) := update_map (k := kInt) hm hk hr
end
theorem part_snoc (i : Nat) (v : Int) (l : List CellM) (c : CellM) : partC i v (l ++ [c]) = if atV c i = v then partC i v l ++ [c] else partC i v l := by
  unfold partC
  rw [List.filter_append]
  by_cases h : atV c i = v <;> simp [h]
/-- The slice of a value; nil where there is none. -/
def slotE (x : Int) (es : Ents Int) : Value := (getE x es).getD (.slice none 0 0)
/-- Parts in a map, the values in a slice: tI, tC: the numbers of the types int and Cell. -/
structure PJ (tI tC i : Nat) (l : List CellM) (h0 h : Heap) (bm : Nat) (vv : Value) (vs : List Int) (own : Option Nat) (es : Ents Int) (clock : Nat) (M : Nat → Prop) (O : Int → Option Nat) : Prop where
  tr : Tr none_ M h0 h
  mbm : M bm
  map : h[bm]? = some (.map (entsOf kInt es) clock)
  vals : Gr rInt tI 0 M h vv vs own
  part : ∀ x, Gr rCell tC 0 M h (slotE x es) (partC i x l) (O x)
  dis : ∀ x y b, O x = some b → O y = some b → x = y
  diso : ∀ x b, O x = some b → own ≠ some b
  disb : ∀ x, O x ≠ some bm
  disv : own ≠ some bm
/-- What the values are. -/
structure PV (i : Nat) (l : List CellM) (vs : List Int) (es : Ents Int) : Prop where
  nod : vs.Nodup
  mem : ∀ v, v ∈ vs ↔ ∃ c ∈ l, atV c i = v
  is : ∀ x, (getE x es).isSome = true ↔ x ∈ vs
section
variable {tI tC i : Nat} {l : List CellM} {h0 h h' : Heap} {bm : Nat} {vv v' : Value} {vs vs' : List Int} {own own' : Option Nat} {es : Ents Int} {clock : Nat} {M M' : Nat → Prop} {O : Int → Option Nat} {c : CellM}
theorem PV.nil : PV i [] [] [] := ⟨List.nodup_nil, fun v => by simp, fun x => by simp [getE, findI]⟩
theorem PV.put {x : Int} {v : Value} (p : PV i l vs es) (hx : atV c i = x) : PV i (l ++ [c]) (if (getE x es).isSome then vs else vs ++ [x]) (putE x v clock es) := by
  have hm : ∀ u, (∃ d ∈ l ++ [c], atV d i = u) ↔ u ∈ vs ∨ u = x := fun u => by
    rw [p.mem]
    constructor
    · rintro ⟨d, hd, e⟩
      rcases List.mem_append.1 hd with hd | hd
      · exact .inl ⟨d, hd, e⟩
      · rw [List.mem_singleton] at hd; subst hd; exact .inr (e.symm.trans hx)
    · rintro (⟨d, hd, e⟩ | rfl)
      · exact ⟨d, List.mem_append_left _ hd, e⟩
      · exact ⟨c, List.mem_append_right _ (List.mem_singleton.2 rfl), hx⟩
  have hi : ∀ u, (getE u (putE x v clock es)).isSome = true ↔ u ∈ vs ∨ u = x := fun u => by
    rw [getE_put]
    split
    · rename_i e; simp [e]
    · rename_i e; rw [p.is]; simp [e]
  by_cases hs : (getE x es).isSome = true
  · rw [if_pos hs]
    have hxv := (p.is x).1 hs
    refine ⟨p.nod, fun u => by rw [hm]; exact ⟨.inl, fun h => h.elim id fun e => e ▸ hxv⟩, fun u => by rw [hi]; exact ⟨fun h => h.elim id fun e => e ▸ hxv, .inl⟩⟩
  · rw [if_neg hs]
    have hxv : x ∉ vs := fun h => hs ((p.is x).2 h)
    refine ⟨?_, fun u => by rw [hm]; simp, fun u => by rw [hi]; simp⟩
    rw [List.nodup_append]
    exact ⟨p.nod, by simp, fun a ha b hb => by rw [List.mem_singleton] at hb; subst hb; rintro rfl; exact hxv ha⟩
theorem PJ.start {h1 : Heap} (t : Tr none_ M' h0 h1) : PJ tI tC i [] h0 (h1.push (.map #[] 0)) h1.size (.slice none 0 0) [] none [] 0 (fun b => M' b ∨ b = h1.size) (fun _ => none) where
  tr := t.pushM _
  mbm := .inr rfl
  map := push_new _ _
  vals := .nil _ _ _ _ _
  part _ := .nil _ _ _ _ _
  dis _ _ _ h := by cases h
  diso _ _ h := by cases h
  disb _ h := by cases h
  disv h := by cases h
theorem PJ.keep (p : PJ tI tC i l h0 h bm vv vs own es clock M O) (k : Keep none_ h h') : PJ tI tC i l h0 h' bm vv vs own es clock M O :=
  ⟨p.tr.call k, p.mbm, k.at p.map (fun h => h), p.vals.call k, fun x => (p.part x).call k, p.dis, p.diso, p.disb, p.disv⟩
/-- A value is appended. -/
theorem PJ.val (p : PJ tI tC i l h0 h bm vv vs own es clock M O) (g : Gr rInt tI 0 (fun b => M b ∨ own' = some b) h' v' vs' own') (t : Tr M (fun b => M b ∨ own' = some b) h h') (k : Keep (fun b => own = some b) h h')
    (ho : ∀ b, own' = some b → own = some b ∨ h.size ≤ b) : PJ tI tC i l h0 h' bm v' vs' own' es clock (fun b => M b ∨ own' = some b) O := by
  have hl : ∀ x b, O x = some b → b < h.size := fun x => (p.part x).own_lt
  have hb : bm < h.size := lt_of_blk p.map
  refine ⟨p.tr.trans t, .inl p.mbm, k.at p.map p.disv, g, fun x => (p.part x).mono t (Nat.le_refl 0) fun b hb => ⟨.inl ((p.part x).mu b hb), k.blk b (hl x b hb) (p.diso x b hb)⟩, p.dis, fun x b hx e => ?_, p.disb, fun e => ?_⟩
  · rcases ho b e with e | e
    · exact p.diso x b hx e
    · have := hl x b hx; omega
  · rcases ho bm e with e | e
    · exact p.disv e
    · omega
/-- A cell is appended to those of its value. -/
theorem PJ.cell {x : Int} (p : PJ tI tC i l h0 h bm vv vs own es clock M O) (hx : atV c i = x) (g : Gr rCell tC 0 (fun b => M b ∨ own' = some b) h' v' (partC i x l ++ [c]) own') (t : Tr M (fun b => M b ∨ own' = some b) h h') (k : Keep (fun b => O x = some b) h h')
    (ho : ∀ b, own' = some b → O x = some b ∨ h.size ≤ b) :
    PJ tI tC i (l ++ [c]) h0 (h'.setIfInBounds bm (.map (entsOf kInt (putE x v' clock es)) (clockE x es clock))) bm vv vs own (putE x v' clock es) (clockE x es clock) (fun b => M b ∨ own' = some b) (fun y => if y = x then own' else O y) := by
  have hl : ∀ x b, O x = some b → b < h.size := fun x => (p.part x).own_lt
  have hb : bm < h.size := lt_of_blk p.map
  have hvl := p.vals.own_lt
  have hob : own' ≠ some bm := fun e => (ho bm e).elim (p.disb x) fun e => by omega
  have hsl : ∀ y, slotE y (putE x v' clock es) = if y = x then v' else slotE y es := fun y => by
    unfold slotE; rw [getE_put]; split <;> rfl
  refine ⟨(p.tr.trans t).set _ (.inl p.mbm), .inl p.mbm, set_same _ (Nat.lt_of_lt_of_le hb t.size), ?_, fun y => ?_, ?_, fun y b hy e => ?_, fun y => ?_, p.disv⟩
  · refine (p.vals.mono t (Nat.le_refl 0) fun b hb => ⟨.inl (p.vals.mu b hb), k.blk b (hvl b hb) fun e => p.diso x b e hb⟩).set _ (.inl p.mbm) p.disv
  · rw [hsl, part_snoc, hx]
    by_cases e : y = x
    · subst e
      simp only [if_true]
      exact g.set _ (.inl p.mbm) hob
    · simp only [if_neg e, if_neg (fun h : x = y => e h.symm)]
      exact ((p.part y).mono t (Nat.le_refl 0) fun b hb => ⟨.inl ((p.part y).mu b hb), k.blk b (hl y b hb) fun h => e (p.dis y x b hb h)⟩).set _ (.inl p.mbm) (p.disb y)
  · intro y z b hy hz
    by_cases ey : y = x <;> by_cases ez : z = x <;> simp only [ey, ez, if_true, if_false] at hy hz
    · rw [ey, ez]
    · rcases ho b hy with h1 | h1
      · exact absurd (p.dis x z b h1 hz).symm ez
      · have := hl z b hz; omega
    · rcases ho b hz with h1 | h1
      · exact absurd (p.dis y x b hy h1) ey
      · have := hl y b hy; omega
    · exact p.dis y z b hy hz
  · by_cases ey : y = x <;> simp only [ey, if_true, if_false] at hy
    · rcases ho b hy with h1 | h1
      · exact p.diso x b h1 e
      · have := hvl b e; omega
    · exact p.diso y b hy e
  · by_cases ey : y = x <;> simp only [ey, if_true, if_false]
    · exact hob
    · exact p.disb y
end
end Go.HC

/-
  The program's group-by by tables, parted by the keys' numbers.
-/
namespace Go.HC
theorem PV.vals {i : Nat} {l : List CellM} {vs : List Int} {es : Ents Int} (p : PV i l vs es) : Vals i l (sortI vs) := .sort p.nod p.mem
theorem part_len {i : Nat} {v : Int} {l : List CellM} : (partC i v l).length ≤ l.length := List.length_filter_le ..
theorem sum_take {α : Type} (g : α → Nat) {vs : List α} {k : Nat} (hk : k < vs.length) : ((vs.take (k + 1)).map g).sum = ((vs.take k).map g).sum + g vs[k] := by
  rw [take_snoc hk, List.map_append, List.sum_append]; simp
theorem sum_take_le {α : Type} (g : α → Nat) (vs : List α) (k : Nat) : ((vs.take k).map g).sum ≤ (vs.map g).sum := by
  conv => rhs; rw [← List.take_append_drop k vs]
  rw [List.map_append, List.sum_append]; omega
theorem flat_take {α β : Type} (g : α → List β) {vs : List α} {k : Nat} (hk : k < vs.length) : (vs.take (k + 1)).flatMap g = (vs.take k).flatMap g ++ g vs[k] := by
  rw [take_snoc hk, List.flatMap_append]; simp
theorem flat_take_le {α β : Type} (g : α → List β) (vs : List α) (k : Nat) : ((vs.take k).flatMap g).length ≤ (vs.flatMap g).length := by
  conv => rhs; rw [← List.take_append_drop k vs]
  rw [List.flatMap_append, List.length_append]; omega
theorem Gr.newC {e n n0 : Nat} {M : Nat → Prop} {h : Heap} {v : Value} {l : List CellM} {own : Option Nat} (g : Gr rCell e n M h v l own) (hn : n0 ≤ n) (ho : ∀ b, own = some b → n0 ≤ b) : NewC e n0 h v l :=
  ⟨Ft n M h, own, g.grow, fun _ hb => ⟨hb.1.less hn, hb.2.1⟩, ho⟩
end Go.HC
namespace Go.Proofs
open Go Go.HC

/-- The group-by of cells whose keys have f numbers from the place i on. -/
def PartedOk (f : Nat) : Prop := ∀ {i n : Nat} {h : Heap} {v : Value} {l : List CellM}, Pre (i + f) i l → SlRep rCell (Old h) h v l → 0 < n → n < 1000000000 → l.length < 1000000 → (∀ d ∈ l, CellSmall d) → i + f < 1000000 →
  CallH Try.prog 24 #[v, .int .i64 n, .int .i64 i] h fun r h' => (∃ rv, r = .tuple #[rv, .int .i64 (cntM n f i l : Nat)] ∧ NewC 31 h.size h' rv (groupC l)) ∧ Keep none_ h h'

set_option maxHeartbeats 4000000 in
set_option maxRecDepth 10000 in
theorem parted_step (f : Nat) (ih : ∀ f', f = f' + 1 → PartedOk f') : PartedOk f := by
  intro i n h v l hpre hl h0 hn hln hsm hif
  refine callH_by fun K hK => ?_
  refine enter [.tmp 6, .tmp 7] Try.func24 rfl rfl (by kernel_rfl) rfl ?_
  obtain ⟨a0, c0, rfl, hc0, hc0'⟩ := hl.val
  simp -dsimp
  refine call_by (fit_spec hl hn hln hsm) ?_
  rintro _ h1 ⟨⟨hnk, rv, rfl, hnew⟩ | ⟨hnk, rfl⟩, k1⟩
  · obtain ⟨ra, rn, rc, rfl⟩ : ∃ a n c, rv = .slice a n c := by
      obtain ⟨F, own, g, _⟩ := hnew
      obtain ⟨a, c, rfl⟩ := g.val
      exact ⟨a, _, c, rfl⟩
    simp -dsimp
    refine hK _ _ ⟨⟨_, ?_, hnew⟩, k1⟩
    rw [cnt_one hnk]; rfl
  · cases f with
    | zero =>
      have := hpre.one
      omega
    | succ f =>
      have hi : i < i + (f + 1) := by omega
      simp -dsimp
      refine loopc (σ := Nat × Value) (fun t => [(0, .slice a0 l.length c0), (1, .int .i64 n), (2, .int .i64 i), (10, .map (some h1.size)), (11, t.2), (32, .slice a0 l.length c0), (33, .int .i64 l.length), (34, .int .i64 t.1)])
        (fun t h2 => t.1 ≤ l.length ∧ ∃ vs own es clock M O, PJ 3 31 i (l.take t.1) h h2 h1.size t.2 vs own es clock M O ∧ EntsOk es clock ∧ PV i (l.take t.1) vs es ∧ vs.length ≤ t.1) (fun t => l.length - t.1) (0, .slice none 0 0) 0 (fun t _ => t.1 = l.length) noRet noRet_le (by simp) ?_ (by kernel_rfl) ?_ ?_
      · exact ⟨Nat.zero_le _, [], none, [], 0, _, _, .start (Tr.of k1), .nil _, .nil, Nat.le_refl _⟩
      · rintro ⟨k, vv⟩ h2 g ⟨hk, vs, own, es, clock, M, O, p, hok, pv, hvl⟩
        simp only at hk p hok pv hvl
        by_cases hkl : k < l.length
        · have wk := wrap_succ (k := k) (by omega)
          have hlt := hl.mono p.tr.old
          obtain ⟨b1, o1, cs, e1, _, hrep, hx1⟩ := (hl.mono p.tr.old).get k hkl
          obtain ⟨ka, kc, sa, sc, na, nc, xa, xc, rfl, r1, _⟩ := cell_open hrep
          have hx1' : HC.cellsIn h2[b1]? (o1 + k * 5) 5 = _ := hx1
          obtain ⟨va, vn, vc, ev, hvn⟩ := p.vals.vals
          subst ev
          obtain ⟨hik, hat, _⟩ := hpre.at hi (List.getElem_mem hkl)
          have hge : ¬ (l[k].key.length ≤ i) := by omega
          have hmap := p.map
          have hbm := lt_of_blk hmap
          have hsn := take_snoc hkl
          simp -dsimp [hkl, e1, idxA_nat hkl, hx1']
          rw [push_set rfl]
          generalize hB2 : Array.push h2 _ = h3
          have k2 : Keep none_ h2 h3 := by rw [← hB2]; exact .push _ _ _
          have hC : h3[h2.size]? = some (.cells #[.slice ka l[k].key.length kc, .int .i64 l[k].count, .slice sa l[k].sum.length sc, .slice na l[k].mn.length nc, .slice xa l[k].mx.length xc] 31 (0, 0)) := by rw [← hB2]; exact push_new _ _
          have p3 := p.keep k2
          obtain ⟨b2, o2, e2, _, hc2⟩ := (r1.mono (p.tr.here.call k2 |>.ft (Nat.le_refl 0))).int_at i hik
          have hmap3 := p3.map
          simp -dsimp [hC, hge, e2, idxA_nat hik, hc2, lookup_int (T := 62) Try.mapS62 Try.underlying3 Try.zS24 hmap3]
          obtain ⟨x, ex⟩ : ∃ x, x = l[k].key[i] := ⟨_, rfl⟩
          rw [← ex] at hat hc2 ⊢
          obtain ⟨vs4, evs4⟩ : ∃ vs4, vs4 = if (getE x es).isSome then vs else vs ++ [x] := ⟨_, rfl⟩
          have lo := p.vals.own_lt
          refine if hs : (getE x es).isNone = true then ?t1 else ?t2
          case' t1 =>
            have hs' : (getE x es).isSome = false := by rw [Option.isSome_eq_false_iff]; exact hs
            have evs5 := evs4
            rw [if_neg (by rw [hs']; decide)] at evs5
            simp -dsimp [hs]
            refine gr_app1 (x := x) rfl intT p3.vals p3.tr.lt rfl rfl (by omega) (by omega) ?_
            intro v4 h4 own4 g4 t4 k4 ho4
            rw [← evs5] at g4
            have p4 := p3.val g4 t4 k4 ho4
            have hC4 := k4.at hC (fun e => by have := lo _ e; omega)
            obtain ⟨M4, eM4⟩ : ∃ M4, M4 = fun b => M b ∨ own4 = some b := ⟨_, rfl⟩
            rw [← eM4] at p4
            have hvl4 : vs4.length ≤ k + 1 := by rw [evs5]; simp; omega
            obtain ⟨va, vn, vc, ev4, hvn4⟩ := p4.vals.vals
            subst ev4
            have hrep4 := rCell.mono (rCell.mono hrep (p.tr.here.call k2 |>.ft (Nat.le_refl 0))) (t4.ft (Nat.le_refl 0))
            rw [← eM4] at hrep4
          case' t2 =>
            have hs2 : (getE x es).isNone = false := by simpa only [Bool.not_eq_true] using hs
            have hs' : (getE x es).isSome = true := by
              cases hgx : getE x es with
              | none => rw [hgx] at hs; exact absurd rfl hs
              | some u => rfl
            have hrep4 := rCell.mono hrep (p.tr.here.call k2 |>.ft (Nat.le_refl 0))
            have evs5 := evs4
            rw [if_pos hs'] at evs5
            simp -dsimp [hs2]
            obtain ⟨h4, e4⟩ : ∃ h4, h4 = h3 := ⟨_, rfl⟩
            obtain ⟨M4, eM4⟩ : ∃ M4, M4 = M := ⟨_, rfl⟩
            subst e4
            rw [← evs5, ← eM4] at p3
            rw [← eM4] at hrep4
            have p4 := p3
            have hC4 := hC
            have hvl4 : vs4.length ≤ k + 1 := by rw [evs5]; omega
          all_goals
            have hmap4 := p4.map
            have hpl := part_len (i := i) (v := x) (l := l.take k)
            rw [List.length_take] at hpl
            simp -dsimp [hC4, lookup_int (T := 62) Try.mapS62 Try.underlying3 Try.zS24 hmap4]
            refine gr_app1 (x := l[k]) rfl cellT (p4.part x) p4.tr.lt hrep4 rfl (by omega) (by omega) ?_
            intro v5 h5 own5 g5 t5 k5 ho5
            have hmap5 := k5.at hmap4 (p4.disb x)
            have p5 := p4.cell hat g5 t5 k5 ho5
            have pv5 := pv.put (clock := clock) (v := v5) hat
            rw [← evs4, ← hsn] at pv5
            rw [← hsn] at p5
            simp -dsimp [wk, update_int (T := 62) Try.mapS62 Try.underlying3 hmap5]
            exact ⟨(k + 1, _), by simp [e1], rfl, ⟨by omega, vs4, _, _, _, _, _, p5, hok.put x v5, pv5, hvl4⟩, by show l.length - (k + 1) < l.length - k; omega⟩
        · simp -dsimp [hkl]
          exact ⟨rfl, (k, vv), by simp, rfl, ⟨hk, vs, own, es, clock, M, O, p, hok, pv, hvl⟩, by show k = l.length; omega⟩
      · rintro ⟨k, vv⟩ h2 g ⟨hk, vs, own, es, clock, M, O, p, hok, pv, hvl⟩ hkl
        simp only at hk p hok pv hvl hkl
        subst hkl
        rw [List.take_length] at p pv
        obtain ⟨va, vn, vc, ev, hvn⟩ := p.vals.vals
        subst ev
        have hvs := pv.vals
        simp -dsimp
        refine call_by (sorti_spec p.vals.grow Ft.lt (by omega)) ?_
        rintro _ h3 ⟨rfl, gv, k3⟩
        have hus := hvs.unique (hpre.vals hi)
        have hlen : vs.length = (sortI vs).length := (sortI_length vs).symm
        obtain ⟨us, eus⟩ : ∃ us, us = sortI vs := ⟨_, rfl⟩
        rw [← eus] at gv hvs hus hlen
        have t3 : Tr none_ M h h3 := p.tr.trans ⟨k3.weaken fun b _ hb => p.vals.mu b hb, fun b hb => .inl hb, fun b hb => Nat.lt_of_lt_of_le (p.tr.lt b hb) k3.size⟩
        have hmap := k3.at p.map p.disv
        have hpart : ∀ x, Gr rCell 31 0 M h3 (slotE x es) (partC i x l) (O x) := fun x => (p.part x).mono ⟨k3.weaken fun b _ hb => p.vals.mu b hb, fun b hb => .inl hb, fun b hb => Nat.lt_of_lt_of_le (p.tr.lt b hb) k3.size⟩ (Nat.le_refl 0)
          fun b hb => ⟨(p.part x).mu b hb, k3.blk b ((p.part x).own_lt b hb) fun e => p.diso x b hb e⟩
        have hval : SlRep rInt (Old h3) h3 (.slice va vn vc) us := gv.rep.mono fun b hb => ⟨⟨nz, hb.elim (fun hf => Nat.lt_of_lt_of_le hf.2.1 k3.size) (fun hf => gv.own_lt b hf), fun h => h⟩, rfl⟩
        have hvnu : vn = us.length := by omega
        subst hvnu
        simp -dsimp
        have hwi := wrap_succ (k := i) (by omega)
        have hcl := cnt_le (n := n) hpre
        have hgl := groupC_le l
        have hcnt : cntM n (f + 1) i l = (us.map fun v => cntM n f (i + 1) (partC i v l)).sum := by rw [cntM, if_neg (by omega), hus]
        have hgrp := group_parts hpre hi hvs
        have k03 := t3.keep
        obtain ⟨sm, hsmk⟩ : ∃ sm : Nat → Nat, ∀ k, sm k = ((us.take k).map fun v => cntM n f (i + 1) (partC i v l)).sum := ⟨_, fun _ => rfl⟩
        have sm0 : sm 0 = 0 := by rw [hsmk]; rfl
        refine loopc (σ := Nat × Value) (fun t => [(1, .int .i64 n), (2, .int .i64 i), (10, .map (some h1.size)), (17, t.2), (18, .int .i64 (sm t.1 : Nat)), (73, .slice va us.length vc), (74, .int .i64 us.length), (75, .int .i64 t.1)])
          (fun t h4 => t.1 ≤ us.length ∧ ∃ M2 own2, Tr none_ M2 h3 h4 ∧ Gr rCell 31 h.size M2 h4 t.2 ((us.take t.1).flatMap fun v => groupC (partC i v l)) own2 ∧ ∀ b, own2 = some b → h.size ≤ b) (fun t => us.length - t.1) (0, .slice none 0 0) 2 (fun t _ => t.1 = us.length) noRet noRet_le (by simp [sm0]) ?_ (by kernel_rfl) ?_ ?_
        · exact ⟨Nat.zero_le _, none_, none, .start h3, .nil _ _ _ _ _, fun b hb => by cases hb⟩
        · rintro ⟨k, ov⟩ h4 g ⟨hk, M2, own2, t4, g4, ho4⟩
          simp only at hk g4
          have k4 := t4.keep
          have s34 := k4.size
          have s03 := k03.size
          by_cases hkl : k < us.length
          · have wk := wrap_succ (k := k) (by omega)
            obtain ⟨b1, o1, e1, _, hx1⟩ := (hval.mono ((Tr.of k4).ft (Nat.le_refl 0))).int_at k hkl
            have hmap4 := k4.at hmap (fun h => h)
            have hp4 : SlRep rCell (Old h4) h4 (slotE us[k] es) (partC i us[k] l) := ((hpart us[k]).rep (Nat.le_refl 0) (fun _ _ => Nat.zero_le _)).mono ((Tr.of k4).ft (Nat.le_refl 0))
            obtain ⟨x, ex⟩ : ∃ x, x = us[k] := ⟨_, rfl⟩
            have hpl := part_len (i := i) (v := x) (l := l)
            have hst := sum_take (fun v => cntM n f (i + 1) (partC i v l)) hkl
            have hstl := sum_take_le (fun v => cntM n f (i + 1) (partC i v l)) us (k + 1)
            have hft := flat_take (fun v => groupC (partC i v l)) hkl
            have hftl := flat_take_le (fun v => groupC (partC i v l)) us (k + 1)
            rw [hgrp] at hftl
            rw [← hcnt, ← hsmk] at hstl
            rw [← hsmk, ← hsmk] at hst
            rw [← ex] at hx1 hp4 hst hft
            obtain ⟨oa, on, oc, eo, hon⟩ := g4.vals
            subst eo
            simp -dsimp [hkl, e1, idxA_nat hkl, hx1, hwi, lookup_int (T := 62) Try.mapS62 Try.underlying3 Try.zS24 hmap4]
            refine call_by (ih f rfl (i := i + 1) (show Pre (i + 1 + f) (i + 1) (partC i x l) by have := hpre.part hi x; rwa [show i + 1 + f = i + (f + 1) by omega]) hp4 h0 hn (by omega) (fun d hd => hsm d (mem_part.1 hd).1) (show i + 1 + f < 1000000 by omega)) ?_
            rintro _ h5 ⟨⟨rv, rfl, hnew⟩, k5⟩
            have hs5 : SlRep rCell (Ft h.size M2 h5) h5 rv (groupC (partC i x l)) := (hnew.rep (Nat.le_refl _)).mono (t4.ret (by omega))
            obtain ⟨ra, rc, rfl, _, _⟩ := hs5.val
            obtain ⟨cs5, _, _, _, hc5, he5⟩ := hs5.open_
            have t5 := t4.call k5
            have hadd : IntKind.i64.wrap ((sm k : Nat) + ((cntM n f (i + 1) (partC i x l) : Nat) : Int)) = (sm (k + 1) : Nat) := by
              rw [wrap_i64 (by omega) (by omega), hst]; omega
            rw [hft, List.length_append] at hftl
            simp -dsimp
            refine gr_append cellT (g4.call k5) t5.lt rfl hc5 he5 (by omega) (by omega) ?_
            intro v6 h6 own6 g6 t6 k6 ho6
            simp -dsimp [wk, hadd]
            refine ⟨(k + 1, v6), by simp [e1], rfl, ⟨by show k + 1 ≤ us.length; omega, _, own6, t5.trans t6, by rw [hft]; exact g6, fun b hb => (ho6 b hb).elim (ho4 b) (fun h => by have := k5.size; omega)⟩, by show us.length - (k + 1) < us.length - k; omega⟩
          · simp -dsimp [hkl]
            exact ⟨rfl, (k, ov), by simp, rfl, ⟨hk, M2, own2, t4, g4, ho4⟩, by show k = us.length; omega⟩
        · rintro ⟨k, ov⟩ h4 g ⟨hk, M2, own2, t4, g4, ho4⟩ hkl
          simp only at hk g4 hkl
          subst hkl
          rw [List.take_length] at g4
          rw [hgrp] at g4
          obtain ⟨oa, on, oc, eo, hon⟩ := g4.vals
          subst eo
          simp -dsimp
          refine hK _ _ ⟨⟨_, ?_, g4.newC (Nat.le_refl _) ho4⟩, k03.trans t4.keep fun _ _ h => h⟩
          rw [hsmk, List.take_length, ← hcnt]
theorem parted_spec (f : Nat) : PartedOk f := by
  induction f with
  | zero => exact parted_step 0 fun f' h => by omega
  | succ f ih =>
    exact parted_step (f + 1) fun f' h => by
      cases h
      exact ih
end Go.Proofs

/-
  The program's hash.Group.
-/
namespace Go.Proofs
open Go Go.HC

set_option maxHeartbeats 4000000 in
set_option maxRecDepth 10000 in
theorem hgroup_spec {f n : Nat} {h : Heap} {v : Value} {l : List CellM} (hpre : Pre f 0 l) (hl : SlRep rCell (Old h) h v l) (h0 : 0 < n) (hn : n < 1000000000) (hln : l.length < 1000000) (hsm : ∀ d ∈ l, CellSmall d) (hf : f < 1000000) :
    CallH Try.prog 15 #[v, .int .i64 n] h fun r h' => (∃ rv, r = .tuple #[rv, .int .i64 (cntM n f 0 l : Nat)] ∧ NewC 31 h.size h' rv (groupC l)) ∧ Keep none_ h h' := by
  refine callH_by fun K hK => ?_
  refine enter [.tmp 4, .tmp 5] Try.func15 rfl rfl (by kernel_rfl) rfl ?_
  obtain ⟨a0, c0, rfl, hc0, hc0'⟩ := hl.val
  simp -dsimp
  refine call_by (parted_spec f (i := 0) (by rwa [Nat.zero_add]) hl h0 hn hln hsm (by omega)) ?_
  rintro _ h1 ⟨⟨rv, rfl, F, own, g, hF, ho⟩, k1⟩
  obtain ⟨a1, c1, rfl⟩ := g.val
  have hgl := groupC_le l
  simp -dsimp
  refine call_by (cloneCell_spec g (fun b hb => (hF b hb).2) (by omega)) ?_
  rintro _ h2 ⟨own2, g2, k2, ho2⟩
  obtain ⟨a2, c2, rfl⟩ := g2.val
  have s1 := k1.size
  simp -dsimp
  exact hK _ _ ⟨⟨_, rfl, F, own2, g2, fun b hb => ⟨(hF b hb).1.at (Nat.le_refl _) (k2.blk b (hF b hb).2 (fun h => h)), Nat.lt_of_lt_of_le (hF b hb).2 k2.size⟩, fun b hb => Nat.le_trans s1 (ho2 b hb)⟩, k1.trans k2 fun _ _ h => h⟩
end Go.Proofs

/-
  What is made of cells, plainly: parts, how many are held at once.
-/
namespace Go.HC
/-- The parts themselves: by tables of n slots. -/
def partsM (n : Nat) : Nat → Nat → List CellM → List (List CellM)
  | 0, _, l => [groupC l]
  | f + 1, i, l => if (groupC l).length ≤ n then [groupC l] else (valsM i l).flatMap fun v => partsM n f (i + 1) (partC i v l)
section
variable {L i f n : Nat} {l m : List CellM} {v : Int}
theorem parts_one (h : (groupC l).length ≤ n) : partsM n f i l = [groupC l] := by
  cases f with
  | zero => rfl
  | succ f => rw [partsM, if_pos h]
theorem parts_len : ∀ {f i : Nat} {l : List CellM}, (partsM n f i l).length = cntM n f i l
  | 0, _, _ => rfl
  | f + 1, i, l => by
    rw [partsM, cntM]
    split
    · rfl
    · rw [List.length_flatMap]
      congr 1
      apply List.map_congr_left
      intro v _
      exact parts_len
theorem parts_flat : ∀ {f i : Nat} {l : List CellM}, Pre (i + f) i l → (partsM n f i l).flatten = groupC l
  | 0, _, _, _ => by simp [partsM]
  | f + 1, i, l, h => by
    have hi : i < i + (f + 1) := by omega
    have hp : ∀ v, Pre (i + 1 + f) (i + 1) (partC i v l) := fun v => by have := h.part hi v; rwa [show i + 1 + f = i + (f + 1) by omega]
    rw [partsM]
    split
    · simp
    · rw [← group_parts h hi (h.vals hi), List.flatten_eq_flatMap, List.flatMap_assoc]
      have : ∀ v, (partsM n f (i + 1) (partC i v l)).flatMap id = groupC (partC i v l) := fun v => by
        rw [← List.flatten_eq_flatMap]; exact parts_flat (hp v)
      simp only [this]
end
/-- A part of the group-by is the group-by of a part. -/
theorem part_group {i : Nat} {v : Int} {l : List CellM} : partC i v (groupC l) = groupC (partC i v l) := by
  refine srt_eq ((grp_group l).srt.filter _) (grp_group _).srt fun c => ?_
  rw [mem_part, (grp_group l).mem, (grp_group _).mem]
  constructor
  · rintro ⟨h1, h2⟩
    rw [atKey_part (v := v) h2]; exact h1
  · intro h
    have hv : atV c i = v := by
      obtain ⟨d, hd, e⟩ := group_key (((grp_group _).mem c).2 h)
      unfold atV
      rw [← e]
      exact (mem_part.1 hd).2
    rw [atKey_part (v := v) hv] at h
    exact ⟨h, hv⟩
/-- The most of some numbers. -/
def mostM : List Nat → Nat
  | [] => 0
  | x :: xs => max x (mostM xs)
theorem most_append (xs ys : List Nat) : mostM (xs ++ ys) = max (mostM xs) (mostM ys) := by
  induction xs with
  | nil => simp [mostM]
  | cons x xs ih => rw [List.cons_append, mostM, mostM, ih]; omega
theorem most_le {xs : List Nat} {n : Nat} (h : ∀ x ∈ xs, x ≤ n) : mostM xs ≤ n := by
  induction xs with
  | nil => exact Nat.zero_le _
  | cons x xs ih =>
    have := h x List.mem_cons_self
    have := ih fun y hy => h y (List.mem_cons_of_mem _ hy)
    rw [mostM]; omega
theorem most_mem {xs : List Nat} {x : Nat} (h : x ∈ xs) : x ≤ mostM xs := by
  induction xs with
  | nil => cases h
  | cons y xs ih =>
    rw [mostM]
    rcases List.mem_cons.1 h with rfl | h
    · omega
    · have := ih h; omega
theorem most_perm {xs ys : List Nat} (h : xs.Perm ys) : mostM xs = mostM ys :=
  Nat.le_antisymm (most_le fun _ hx => most_mem (h.mem_iff.1 hx)) (most_le fun _ hx => most_mem (h.mem_iff.2 hx))
/-- The most cells that a part comes to. -/
def highM (n f i : Nat) (l : List CellM) : Nat := mostM ((partsM n f i l).map (·.length))
theorem high_one {n f i : Nat} {l : List CellM} (h : (groupC l).length ≤ n) : highM n f i l = (groupC l).length := by
  unfold highM; rw [parts_one h]; simp [mostM]
theorem most_flat {α : Type} (g : α → List Nat) (vs : List α) : mostM (vs.flatMap g) = mostM (vs.map fun v => mostM (g v)) := by
  induction vs with
  | nil => rfl
  | cons v vs ih => rw [List.flatMap_cons, most_append, ih, List.map_cons, mostM]
theorem high_step {n f i : Nat} {l : List CellM} (h : ¬ (groupC l).length ≤ n) : highM n (f + 1) i l = mostM ((valsM i l).map fun v => highM n f (i + 1) (partC i v l)) := by
  unfold highM
  rw [partsM, if_neg h, List.map_flatMap, most_flat]
end Go.HC

/-
  The document's group-by in parts.
-/
namespace Go.HC
theorem putC_last : ∀ {o : List CellM} {c : CellM}, (∀ d ∈ o, lessM d.key c.key < 0) → putC o c = o ++ [c]
  | [], _, _ => rfl
  | d :: o, c, h => by
    rw [putC, if_pos (h d List.mem_cons_self), putC_last fun e he => h e (List.mem_cons_of_mem _ he)]; rfl
theorem group_id {o : List CellM} (h : Srt o) : groupC o = o := by
  have key : ∀ k, groupC (o.take k) = o.take k := by
    intro k
    induction k with
    | zero => rfl
    | succ k ih =>
      by_cases hk : k < o.length
      · rw [group_take hk, ih, take_snoc hk]
        refine putC_last fun d hd => ?_
        obtain ⟨j, hj, e⟩ := List.getElem_of_mem hd
        rw [List.length_take] at hj
        rw [List.getElem_take] at e
        rw [← e]
        exact h.get (by omega) hk (by omega)
      · rw [List.take_of_length_le (by omega)]; rwa [List.take_of_length_le (by omega)] at ih
  have := key o.length
  rwa [List.take_length] at this
theorem Holds.group {T : Tab} {l : List CellM} (h : Holds T l) : groupC (cellsM T) = groupC l := (group_perm h.perm).trans (group_id (grp_group l).srt)
/-- The values below v at a place of the keys. -/
def valsTo (i : Nat) (l : List CellM) (v : Nat) : List Int := ((List.range v).map Int.ofNat).filter fun v => l.any fun c => decide (atV c i = v)
theorem valsTo_succ (i : Nat) (l : List CellM) (v : Nat) : valsTo i l (v + 1) = valsTo i l v ++ (if 0 < (partC i v l).length then [(v : Int)] else []) := by
  unfold valsTo
  rw [List.range_succ, List.map_append, List.filter_append]
  congr 1
  have : (l.any fun c => decide (atV c i = Int.ofNat v)) = decide (0 < (partC i v l).length) := by
    rw [Bool.eq_iff_iff]
    simp only [List.any_eq_true, decide_eq_true_eq]
    constructor
    · rintro ⟨c, hc, e⟩
      exact List.length_pos_of_mem (mem_part.2 ⟨hc, e⟩)
    · intro hl
      obtain ⟨c, hc⟩ := List.exists_mem_of_length_pos hl
      exact ⟨c, (mem_part.1 hc).1, (mem_part.1 hc).2⟩
  by_cases h : 0 < (partC i v l).length
  · rw [if_pos h]; simp only [List.map_cons, List.map_nil, List.filter_cons, List.filter_nil, this]; simp [h]
  · rw [if_neg h]; simp only [List.map_cons, List.map_nil, List.filter_cons, List.filter_nil, this]; simp [h]
theorem valsTo_all (i : Nat) (l : List CellM) : valsTo i l 16 = valsM i l := rfl
theorem valsTo_le (i : Nat) (l : List CellM) (g : Int → Nat) {v w : Nat} (h : v ≤ w) : ((valsTo i l v).map g).sum ≤ ((valsTo i l w).map g).sum := by
  induction w with
  | zero => have : v = 0 := by omega
            subst this; exact Nat.le_refl _
  | succ w ih =>
    rcases Nat.lt_or_ge v (w + 1) with h1 | h1
    · have := ih (by omega)
      rw [valsTo_succ i l w, List.map_append, List.sum_append]; omega
    · have : v = w + 1 := by omega
      subst this; exact Nat.le_refl _
theorem part_take {i : Nat} {v : Int} {l : List CellM} {k : Nat} (hk : k < l.length) : partC i v (l.take (k + 1)) = if atV l[k] i = v then partC i v (l.take k) ++ [l[k]] else partC i v (l.take k) := by
  rw [take_snoc hk, part_snoc]
end Go.HC
namespace Go.Proofs
open Go Go.HC

theorem cellsT : ElemT Try.prog 41 24 (rSlice rCell) 24 := ⟨Try.elS41, Try.szS24, Try.byS24, _, Try.zS24, rfl⟩
end Go.Proofs

/-
  The document's parts of cells, of any keys.
-/
namespace Go.HC
theorem flatten_take {α : Type} {ls : List (List α)} {k : Nat} (hk : k < ls.length) : (ls.take (k + 1)).flatten = (ls.take k).flatten ++ ls[k] := by
  rw [take_snoc hk, List.flatten_append]; simp
theorem flatten_take_le {α : Type} (ls : List (List α)) (k : Nat) : (ls.take k).flatten.length ≤ ls.flatten.length := by
  conv => rhs; rw [← List.take_append_drop k ls]
  rw [List.flatten_append, List.length_append]; omega
theorem SlRep.row_at {α : Type} {R : Rp α} {F : Nat → Prop} {h : Heap} {a : Option Addr} {m c : Nat} {ls : List (List α)} (hs : SlRep (rSlice R) F h (.slice a m c) ls) (k : Nat) (hk : k < ls.length) :
    ∃ b o v, a = some ⟨b, o, none⟩ ∧ F b ∧ cellIn h[b]? (o + k) = some v ∧ SlRep R F h v ls[k] := by
  obtain ⟨b, o, cs, e, hb, ⟨v, rfl, hv⟩, hx⟩ := hs.get k hk
  refine ⟨b, o, v, e, hb, ?_, hv⟩
  have := cellsIn_cell (d := 0) hx (by show 0 < 1; decide)
  have hz : (rSlice R).sz = 1 := rfl
  rw [hz, Nat.mul_one, Nat.add_zero] at this
  simpa using this
end Go.HC
namespace Go.Proofs
open Go Go.HC

end Go.Proofs

/-
  Two rows of rising cells made one; runs; plainly.
-/
namespace Go.HC
theorem fold_front {d : CellM} : ∀ {b o : List CellM}, (∀ y ∈ b, lessM d.key y.key < 0) → b.foldl putC (d :: o) = d :: b.foldl putC o
  | [], _, _ => rfl
  | y :: b, o, h => by
    rw [List.foldl_cons, List.foldl_cons, putC, if_pos (h y List.mem_cons_self)]
    exact fold_front fun z hz => h z (List.mem_cons_of_mem _ hz)
def twoM : List CellM → List CellM → List CellM
  | [], b => b
  | x :: a, [] => x :: a
  | x :: a, y :: b => if lessM x.key y.key < 0 then x :: twoM a (y :: b) else if lessM x.key y.key = 0 then joinC x y :: twoM a b else y :: twoM (x :: a) b
termination_by a b => a.length + b.length
theorem two_fold : ∀ (a b : List CellM), Srt a → Srt b → twoM a b = b.foldl putC a
  | [], b, _, hb => by
    rw [twoM]
    exact (group_id hb).symm
  | x :: a, [], _, _ => by rw [twoM]; rfl
  | x :: a, y :: b, ha, hb => by
    obtain ⟨ha1, ha2⟩ := List.pairwise_cons.1 ha
    obtain ⟨hb1, hb2⟩ := List.pairwise_cons.1 hb
    rw [twoM]
    split
    · rename_i h
      rw [two_fold a (y :: b) ha2 hb, fold_front]
      intro z hz
      rcases List.mem_cons.1 hz with rfl | hz
      · exact h
      · exact lessM_trans h (hb1 z hz)
    · rename_i h
      split
      · rename_i h0
        rw [two_fold a b ha2 hb2, List.foldl_cons, putC, if_neg h, if_pos h0, fold_front]
        intro z hz
        have : (joinC x y).key = y.key := lessM_zero.1 h0
        rw [this]
        exact hb1 z hz
      · rename_i h0
        rw [two_fold (x :: a) b ha hb2, List.foldl_cons, putC, if_neg h, if_neg h0]
        exact (fold_front (d := y) fun z hz => hb1 z hz).symm
termination_by a b => a.length + b.length
theorem two_group {a b : List CellM} (ha : Srt a) (hb : Srt b) : twoM a b = groupC (a ++ b) := by
  rw [two_fold a b ha hb]
  unfold groupC
  rw [List.foldl_append]
  congr 1
  exact (group_id ha).symm
end Go.HC
namespace Go.HC
/-- One more cell of the runs: those that are closed, and the one that is held. -/
def runStep (most : Nat) (st : List (List CellM) × List CellM) (c : CellM) : List (List CellM) × List CellM :=
  if (∀ d ∈ st.2, d.key ≠ c.key) ∧ most ≤ st.2.length then (st.1 ++ [st.2], [c]) else (st.1, putC st.2 c)
def runFold (most : Nat) (l : List CellM) : List (List CellM) × List CellM := l.foldl (runStep most) ([], [])
def runsM (most : Nat) (l : List CellM) : List (List CellM) := (runFold most l).1 ++ (if 0 < (runFold most l).2.length then [(runFold most l).2] else [])
theorem run_take {most : Nat} {l : List CellM} {k : Nat} (hk : k < l.length) : runFold most (l.take (k + 1)) = runStep most (runFold most (l.take k)) l[k] := by
  unfold runFold
  rw [take_snoc hk, List.foldl_append]; rfl
end Go.HC
namespace Go.HC
theorem group_left (a b : List CellM) : groupC (groupC b ++ a) = groupC (b ++ a) := by
  unfold groupC
  rw [List.foldl_append, List.foldl_append]
  congr 1
  exact group_id (grp_group b).srt
theorem group_right (a b : List CellM) : groupC (a ++ groupC b) = groupC (a ++ b) := by
  rw [group_perm List.perm_append_comm, group_left, group_perm List.perm_append_comm]
theorem put_group {h : List CellM} (hs : Srt h) (c : CellM) : putC h c = groupC (h ++ [c]) := by rw [groupC_snoc, group_id hs]
theorem put_there : ∀ {o : List CellM} {c : CellM}, Srt o → (∃ d ∈ o, d.key = c.key) → (putC o c).length = o.length
  | [], _, _, ⟨_, h, _⟩ => by cases h
  | x :: o, c, hs, ⟨d, hd, e⟩ => by
    obtain ⟨h1, h2⟩ := List.pairwise_cons.1 hs
    rw [putC]
    split
    · rename_i hlt
      have hd' : d ∈ o := by
        rcases List.mem_cons.1 hd with rfl | h
        · rw [e, lessM_self] at hlt; omega
        · exact h
      rw [List.length_cons, List.length_cons, put_there h2 ⟨d, hd', e⟩]
    · split
      · rfl
      · rename_i hn h0
        exfalso
        rcases List.mem_cons.1 hd with rfl | h
        · exact h0 (lessM_zero.2 e)
        · have := h1 d h
          rw [e] at this
          exact hn this
/-- What holds of runs. -/
structure RunOk (most : Nat) (l : List CellM) (st : List (List CellM) × List CellM) : Prop where
  srt : ∀ r ∈ st.1, Srt r
  len : ∀ r ∈ st.1, r.length = most
  held : Srt st.2
  hlen : st.2.length ≤ most
  grp : groupC (st.1.flatten ++ st.2) = groupC l
  one : (groupC l).length ≤ most → st.1 = []
theorem runOk (most : Nat) (h0 : 0 < most) (l : List CellM) : ∀ k, k ≤ l.length → RunOk most (l.take k) (runFold most (l.take k)) := by
  intro k
  induction k with
  | zero => exact fun _ => ⟨(fun r hr => by cases hr), (fun r hr => by cases hr), List.Pairwise.nil, Nat.zero_le _, rfl, fun _ => rfl⟩
  | succ k ih =>
    intro hk
    have h := ih (by omega)
    rw [run_take (by omega)]
    have hsn := take_snoc (l := l) (k := k) (by omega)
    generalize runFold most (l.take k) = st at *
    obtain ⟨out, held⟩ := st
    obtain ⟨h1, h2, h3, h4, h5, h6⟩ := h
    simp only at h1 h2 h3 h4 h5 h6
    have hg : groupC (out.flatten ++ (held ++ [l[k]])) = groupC (l.take (k + 1)) := by
      rw [hsn, ← List.append_assoc, groupC_snoc, groupC_snoc, h5]
    have hmon : (groupC (l.take k)).length ≤ (groupC (l.take (k + 1))).length := by
      rw [hsn, groupC_snoc]; have := putC_len (l := groupC (l.take k)) l[k]; omega
    unfold runStep
    split
    · rename_i hc
      refine ⟨fun r hr => ?_, fun r hr => ?_, by simp [Srt], by simp; omega, ?_, fun hle => ?_⟩
      · rcases List.mem_append.1 hr with hr | hr
        · exact h1 r hr
        · rw [List.mem_singleton] at hr; subst hr; exact h3
      · rcases List.mem_append.1 hr with hr | hr
        · exact h2 r hr
        · rw [List.mem_singleton] at hr; subst hr; simp only at hc ⊢; omega
      · simp only [List.flatten_append, List.flatten_cons, List.flatten_nil, List.append_nil, List.append_assoc]
        exact hg
      · exfalso
        have h7 := h6 (by omega)
        subst h7
        simp only [List.flatten_nil, List.nil_append] at hg
        rw [← hg, ← put_group h3] at hle
        have hno : ∀ o : List CellM, (∀ d ∈ o, d.key ≠ l[k].key) → (putC o l[k]).length = o.length + 1 := by
          intro o
          induction o with
          | nil => exact fun _ => rfl
          | cons d o ih =>
            intro ho
            rw [putC]
            split
            · simpa using ih fun d hd => ho d (List.mem_cons_of_mem _ hd)
            · split
              · rename_i h0
                exact absurd (lessM_zero.1 h0) (ho d List.mem_cons_self)
              · rfl
        rw [hno _ hc.1] at hle
        have := hc.2
        simp only at this
        omega
    · rename_i hc
      have hpl : (putC held l[k]).length ≤ most := by
        rcases Nat.lt_or_ge held.length most with h | h
        · have := putC_le held l[k]; omega
        · have hex : ∃ d ∈ held, d.key = l[k].key := Classical.byContradiction fun hno => hc ⟨fun d hd e => hno ⟨d, hd, e⟩, h⟩
          rw [put_there h3 hex]; exact h4
      refine ⟨h1, h2, srt_put h3 _, hpl, ?_, fun hle => h6 (by omega)⟩
      simp only
      rw [put_group h3, group_right]
      exact hg
end Go.HC

/-
  Cells by fewer dimensions, plainly.
-/
namespace Go.HC
/-! ### fewer dimensions -/
def dimsM (a : Int) : List Nat := (List.range 4).filter (bitM a)
def pickN (b : Int) (ds : List Nat) (key : List Int) : List Int := (ds.zip key).filterMap fun p => if bitM b p.1 = true then some p.2 else none
def narrowC (a b : Int) (c : CellM) : CellM := ⟨pickN b (dimsM a) c.key, c.count, c.sum, c.mn, c.mx⟩
theorem pickN_cons (b : Int) (d : Nat) (ds : List Nat) (x : Int) (key : List Int) : pickN b (d :: ds) (x :: key) = if bitM b d = true then x :: pickN b ds key else pickN b ds key := by
  unfold pickN
  rw [List.zip_cons_cons, List.filterMap_cons]
  split <;> rename_i h <;> split at h <;> simp_all
theorem pickN_nil (b : Int) (ds : List Nat) : pickN b ds [] = [] := by unfold pickN; simp
theorem pickN_nil' (b : Int) (key : List Int) : pickN b [] key = [] := by unfold pickN; simp
theorem pickN_snoc (b : Int) (d : Nat) : ∀ (ds : List Nat) (key : List Int), pickN b (ds ++ [d]) key = pickN b ds key ++ (if h : ds.length < key.length then (if bitM b d = true then [key[ds.length]] else []) else [])
  | [], [] => by simp [pickN_nil]
  | [], x :: key => by
    simp only [List.nil_append, pickN_cons, pickN_nil', List.length_nil, List.length_cons, Nat.zero_lt_succ, dite_true, List.getElem_cons_zero]
  | e :: ds, [] => by simp [pickN_nil]
  | e :: ds, x :: key => by
    rw [List.cons_append, pickN_cons, pickN_cons, pickN_snoc b d ds key]
    by_cases h : ds.length < key.length
    · have h' : (e :: ds).length < (x :: key).length := by simp; omega
      rw [dif_pos h, dif_pos h']
      split <;> simp
    · have h' : ¬ (e :: ds).length < (x :: key).length := by simp; omega
      rw [dif_neg h, dif_neg h']
      simp
theorem pickN_len (b : Int) : ∀ (ds : List Nat) (key : List Int), ds.length ≤ key.length → (pickN b ds key).length = (ds.filter (bitM b)).length
  | [], key, _ => by simp [pickN_nil']
  | d :: ds, [], h => by simp at h
  | d :: ds, x :: key, h => by
    rw [pickN_cons, List.filter_cons]
    have ih := pickN_len b ds key (by simpa using h)
    split <;> simp [ih]
theorem pickN_le (b : Int) (ds : List Nat) (key : List Int) : (pickN b ds key).length ≤ key.length := by
  unfold pickN
  refine Nat.le_trans (List.length_filterMap_le _ _) ?_
  rw [List.length_zip]; omega
theorem pickN_mem {b : Int} {v : Int} : ∀ {ds : List Nat} {key : List Int}, v ∈ pickN b ds key → v ∈ key
  | [], key, h => by simp [pickN_nil'] at h
  | d :: ds, [], h => by simp [pickN_nil] at h
  | d :: ds, x :: key, h => by
    rw [pickN_cons] at h
    split at h
    · rcases List.mem_cons.1 h with rfl | h
      · exact List.mem_cons_self
      · exact List.mem_cons_of_mem _ (pickN_mem h)
    · exact List.mem_cons_of_mem _ (pickN_mem h)
theorem pickN_of {a b : Int} (hab : ∀ i, i < 4 → bitM b i = true → bitM a i = true) : ∀ (xs : List Int) (i : Nat), i + xs.length ≤ 4 →
    pickN b ((List.range' i (4 - i)).filter (bitM a)) (pickM a i xs) = pickM b i xs
  | [], i, _ => by rw [pickM, pickM, pickN_nil]
  | x :: xs, i, h => by
    have hl : i + 1 + xs.length ≤ 4 := by simp at h; omega
    have hi : i < 4 := by omega
    have e : List.range' i (4 - i) = i :: List.range' (i + 1) (4 - (i + 1)) := by
      rw [show 4 - i = (4 - (i + 1)) + 1 by omega, List.range'_succ]
    rw [e, List.filter_cons, pickM, pickM]
    have ih := pickN_of hab xs (i + 1) hl
    by_cases ha : bitM a i = true
    · rw [if_pos ha, if_pos ha, pickN_cons, ih]
    · have hb : ¬ bitM b i = true := fun hb => ha (hab i hi hb)
      rw [if_neg ha, if_neg ha, if_neg hb, ih]
theorem narrow_of {a b : Int} (hab : ∀ i, i < 4 → bitM b i = true → bitM a i = true) (r : RowM) (hr : r.key.length ≤ 4) : narrowC a b (ofM a r) = ofM b r := by
  unfold narrowC ofM dimsM
  have := pickN_of hab r.key 0 (by omega)
  rw [List.range_eq_range']
  simp only [Nat.sub_zero] at this
  simp only [this]
def lvlN (a b : Int) : Nat := ((dimsM a).filter (bitM b)).length
theorem CellOk.narrow {m : Nat} {a b : Int} {c : CellM} (h : CellOk m (dimsM a).length c) : CellOk m (lvlN a b) (narrowC a b c) :=
  ⟨⟨Nat.le_trans (pickN_le _ _ _) h.sml.key, h.sml.sum, h.sml.mn, h.sml.mx⟩, pickN_len _ _ _ (by rw [h.len]; exact Nat.le_refl _), fun v hv => h.key v (pickN_mem hv)⟩
theorem narrow_small {a b : Int} {c : CellM} (h : CellSmall c) : CellSmall (narrowC a b c) := ⟨Nat.lt_of_le_of_lt (pickN_le _ _ _) h.key, h.sum, h.mn, h.mx⟩
theorem lvl_dims : ∀ n : Fin 5, ∀ a : Fin 16, a.val < 2 ^ n.val → lvlM (a.val : Int) 0 n.val = (dimsM (a.val : Int)).length := by decide +kernel
/-- Both sets' dimensions. -/
def andM (x y : Int) : Int := IntKind.i64.wrap ((BitVec.ofInt IntKind.i64.bits x &&& BitVec.ofInt IntKind.i64.bits y).toNat)
theorem and_bits : ∀ x y : Fin 16, (0 ≤ andM x.val y.val ∧ andM x.val y.val ≤ x.val) ∧ ∀ i : Fin 4, bitM (andM x.val y.val) i.val = (bitM x.val i.val && bitM y.val i.val) := by decide +kernel
theorem and_ok {x y : Int} (hx : 0 ≤ x ∧ x < 16) (hy : 0 ≤ y ∧ y < 16) : (0 ≤ andM x y ∧ andM x y ≤ x) ∧ ∀ i, i < 4 → bitM (andM x y) i = true → bitM x i = true := by
  obtain ⟨m, rfl⟩ : ∃ m : Nat, x = m := ⟨x.toNat, by omega⟩
  obtain ⟨k, rfl⟩ : ∃ k : Nat, y = k := ⟨y.toNat, by omega⟩
  have := and_bits ⟨m, by omega⟩ ⟨k, by omega⟩
  refine ⟨this.1, fun i hi h => ?_⟩
  have h2 := this.2 ⟨i, hi⟩
  simp only at h2
  rw [h2, Bool.and_eq_true] at h
  exact h.1
/-! ### groups of changed cells -/
theorem group_join {p q : List CellM} {x y : CellM} (h : x.key = y.key) : groupC (p ++ joinC x y :: q) = groupC (p ++ x :: y :: q) := by
  rw [group_perm (List.perm_append_comm (l₁ := p)), group_perm (List.perm_append_comm (l₁ := p) (l₂ := x :: y :: q))]
  unfold groupC
  simp only [List.cons_append, List.foldl_cons, putC]
  rw [if_neg (by rw [h, lessM_self]; omega), if_pos (by rw [h, lessM_self])]
theorem put_map {f : CellM → CellM} {φ : List Int → List Int} (hk : ∀ c, (f c).key = φ c.key) (hj : ∀ x y, f (joinC x y) = joinC (f x) (f y)) : ∀ (o : List CellM) (c : CellM) (p : List CellM),
    groupC (p ++ (putC o c).map f) = groupC (p ++ o.map f ++ [f c])
  | [], c, p => by simp [putC]
  | d :: o, c, p => by
    rw [putC]
    split
    · have := put_map hk hj o c (p ++ [f d])
      simpa using this
    · split
      · rename_i _ h0
        have e := lessM_zero.1 h0
        simp only [List.map_cons]
        rw [hj, group_join (by rw [hk, hk, e])]
        refine group_perm ?_
        rw [List.append_assoc]
        refine List.Perm.append_left _ ?_
        simp only [List.cons_append]
        exact List.Perm.cons _ (by simpa using (List.perm_append_comm (l₁ := [f c]) (l₂ := o.map f)))
      · refine group_perm ?_
        simp only [List.map_cons]
        rw [List.append_assoc]
        refine List.Perm.append_left _ ?_
        simpa using (List.perm_append_comm (l₁ := [f c]) (l₂ := f d :: o.map f))
theorem group_map {f : CellM → CellM} {φ : List Int → List Int} (hk : ∀ c, (f c).key = φ c.key) (hj : ∀ x y, f (joinC x y) = joinC (f x) (f y)) (l : List CellM) :
    groupC ((groupC l).map f) = groupC (l.map f) := by
  have key : ∀ (l o : List CellM), groupC ((l.foldl putC o).map f) = groupC (o.map f ++ l.map f) := by
    intro l
    induction l with
    | nil => intro o; simp
    | cons c l ih =>
      intro o
      rw [List.foldl_cons, ih, group_perm List.perm_append_comm]
      have := put_map hk hj o c (l.map f)
      rw [this]
      refine group_perm ?_
      simp only [List.map_cons]
      rw [List.append_assoc]
      refine List.perm_append_comm.trans ?_
      simp
  exact key l []
theorem narrow_join (a b : Int) (x y : CellM) : narrowC a b (joinC x y) = joinC (narrowC a b x) (narrowC a b y) := rfl
theorem group_narrow (a b : Int) (l : List CellM) : groupC ((groupC l).map (narrowC a b)) = groupC (l.map (narrowC a b)) := group_map (φ := fun k => pickN b (dimsM a) k) (fun _ => rfl) (narrow_join a b) l
end Go.HC

/-
  How many cells are held at once, plainly.
-/
namespace Go.HC
/-! ### how many are held -/
theorem group_nil {l : List CellM} (h : ¬ 0 < (groupC l).length) : groupC l = [] := List.eq_nil_of_length_eq_zero (by omega)
structure RunsOk (most : Nat) (l : List CellM) (rs : List (List CellM)) : Prop where
  srt : ∀ r ∈ rs, Srt r
  len : ∀ r ∈ rs, 0 < r.length ∧ r.length ≤ most
  grp : groupC rs.flatten = groupC l
  one : (groupC l).length ≤ most → rs = if 0 < (groupC l).length then [groupC l] else []
theorem runs_ok {most : Nat} (h0 : 0 < most) (l : List CellM) : RunsOk most l (runsM most l) := by
  have h := runOk most h0 l l.length (Nat.le_refl _)
  rw [List.take_length] at h
  unfold runsM
  generalize runFold most l = st at *
  obtain ⟨out, held⟩ := st
  obtain ⟨h1, h2, h3, h4, h5, h6⟩ := h
  simp only at h1 h2 h3 h4 h5 h6 ⊢
  have hmem : ∀ r, r ∈ out ++ (if 0 < held.length then [held] else []) → r ∈ out ∨ (r = held ∧ 0 < held.length) := by
    intro r hr
    rcases List.mem_append.1 hr with h | h
    · exact .inl h
    · split at h
      · exact .inr ⟨List.mem_singleton.1 h, by assumption⟩
      · cases h
  have hfl : (out ++ (if 0 < held.length then [held] else [])).flatten = out.flatten ++ held := by
    rw [List.flatten_append]
    split
    · simp
    · have : held = [] := List.eq_nil_of_length_eq_zero (by omega)
      simp [this]
  refine ⟨fun r hr => ?_, fun r hr => ?_, by rw [hfl]; exact h5, fun hle => ?_⟩
  · rcases hmem r hr with h | ⟨rfl, _⟩
    · exact h1 r h
    · exact h3
  · rcases hmem r hr with h | ⟨rfl, h⟩
    · have := h2 r h; omega
    · exact ⟨h, h4⟩
  · have e := h6 hle
    subst e
    have e2 : held = groupC l := by rw [← h5]; simp [group_id h3]
    subst e2
    simp
def sortHigh (k : Nat) (l : List CellM) : Nat :=
  if 1 < (runsM k l).length then max (mostM ((runsM k l).map (·.length))) (min (k - 1) (runsM k l).length + 1) else mostM ((runsM k l).map (·.length))
/-- How many cells are held at once: by sorting, by hashing. -/
def highE (alg : Int) (k L : Nat) (l : List CellM) : Nat := if alg = 0 then sortHigh k l else highM (min k 10000) L 0 l
theorem most_pos {xs : List Nat} {x : Nat} (h : x ∈ xs) (hx : 0 < x) : 0 < mostM xs := Nat.lt_of_lt_of_le hx (most_mem h)
theorem flat_pos {ls : List (List CellM)} (h : 0 < ls.flatten.length) : ∃ l ∈ ls, 0 < l.length := by
  induction ls with
  | nil => simp at h
  | cons l ls ih =>
    rw [List.flatten_cons, List.length_append] at h
    by_cases h0 : 0 < l.length
    · exact ⟨l, List.mem_cons_self, h0⟩
    · obtain ⟨m, hm, h1⟩ := ih (by omega)
      exact ⟨m, List.mem_cons_of_mem _ hm, h1⟩
theorem part_le {n : Nat} (h0 : 0 < n) : ∀ {f i : Nat} {l : List CellM}, Pre (i + f) i l → ∀ p ∈ partsM n f i l, p.length ≤ n
  | 0, i, l, h, p, hp => by
    rw [partsM, List.mem_singleton] at hp
    subst hp
    have := h.one
    omega
  | f + 1, i, l, h, p, hp => by
    rw [partsM] at hp
    split at hp
    · rename_i hle
      rw [List.mem_singleton] at hp
      subst hp; exact hle
    · obtain ⟨v, _, hv⟩ := List.mem_flatMap.1 hp
      exact part_le h0 (f := f) (i := i + 1) (by have := h.part (show i < i + (f + 1) by omega) v; rwa [show i + 1 + f = i + (f + 1) by omega]) p hv
theorem high_ok {alg : Int} {k L : Nat} {l : List CellM} (hk : 3 ≤ k) (hl : (groupC l).length < 10000) (hp : Pre L 0 l) :
    highE alg k L l ≤ k ∧ ((groupC l).length ≤ k → highE alg k L l = (groupC l).length) ∧ (0 < highE alg k L l ↔ 0 < (groupC l).length) := by
  have hp' : Pre (0 + L) 0 l := by rwa [Nat.zero_add]
  unfold highE
  split
  · have ho := runs_ok (show 0 < k by omega) l
    unfold sortHigh
    have hm : mostM ((runsM k l).map (·.length)) ≤ k := most_le fun x hx => by
      obtain ⟨r, hr, rfl⟩ := List.mem_map.1 hx
      exact (ho.len r hr).2
    generalize runsM k l = rs at *
    refine ⟨by split <;> omega, fun hle => ?_, ?_⟩
    · have := ho.one hle
      subst this
      by_cases h0 : 0 < (groupC l).length
      · rw [if_pos h0]; simp [mostM]
      · rw [if_neg h0]; simp [mostM]; omega
    · constructor
      · intro h1
        apply Classical.byContradiction
        intro h2
        have := ho.one (by omega)
        rw [if_neg h2] at this
        subst this
        simp [mostM] at h1
      · intro h1
        have h2 : 0 < rs.flatten.length := by
          apply Classical.byContradiction
          intro h3
          have e : rs.flatten = [] := List.eq_nil_of_length_eq_zero (by omega)
          have := ho.grp
          rw [e] at this
          rw [← this] at h1
          simp [groupC] at h1
        obtain ⟨r, hr, h3⟩ := flat_pos h2
        have := most_pos (List.mem_map_of_mem (f := (·.length)) hr) h3
        split <;> omega
  · have hn : 0 < min k 10000 := by omega
    have hfl := parts_flat (n := min k 10000) hp'
    have hle := part_le hn hp'
    unfold highM
    refine ⟨?_, fun h => ?_, ?_⟩
    · refine Nat.le_trans (most_le (n := min k 10000) fun x hx => ?_) (by omega)
      obtain ⟨r, hr, rfl⟩ := List.mem_map.1 hx
      exact hle r hr
    · rw [parts_one (by omega)]; simp [mostM]
    · generalize partsM (min k 10000) L 0 l = ps at *
      constructor
      · intro h1
        rw [← hfl]
        apply Classical.byContradiction
        intro h2
        have : mostM (ps.map (·.length)) ≤ 0 := most_le fun x hx => by
          obtain ⟨r, hr, rfl⟩ := List.mem_map.1 hx
          apply Classical.byContradiction
          intro h3
          obtain ⟨a, b, e⟩ := List.append_of_mem hr
          rw [e] at h2
          simp at h2
          simp [h2.2.1] at h3
        omega
      · intro h1
        rw [← hfl] at h1
        obtain ⟨r, hr, h3⟩ := flat_pos h1
        exact most_pos (List.mem_map_of_mem (f := (·.length)) hr) h3
/-- What is made: the cells, how many were held, the word. -/
def execM (a b k alg : Int) (l : List CellM) : List CellM × Nat × Int :=
  if alg ≠ 0 ∧ alg ≠ 1 then ([], 0, 10) else if k < 3 then ([], 0, 3) else (groupC (l.map (narrowC a b)), highE alg k.toNat (lvlN a b) (l.map (narrowC a b)), 0)
end Go.HC

/-
  HC, part 28: iterators that change no old block: what one asks of the function that it is handed; a range over one.
-/
namespace Go.HC
/-- What an iterator is handed: a function that takes one more datum. J: what holds when these have been taken (M: the blocks that may be changed since). A: which may come next. -/
structure YieldsM {α : Type} (P : Program) (y : Value) (val : α → Array Value) (A : List α → α → (Nat → Prop) → Heap → Prop) (J : List α → (Nat → Prop) → Heap → Prop) : Prop where
  lt : ∀ {xs M h}, J xs M h → ∀ b, M b → b < h.size
  call : ∀ {xs M h h'}, J xs M h → Keep none_ h h' → J xs M h'
  step : ∀ {xs x M h}, J xs M h → A xs x M h → callV P y (val x) h fun v h' => v = .bool true ∧ ∃ M', J (xs ++ [x]) M' h' ∧ Tr M M' h h'
/-- An iterator's contract: Fp: the blocks that it reads, as they are in h0; Done: what has come when it ends. -/
def IterM {α : Type} (P : Program) (f : FuncId) (first caps : Array Value) (val : α → Array Value) (A : List α → α → (Nat → Prop) → Heap → Prop) (Done : List α → Prop) (Fp : Nat → Prop) (h0 : Heap) : Prop :=
  ∀ (y : Value) (J : List α → (Nat → Prop) → Heap → Prop) (M : Nat → Prop) (h : Heap), (∃ fn u v, y = .func fn u v) → YieldsM P y val A J → J [] M h → h0.size ≤ h.size → (∀ b, Fp b → b < h0.size ∧ ¬ M b ∧ h[b]? = h0[b]?) →
    CallH P f (first ++ #[y] ++ caps) h fun _ h' => ∃ xs M', Done xs ∧ J xs M' h' ∧ Tr M M' h h'
/-- How a round's body ends. -/
def bodyM {α : Type} (dm : Nat) (M : Nat → Prop) (h1 h3 : Heap) (I : List α → (Nat → Prop) → Heap → Prop) (xs : List α) (_t : Tag I) (h4 : Heap) : Prop :=
  ∃ M4, I xs M4 h4 ∧ Tr M M4 h1 h4 ∧ M4 dm ∧ M4 (dm + 1) ∧ h4[dm]? = h3[dm]? ∧ h4[dm + 1]? = h3[dm + 1]?
def bodyMk {α : Type} (dm : Nat) (M : Nat → Prop) (h1 h3 : Heap) (I : List α → (Nat → Prop) → Heap → Prop) (xs : List α) : Kont :=
  { nx := fun _ _ h4 => bodyM dm M h1 h3 I xs ⟨⟩ h4, rt := fun _ _ _ => False, ex := fun _ _ _ _ => False, gt := fun _ _ _ _ => False }
/-- How the assignment ahead of it ends. -/
def asgM {α : Type} (P : Program) (n dm : Nat) (y : Code) (M : Nat → Prop) (h1 : Heap) (I : List α → (Nat → Prop) → Heap → Prop) (xs : List α) : Kont :=
  { nx := fun l2 b2 h2 => Keep none_ h1 h2 ∧ ∀ h3 : Heap, Keep (fun b => b = dm + 1) h2 h3 → h3.size = h2.size → cs P n (some (dm + 1)) y (bodyMk dm M h1 h3 I xs) l2 b2 h3,
    rt := fun _ _ _ => False, ex := fun _ _ _ _ => False, gt := fun _ _ _ _ => False }
section
variable {P : Program} {n : Nat} {κ : Kont} {l : L} {b : Base} {h : Heap} {α : Type}
@[simp] theorem bodyMk_nx (dm : Nat) (M : Nat → Prop) (h1 h3 : Heap) (I : List α → (Nat → Prop) → Heap → Prop) (xs : List α) : (bodyMk dm M h1 h3 I xs).nx l b h = bodyM dm M h1 h3 I xs ⟨⟩ h := _root_.id rfl
@[simp] theorem bodyMk_ex (dm : Nat) (M : Nat → Prop) (h1 h3 : Heap) (I : List α → (Nat → Prop) → Heap → Prop) (xs : List α) (j : Nat) : (bodyMk dm M h1 h3 I xs).ex j l b h = False := _root_.id rfl
@[simp] theorem bodyMk_rt (dm : Nat) (M : Nat → Prop) (h1 h3 : Heap) (I : List α → (Nat → Prop) → Heap → Prop) (xs : List α) : (bodyMk dm M h1 h3 I xs).rt l b h = False := _root_.id rfl
@[simp] theorem asgM_nx (dm : Nat) (y : Code) (M : Nat → Prop) (h1 : Heap) (I : List α → (Nat → Prop) → Heap → Prop) (xs : List α) : (asgM P n dm y M h1 I xs).nx l b h =
    (Keep none_ h1 h ∧ ∀ h3 : Heap, Keep (fun b => b = dm + 1) h h3 → h3.size = h.size → cs P n (some (dm + 1)) y (bodyMk dm M h1 h3 I xs) l b h3) := _root_.id rfl
theorem callV_by {y : Value} {args : Array Value} {h : Heap} {K K' : Value → Heap → Prop} (hc : callV P y args h K') (hk : ∀ v h, K' v h → K v h) : callS P y args h K :=
  hp_mono _ hc fun x h hx => nextK_mono hk x h hx
/-- 'for x := range f { .. }', f an iterator with a contract; no round leaves the loop. I: what holds between two rounds. -/
theorem range_m {g : Operand} {ps : Array Tmp} {x y : Code} {f : FuncId} {caps first : Array Value} {val : α → Array Value} {A : List α → α → (Nat → Prop) → Heap → Prop} {Done : List α → Prop} {Fp : Nat → Prop}
    (hg : ev l b g = .func (.func f) first caps) (hfn : FnOk P f) (hit : IterM P f first caps val A Done Fp h)
    (I : List α → (Nat → Prop) → Heap → Prop)
    (hlt : ∀ {xs M h'}, I xs M h' → ∀ b, M b → b < h'.size) (hmono : ∀ {xs M h1 h2}, I xs M h1 → M h.size → M (h.size + 1) → Keep (fun b => b = h.size + 1) h1 h2 → I xs M h2)
    (M0 : Nat → Prop) (hFp : ∀ b, Fp b → b < h.size ∧ ¬ M0 b) (hI0 : ∀ h1 : Heap, Keep none_ h h1 → h1.size = h.size + 2 → I [] (fun b => M0 b ∨ b = h.size ∨ b = h.size + 1) h1)
    (hok1 : codeOk n x = true) (hok2 : codeOk n y = true) (hps : ∀ v, (val v).size = ps.size) (hpn : ∀ p ∈ ps.toList, p < n)
    (round : ∀ xs v M h1, I xs M h1 → A xs v M h1 → h.size + 2 ≤ h1.size → M h.size → M (h.size + 1) → Tr M0 M h h1 →
      cs P n (some (h.size + 1)) x (asgM P n h.size y M h1 I (xs ++ [v])) (putAll (ps.toList.zip (val v).toList) l) ⟨b.g, []⟩ h1)
    (fin : ∀ xs M h', Done xs → I xs M h' → h'[h.size]? = some (.deferred (some [])) → h.size + 2 ≤ h'.size → M h.size → M (h.size + 1) → Tr M0 M h h' → κ.nx l ⟨b.g, h.size :: b.d⟩ h') :
    gs P n none (.rangeFunc g ps x y) κ l b h := by
  refine rangeFunc_rule hg hfn ?_
  intro fnid T hfr
  generalize hH : (h.push (.deferred (some []))).push (.loop { state := .ready, pending := none, fn := fnid, tmps := T, params := ps, assign := x, body := y, defers := h.size }) = H
  let rec0 : Loop := { state := .ready, pending := none, fn := fnid, tmps := T, params := ps, assign := x, body := y, defers := h.size }
  have hHs : H.size = h.size + 2 := by rw [← hH]; simp
  have hHl : H[h.size + 1]? = some (.loop rec0) := by
    rw [← hH]
    have : (h.push (.deferred (some []))).size = h.size + 1 := by simp
    rw [← this]
    exact push_new _ _
  have hHd : H[h.size]? = some (.deferred (some [])) := by
    rw [← hH, Array.getElem?_push, if_neg (by simp)]
    simp
  have hHo : ∀ b, b < h.size → H[b]? = h[b]? := by
    intro b hb
    rw [← hH, Array.getElem?_push, if_neg (by simp; omega), Array.getElem?_push, if_neg (by omega)]
  have hkH : Keep none_ h H := ⟨by omega, fun b hb _ => hHo b hb⟩
  have hIH := hI0 H hkH hHs
  have hM0 : ∀ b, M0 b → b < h.size ∨ b = h.size ∨ b = h.size + 1 := fun b hb => by have := hlt hIH b (.inl hb); omega
  have tH : Tr M0 (fun b => M0 b ∨ b = h.size ∨ b = h.size + 1) h H := ⟨hkH.weaken fun _ _ h => h.elim, fun b hb => hb.imp id fun h => by omega, hlt hIH⟩
  let J : List α → (Nat → Prop) → Heap → Prop := fun xs M h1 => h1[h.size + 1]? = some (.loop rec0) ∧ h1[h.size]? = some (.deferred (some [])) ∧ I xs M h1 ∧ M h.size ∧ M (h.size + 1) ∧ h.size + 2 ≤ h1.size ∧ Tr M0 M h h1
  have hy : YieldsM P (yv (h.size + 1)) val A J := by
    refine ⟨?_, ?_, ?_⟩
    · rintro xs M h1 ⟨_, _, hI, _⟩ b hb
      exact hlt hI b hb
    · rintro xs M h1 h1' ⟨h2, h3, hI, m1, m2, h6, t⟩ k
      exact ⟨k.at h2 (fun h => h), k.at h3 (fun h => h), hmono hI m1 m2 (k.weaken fun _ _ h => h.elim), m1, m2, Nat.le_trans h6 k.size, t.call k⟩
    · rintro xs v M h1 ⟨h2, h3, hI, m1, m2, h6, t⟩ hA
      refine callV_yield h2 (hps v) ?_
      have hfr1 : IsFr n ⟨T, []⟩ l ⟨b.g, []⟩ := ⟨hfr.size, fun t => (hfr.slot t).trans (look_base l b.g b.d [] t), rfl⟩
      have hfr2 := isFr_putAll (ps.toList.zip (val v).toList) hfr1 (fun p hp => hpn _ (List.of_mem_zip hp).1)
      have hfold : (ps.zip (val v)).foldl (fun tmps (t, a) => tmps.setIfInBounds t a) T = (ps.toList.zip (val v).toList).foldl (fun tmps p => tmps.setIfInBounds p.1 p.2) T := by
        rw [← Array.foldl_toList, Array.toList_zip]
      refine roundH_of (hfold ▸ hfr2) hok1 hok2 ?_
      refine csem_mono (κ := asgM P n h.size y M h1 I (xs ++ [v])) x ⟨?_, fun _ _ _ h => h, fun _ _ _ _ h => h, fun _ _ _ _ h => h⟩ (round xs v M h1 hI hA h6 m1 m2 t)
      rintro l2 b2 h2' ⟨hk2, hbody⟩
      have hlp2 : h2'[h.size + 1]? = some (.loop rec0) := hk2.at h2 (fun h => h)
      have hsz2 := hk2.size
      refine ⟨rec0, hlp2, rfl, ?_⟩
      generalize hH3 : h2'.setIfInBounds (h.size + 1) (.loop { rec0 with state := .busy }) = h3'
      have hs3 : h3'.size = h2'.size := by rw [← hH3]; simp
      have hl3 : h3'[h.size + 1]? = some (.loop { rec0 with state := .busy }) := by rw [← hH3]; exact set_same _ (by omega)
      have ho3 : ∀ b, b ≠ h.size + 1 → h3'[b]? = h2'[b]? := by intro b hb; rw [← hH3]; exact set_other _ (fun e => hb e.symm)
      have hd3 : h3'[h.size]? = some (.deferred (some [])) := (ho3 _ (by omega)).trans (hk2.at h3 (fun h => h))
      refine csem_mono (κ := bodyMk h.size M h1 h3' I (xs ++ [v])) y ⟨?_, fun _ _ _ h => h.elim, fun _ _ _ _ h => h.elim, fun _ _ _ _ h => h.elim⟩ (hbody h3' ⟨by omega, fun b _ hb => ho3 b hb⟩ hs3)
      rintro l4 b4 h4 ⟨M4, hI4, t4, m4, m4', e1, e2⟩
      have hl4 : h4[h.size + 1]? = some (.loop { rec0 with state := .busy }) := e2.trans hl3
      have hs4 := t4.size
      refine ⟨_, hl4, rfl, M4, ⟨set_same _ (by omega), (set_other _ (by omega)).trans (e1.trans hd3), hmono hI4 m4 m4' (.set _ _ fun _ => rfl), m4, m4', by simp; omega, (t.trans t4).set _ m4'⟩, t4.set _ m4'⟩
  refine (hit (yv (h.size + 1)) J _ H ⟨_, _, _, rfl⟩ hy ⟨hHl, hHd, hIH, .inr (.inl rfl), .inr (.inr rfl), by omega, tH⟩ (by omega) ?_).mono ?_
  · intro b hb
    obtain ⟨h1, h2⟩ := hFp b hb
    exact ⟨h1, fun hh => hh.elim h2 (fun h => by omega), hHo b h1⟩
  · rintro v h' ⟨xs, M', hdone, ⟨h2, h3, hI, m1, m2, h6, t⟩, hk⟩
    refine ⟨rec0, h2, by simp [rec0], ?_⟩
    exact fin xs M' _ hdone (hmono hI m1 m2 (.set _ _ fun _ => rfl)) ((set_other _ (by omega)).trans h3) (by simp; omega) m1 m2 (t.set _ m2)
/-- What is changed is new. -/
theorem Tr.from_ {M M' : Nat → Prop} {h h' h'' : Heap} (k : Keep none_ h h') (t : Tr M M' h' h'') (hM : ∀ b, M b → h.size ≤ b) : Tr none_ M' h h'' :=
  ⟨⟨Nat.le_trans k.size t.size, fun b hb _ => by rw [t.keep.blk b (Nat.lt_of_lt_of_le hb k.size) fun hm => by have := hM b hm; omega, k.blk b hb (fun h => h)]⟩,
    fun b hb => .inr ((t.new b hb).elim (hM b) fun h => Nat.le_trans k.size h), t.lt⟩
/-- A loop's own block is written. -/
theorem Tr.lp {M : Nat → Prop} {h h' : Heap} {lp : Nat} (hM : ∀ b, M b → b < h.size) (hl : M lp) (k : Keep (fun b => b = lp) h h') : Tr M M h h' :=
  ⟨k.weaken fun _ _ e => e ▸ hl, fun _ h => .inl h, fun b hb => Nat.lt_of_lt_of_le (hM b hb) k.size⟩
theorem Gr.lp {R : Rp α} {e n : Nat} {M : Nat → Prop} {h h' : Heap} {v : Value} {xs : List α} {own : Option Nat} {lp : Nat} (g : Gr R e n M h v xs own) (hM : ∀ b, M b → b < h.size) (hl : M lp) (hne : own ≠ some lp) (k : Keep (fun b => b = lp) h h') : Gr R e n M h' v xs own :=
  g.mono (.lp hM hl k) (Nat.le_refl _) fun b hb => ⟨g.mu b hb, k.blk b (g.own_lt b hb) fun e => hne (by rw [hb, e])⟩
end
end Go.HC

/-
  Runs of cells: the program's.
-/
namespace Go.HC
theorem pos_there {xs : List CellM} (hs : Srt xs) (key : List Int) : (∃ hk : posC xs key < xs.length, lessM xs[posC xs key].key key = 0) ↔ ∃ d ∈ xs, d.key = key := by
  constructor
  · rintro ⟨hk, h⟩
    exact ⟨_, List.getElem_mem hk, lessM_zero.1 h⟩
  · rintro ⟨d, hd, e⟩
    obtain ⟨j, hj, rfl⟩ := List.getElem_of_mem hd
    have h1 : posC xs key ≤ j := by
      apply Classical.byContradiction
      intro hn
      have := posC_lt hj (show j < posC xs key by omega)
      rw [e, lessM_self] at this
      omega
    have hk : posC xs key < xs.length := by omega
    by_cases h2 : posC xs key = j
    · exact ⟨hk, by simp only [h2, e, lessM_self]⟩
    · have := hs.get hk hj (by omega)
      rw [e] at this
      exact absurd this (posC_at hk)
/-- A new row of one cell. -/
theorem NewC.one {e n0 : Nat} {h : Heap} {v : Value} {c : CellM} (g : NewC e n0 h v [c]) :
    ∃ bk c2 arr cs, v = .slice (some ⟨bk, 0, none⟩) 1 c2 ∧ 1 ≤ c2 ∧ n0 ≤ bk ∧ h[bk]? = some (.cells arr e (0, 0)) ∧ 5 ≤ arr.size ∧ arr.toList.take 5 = cs ∧ rCell.rep (Ft n0 none_ h) h cs c := by
  obtain ⟨F, own, g, hF, ho⟩ := g
  rcases g with ⟨_, h0, _⟩ | ⟨bk, c2, arr, cs, rfl, rfl, h1, h2, h3, h4, h5, h6, h7⟩
  · cases h0
  · obtain ⟨c1, c3, e1, h8, h9⟩ := h7
    have h9 : c3 = [] := h9
    subst h9
    rw [List.append_nil] at e1
    subst e1
    have h3 : arr.size = c2 * 5 := h3
    have h4 : 1 ≤ c2 := h4
    exact ⟨bk, c2, arr, _, rfl, h4, ho bk rfl, h1, by omega, h6, rCell.mono h8 fun b hb => ⟨⟨(hF b hb).1, (hF b hb).2, fun h => h⟩, rfl⟩⟩
end Go.HC
namespace Go.Proofs
open Go Go.HC

set_option maxRecDepth 10000 in
theorem runsCmp : CmpC 28 := by
  intro h cs ds a b ha hb
  refine callH_by fun K hK => ?_
  refine enter [.tmp 4] Try.func28 rfl rfl (by kernel_rfl) rfl ?_
  obtain ⟨ka, kc, sa, sc, na, nc, xa, xc, rfl, r1, _⟩ := cell_open ha
  obtain ⟨ka', kc', sa', sc', na', nc', xa', xc', rfl, q1, _⟩ := cell_open hb
  simp -dsimp [boxS_eq]
  generalize hB : Array.push (Array.push h _) _ = h1
  have k1 : Keep none_ h h1 := by rw [← hB]; exact ((Keep.refl none_ h).pushed _).pushed _
  have hA : h1[h.size]? = some (.cells #[.slice ka a.key.length kc, .int .i64 a.count, .slice sa a.sum.length sc, .slice na a.mn.length nc, .slice xa a.mx.length xc] 31 (0, 0)) := by rw [← hB]; exact push_at (push_new _ _)
  have hB1 : h1[h.size + 1]? = some (.cells #[.slice ka' b.key.length kc', .int .i64 b.count, .slice sa' b.sum.length sc', .slice na' b.mn.length nc', .slice xa' b.mx.length xc'] 31 (0, 0)) := by rw [← hB]; exact push_get (by simp)
  simp -dsimp [hA, hB1]
  refine call_by (cless_spec (r1.mono ((Tr.of k1).ft (Nat.le_refl 0))) (q1.mono ((Tr.of k1).ft (Nat.le_refl 0)))) ?_
  rintro _ h2 ⟨rfl, hh⟩
  subst h2
  simp -dsimp
  exact hK _ _ ⟨rfl, k1⟩

set_option maxRecDepth 10000 in
theorem cloneRows_spec {F : Nat → Prop} {h : Heap} {v : Value} {xs : List (List CellM)} {own : Option Nat} (hg : Grow (rSlice rCell) 24 F h v xs own) (hF : ∀ b, F b → b < h.size) (hn : xs.length < 1000000000) :
    CallH Try.prog 21 #[v] h fun r h' => ∃ own', Grow (rSlice rCell) 24 F h' r xs own' ∧ Keep none_ h h' ∧ ∀ b, own' = some b → h.size ≤ b := by
  refine enter [.tmp 2] Try.func21 rfl rfl (by kernel_rfl) rfl ?_
  have hl := hg.own_lt
  rcases hg with ⟨rfl, rfl, rfl⟩ | ⟨bk, c, arr, cs, rfl, rfl, h1, h2, h3, h4, h5, h6, h7⟩
  · simp -dsimp
    exact ⟨none, .nil _ _ _ _, .refl _ _, fun b hb => by cases hb⟩
  · obtain ⟨cs', _, hq1, hq2, hcel, hel⟩ := (Grow.cells (R := rSlice rCell) (.inr ⟨bk, c, arr, cs, rfl, rfl, h1, h2, h3, h4, h5, h6, h7⟩) : ∃ cs, _)
    simp -dsimp
    refine clone_cells (F := F) (F2 := fun b => some bk = some b) cellsT hF hl rfl hcel hel (by omega) (by omega) ?_
    intro v' h' own' hg' hk ho hz
    obtain ⟨a', c', rfl⟩ := hg'.val
    simp -dsimp
    exact ⟨own', hg', hk, ho⟩

set_option maxHeartbeats 4000000 in
set_option maxRecDepth 10000 in
theorem heldput_spec {n : Nat} {M : Nat → Prop} {h : Heap} {bo : Nat} {v : Value} {xs : List CellM} {own : Option Nat} {cs : List Value} {c : CellM} (most : Int) (hb : h[bo]? = some (.cells #[v] 54 (0, 0)))
    (g : Gr rCell 31 n M h v xs own) (hM : ∀ b, M b → b < h.size) (hMo : M bo) (hno : own ≠ some bo) (hr : rCell.rep (Ft 0 M h) h cs c) (hs : Srt xs) (hsm : ∀ d ∈ xs, CellSmall d) (hc : CellSmall c) (hn : xs.length < 1000000) (hn0 : n ≤ h.size) :
    CallH Try.prog 20 #[.pointer (some ⟨bo, 0, none⟩), .agg cs.toArray, .int .i64 most] h fun r h' =>
      (((∃ d ∈ xs, d.key = c.key) ∨ ¬ most ≤ xs.length) ∧ r = .bool true ∧ ∃ M' v' own', Tr M M' h h' ∧ (∀ b, M b → M' b) ∧ h'[bo]? = some (.cells #[v'] 54 (0, 0)) ∧ Gr rCell 31 n M' h' v' (putC xs c) own' ∧ (∀ b, own' = some b → own = some b ∨ h.size ≤ b)
        ∧ Keep (fun b => b = bo ∨ own = some b) h h') ∨
      ((∀ d ∈ xs, d.key ≠ c.key) ∧ most ≤ xs.length ∧ r = .bool false ∧ Keep none_ h h') := by
  refine callH_by fun K hK => ?_
  refine enter [.tmp 6] Try.func20 rfl rfl (by kernel_rfl) rfl ?_
  obtain ⟨ka, kc, sa, sc, na, nc, xa, xc, rfl, r1, r2, r3, r4⟩ := cell_open hr
  obtain ⟨va, vn, vc, ev, hvn⟩ := g.vals
  subst ev
  have tH : Tr M M h h := ⟨.refl _ _, fun _ h => .inl h, hM⟩
  simp -dsimp [boxS_eq]
  generalize hB : Array.push h _ = h1
  have kb : Keep none_ h h1 := by rw [← hB]; exact .push _ _ _
  have t1 := tH.call kb
  have hC : h1[h.size]? = some (.cells #[.slice ka c.key.length kc, .int .i64 c.count, .slice sa c.sum.length sc, .slice na c.mn.length nc, .slice xa c.mx.length xc] 31 (0, 0)) := by rw [← hB]; exact push_new _ _
  have hb1 := kb.at hb (fun h => h)
  have hlb := lt_of_blk hb
  have g1 := g.call kb
  have c1 := rCell.mono hr (t1.ft (Nat.le_refl 0))
  have hone : ∀ b, own = some b → 0 ≤ b := fun _ _ => Nat.zero_le _
  have l1 : SlRep rCell (Old h1) h1 _ xs := g1.rep (Nat.zero_le n) hone
  refine drawn_by [⟨0, true, []⟩, ⟨1, true, []⟩, ⟨2, true, []⟩, ⟨3, true, []⟩, ⟨4, true, []⟩, ⟨5, false, []⟩, ⟨6, true, []⟩, ⟨7, true, []⟩, ⟨8, true, []⟩, ⟨9, true, []⟩, ⟨10, true, []⟩] (by kernel_rfl) (by kernel_rfl) ?_
  simp -dsimp [hb1, hC]
  refine call_by (bsearch_spec (by simp) runsCmp l1 (rCell.mono c1 (Ft.free (Nat.zero_le _))) hs hn) ?_
  rintro _ h2 ⟨rfl, k2⟩
  have t2 := t1.call k2
  have hC2 := k2.at hC (fun h => h)
  have hb2 := k2.at hb1 (fun h => h)
  have g2 := g1.call k2
  have c2 := rCell.mono c1 (t1.here.call k2 |>.ft (Nat.le_refl 0))
  have k02 := kb.trans k2 fun _ _ h => h
  have hpt := pos_there hs c.key
  obtain ⟨i, ei⟩ : ∃ i, i = posC xs c.key := ⟨_, rfl⟩
  have hpl := posC_le xs c.key
  have hput0 := putC_pos xs c
  rw [← ei] at hpl
  simp only [← ei] at hpt hput0 ⊢
  simp -dsimp
  by_cases h0 : ∃ hk : i < xs.length, lessM xs[i].key c.key = 0
  · have hthere := hpt.1 h0
    rw [decide_eq_true h0]
    obtain ⟨hil, h0⟩ := h0
    have hput : putC xs c = xs.set i (joinC xs[i] c) := by
      rw [hput0, dif_pos ⟨hil, hil, h0⟩]
    have hin : i < vn := by omega
    obtain ⟨bk, es, ea, eo, hre, hce⟩ := g2.elem i hil
    subst ea
    obtain ⟨ka1, kc1, sa1, sc1, na1, nc1, xa1, xc1, rfl, _⟩ := cell_open hre
    have hce' : HC.cellsIn h2[bk]? (i * 5) 5 = _ := hce
    simp -dsimp
    refine drawn_by [⟨0, true, []⟩, ⟨1, true, []⟩, ⟨2, true, []⟩, ⟨3, true, []⟩, ⟨4, true, []⟩, ⟨5, true, []⟩, ⟨6, true, []⟩, ⟨7, true, []⟩, ⟨8, true, []⟩, ⟨9, true, []⟩, ⟨10, true, []⟩, ⟨11, true, []⟩, ⟨12, true, []⟩, ⟨13, false, [0, 1, 2, 3, 4]⟩, ⟨14, true, []⟩, ⟨15, false, []⟩] (by kernel_rfl) (by kernel_rfl) ?_
    simp -dsimp [hb2, hC2, idxV_nat hin, elSz_eq, hce']
    refine call_by (join_new (rCell.mono hre (Ft.free (Nat.zero_le _))) (rCell.mono c2 (Ft.free (Nat.zero_le _))) (hsm _ (List.getElem_mem hil))) ?_
    rintro _ h3 ⟨fs, rfl, r3', k3⟩
    have t3 := t2.call k3
    obtain ⟨bk', m', c', o', hv, hm', ho4, hw, g4⟩ := (g2.call k3).setE (i := i) hil (rCell.mono r3' (t2.ret (Nat.le_trans hn0 t2.size)))
    cases hv
    obtain ⟨ka5, kc5, sa5, sc5, na5, nc5, xa5, xc5, rfl, _⟩ := cell_open r3'
    have hw' : writeIn h3[bk]? (i * 5) _ = some o' := hw
    have hb3 := k3.at hb2 (fun h => h)
    have hne : bk ≠ bo := fun e => hno (by rw [ho4, e])
    simp -dsimp [hb3, idxV_nat hin, elSz_eq, again_cons, hw']
    exact hK _ _ (.inl ⟨.inl hthere, rfl, M, _, own, t3.set o' (g.mu bk ho4), fun _ h => h, (set_other _ hne).trans hb3, by rw [hput]; exact g4, fun b hb => .inl hb, (k02.trans k3 fun _ _ h => h).none.setted _ fun _ => .inr ho4⟩)
  · have hthere : ∀ d ∈ xs, d.key ≠ c.key := fun d hd e => h0 (hpt.2 ⟨d, hd, e⟩)
    rw [decide_eq_false h0]
    have hput : putC xs c = xs.take i ++ c :: xs.drop i := by
      rw [hput0, dif_neg]
      rintro ⟨_, hx⟩; exact h0 hx
    simp -dsimp [hb2]
    by_cases hmost : most ≤ (vn : Int)
    · simp -dsimp [hmost]
      exact hK _ _ (.inr ⟨hthere, by omega, rfl, k02⟩)
    · simp -dsimp [hmost]
      refine drawn_by [⟨0, true, []⟩, ⟨1, true, []⟩, ⟨2, true, []⟩, ⟨3, true, []⟩, ⟨4, true, []⟩, ⟨5, true, []⟩, ⟨6, true, []⟩, ⟨7, false, [0, 1, 2, 3, 4, 5]⟩, ⟨8, false, [0, 1, 2, 3, 4, 5]⟩, ⟨9, false, [0]⟩, ⟨10, true, []⟩, ⟨11, true, []⟩, ⟨12, false, []⟩] (by kernel_rfl) (by kernel_rfl) ?_
      have hb2p : ∀ o, (h2.push o)[bo]? = _ := fun o => push_at hb2
      simp -dsimp [hb2, hb2p, hC2, again_cons]
      generalize hB3 : Array.push h2 _ = h3
      have k3 : Keep none_ h2 h3 := by rw [← hB3]; exact .push _ _ _
      have t3 := t2.call k3
      have hN : h3[h2.size]? = some (.cells #[.slice ka c.key.length kc, .int .i64 c.count, .slice sa c.sum.length sc, .slice na c.mn.length nc, .slice xa c.mx.length xc] 31 (0, 0)) := by rw [← hB3]; exact push_new _ _
      have c3 : rCell.rep (Ft 0 M h3) h3 _ c := rCell.mono c2 (t2.here.call k3 |>.ft (Nat.le_refl 0))
      have hone1 : SlRep rCell (Old h3) h3 (.slice (some ⟨h2.size, 0, none⟩) 1 1) [c] := by
        refine ⟨_, 1, _, rfl, Nat.le_refl _, by decide, .inr ⟨h2.size, 0, _, _, _, rfl, ⟨nz, lt_of_blk hN, fun h => h⟩, hN, ?_⟩, .single (rCell.mono c3 (Ft.free (Nat.zero_le _)))⟩
        rfl
      refine call_by (cgroup_spec hone1 (by simp) (fun d hd => by rw [List.mem_singleton] at hd; rw [hd]; exact hc)) ?_
      rintro gv h4 ⟨ng, k4⟩
      have ng : NewC 31 h3.size h4 gv [c] := ng
      obtain ⟨b4, cc4, arr4, cs4, rfl, _, hb4s, hb4, _, hcs4, rep4⟩ := ng.one
      have t4 := t3.call k4
      have hb3 := k3.at hb2 (fun h => h)
      have hb4' := k4.at hb3 (fun h => h)
      simp -dsimp [again_cons, hb4']
      refine call_by (insert_gen ((g2.call k3).call k4) t4.lt hpl hn hb4 hcs4 (fun hm => by have := t3.lt _ hm; omega) (rCell.mono rep4 (t3.ret (Nat.le_trans hn0 t3.size)))) ?_
      rintro v5 h5 ⟨own5, g5, t5, k5, ho5⟩
      have hb5 := k5.at hb4' hno
      obtain ⟨va5, vn5, vc5, ev5, _⟩ := g5.vals
      subst ev5
      have s4 := t4.size
      have hl4 := lt_of_blk hb4'
      simp -dsimp [hb5, again_cons]
      have hno5 : own5 ≠ some bo := fun e => (ho5 _ e).elim hno (fun h => by omega)
      refine hK _ _ (.inl ⟨.inr (by omega), rfl, _, _, own5, (t4.trans t5).set _ (.inl hMo), fun _ h => .inl h, set_same _ (lt_of_blk hb5), by rw [hput]; exact g5.set _ (.inl hMo) hno5, fun b hb => (ho5 b hb).imp id fun h => by omega, ?_⟩)
      exact ((((k02.trans k3 fun _ _ h => h).trans k4 fun _ _ h => h).none (S := fun b => b = bo ∨ own = some b)).trans k5 fun _ _ h => .inr h).setted _ fun _ => .inl rfl
end Go.Proofs

/-
  Runs of cells: the program's, whole.
-/
namespace Go.HC
theorem put_all {p : CellM → Prop} (hj : ∀ a b, p a → p b → p (joinC a b)) : ∀ {l : List CellM} {c : CellM}, (∀ d ∈ l, p d) → p c → ∀ d ∈ putC l c, p d
  | [], c, _, hc, d, hd => by rw [putC, List.mem_singleton] at hd; rw [hd]; exact hc
  | e :: l, c, hl, hc, d, hd => by
    have he := hl e List.mem_cons_self
    have hl' : ∀ d ∈ l, p d := fun d hd => hl d (List.mem_cons_of_mem _ hd)
    rw [putC] at hd
    split at hd
    · rcases List.mem_cons.1 hd with rfl | h
      · exact he
      · exact put_all hj hl' hc d h
    · split at hd
      · rcases List.mem_cons.1 hd with rfl | h
        · exact hj _ _ he hc
        · exact hl' d h
      · rcases List.mem_cons.1 hd with rfl | h
        · exact hc
        · exact hl d h
theorem group_all {p : CellM → Prop} (hj : ∀ a b, p a → p b → p (joinC a b)) {l : List CellM} (hl : ∀ d ∈ l, p d) : ∀ d ∈ groupC l, p d := by
  have key : ∀ (l o : List CellM), (∀ d ∈ l, p d) → (∀ d ∈ o, p d) → ∀ d ∈ l.foldl putC o, p d := by
    intro l
    induction l with
    | nil => exact fun o _ ho => ho
    | cons c l ih => exact fun o hl ho => ih _ (fun d hd => hl d (List.mem_cons_of_mem _ hd)) (put_all hj ho (hl c List.mem_cons_self))
  exact key l [] hl fun d hd => by cases hd
theorem small_join (a b : CellM) (ha : CellSmall a) (_ : CellSmall b) : CellSmall (joinC a b) :=
  ⟨ha.key, by simp only [joinC, List.length_zipWith]; have := ha.sum; omega, by simp only [joinC, List.length_zipWith]; have := ha.mn; omega, by simp only [joinC, List.length_zipWith]; have := ha.mx; omega⟩
/-- Bounds of runs. -/
structure RunB (p : CellM → Prop) (n : Nat) (st : List (List CellM) × List CellM) : Prop where
  out : ∀ r ∈ st.1, ∀ d ∈ r, p d
  held : ∀ d ∈ st.2, p d
  len : st.1.length + st.2.length ≤ n
  each : ∀ r ∈ st.1, r.length ≤ n
theorem runB {p : CellM → Prop} (hj : ∀ a b, p a → p b → p (joinC a b)) {most : Nat} (h0 : 0 < most) {l : List CellM} (hl : ∀ c ∈ l, p c) : ∀ k, k ≤ l.length → RunB p k (runFold most (l.take k)) := by
  intro k
  induction k with
  | zero => exact fun _ => ⟨(fun r hr => by cases hr), (fun r hr => by cases hr), Nat.le_refl _, fun r hr => by cases hr⟩
  | succ k ih =>
    intro hk
    have h := ih (by omega)
    rw [run_take (by omega)]
    have hc := hl l[k] (List.getElem_mem (by omega))
    generalize runFold most (l.take k) = st at *
    obtain ⟨out, held⟩ := st
    obtain ⟨h1, h2, h3, h4⟩ := h
    simp only at h1 h2 h3 h4
    unfold runStep
    split
    · rename_i hc2
      have := hc2.2
      simp only at this
      refine ⟨fun r hr => ?_, fun d hd => ?_, by simp; omega, fun r hr => ?_⟩
      · rcases List.mem_append.1 hr with hr | hr
        · exact h1 r hr
        · rw [List.mem_singleton] at hr; subst hr; exact h2
      · rw [List.mem_singleton] at hd; rw [hd]; exact hc
      · rcases List.mem_append.1 hr with hr | hr
        · have := h4 r hr; omega
        · rw [List.mem_singleton] at hr; subst hr; omega
    · have := putC_le held l[k]
      exact ⟨h1, put_all hj h2 hc, by simp only; omega, fun r hr => by have := h4 r hr; omega⟩
end Go.HC
namespace Go.Proofs
open Go Go.HC

set_option maxHeartbeats 8000000 in
set_option maxRecDepth 10000 in
theorem runs_spec {h : Heap} {v : Value} {l : List CellM} {most : Nat} (hl : SlRep rCell (Old h) h v l) (hn : l.length < 1000000) (hsm : ∀ d ∈ l, CellSmall d) (h0 : 0 < most) :
    CallH Try.prog 13 #[v, .int .i64 most] h fun r h' => SlRep (rSlice rCell) (Ft h.size none_ h') h' r (runsM most l) ∧ Keep none_ h h' := by
  refine callH_by fun K hK => ?_
  refine enter [.tmp 4] Try.func13 rfl rfl (by kernel_rfl) rfl ?_
  obtain ⟨a0, c0, rfl, hc0, hc0'⟩ := hl.val
  simp -dsimp [boxS_eq]
  refine loopc (σ := Nat × Value × Nat) (fun t => [(1, .int .i64 most), (5, t.2.1), (6, .pointer (some ⟨t.2.2, 0, none⟩)), (11, .slice a0 l.length c0), (12, .int .i64 l.length), (13, .int .i64 t.1)])
    (fun t h1 => t.1 ≤ l.length ∧ ∃ M vh ownh owno, Tr none_ M h h1 ∧ M t.2.2 ∧ h1[t.2.2]? = some (.cells #[vh] 54 (0, 0)) ∧ Gr rCell 31 h.size M h1 vh (runFold most (l.take t.1)).2 ownh ∧ Gr (rSlice rCell) 24 h.size M h1 t.2.1 (runFold most (l.take t.1)).1 owno ∧
      ownh ≠ some t.2.2 ∧ owno ≠ some t.2.2 ∧ (∀ b, owno = some b → ownh ≠ some b) ∧ (∀ b, owno = some b → h.size ≤ b) ∧ (∀ b, ownh = some b → h.size ≤ b))
    (fun t => l.length - t.1) (0, .slice none 0 0, h.size) 0 (fun t _ => t.1 = l.length) noRet noRet_le (by simp) ?_ (by kernel_rfl) ?_ ?_
  · exact ⟨Nat.zero_le _, _, _, none, none, (Tr.start h).pushM _, .inr rfl, push_new _ _, .nil _ _ _ _ _, .nil _ _ _ _ _, by simp, by simp, fun b hb => (by cases hb), fun b hb => (by cases hb), fun b hb => by cases hb⟩
  · rintro ⟨k, out, bo⟩ h1 g ⟨hk, M, vh, ownh, owno, t1, hMo, hb1, gh, go, n1, n2, n3, lo, lh⟩
    simp only at hk hMo hb1 gh go n1 n2 n3
    by_cases hkl : k < l.length
    · have wk := wrap_succ (k := k) (by omega)
      have hrun := runOk most h0 l k hk
      have hrb := runB (p := CellSmall) small_join h0 hsm k hk
      have hstep := run_take (most := most) hkl
      generalize runFold most (l.take k) = st at *
      obtain ⟨outs, held⟩ := st
      simp only at gh go
      have hb3 := hrb.len
      simp only at hb3
      obtain ⟨bl, ol, cs, e1, _, hrep, hx1⟩ := (hl.mono t1.old).get k hkl
      obtain ⟨ka, kc, sa, sc, na, nc, xa, xc, rfl, r1, _⟩ := cell_open hrep
      have hx1' : HC.cellsIn h1[bl]? (ol + k * 5) 5 = _ := hx1
      simp -dsimp [hkl, e1, idxA_nat hkl, hx1']
      rw [push_set rfl]
      generalize hB2 : Array.push h1 _ = h2
      have k2 : Keep none_ h1 h2 := by rw [← hB2]; exact .push _ _ _
      have hz2 : h2.size = h1.size + 1 := by rw [← hB2]; simp
      have hC : h2[h1.size]? = some (.cells #[.slice ka l[k].key.length kc, .int .i64 l[k].count, .slice sa l[k].sum.length sc, .slice na l[k].mn.length nc, .slice xa l[k].mx.length xc] 31 (0, 0)) := by rw [← hB2]; exact push_new _ _
      have t2 := t1.call k2
      have hb2 := k2.at hb1 (fun h => h)
      have c2 := rCell.mono hrep ((t1.here.call k2).ft (Nat.le_refl 0))
      have c2n : ∀ {n : Nat} {M' : Nat → Prop} {h' : Heap}, Tr M M' h2 h' → rCell.rep (Ft 0 M' h') h' _ l[k] := fun t => rCell.mono c2 (t.ft (Nat.le_refl 0))
      refine call_by (heldput_spec (most : Int) hb2 (gh.call k2) t2.lt hMo n1 c2 hrun.held (fun d hd => hrb.held d hd) (hsm _ (List.getElem_mem hkl)) (by show held.length < 1000000; omega) t2.size) ?_
      rintro _ h3 (⟨hcond, rfl, M3, vh3, own3, t3, m3, hb3', g3, o3, k3⟩ | ⟨hno, hle, rfl, k3⟩)
      · have hst : runStep most (outs, held) l[k] = (outs, putC held l[k]) := by
          unfold runStep
          rw [if_neg]
          rintro ⟨q1, q2⟩
          rcases hcond with ⟨d, hd, e⟩ | hc
          · exact q1 d hd e
          · simp only at q2; omega
        rw [hst] at hstep
        simp -dsimp [wk]
        refine ⟨(k + 1, out, bo), by simp [e1], rfl, ⟨by omega, M3, vh3, own3, owno, t2.trans t3, m3 _ hMo, hb3', by rw [hstep]; exact g3, ?_, ?_, n2, ?_, lo, ?_⟩, by show l.length - (k + 1) < l.length - k; omega⟩
        · rw [hstep]
          refine (go.call k2).mono t3 (Nat.le_refl _) fun b hb => ⟨m3 b (go.mu b hb), k3.blk b (by have := go.own_lt b hb; omega) ?_⟩
          rintro (e | e)
          · exact n2 (by rw [hb, e])
          · exact n3 b hb e
        · show own3 ≠ some bo
          exact fun e => (o3 _ e).elim n1 fun e => by have := lt_of_blk hb2; omega
        · exact fun b hb e => (o3 _ e).elim (n3 b hb) fun e => by have := go.own_lt b hb; omega
        · exact fun b hb => (o3 b hb).elim (lh b) fun e => by have := t2.size; omega
      · have hst : runStep most (outs, held) l[k] = (outs ++ [held], [l[k]]) := by
          unfold runStep
          rw [if_pos ⟨hno, by simp only; omega⟩]
        rw [hst] at hstep
        have t3 := t2.call k3
        have hb3' := k3.at hb2 (fun h => h)
        have gh3 := (gh.call k2).call k3
        have go3 := (go.call k2).call k3
        obtain ⟨va, vn, vc, rfl, hvn⟩ := gh3.vals
        simp -dsimp [hb3']
        refine call_by (cloneCell_spec gh3.grow Ft.lt (by show held.length < _; omega)) ?_
        rintro _ h4 ⟨own4, g4, k4, ho4⟩
        obtain ⟨a4, c4, rfl⟩ := g4.val
        have s3 := t3.size
        have t4 := t3.call k4
        have r4 : SlRep rCell (Ft h.size M h4) h4 _ held := g4.rep.mono fun b hb => ⟨hb.elim (fun hf => ⟨hf.1.at (Nat.le_refl _) (k4.blk b hf.2.1 (fun h => h)), Nat.lt_of_lt_of_le hf.2.1 k4.size, hf.2.2⟩)
          fun hf => ⟨⟨by have := ho4 b hf; omega, fun _ => g4.thaw b hf⟩, g4.own_lt b hf, fun hm => by have := t3.lt b hm; have := ho4 b hf; omega⟩, rfl⟩
        simp -dsimp
        refine gr_app1 (x := held) rfl cellsT (go3.call k4) t4.lt ⟨_, rfl, r4⟩ rfl (by show (outs.length + 1) * 24 ≤ _; omega) (by show outs.length + 1 < _; omega) ?_
        intro v5 h5 own5 g5 t5 k5 ho5
        simp -dsimp [boxS_eq]
        generalize hB6 : Array.push h5 _ = h6
        have k6 : Keep none_ h5 h6 := by rw [← hB6]; exact .push _ _ _
        have hb6 : h6[h5.size]? = some (.cells #[.slice none 0 0] 54 (0, 0)) := by rw [← hB6]; exact push_new _ _
        have t6 : Tr none_ (fun b => (M b ∨ own5 = some b) ∨ b = h5.size) h h6 := by rw [← hB6]; exact (t4.trans t5).pushM _
        have hC6 := k6.at (k5.at (k4.at (k3.at hC (fun h => h)) (fun h => h)) (fun e => by have := lo _ e; have := go.own_lt _ e; omega)) (fun h => h)
        have s5 := (t4.trans t5).size
        have l5 := g5.own_lt
        have u26 : Tr M (fun b => (M b ∨ own5 = some b) ∨ b = h5.size) h2 h6 := by
          rw [← hB6]; exact ((((Tr.call ⟨.refl _ _, fun _ h => .inl h, t2.lt⟩ k3).call k4).trans t5).pushM _)
        simp -dsimp [hC6]
        have s6 := t6.size
        refine call_by (heldput_spec (max (most : Int) 1) hb6 (.nil _ _ _ _ _) t6.lt (.inr rfl) (by simp) (rCell.mono c2 (u26.ft (Nat.le_refl 0))) List.Pairwise.nil (fun d hd => by cases hd) (hsm _ (List.getElem_mem hkl)) (by simp) s6) ?_
        rintro _ h7 (⟨_, rfl, M7, vh7, own7, t7, m7, hb7, g7, o7, k7⟩ | ⟨_, hle7, _⟩)
        · simp -dsimp [wk]
          have go6 : Gr (rSlice rCell) 24 h.size (fun b => (M b ∨ own5 = some b) ∨ b = h5.size) h6 v5 (outs ++ [held]) own5 := by
            rw [← hB6]
            exact g5.mono ((Tr.pushM ⟨.refl _ _, fun _ h => .inl h, (t4.trans t5).lt⟩ _)) (Nat.le_refl _) fun b hb => ⟨.inl (.inr hb), push_old _ (l5 b hb)⟩
          refine ⟨(k + 1, v5, h5.size), by simp [e1], rfl, ⟨by omega, M7, vh7, own7, own5, t6.trans t7, m7 _ (.inr rfl), hb7, by rw [hstep]; exact g7, ?_, ?_, ?_, ?_, ?_, ?_⟩, by show l.length - (k + 1) < l.length - k; omega⟩
          · rw [hstep]
            refine go6.mono t7 (Nat.le_refl _) fun b hb => ⟨m7 b (.inl (.inr hb)), k7.blk b (by have := l5 b hb; have := k6.size; omega) ?_⟩
            rintro (e | e)
            · have := l5 b hb; omega
            · cases e
          · show own7 ≠ some h5.size
            exact fun e => (o7 _ e).elim (by simp) fun e => by have := lt_of_blk hb6; omega
          · show own5 ≠ some h5.size
            exact fun e => by have := l5 _ e; omega
          · exact fun b hb e => (o7 _ e).elim (by simp) fun e => by have := l5 b hb; have := k6.size; omega
          · exact fun b hb => (ho5 b hb).elim (lo b) fun e => by have := t4.size; omega
          · exact fun b hb => (o7 b hb).elim (fun e => by cases e) fun e => by omega
        · exfalso
          simp at hle7
          omega
    · simp -dsimp [hkl]
      exact ⟨rfl, (k, out, bo), by simp, rfl, ⟨hk, M, vh, ownh, owno, t1, hMo, hb1, gh, go, n1, n2, n3, lo, lh⟩, by show k = l.length; omega⟩
  · rintro ⟨k, out, bo⟩ h1 g ⟨hk, M, vh, ownh, owno, t1, hMo, hb1, gh, go, n1, n2, n3, lo, lh⟩ hkl
    simp only at hk hMo hb1 gh go n1 n2 n3 hkl
    subst hkl
    have hrb := runB (p := CellSmall) small_join h0 hsm l.length (Nat.le_refl _)
    have hR : runsM most l = (runFold most l).1 ++ (if 0 < (runFold most l).2.length then [(runFold most l).2] else []) := rfl
    rw [List.take_length] at gh go hrb
    generalize runFold most l = st at *
    obtain ⟨outs, held⟩ := st
    simp only at gh go
    have hR : runsM most l = outs ++ (if 0 < held.length then [held] else []) := hR
    have hb3 : outs.length + held.length ≤ l.length := hrb.len
    obtain ⟨va, vn, vc, rfl, hvn⟩ := gh.vals
    have s1 := t1.size
    have fin : ∀ (h5 : Heap) (v5 : Value) (own5 : Option Nat) (M5 : Nat → Prop) (ls : List (List CellM)), ls = runsM most l → Tr none_ M5 h h5 → Gr (rSlice rCell) 24 h.size M5 h5 v5 ls own5 → ls.length < 1000000000 →
        CallH Try.prog 21 #[v5] h5 (fun r h6 => (∃ a n c, r = .slice a n c) ∧ K r h6) := by
      rintro h5 v5 own5 M5 ls rfl t5 g5 hls
      refine (cloneRows_spec g5.grow Ft.lt hls).mono ?_
      rintro r h6 ⟨own6, g6, k6, ho6⟩
      have s5 := t5.size
      refine ⟨?_, hK _ _ ⟨?_, t5.keep.trans k6 fun _ _ h => h⟩⟩
      · obtain ⟨a6, c6, rfl⟩ := g6.val
        exact ⟨_, _, _, rfl⟩
      · exact g6.rep.mono fun b hb => ⟨hb.elim (fun hf => ⟨hf.1.at (Nat.le_refl _) (k6.blk b hf.2.1 (fun h => h)), Nat.lt_of_lt_of_le hf.2.1 k6.size, fun h => h⟩) fun hf => ⟨⟨by have := ho6 b hf; omega, fun _ => g6.thaw b hf⟩, g6.own_lt b hf, fun h => h⟩, rfl⟩
    simp -dsimp [hb1]
    by_cases hv : 0 < vn
    · rw [if_pos (by omega)] at hR
      simp -dsimp [hv, hb1]
      refine call_by (cloneCell_spec gh.grow Ft.lt (by omega)) ?_
      rintro _ h4 ⟨own4, g4, k4, ho4⟩
      obtain ⟨a4, c4, rfl⟩ := g4.val
      have t4 := t1.call k4
      have r4 : SlRep rCell (Ft h.size M h4) h4 _ held := g4.rep.mono fun b hb => ⟨hb.elim (fun hf => ⟨hf.1.at (Nat.le_refl _) (k4.blk b hf.2.1 (fun h => h)), Nat.lt_of_lt_of_le hf.2.1 k4.size, hf.2.2⟩)
        fun hf => ⟨⟨by have := ho4 b hf; omega, fun _ => g4.thaw b hf⟩, g4.own_lt b hf, fun hm => by have := t1.lt b hm; have := ho4 b hf; omega⟩, rfl⟩
      simp -dsimp
      refine gr_app1 (x := held) rfl cellsT (go.call k4) t4.lt ⟨_, rfl, r4⟩ rfl (by omega) (by omega) ?_
      intro v5 h5 own5 g5 t5 k5 ho5
      simp -dsimp
      refine call_by (fin h5 v5 own5 _ _ hR.symm (t4.trans t5) g5 (by simp; omega)) ?_
      rintro r h6 ⟨⟨a, n, c, rfl⟩, hk⟩
      simp -dsimp
      exact hk
    · rw [if_neg (by omega), List.append_nil] at hR
      simp -dsimp [hv]
      refine call_by (fin h1 out owno _ _ hR.symm t1 go (by omega)) ?_
      rintro r h6 ⟨⟨a, n, c, rfl⟩, hk⟩
      simp -dsimp
      exact hk
end Go.Proofs

/-
  A set's dimensions, one by one.
-/
namespace Go.HC
theorem shr_i {s : Int} {k : Nat} (hk : k < 64) : intRes .shr .i64 s (k : Int) = some (.int .i64 (s.fdiv (2 ^ k))) := by
  rw [intRes_shr _ _ _ (by omega)]
  have : min ((k : Int).toNat) IntKind.i64.bits = k := by
    have : IntKind.i64.bits = 64 := by decide
    omega
  rw [this]
theorem range_snoc (p : Nat → Bool) (i : Nat) : (List.range (i + 1)).filter p = (List.range i).filter p ++ (if p i = true then [i] else []) := by
  rw [List.range_succ, List.filter_append, List.filter_cons]
  simp
end Go.HC
namespace Go.Proofs
open Go Go.HC

theorem dims_spec (s : Int) (h : Heap) : CallH Try.prog 18 #[.int .i64 s] h fun r h' => r = .func (.func 26) #[] #[.pointer (some ⟨h.size, 0, none⟩)] ∧ h' = h.push (.cells #[.int .i64 s] 3) := by
  refine enter [.tmp 2] Try.func18 rfl rfl (by kernel_rfl) rfl ?_
  simp -dsimp [boxS_eq]

set_option maxRecDepth 10000 in
theorem dims_iter {h0 : Heap} {bx : Nat} {s : Int} {fz : Nat × Nat} (hbx : h0[bx]? = some (.cells #[.int .i64 s] 3 fz)) :
    IterM Try.prog 26 #[] #[.pointer (some ⟨bx, 0, none⟩)] (fun i : Nat => #[.int .i64 (i : Int)]) (fun xs i _ _ => xs = (List.range i).filter (bitM s) ∧ i < 4 ∧ bitM s i = true) (fun xs => xs = dimsM s) (fun b => b = bx) h0 := by
  intro y J M0 h ⟨yf, yu, yv', hyf⟩ hy hJ hsz hFp
  subst hyf
  have hlt := lt_of_blk hbx
  obtain ⟨_, hMb, hbe⟩ := hFp bx rfl
  have hbx' := hbe.trans hbx
  refine callH_by fun K hK => ?_
  refine enter [] Try.func26 rfl rfl (by kernel_rfl) rfl ?_
  simp -dsimp
  refine loopc (σ := Nat) (fun i => [(0, .func yf yu yv'), (1, .pointer (some ⟨bx, 0, none⟩)), (4, .int .i64 i)]) (fun i h1 => i ≤ 4 ∧ ∃ M, J ((List.range i).filter (bitM s)) M h1 ∧ Tr M0 M h h1) (fun i => 4 - i) 0 0 (fun i _ => i = 4) noRet noRet_le (by simp)
    ⟨by omega, M0, hJ, ⟨.refl _ _, fun _ h => .inl h, fun b hb => hy.lt hJ b hb⟩⟩ (by kernel_rfl) ?_ ?_
  · rintro i h1 g ⟨hi, M, hJ1, t⟩
    have hb1 := t.keep.at hbx' hMb
    have hrs := range_snoc (bitM s) i
    by_cases hl : i < 4
    · have hl' : (i : Int) < 4 := by omega
      have wk := wrap_succ (k := i) (by omega)
      simp -dsimp [hl', hb1, shr_i (show i < 64 by omega), bit_op]
      cases hb : bitM s i with
      | false =>
        rw [hb, if_neg (by decide), List.append_nil] at hrs
        simp -dsimp [wk]
        exact ⟨i + 1, by simp, rfl, ⟨by omega, M, by rw [hrs]; exact hJ1, t⟩, by show 4 - (i + 1) < 4 - i; omega⟩
      | true =>
        rw [hb, if_pos rfl] at hrs
        simp -dsimp
        refine callV_by (hy.step (x := i) hJ1 ⟨rfl, hl, hb⟩) ?_
        rintro _ h2 ⟨rfl, M', hJ2, t2⟩
        simp -dsimp [wk]
        exact ⟨i + 1, by simp, rfl, ⟨by omega, M', by rw [hrs]; exact hJ2, t.trans t2⟩, by show 4 - (i + 1) < 4 - i; omega⟩
    · have hl' : ¬ (i : Int) < 4 := by omega
      simp -dsimp [hl']
      exact ⟨rfl, i, by simp, rfl, ⟨hi, M, hJ1, t⟩, by omega⟩
  · rintro i h1 g ⟨hi, M, hJ1, t⟩ rfl
    simp -dsimp
    exact hK _ _ ⟨_, M, rfl, hJ1, t⟩
end Go.Proofs

/-
  A cell by fewer dimensions: the program's, the document's.
-/
namespace Go.Proofs
open Go Go.HC

set_option maxHeartbeats 4000000 in
set_option maxRecDepth 10000 in
theorem narrow_spec {h : Heap} {cs : List Value} {c : CellM} (a b : Int) (hr : rCell.rep (Old h) h cs c) (hc : CellSmall c) :
    CallH Try.prog 12 #[.agg cs.toArray, .int .i64 a, .int .i64 b] h fun r h' => ∃ ds, r = .agg ds.toArray ∧ rCell.rep (Ft h.size none_ h') h' ds (narrowC a b c) ∧ Keep none_ h h' := by
  refine callH_by fun K hK => ?_
  refine enter [.cell 6 31] Try.func12 rfl rfl (by kernel_rfl) rfl ?_
  obtain ⟨ka, kc, sa, sc, na, nc, xa, xc, rfl, r1, r2, r3, r4⟩ := cell_open hr
  simp -dsimp [boxS_eq]
  generalize hB : Array.push (Array.push (Array.push h _) _) _ = h0
  have k0 : Keep none_ h h0 := by rw [← hB]; exact (((Keep.refl none_ h).pushed _).pushed _).pushed _
  have hz0 : h0.size = h.size + 3 := by rw [← hB]; simp
  have hC : h0[h.size]? = some (.cells #[.slice ka c.key.length kc, .int .i64 c.count, .slice sa c.sum.length sc, .slice na c.mn.length nc, .slice xa c.mx.length xc] 31 (0, 0)) := by rw [← hB]; exact push_at (push_at (push_new _ _))
  have hb0 : h0[h.size + 1]? = some (.cells #[.int .i64 b] 3 (0, 0)) := by rw [← hB]; exact push_at (push_get (by simp))
  have hz : h0[h.size + 2]? = some (.cells #[.slice none 0 0, .int .i64 0, .slice none 0 0, .slice none 0 0, .slice none 0 0] 31 (0, 0)) := by rw [← hB]; exact push_get (by simp)
  simp -dsimp [hC]
  refine call_by (own_new (rCell.mono hr ((Tr.of k0).ft (Nat.le_refl 0))) hc) ?_
  rintro _ h1 ⟨ds, rfl, rd, k1⟩
  obtain ⟨ka', kc', sa', sc', na', nc', xa', xc', rfl, q1, q2, q3, q4⟩ := cell_open rd
  simp -dsimp
  rw [push_set rfl, push_set (by simp)]
  generalize hB2 : Array.push (Array.push h1 _) _ = h2
  have e1 := k1.size
  have k2 : Keep none_ h1 h2 := by rw [← hB2]; exact ((Keep.refl none_ h1).pushed _).pushed _
  have hz2 : h2.size = h1.size + 2 := by rw [← hB2]; simp
  have hO : h2[h1.size]? = some (.cells #[.slice none 0 0, .int .i64 c.count, .slice sa' c.sum.length sc', .slice na' c.mn.length nc', .slice xa' c.mx.length xc'] 31 (0, 0)) := by rw [← hB2]; exact push_at (push_new _ _)
  have hA : h2[h1.size + 1]? = some (.cells #[.int .i64 0] 3 (0, 0)) := by rw [← hB2]; exact push_get (by simp)
  refine call_by (dims_spec a h2) ?_
  rintro _ h3 ⟨rfl, e3⟩
  simp -dsimp
  have k3 : Keep none_ h2 h3 := by rw [e3]; exact .push _ _ _
  have hz3 : h3.size = h2.size + 1 := by rw [e3]; simp
  have hD : h3[h2.size]? = some (.cells #[.int .i64 a] 3 (0, 0)) := by rw [e3]; exact push_new _ _
  clear e3
  have hC3 := k3.at (k2.at (k1.at hC (fun h => h)) (fun h => h)) (fun h => h)
  have hb3 := k3.at (k2.at (k1.at hb0 (fun h => h)) (fun h => h)) (fun h => h)
  have hz3' := k3.at (k2.at (k1.at hz (fun h => h)) (fun h => h)) (fun h => h)
  have hO3 := k3.at hO (fun h => h)
  have hA3 := k3.at hA (fun h => h)
  obtain ⟨I, hI⟩ : ∃ I : List Nat → (Nat → Prop) → Heap → Prop, ∀ xs M h', I xs M h' ↔ ((M h1.size ∧ M (h1.size + 1)) ∧ (∀ b, M b → b < h'.size) ∧ ∃ kv own, h'[h1.size]? = some (.cells #[kv, .int .i64 c.count, .slice sa' c.sum.length sc', .slice na' c.mn.length nc', .slice xa' c.mx.length xc'] 31 (0, 0)) ∧
      h'[h1.size + 1]? = some (.cells #[.int .i64 xs.length] 3 (0, 0)) ∧ Gr rInt 3 h.size M h' kv (pickN b xs c.key) own ∧ ∀ bk, own = some bk → h3.size + 2 ≤ bk) := ⟨_, fun _ _ _ => Iff.rfl⟩
  have hO' := lt_of_blk hO3
  have k03 : Keep none_ h h3 := ((k0.trans k1 fun _ _ h => h).trans k2 fun _ _ h => h).trans k3 fun _ _ h => h
  refine range_m (val := fun i : Nat => #[.int .i64 (i : Int)]) (first := #[]) (by simp) (by simp) (dims_iter hD) I
    ?_ ?_ (fun b => b = h1.size ∨ b = h1.size + 1) ?_ ?_ (by kernel_rfl) (by kernel_rfl) (fun _ => rfl) (by intro p hp; simp at hp; subst hp; decide) ?_ ?_
  · exact fun hi => ((hI _ _ _).1 hi).2.1
  · intro xs M h4 h5 hi m1 m2 k
    obtain ⟨hM, hlt, kv, own, w1, w2, g, ho⟩ := (hI _ _ _).1 hi
    exact (hI _ _ _).2 ⟨hM, fun b hb => Nat.lt_of_lt_of_le (hlt b hb) k.size, kv, own, k.at w1 (by omega), k.at w2 (by omega), g.lp hlt m2 (fun e => by have := ho _ e; omega) k, ho⟩
  · rintro b rfl
    exact ⟨by omega, by omega⟩
  · intro h4 k4 hz4
    exact (hI _ _ _).2 ⟨⟨.inl (.inl rfl), .inl (.inr rfl)⟩, by omega, _, none, k4.at hO3 (fun h => h), k4.at hA3 (fun h => h), by rw [pickN_nil']; exact .nil _ _ _ _ _, fun b hb => by cases hb⟩
  · rintro xs i M h4 hi4 ⟨hxs, hi, hbi⟩ hz4 m1 m2 t
    simp -dsimp
    refine ⟨.refl _ _, fun h5 k5 e5 => ?_⟩
    obtain ⟨⟨hM1, hM2⟩, hlt, kv, own, w1, w2, g, ho⟩ := (hI _ _ _).1 hi4
    have t5 := Tr.lp hlt m2 k5
    have u5 := t.trans t5
    have T5 := Tr.from_ k03 u5 (fun b hb => by omega)
    have g5 := g.lp hlt m2 (fun e => by have := ho _ e; omega) k5
    have w1' := k5.at w1 (by omega)
    have w2' := k5.at w2 (by omega)
    have hC5 := u5.at hC3 (by omega)
    have hb5 := u5.at hb3 (by omega)
    have hsn := pickN_snoc b i xs c.key
    have hxl : xs.length ≤ 4 := by rw [hxs]; exact Nat.le_trans (List.length_filter_le _ _) (by simp; omega)
    have wk := wrap_succ (k := xs.length) (by omega)
    have hw2 := lt_of_blk w2'
    have ho2 : h1.size < h5.size := lt_of_blk w1'
    have htl : (xs ++ [i]).length = xs.length + 1 := by simp
    -- behind the number is written
    have fin : ∀ (h6 : Heap) (kv' : Value) (own' : Option Nat) (M' : Nat → Prop), Tr M M' h4 h6 → (∀ b, M b → M' b) → h6[h3.size]? = h5[h3.size]? → h6[h3.size + 1]? = h5[h3.size + 1]? → h3.size + 2 ≤ h6.size →
        h6[h1.size]? = some (.cells #[kv', .int .i64 c.count, .slice sa' c.sum.length sc', .slice na' c.mn.length nc', .slice xa' c.mx.length xc'] 31 (0, 0)) →
        Gr rInt 3 h.size M' h6 kv' (pickN b (xs ++ [i]) c.key) own' → (∀ bk, own' = some bk → h3.size + 2 ≤ bk) →
        bodyM h3.size M h4 h5 I (xs ++ [i]) ⟨⟩ (h6.setIfInBounds (h1.size + 1) (.cells #[.int .i64 ((xs.length + 1 : Nat) : Int)] 3)) := by
      intro h6 kv' own' M' t6 hM' d1 d2 hz6 v1 g6 ho6
      refine ⟨M', (hI _ _ _).2 ⟨⟨hM' _ hM1, hM' _ hM2⟩, fun b hb => by simpa using t6.lt b hb, kv', own', (set_other _ (by omega)).trans v1, ?_, g6.set _ (hM' _ hM2) (fun e => by have := ho6 _ e; omega), ho6⟩, t6.set _ (hM' _ hM2), hM' _ m1, hM' _ m2, (set_other _ (by omega)).trans d1, (set_other _ (by omega)).trans d2⟩
      rw [htl]
      exact set_same _ (by omega)
    have t45 : Tr M M h4 h5 := t5
    have skip : ∀ (e : pickN b (xs ++ [i]) c.key = pickN b xs c.key), bodyM h3.size M h4 h5 I (xs ++ [i]) ⟨⟩ (h5.setIfInBounds (h1.size + 1) (.cells #[.int .i64 ((xs.length + 1 : Nat) : Int)] 3)) :=
      fun e => fin h5 kv own M t45 (fun _ h => h) rfl rfl (by omega) w1' (by rw [e]; exact g5) ho
    simp -dsimp [hb5, shr_i (show i < 64 by omega), bit_op]
    cases hbb : bitM b i with
    | false =>
      simp -dsimp [w2', wk]
      refine skip ?_
      rw [hsn, hbb]
      split <;> simp
    | true =>
      simp -dsimp [hC5, w2']
      by_cases hxk : xs.length < c.key.length
      · have hw1p : ∀ o, (h5.push o)[h1.size]? = _ := fun o => push_at w1'
        have rk := r1.mono (T5.ft (Nat.le_refl 0))
        obtain ⟨b1, o1, eka, _, hc1⟩ := rk.int_at xs.length hxk
        obtain ⟨va, vn, vc, rfl, hvn⟩ := g5.vals
        have hpl := pickN_le b xs c.key
        have hkl := hc.key
        simp -dsimp [hxk]
        refine drawn_by [⟨0, true, []⟩, ⟨1, true, []⟩, ⟨2, true, []⟩, ⟨3, true, []⟩, ⟨4, true, []⟩, ⟨5, true, []⟩, ⟨6, true, []⟩, ⟨7, false, [0, 1]⟩, ⟨8, false, []⟩, ⟨9, true, []⟩, ⟨10, false, []⟩] (by kernel_rfl) (by kernel_rfl) ?_
        simp -dsimp [hC5, w1', w2', hw1p, eka, hc1, idxV_nat hxk, elSz_eq, again_cons]
        refine gr_app1 (x := c.key[xs.length]) rfl intT g5 t5.lt rfl rfl (by omega) (by omega) ?_
        intro v' h6 own' g6 t6 k6 ho6
        have v1 := k6.at w1' (fun e => by have := ho _ e; omega)
        have v2 := k6.at w2' (fun e => by have := ho _ e; omega)
        have ho6' : ∀ b, own' = some b → h3.size + 2 ≤ b := fun b e => (ho6 _ e).elim (ho b) (by omega)
        have hl1 := lt_of_blk v1
        have hl2 := lt_of_blk v2
        obtain ⟨va', vn', vc', rfl, hvn'⟩ := g6.vals
        simp -dsimp [v1, set_other _ (show h1.size ≠ h1.size + 1 by omega), v2, wk]
        refine fin _ _ own' (fun b => M b ∨ own' = some b) ((t45.trans t6).set _ (.inl hM1)) (fun _ h => .inl h) ((set_other _ (by omega)).trans (k6.blk _ (by omega) fun e => by have := ho _ e; omega)) ((set_other _ (by omega)).trans (k6.blk _ (by omega) fun e => by have := ho _ e; omega)) (by have := k6.size; simp; omega) (set_same _ hl1) ?_ ho6'
        rw [hsn, dif_pos hxk, hbb, if_pos rfl]
        exact g6.set _ (.inl hM1) (fun e => by have := ho6' _ e; omega)
      · simp -dsimp [hxk, w2', wk]
        refine skip ?_
        rw [hsn, dif_neg hxk, List.append_nil]
  · rintro xs M h4 rfl hi4 hdm hz4 m1 m2 t
    obtain ⟨⟨hM1, hM2⟩, hlt, kv, own, w1, w2, g, ho⟩ := (hI _ _ _).1 hi4
    have T4 := Tr.from_ k03 t (fun b hb => by omega)
    obtain ⟨va, vn, vc, rfl, hvn⟩ := g.vals
    have hpl := pickN_le b (dimsM a) c.key
    have hkl := hc.key
    simp -dsimp [w1]
    refine call_by (cloneInt_spec g.grow.ints g.own_lt (by omega)) ?_
    rintro _ h5 ⟨own5, g5, k5, ho5⟩
    obtain ⟨a5, c5, rfl⟩ := g5.val
    have w5 := k5.at w1 (fun h => h)
    have T5 := T4.call k5
    have hz5 := k5.at (t.at hz3' (by omega)) (fun h => h)
    have hd5 := k5.at hdm (fun h => h)
    have hl1 := lt_of_blk w5
    have hl2 := lt_of_blk hz5
    have hl3 := lt_of_blk hd5
    have s5 := k5.size
    have hne : h1.size ≠ h.size + 2 := by omega
    simp -dsimp [w5, set_same _ hl1, set_other _ hne, hz5]
    generalize hH : Array.setIfInBounds (Array.setIfInBounds h5 _ _) _ _ = h6
    have hold : ∀ bk, bk ≠ h1.size → bk ≠ h.size + 2 → h6[bk]? = h5[bk]? := fun bk n1 n2 => by rw [← hH, set_other _ (fun e => n2 e.symm), set_other _ (fun e => n1 e.symm)]
    have hres : h6[h.size + 2]? = some (.cells #[.slice a5 (pickN b (dimsM a) c.key).length c5, .int .i64 c.count, .slice sa' c.sum.length sc', .slice na' c.mn.length nc', .slice xa' c.mx.length xc'] 31 (0, 0)) := by rw [← hH]; exact set_same _ (by simpa using hl2)
    have hz6 : h6.size = h5.size := by rw [← hH]; simp
    rw [takeS_cons ((hold _ (by omega) (by omega)).trans hd5)]
    have hne3 : h3.size ≠ h.size + 2 := by omega
    simp -dsimp [set_other _ hne3, hres]
    have hold7 : ∀ bk, bk ≠ h1.size → bk ≠ h.size + 2 → bk ≠ h3.size → (h6.setIfInBounds h3.size (.deferred none))[bk]? = h5[bk]? := fun bk n1 n2 n3 => by rw [set_other _ (fun e => n3 e.symm), hold bk n1 n2]
    have hz7 : (h6.setIfInBounds h3.size (.deferred none)).size = h5.size := by simp [hz6]
    generalize h6.setIfInBounds h3.size (.deferred none) = h7 at hold7 hz7 ⊢
    have hq : ∀ bk, Ft h0.size none_ h1 bk → Ft h.size none_ h7 bk ∧ h7[bk]? = h1[bk]? := fun bk hb => by
      have l1 := hb.1.1
      have l2 := hb.2.1
      have e : h7[bk]? = h1[bk]? := by
        rw [hold7 bk (by omega) (by omega) (by omega), k5.blk bk (by have := t.size; omega) (fun h => h), t.keep.blk bk (by omega) (by omega), k3.blk bk (by omega) (fun h => h), k2.blk bk l2 (fun h => h)]
      exact ⟨⟨hb.1.at (by omega) e, by have := T5.size; have := t.size; omega, fun h => h⟩, e⟩
    refine hK _ _ ⟨_, rfl, ⟨_, _, _, _, rfl, ?_, q2.mono hq, q3.mono hq, q4.mono hq⟩, ⟨by have := T5.size; omega, fun bk hb _ => by rw [hold7 bk (by omega) (by omega) (by omega), T5.keep.blk bk hb (fun h => h)]⟩⟩
    refine g5.ints.mono fun bk hb => ?_
    have l1 := ho5 bk hb
    have l2 := g5.own_lt bk hb
    have l3 := t.size
    have e := hold7 bk (by omega) (by omega) (by omega)
    exact ⟨⟨⟨by omega, fun _ => (g5.thaw bk hb).at e⟩, by omega, fun h => h⟩, e⟩

theorem wrap_u64s {k : Nat} (hk : k < 1000) : IntKind.u64.wrap ((k : Int) + 1) = ((k + 1 : Nat) : Int) := by
  have : IntKind.u64.wrap ((k : Int) + 1) = ((k : Int) + 1) % 18446744073709551616 := rfl
  rw [this]; omega

end Go.Proofs

/-
  Cells by fewer dimensions, one by one, collected: the program's.
-/
namespace Go.HC
/-- Cells that come one by one, in memory of their own. -/
def cellsA (n0 : Nat) (l : List CellM) (xs : List (List Value)) (cs : List Value) (M : Nat → Prop) (h : Heap) : Prop := ∃ hk : xs.length < l.length, rCell.rep (Ft n0 M h) h cs l[xs.length]
theorem IterM.keep {α : Type} {P : Program} {f : FuncId} {first caps : Array Value} {val : α → Array Value} {A : List α → α → (Nat → Prop) → Heap → Prop} {Done : List α → Prop} {Fp : Nat → Prop} {h0 h1 : Heap} (hit : IterM P f first caps val A Done Fp h0) (hF : ∀ b, Fp b → b < h0.size) (k : Keep none_ h0 h1) : IterM P f first caps val A Done Fp h1 := by
  intro y J M h hyv hy hJ hsz hFp
  refine hit y J M h hyv hy hJ (Nat.le_trans k.size hsz) fun b hb => ?_
  obtain ⟨_, g2, g3⟩ := hFp b hb
  exact ⟨hF b hb, g2, g3.trans (k.blk b (hF b hb) (fun h => h))⟩
end Go.HC
namespace Go.Proofs
open Go Go.HC

set_option maxHeartbeats 4000000 in
set_option maxRecDepth 10000 in
theorem narrowed_iter {h0 : Heap} {b1 b2 b3 : Nat} {v : Value} {l : List CellM} {a b : Int} {F : Nat → Prop} (n0 : Nat) (hn0 : n0 ≤ h0.size) (hb1 : h0[b1]? = some (.cells #[v] 24 (0, 0))) (hb2 : h0[b2]? = some (.cells #[.int .i64 a] 3 (0, 0))) (hb3 : h0[b3]? = some (.cells #[.int .i64 b] 3 (0, 0)))
    (hl : SlRep rCell F h0 v l) (hln : l.length < 1000000) (hsm : ∀ d ∈ l, CellSmall d) :
    IterM Try.prog 11 #[] #[.pointer (some ⟨b1, 0, none⟩), .pointer (some ⟨b2, 0, none⟩), .pointer (some ⟨b3, 0, none⟩)] (fun cs : List Value => #[.agg cs.toArray]) (cellsA n0 (l.map (narrowC a b))) (fun xs => xs.length = l.length)
      (fun x => x = b1 ∨ x = b2 ∨ x = b3 ∨ F x) h0 := by
  intro y J M0 h ⟨yf, yu, yv', hyf⟩ hy hJ hsz hFp
  subst hyf
  have w1 := (hFp b1 (.inl rfl)).2.2.trans hb1
  have w2 := (hFp b2 (.inr (.inl rfl))).2.2.trans hb2
  have w3 := (hFp b3 (.inr (.inr (.inl rfl)))).2.2.trans hb3
  have n1 := (hFp b1 (.inl rfl)).2.1
  have n2 := (hFp b2 (.inr (.inl rfl))).2.1
  have n3 := (hFp b3 (.inr (.inr (.inl rfl)))).2.1
  have hlh : SlRep rCell (Ft 0 M0 h) h v l := hl.mono fun x hx => by
    obtain ⟨g1, g2, g3⟩ := hFp x (.inr (.inr (.inr hx)))
    exact ⟨⟨nz, by omega, g2⟩, g3⟩
  obtain ⟨a0, c0, rfl, _, _⟩ := hl.val
  refine callH_by fun K hK => ?_
  refine enter [] Try.func11 rfl rfl (by kernel_rfl) rfl ?_
  simp -dsimp [w1]
  refine loopc (σ := Nat) (fun k => [(0, .func yf yu yv'), (1, .pointer (some ⟨b1, 0, none⟩)), (2, .pointer (some ⟨b2, 0, none⟩)), (3, .pointer (some ⟨b3, 0, none⟩)), (7, .slice a0 l.length c0), (8, .int .i64 l.length), (9, .int .i64 k)])
    (fun k h1 => k ≤ l.length ∧ ∃ xs M, xs.length = k ∧ J xs M h1 ∧ Tr M0 M h h1) (fun k => l.length - k) 0 0 (fun k _ => k = l.length) noRet noRet_le (by simp)
    ⟨by omega, [], M0, rfl, hJ, ⟨.refl _ _, fun _ h => .inl h, fun b hb => hy.lt hJ b hb⟩⟩ (by kernel_rfl) ?_ ?_
  · rintro k h1 g ⟨hk, xs, M, hxs, hJ1, t⟩
    by_cases hkl : k < l.length
    · have wk := wrap_succ (k := k) (by omega)
      obtain ⟨bl, ol, cs, e1, _, hrep, hx1⟩ := (hlh.mono (t.ft (Nat.le_refl 0))).get k hkl
      obtain ⟨ka, kc, sa, sc, na, nc, xa, xc, rfl, r1, _⟩ := cell_open hrep
      have hx1' : HC.cellsIn h1[bl]? (ol + k * 5) 5 = _ := hx1
      simp -dsimp [hkl, e1, idxA_nat hkl, hx1']
      rw [push_set rfl]
      generalize hB2 : Array.push h1 _ = h2
      have k2 : Keep none_ h1 h2 := by rw [← hB2]; exact .push _ _ _
      have hC : h2[h1.size]? = some (.cells #[.slice ka l[k].key.length kc, .int .i64 l[k].count, .slice sa l[k].sum.length sc, .slice na l[k].mn.length nc, .slice xa l[k].mx.length xc] 31 (0, 0)) := by rw [← hB2]; exact push_new _ _
      have t2 := t.call k2
      have v2 := t2.at w2 n2
      have v3 := t2.at w3 n3
      simp -dsimp [hC, v2, v3]
      refine call_by (narrow_spec a b (rCell.mono (rCell.mono hrep ((t.here.call k2).ft (Nat.le_refl 0))) (Ft.free (Nat.zero_le _))) (hsm _ (List.getElem_mem hkl))) ?_
      rintro _ h3 ⟨ds, rfl, rd, k3⟩
      simp -dsimp
      have k13 := k2.trans k3 fun _ _ h => h
      refine callV_by (hy.step (x := ds) (hy.call hJ1 k13) ?_) ?_
      · refine ⟨by rw [hxs, List.length_map]; exact hkl, ?_⟩
        have := rCell.mono rd (t2.ret (n := n0) (by have := t2.size; omega))
        simpa [hxs] using this
      · rintro _ h4 ⟨rfl, M', hJ4, t4⟩
        simp -dsimp [wk]
        exact ⟨k + 1, by simp [e1], rfl, ⟨by omega, xs ++ [ds], M', by simp [hxs], hJ4, (t.call k13).trans t4⟩, by show l.length - (k + 1) < l.length - k; omega⟩
    · simp -dsimp [hkl]
      exact ⟨rfl, k, by simp, rfl, ⟨hk, xs, M, hxs, hJ1, t⟩, by omega⟩
  · rintro k h1 g ⟨hk, xs, M, hxs, hJ1, t⟩ rfl
    simp -dsimp
    exact hK _ _ ⟨xs, M, hxs, hJ1, t⟩

set_option maxHeartbeats 4000000 in
set_option maxRecDepth 10000 in
theorem all_spec {f : FuncId} {caps : Array Value} {l : List CellM} {Fp : Nat → Prop} {h : Heap} (hfn : FnOk Try.prog f)
    (hit : IterM Try.prog f #[] caps (fun cs : List Value => #[.agg cs.toArray]) (cellsA h.size l) (fun xs => xs.length = l.length) Fp h) (hF : ∀ b, Fp b → b < h.size) (hln : l.length < 1000000) :
    CallH Try.prog 7 #[.func (.func f) #[] caps] h fun r h' => NewC 31 h.size h' r l ∧ Keep none_ h h' := by
  refine callH_by fun K hK => ?_
  refine enter [.tmp 2] Try.func7 rfl rfl (by kernel_rfl) rfl ?_
  simp -dsimp
  generalize hB : Array.push h _ = h1
  have k1 : Keep none_ h h1 := by rw [← hB]; exact .push _ _ _
  have hz1 : h1.size = h.size + 1 := by rw [← hB]; simp
  have hO : h1[h.size]? = some (.cells #[.slice none 0 0] 24 (0, 0)) := by rw [← hB]; exact push_new _ _
  obtain ⟨I, hI⟩ : ∃ I : List (List Value) → (Nat → Prop) → Heap → Prop, ∀ xs M h', I xs M h' ↔ (M h.size ∧ (∀ b, M b → b < h'.size) ∧ xs.length ≤ l.length ∧ ∃ v own, h'[h.size]? = some (.cells #[v] 24 (0, 0)) ∧
      Gr rCell 31 h.size M h' v (l.take xs.length) own ∧ ∀ bk, own = some bk → h1.size + 2 ≤ bk) := ⟨_, fun _ _ _ => Iff.rfl⟩
  refine range_m (val := fun cs : List Value => #[.agg cs.toArray]) (first := #[]) (by simp) hfn (hit.keep hF k1) I
    ?_ ?_ (fun b => b = h.size) ?_ ?_ (by kernel_rfl) (by kernel_rfl) (fun _ => rfl) (by intro p hp; simp at hp; subst hp; decide) ?_ ?_
  · exact fun hi => ((hI _ _ _).1 hi).2.1
  · intro xs M h4 h5 hi m1 m2 k
    obtain ⟨hM, hlt, hx, v, own, w1, g, ho⟩ := (hI _ _ _).1 hi
    exact (hI _ _ _).2 ⟨hM, fun b hb => Nat.lt_of_lt_of_le (hlt b hb) k.size, hx, v, own, k.at w1 (by omega), g.lp hlt m2 (fun e => by have := ho _ e; omega) k, ho⟩
  · exact fun b hb => ⟨by have := hF b hb; omega, by have := hF b hb; omega⟩
  · intro h4 k4 hz4
    exact (hI _ _ _).2 ⟨.inl rfl, by omega, Nat.zero_le _, _, none, k4.at hO (fun h => h), .nil _ _ _ _ _, fun b hb => by cases hb⟩
  · rintro xs cs M h4 hi4 ⟨hxk, hrep⟩ hz4 m1 m2 t
    obtain ⟨hM, hlt, hx, v, own, w1, g, ho⟩ := (hI _ _ _).1 hi4
    obtain ⟨ka, kc, sa, sc, na, nc, xa, xc, rfl, r1, _⟩ := cell_open hrep
    simp -dsimp
    rw [push_set rfl]
    generalize hB2 : Array.push h4 _ = h5
    have k5 : Keep none_ h4 h5 := by rw [← hB2]; exact .push _ _ _
    have hC : h5[h4.size]? = some (.cells #[.slice ka l[xs.length].key.length kc, .int .i64 l[xs.length].count, .slice sa l[xs.length].sum.length sc, .slice na l[xs.length].mn.length nc, .slice xa l[xs.length].mx.length xc] 31 (0, 0)) := by rw [← hB2]; exact push_new _ _
    refine ⟨k5, fun h6 k6 hz6 => ?_⟩
    have l4 := lt_of_blk w1
    have hzz : h5.size = h4.size + 1 := by rw [← hB2]; simp
    have t46 : Tr M M h4 h6 := (Tr.call ⟨.refl _ _, fun _ h => .inl h, hlt⟩ k5).trans (.lp (fun b hb => Nat.lt_of_lt_of_le (hlt b hb) k5.size) m2 k6)
    have g6 := (g.call k5).lp (fun b hb => Nat.lt_of_lt_of_le (hlt b hb) k5.size) m2 (fun e => by have := ho _ e; omega) k6
    have w6 := k6.at (k5.at w1 (fun h => h)) (by omega)
    have hC6 := k6.at hC (by omega)
    obtain ⟨va, vn, vc, rfl, hvn⟩ := g6.vals
    simp -dsimp [w6, hC6]
    have htl : (l.take xs.length).length = xs.length := by rw [List.length_take]; omega
    refine gr_app1 (x := l[xs.length]) rfl cellT g6 t46.lt (rCell.mono hrep (t46.ft (Nat.le_refl _))) rfl (by omega) (by omega) ?_
    intro v' h7 own' g7 t7 k7 ho7
    have w7 := k7.at w6 (fun e => by have := ho _ e; omega)
    have ho7' : ∀ b, own' = some b → h1.size + 2 ≤ b := fun b e => (ho7 _ e).elim (ho b) (by omega)
    obtain ⟨va', vn', vc', rfl, hvn'⟩ := g7.vals
    have hl7 := lt_of_blk w7
    simp -dsimp [w7]
    have t8 := (t46.trans t7).set (.cells #[.slice va' vn' vc'] 24) (.inl hM)
    refine ⟨_, (hI _ _ _).2 ⟨.inl hM, t8.lt, by simp; omega, _, own', set_same _ hl7, ?_, ho7'⟩, t8, .inl m1, .inl m2, (set_other _ (by omega)).trans (k7.blk _ (by omega) fun e => by have := ho _ e; omega), (set_other _ (by omega)).trans (k7.blk _ (by omega) fun e => by have := ho _ e; omega)⟩
    rw [List.length_append, List.length_singleton, take_snoc hxk]
    exact g7.set _ (.inl hM) (fun e => by have := ho7' _ e; omega)
  · rintro xs M h4 hxl hi4 hdm hz4 m1 m2 t
    obtain ⟨hM, hlt, hx, v, own, w1, g, ho⟩ := (hI _ _ _).1 hi4
    have T4 := Tr.from_ k1 t (fun b hb => by omega)
    rw [hxl, List.take_length] at g
    obtain ⟨va, vn, vc, rfl, hvn⟩ := g.vals
    simp -dsimp [w1]
    rw [takeS_cons hdm]
    simp -dsimp
    have u := T4.set (.deferred none) m1
    exact hK _ _ ⟨(g.set _ m1 (fun e => by have := ho _ e; omega)).newC (Nat.le_refl _) (fun b hb => by have := ho b hb; omega), u.keep⟩
end Go.Proofs

/-
  Two rows of rising cells made one: the program's.
-/
namespace Go.HC
theorem two_nil : ∀ a : List CellM, twoM a [] = a
  | [] => by rw [twoM]
  | x :: a => by rw [twoM]
theorem two_nil' (b : List CellM) : twoM [] b = b := by rw [twoM]
theorem two_len : ∀ a b : List CellM, (twoM a b).length ≤ a.length + b.length
  | [], b => by rw [twoM]; simp
  | x :: a, [] => by rw [twoM]; simp
  | x :: a, y :: b => by
    rw [twoM]
    split
    · have := two_len a (y :: b); simp only [List.length_cons] at *; omega
    · split
      · have := two_len a b; simp only [List.length_cons] at *; omega
      · have := two_len (x :: a) b; simp only [List.length_cons] at *; omega
termination_by a b => a.length + b.length
/-- A row of cells in memory of its own that is not among what may be changed. -/
def NewCM (e n0 : Nat) (M : Nat → Prop) (h : Heap) (v : Value) (l : List CellM) : Prop := ∃ F own, Grow rCell e F h v l own ∧ (∀ b, F b → Nw n0 h b ∧ b < h.size ∧ ¬ M b) ∧ ∀ b, own = some b → n0 ≤ b ∧ ¬ M b
theorem NewC.away {e n0 n1 : Nat} {M : Nat → Prop} {h : Heap} {v : Value} {l : List CellM} (g : NewC e n1 h v l) (hn : n0 ≤ n1) (hM : ∀ b, M b → b < n1) : NewCM e n0 M h v l := by
  obtain ⟨F, own, g, hF, ho⟩ := g
  exact ⟨F, own, g, fun b hb => ⟨(hF b hb).1.less hn, (hF b hb).2, fun hm => by have := hM b hm; have := (hF b hb).1.1; omega⟩, fun b hb => ⟨Nat.le_trans hn (ho b hb), fun hm => by have := hM b hm; have := ho b hb; omega⟩⟩
theorem NewCM.mono {e n0 : Nat} {M M' : Nat → Prop} {h h' : Heap} {v : Value} {l : List CellM} (g : NewCM e n0 M h v l) (t : Tr M M' h h') : NewCM e n0 M' h' v l := by
  obtain ⟨F, own, g, hF, ho⟩ := g
  have hlt := g.own_lt
  have hnf := g.notF
  have key : ∀ b, b < h.size → ¬ M b → ¬ M' b := fun b h1 h2 hm => (t.new b hm).elim h2 fun h => by omega
  exact ⟨F, own, g.mono (fun b hb => ⟨hb, t.keep.blk b (hF b hb).2.1 (hF b hb).2.2⟩) fun b hb => ⟨hnf b hb, t.keep.blk b (hlt b hb) (ho b hb).2⟩,
    fun b hb => ⟨(hF b hb).1.at (Nat.le_refl _) (t.keep.blk b (hF b hb).2.1 (hF b hb).2.2), Nat.lt_of_lt_of_le (hF b hb).2.1 t.size, key b (hF b hb).2.1 (hF b hb).2.2⟩, fun b hb => ⟨(ho b hb).1, key b (hlt b hb) (ho b hb).2⟩⟩
theorem NewCM.newC {e n0 : Nat} {M : Nat → Prop} {h : Heap} {v : Value} {l : List CellM} (g : NewCM e n0 M h v l) : NewC e n0 h v l := by
  obtain ⟨F, own, g, hF, ho⟩ := g
  exact ⟨F, own, g, fun b hb => ⟨(hF b hb).1, (hF b hb).2.1⟩, fun b hb => (ho b hb).1⟩
theorem NewCM.rep {e n0 n : Nat} {M : Nat → Prop} {h : Heap} {v : Value} {l : List CellM} (g : NewCM e n0 M h v l) (hn : n ≤ n0) : SlRep rCell (Ft n M h) h v l := by
  obtain ⟨F, own, g, hF, ho⟩ := g
  exact g.rep.mono fun b hb => ⟨hb.elim (fun h => ⟨(hF b h).1.less hn, (hF b h).2.1, (hF b h).2.2⟩) fun h => ⟨⟨Nat.le_trans hn (ho b h).1, fun _ => g.thaw b h⟩, g.own_lt b h, (ho b h).2⟩, rfl⟩
/-- What is changed may be more than it was. -/
theorem Tr.more {M M' N : Nat → Prop} {h h' : Heap} (t : Tr M M' h h') (hN : ∀ b, N b → (M b ∨ h.size ≤ b) ∧ b < h'.size) : Tr M (fun b => M' b ∨ N b) h h' :=
  ⟨t.keep, fun b hb => hb.elim (t.new b) fun h => (hN b h).1, fun b hb => hb.elim (t.lt b) fun h => (hN b h).2⟩
end Go.HC
namespace Go.Proofs
open Go Go.HC

set_option maxHeartbeats 4000000 in
set_option maxRecDepth 10000 in
theorem mown_spec {h : Heap} {cs : List Value} {c : CellM} (hr : rCell.rep (Old h) h cs c) (hc : CellSmall c) :
    CallH Try.prog 46 #[.agg cs.toArray] h fun r h' => ∃ ds, r = .agg ds.toArray ∧ rCell.rep (Ft h.size none_ h') h' ds c ∧ Keep none_ h h' := by
  refine callH_by fun K hK => ?_
  refine enter [.cell 2 31] Try.func46 rfl rfl (by kernel_rfl) rfl ?_
  obtain ⟨ka, kc, sa, sc, na, nc, xa, xc, rfl, r1, r2, r3, r4⟩ := cell_open hr
  simp -dsimp [boxS_eq]
  generalize hB : Array.push (Array.push h _) _ = h0
  have k0 : Keep none_ h h0 := by rw [← hB]; exact ((Keep.refl none_ h).pushed _).pushed _
  have hz0 : h0.size = h.size + 2 := by rw [← hB]; simp
  have hC : h0[h.size]? = some (.cells #[.slice ka c.key.length kc, .int .i64 c.count, .slice sa c.sum.length sc, .slice na c.mn.length nc, .slice xa c.mx.length xc] 31 (0, 0)) := by rw [← hB]; exact push_at (push_new _ _)
  have hz : h0[h.size + 1]? = some (.cells #[.slice none 0 0, .int .i64 0, .slice none 0 0, .slice none 0 0, .slice none 0 0] 31 (0, 0)) := by rw [← hB]; exact push_get (by simp)
  simp -dsimp [hC]
  generalize hB3 : Array.push h0 _ = h3
  have k3 : Keep none_ h0 h3 := by rw [← hB3]; exact .push _ _ _
  have k03 := k0.trans k3 fun _ _ h => h
  have hN : h3[h0.size]? = some (.cells #[.slice ka c.key.length kc, .int .i64 c.count, .slice sa c.sum.length sc, .slice na c.mn.length nc, .slice xa c.mx.length xc] 31 (0, 0)) := by rw [← hB3]; exact push_new _ _
  have hone1 : SlRep rCell (Old h3) h3 (.slice (some ⟨h0.size, 0, none⟩) 1 1) [c] :=
    ⟨_, 1, _, rfl, Nat.le_refl _, by decide, .inr ⟨h0.size, 0, _, _, _, rfl, ⟨nz, lt_of_blk hN, fun h => h⟩, hN, rfl⟩, .single (rCell.mono hr ((Tr.of k03).ft (Nat.le_refl 0)))⟩
  refine call_by (cgroup_spec hone1 (by simp) (fun d hd => by rw [List.mem_singleton] at hd; rw [hd]; exact hc)) ?_
  rintro gv h4 ⟨ng, k4⟩
  have ng : NewC 31 h3.size h4 gv [c] := ng
  obtain ⟨b4, cc4, arr4, cs4, rfl, hcc, hb4s, hb4, hsz4, hcs4, rep4⟩ := ng.one
  obtain ⟨ka', kc', sa', sc', na', nc', xa', xc', rfl, q1, q2, q3, q4⟩ := cell_open rep4
  have hz4 := k4.at (k3.at hz (fun h => h)) (fun h => h)
  have hce : HC.cellsIn h4[b4]? 0 5 = some _ := (by rw [hb4, cellsIn_some, if_pos (by omega), List.drop_zero, hcs4])
  have s3 := k03.size
  have s4 := k4.size
  have hl := lt_of_blk hz4
  simp -dsimp [idxA_zero (show 0 < 1 by decide), hce, hz4]
  generalize hH : Array.setIfInBounds h4 _ _ = h5
  have hres : h5[h.size + 1]? = some (.cells #[.slice ka' c.key.length kc', .int .i64 c.count, .slice sa' c.sum.length sc', .slice na' c.mn.length nc', .slice xa' c.mx.length xc'] 31 (0, 0)) := by rw [← hH]; exact set_same _ hl
  have hold : ∀ bk, bk ≠ h.size + 1 → h5[bk]? = h4[bk]? := fun bk n => by rw [← hH, set_other _ (fun e => n e.symm)]
  have hz5 : h5.size = h4.size := by rw [← hH]; simp
  simp -dsimp [hres]
  have z3 : h3.size = h0.size + 1 := by rw [← hB3]; simp
  refine hK _ _ ⟨_, rfl, rCell.mono rep4 fun bk hb => ?_, ⟨by omega, fun bk hb _ => by rw [hold bk (by omega), k4.blk bk (by omega) (fun h => h), k03.blk bk hb (fun h => h)]⟩⟩
  have l1 := hb.1.1
  have e := hold bk (by omega)
  exact ⟨⟨hb.1.at s3 e, by have := hb.2.1; omega, fun h => h⟩, e⟩

theorem ofc_spec (v : Value) (hv : v.cells = #[v]) (h : Heap) : CallH Try.prog 45 #[v] h fun r h' => r = .func (.func 57) #[] #[.pointer (some ⟨h.size, 0, none⟩)] ∧ h' = h.push (.cells #[v] 24) := by
  refine enter [.tmp 2] Try.func45 rfl rfl (by kernel_rfl) rfl ?_
  simp -dsimp [boxS_eq, hv]

set_option maxHeartbeats 4000000 in
set_option maxRecDepth 10000 in
theorem ofc_iter {h0 : Heap} {b1 : Nat} {v : Value} {l : List CellM} {F : Nat → Prop} (hb1 : h0[b1]? = some (.cells #[v] 24 (0, 0))) (hl : SlRep rCell F h0 v l) (hln : l.length < 1000000) :
    IterM Try.prog 57 #[] #[.pointer (some ⟨b1, 0, none⟩)] (fun cs : List Value => #[.agg cs.toArray]) (cellsA 0 l) (fun xs => xs.length = l.length) (fun x => x = b1 ∨ F x) h0 := by
  intro y J M0 h ⟨yf, yu, yv', hyf⟩ hy hJ hsz hFp
  subst hyf
  have w1 := (hFp b1 (.inl rfl)).2.2.trans hb1
  have n1 := (hFp b1 (.inl rfl)).2.1
  have hlh : SlRep rCell (Ft 0 M0 h) h v l := hl.mono fun x hx => by
    obtain ⟨g1, g2, g3⟩ := hFp x (.inr hx)
    exact ⟨⟨nz, by omega, g2⟩, g3⟩
  obtain ⟨a0, c0, rfl, _, _⟩ := hl.val
  refine callH_by fun K hK => ?_
  refine enter [] Try.func57 rfl rfl (by kernel_rfl) rfl ?_
  simp -dsimp [w1]
  refine loopc (σ := Nat) (fun k => [(0, .func yf yu yv'), (5, .slice a0 l.length c0), (6, .int .i64 l.length), (7, .int .i64 k)])
    (fun k h1 => k ≤ l.length ∧ ∃ xs M, xs.length = k ∧ J xs M h1 ∧ Tr M0 M h h1) (fun k => l.length - k) 0 0 (fun k _ => k = l.length) noRet noRet_le (by simp)
    ⟨by omega, [], M0, rfl, hJ, ⟨.refl _ _, fun _ h => .inl h, fun b hb => hy.lt hJ b hb⟩⟩ (by kernel_rfl) ?_ ?_
  · rintro k h1 g ⟨hk, xs, M, hxs, hJ1, t⟩
    by_cases hkl : k < l.length
    · have wk := wrap_succ (k := k) (by omega)
      obtain ⟨bl, ol, cs, e1, _, hrep, hx1⟩ := (hlh.mono (t.ft (Nat.le_refl 0))).get k hkl
      obtain ⟨ka, kc, sa, sc, na, nc, xa, xc, rfl, r1, _⟩ := cell_open hrep
      have hx1' : HC.cellsIn h1[bl]? (ol + k * 5) 5 = _ := hx1
      simp -dsimp [hkl, e1, idxA_nat hkl, hx1']
      rw [push_set rfl]
      generalize hB2 : Array.push h1 _ = h2
      have k2 : Keep none_ h1 h2 := by rw [← hB2]; exact .push _ _ _
      refine callV_by (hy.step (x := [.slice ka l[k].key.length kc, .int .i64 l[k].count, .slice sa l[k].sum.length sc, .slice na l[k].mn.length nc, .slice xa l[k].mx.length xc]) (hy.call hJ1 k2) ?_) ?_
      · refine ⟨by rw [hxs]; exact hkl, ?_⟩
        have := rCell.mono hrep ((t.here.call k2).ft (Nat.le_refl 0))
        simpa [hxs] using this
      · rintro _ h4 ⟨rfl, M', hJ4, t4⟩
        simp -dsimp [wk]
        exact ⟨k + 1, by simp [e1], rfl, ⟨by omega, xs ++ [_], M', by simp [hxs], hJ4, (t.call k2).trans t4⟩, by show l.length - (k + 1) < l.length - k; omega⟩
    · simp -dsimp [hkl]
      exact ⟨rfl, k, by simp, rfl, ⟨hk, xs, M, hxs, hJ1, t⟩, by omega⟩
  · rintro k h1 g ⟨hk, xs, M, hxs, hJ1, t⟩ rfl
    simp -dsimp
    exact hK _ _ ⟨xs, M, hxs, hJ1, t⟩
end Go.Proofs
