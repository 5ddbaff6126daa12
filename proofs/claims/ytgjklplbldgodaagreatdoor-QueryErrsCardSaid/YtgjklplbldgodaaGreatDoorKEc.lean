/-
  Rows of facts in memory; numbers within bounds; a row's cell; cells of rows.
-/
import Derived.Test.YtgjklplbldgodaaGreatDoorKEb
import Derived.Lib.Overlaps
import Derived.Shelf.SlSortCmp.WholeK
import Derived.Ground.SlsfProg
import Derived.Shelf.SlSortCmp.NoneTotal
import Derived.Shelf.SortM.Plain
import Derived.Shelf.SortM.SortNone
import Derived.Ground.SlgmProg

namespace Go.HC
structure RowM where
  key : List Int
  m : List Int
def rRow : Rp RowM where
  sz := 2
  pos := by decide
  rep F h cs r := ∃ kv mv, cs = [kv, mv] ∧ SlRep rInt F h kv r.key ∧ SlRep rInt F h mv r.m
  len := by rintro F h cs c ⟨kv, mv, rfl, _⟩; rfl
  one := by
    rintro F h cs c ⟨kv, mv, rfl, h1, h2⟩
    obtain ⟨_, _, rfl, _⟩ := h1.val
    obtain ⟨_, _, rfl, _⟩ := h2.val
    rfl
  mono := by
    rintro F F' h h' cs c ⟨kv, mv, rfl, h1, h2⟩ hm
    exact ⟨kv, mv, rfl, h1.mono hm, h2.mono hm⟩
/-- A cell's five parts. -/
theorem cell_open {F : Nat → Prop} {h : Heap} {cs : List Value} {c : CellM} (hr : rCell.rep F h cs c) : ∃ ka kc sa sc na nc xa xc,
    cs = [.slice ka c.key.length kc, .int .i64 c.count, .slice sa c.sum.length sc, .slice na c.mn.length nc, .slice xa c.mx.length xc] ∧
    SlRep rInt F h (.slice ka c.key.length kc) c.key ∧ SlRep rInt F h (.slice sa c.sum.length sc) c.sum ∧ SlRep rInt F h (.slice na c.mn.length nc) c.mn ∧ SlRep rInt F h (.slice xa c.mx.length xc) c.mx := by
  obtain ⟨kv, sv, nv, xv, rfl, r1, r2, r3, r4⟩ := hr
  obtain ⟨ka, kc, rfl, _, _⟩ := r1.val
  obtain ⟨sa, sc, rfl, _, _⟩ := r2.val
  obtain ⟨na, nc, rfl, _, _⟩ := r3.val
  obtain ⟨xa, xc, rfl, _, _⟩ := r4.val
  exact ⟨ka, kc, sa, sc, na, nc, xa, xc, rfl, r1, r2, r3, r4⟩
theorem row_open {F : Nat → Prop} {h : Heap} {cs : List Value} {r : RowM} (hr : rRow.rep F h cs r) : ∃ ka kc ma mc,
    cs = [.slice ka r.key.length kc, .slice ma r.m.length mc] ∧ SlRep rInt F h (.slice ka r.key.length kc) r.key ∧ SlRep rInt F h (.slice ma r.m.length mc) r.m := by
  obtain ⟨kv, mv, rfl, r1, r2⟩ := hr
  obtain ⟨ka, kc, rfl, _, _⟩ := r1.val
  obtain ⟨ma, mc, rfl, _, _⟩ := r2.val
  exact ⟨ka, kc, ma, mc, rfl, r1, r2⟩
/-- An element that is a number: where it lies. -/
theorem SlRep.int_at {F : Nat → Prop} {h : Heap} {a : Option Addr} {n c : Nat} {xs : List Int} (hs : SlRep rInt F h (.slice a n c) xs) (k : Nat) (hk : k < xs.length) :
    ∃ bk off, a = some ⟨bk, off, none⟩ ∧ F bk ∧ cellIn h[bk]? (off + k) = some (.int .i64 xs[k]) := by
  obtain ⟨b1, o1, v1, rfl, hf, hr, hc⟩ := hs.get1 rfl k hk
  have : v1 = .int .i64 xs[k] := by simpa [rInt] using hr
  exact ⟨b1, o1, rfl, hf, this ▸ hc⟩
/-- A number from 0 to n - 1. -/
def withinM (a n : Int) : Int := if a.tmod n < 0 then a.tmod n + n else a.tmod n
theorem withinM_bound {a n : Int} (hn : 0 < n) : 0 ≤ withinM a n ∧ withinM a n < n := by
  unfold withinM
  have h1 := tmod_bound (a := a) hn
  split <;> omega
/-- Is a dimension one of a set's? -/
def bitM (s : Int) (i : Nat) : Bool := (s.fdiv (2 ^ i)) % 2 == 1
theorem and_one (x : Int) : IntKind.i64.wrap ((BitVec.ofInt IntKind.i64.bits x &&& BitVec.ofInt IntKind.i64.bits 1).toNat) = x % 2 := by
  show IntKind.i64.wrap ((BitVec.ofInt 64 x &&& 1#64).toNat : Int) = x % 2
  rw [BitVec.toNat_and]
  have h3 : (1#64).toNat = 1 := rfl
  rw [h3, Nat.and_one_is_mod, BitVec.toNat_ofInt]
  rw [wrap_i64 (by omega) (by omega)]
  omega
@[simp high] theorem intRes_and1 (x : Int) : intRes .and .i64 x 1 = some (.int .i64 (x % 2)) := by rw [intRes_and, and_one]
theorem bit_op (s : Int) (i : Nat) : (s.fdiv (2 ^ i) % 2 == 1) = bitM s i := _root_.id rfl
theorem shr_bit {s : Int} {k : Nat} (hk : k < 64) : intRes .shr .i64 s (IntKind.u64.wrap (k : Int)) = some (.int .i64 (s.fdiv (2 ^ k))) := by
  have h1 : IntKind.u64.wrap (k : Int) = k := by simp [IntKind.wrap, IntKind.bits, IntKind.signed]; omega
  have h2 : min ((k : Int).toNat) IntKind.i64.bits = k := by
    show min ((k : Int).toNat) 64 = k
    omega
  rw [h1, intRes_shr _ _ _ (by omega), h2]
theorem pow2_le {k n : Nat} (h : k ≤ n) : (2 : Int) ^ k ≤ 2 ^ n := by
  have := Nat.pow_le_pow_right (n := 2) (by decide) h
  exact_mod_cast this
theorem pow2_pos (k : Nat) : (0 : Int) < 2 ^ k := Int.pow_pos (by decide)
theorem shl_one {k : Nat} (hk : k ≤ 62) : intRes .shl .i64 1 (IntKind.u64.wrap (k : Int)) = some (.int .i64 (2 ^ k)) := by
  have h1 : IntKind.u64.wrap (k : Int) = k := by simp [IntKind.wrap, IntKind.bits, IntKind.signed]; omega
  have h2 : min ((k : Int).toNat) IntKind.i64.bits = k := by
    show min ((k : Int).toNat) 64 = k
    omega
  have h3 : (2 : Int) ^ k ≤ 2 ^ 62 := pow2_le hk
  have h4 : (0 : Int) < 2 ^ k := Int.pow_pos (by decide)
  have h5 : (2 : Int) ^ 62 = 4611686018427387904 := by decide
  rw [h1, intRes_shl _ _ _ (by omega), h2, Int.one_mul, wrap_i64 (by omega) (by omega)]
/-- The values of a set's dimensions, from dimension i on. -/
def pickM (s : Int) : Nat → List Int → List Int
  | _, [] => []
  | i, x :: xs => if bitM s i then x :: pickM s (i + 1) xs else pickM s (i + 1) xs
theorem pickM_snoc (s : Int) (x : Int) : ∀ (xs : List Int) (i : Nat), pickM s i (xs ++ [x]) = pickM s i xs ++ (if bitM s (i + xs.length) then [x] else [])
  | [], i => by simp [pickM]
  | y :: ys, i => by
    rw [List.cons_append, pickM, pickM, pickM_snoc s x ys]
    have : i + 1 + ys.length = i + (y :: ys).length := by simp; omega
    rw [this]
    split <;> simp
theorem pickM_le (s : Int) : ∀ (xs : List Int) (i : Nat), (pickM s i xs).length ≤ xs.length
  | [], _ => Nat.le_refl _
  | x :: xs, i => by
    rw [pickM]
    have := pickM_le s xs (i + 1)
    split <;> simp <;> omega
def ofM (s : Int) (r : RowM) : CellM := ⟨pickM s 0 r.key, 1, r.m, r.m, r.m⟩
end Go.HC
namespace Go.Proofs
open Go Go.HC

set_option maxRecDepth 10000 in
theorem within1_spec (a n : Int) (hn : 0 < n) (hn' : n < 1000000000) (h : Heap) : CallH Tryz.prog 76 #[.int .i64 a, .int .i64 n] h fun r h' => r = .int .i64 (withinM a n) ∧ h' = h := by
  refine enter [.tmp 4] Tryz.func76 rfl rfl (by kernel_rfl) rfl ?_
  have h1 := tmod_bound (a := a) hn
  have hne : n ≠ 0 := by omega
  simp -dsimp [hne]
  by_cases hlt : a.tmod n < 0
  · have hw : IntKind.i64.wrap (a.tmod n + n) = a.tmod n + n := wrap_i64 (by omega) (by omega)
    simp -dsimp [hlt, hw, withinM]
  · simp -dsimp [hlt, withinM]
set_option maxRecDepth 10000 in
/-- A copy of a row of numbers ('append([]int{}, x...)'). -/
theorem clone_ints {K : Value → Heap → Prop} {ty : TypeId} {cs : Array Bool} {M : Nat → Prop} {h : Heap} {n0 : Nat} (hn0 : n0 = h.size) {xs : List Int} {a : Option Addr} {m c : Nat} (hx : SlRep rInt (Ft 0 M h) h (.slice a m c) xs) (hn : xs.length < 1000000000)
    (hk : ∀ v' h', SlRep rInt (Ft h.size none_ h') h' v' xs → Keep none_ h h' → K v' h') :
    builtinS Tryz.prog .append #[22, 22] ty cs #[.slice (some ⟨n0, 0, none⟩) 0 0, .slice a m c] (h.push (.cells #[] 3)) K := by
  subst hn0
  obtain ⟨a', c', cs', hv, h1, h2, h3, h4⟩ := hx
  cases hv
  refine clone_cells (F := none_) (F2 := Ft 0 M h) intT (fun _ h => h.elim) Ft.lt rfl h3 (ints_map.2 (ints_map.1 h4)) (by omega) (by omega) ?_
  intro v' h' own g k ho _
  exact hk v' h' (g.ints.mono fun b hb => ⟨⟨⟨ho b hb, fun _ => g.thaw b hb⟩, g.own_lt b hb, fun h => h⟩, rfl⟩) k

theorem rcopy_new {h : Heap} {cs : List Value} {c : CellM} (hr : rCell.rep (Old h) h cs c) (hc : CellSmall c) :
    CallH Tryz.prog 62 #[.agg cs.toArray] h fun r h' => ∃ ds, r = .agg ds.toArray ∧ rCell.rep (Ft h.size none_ h') h' ds c ∧ Keep none_ h h' :=
  (rcopy_th hr Old.lt hc).mono fun _ _ ⟨ds, _, e, r, k, n, t⟩ => ⟨ds, e, rCell.mono r fun b hb => ⟨⟨⟨(n b hb).1, fun _ => t b hb⟩, (n b hb).2, fun h => h⟩, rfl⟩, k⟩

set_option maxHeartbeats 4000000 in
set_option maxRecDepth 10000 in
theorem of_spec {h : Heap} {cs : List Value} {r : RowM} (s : Int) (hr : rRow.rep (Old h) h cs r) (hk : r.key.length < 64) (hm : r.m.length < 1000000000) :
    CallH Tryz.prog 56 #[.agg cs.toArray, .int .i64 s] h fun v h' => ∃ ds, v = .agg ds.toArray ∧ rCell.rep (Ft h.size none_ h') h' ds (ofM s r) ∧ Keep none_ h h' := by
  refine callH_by fun K hK => ?_
  refine enter [.cell 4 65] Tryz.func56 rfl rfl (by kernel_rfl) rfl ?_
  obtain ⟨ka, kc, ma, mc, rfl, r1, r2⟩ := row_open hr
  simp -dsimp [boxS_eq]
  generalize hB : Array.push h _ = hb
  have kb : Keep none_ h hb := by rw [← hB]; exact .push _ _ _
  have hzb : hb.size = h.size + 1 := by rw [← hB]; simp
  have hR : hb[h.size]? = some (.cells #[.slice ka r.key.length kc, .slice ma r.m.length mc] 62 (0, 0)) := by rw [← hB]; exact push_new _ _
  rw [push_set (by simp; omega), ← hzb]
  have p1 := r1.mono ((Tr.of kb).ft (Nat.le_refl 0))
  have p2 := r2.mono ((Tr.of kb).ft (Nat.le_refl 0))
  refine loopj (σ := Nat × Value) (fun t => [(1, .int .i64 s), (2, .pointer (some ⟨h.size, 0, none⟩)), (4, .pointer (some ⟨hb.size, 0, none⟩)), (5, .pointer (some ⟨hb.size + 1, 0, none⟩)), (6, .int .i64 t.1)])
    (fun t h1 => ∃ M own, Tr none_ M hb h1 ∧ (M hb.size ∧ M (hb.size + 1)) ∧ (∀ b, own = some b → hb.size + 2 ≤ b) ∧ t.1 ≤ r.key.length ∧ h1[hb.size]? = some (.cells #[.slice none 0 0, .int .i64 0, .slice none 0 0, .slice none 0 0, .slice none 0 0] 65 (0, 0)) ∧
      h1[hb.size + 1]? = some (.cells #[t.2, .int .i64 1, .slice none 0 0, .slice none 0 0, .slice none 0 0] 65 (0, 0)) ∧ Gr rInt 3 hb.size M h1 t.2 (pickM s 0 (r.key.take t.1)) own)
    (fun t => r.key.length - t.1) (0, .slice none 0 0) (by simp) ?_ (by kernel_rfl) ?_
  · exact ⟨fun b => (none_ b ∨ b = hb.size) ∨ b = hb.size + 1, none, (((Tr.start _).pushM _).pushM _).less fun b hb => hb.imp id fun e => by simp [e], ⟨.inl (.inr rfl), .inr rfl⟩, (fun _ h => by cases h), Nat.zero_le _, push_at (push_new _ _), push_get (by simp), .nil _ _ _ _ _⟩
  rintro ⟨k, v⟩ h1 g ⟨M, own, t1, ⟨hM4, hM5⟩, hne, hk1, hb4, hb1, g1⟩
  simp only at hk1 hb1 g1
  have e1 := t1.size
  have hR1 := t1.at hR (fun h => h)
  have hlb := lt_of_blk hb1
  obtain ⟨va, vn, vc, rfl, hvn⟩ := g1.vals
  have wk := wrap_succ (k := k) (by omega)
  by_cases hkl : k < r.key.length
  · have q1 := p1.mono (t1.ft (Nat.le_refl 0))
    obtain ⟨b1, o1, rfl, _, hc1⟩ := q1.int_at k hkl
    simp -dsimp [hR1, hkl, shr_bit (show k < 64 by omega), bit_op]
    have hpk : pickM s 0 (r.key.take (k + 1)) = pickM s 0 (r.key.take k) ++ (if bitM s k then [r.key[k]] else []) := by
      rw [List.take_add_one, List.getElem?_eq_getElem hkl, Option.toList_some, pickM_snoc, List.length_take, Nat.min_eq_left (by omega), Nat.zero_add]
    by_cases hbit : bitM s k = true
    · have hb1p : ∀ o, (h1.push o)[hb.size + 1]? = _ := fun o => push_at hb1
      rw [if_pos hbit] at hpk
      simp -dsimp [hbit]
      refine drawn_by [⟨0, true, []⟩, ⟨1, true, []⟩, ⟨2, true, []⟩, ⟨3, true, []⟩, ⟨4, true, []⟩, ⟨5, true, []⟩, ⟨6, true, []⟩, ⟨7, false, [0, 1]⟩, ⟨8, false, []⟩, ⟨9, true, []⟩, ⟨10, false, []⟩] (by kernel_rfl) (by kernel_rfl) ?_
      simp -dsimp [hR1, hb1, hb1p, hc1, idxV_nat hkl, elSz_eq, again_cons]
      have hpl := pickM_le s (r.key.take k) 0
      rw [List.length_take] at hpl
      refine gr_app1 rfl intT g1 t1.lt rfl rfl (by omega) (by omega) ?_
      intro v' h2 own' g2 t2 k2 ho
      have hb2 := k2.at hb1 (fun e => by have := hne _ e; omega)
      have hb42 := k2.at hb4 (fun e => by have := hne _ e; omega)
      have hne' : ∀ b, own' = some b → hb.size + 2 ≤ b := fun b e => (ho _ e).elim (hne b) (by omega)
      obtain ⟨va', vn', vc', rfl, _⟩ := g2.vals
      simp -dsimp [hb2, wk]
      have hlb2 := lt_of_blk hb2
      refine ⟨(k + 1, _), by simp, rfl, ⟨_, own', (t1.trans t2).set _ (.inl hM5), ⟨.inl hM4, .inl hM5⟩, hne', by omega, (set_other _ (by omega)).trans hb42, set_same _ hlb2, ?_⟩, by simp; omega⟩
      rw [hpk]
      exact g2.set _ (.inl hM5) (fun e => by have := hne' _ e; omega)
    · rw [if_neg hbit, List.append_nil] at hpk
      simp -dsimp [hbit, wk]
      exact ⟨(k + 1, _), by simp, rfl, ⟨M, own, t1, ⟨hM4, hM5⟩, hne, by omega, hb4, hb1, by simpa [hpk] using g1⟩, by simp; omega⟩
  · have hkk : k = r.key.length := by omega
    rw [hkk, List.take_length] at g1
    have hR1p : ∀ o, (h1.push o)[h.size]? = _ := fun o => push_at hR1
    simp -dsimp [hR1, hR1p, hkl]
    refine clone_ints (M := M) rfl (p2.mono (t1.ft (Nat.le_refl 0))) hm ?_
    intro v2 h2 w2 k2
    have hb2 := k2.at hb1 (fun h => h)
    obtain ⟨a2, c2, rfl, _, _⟩ := w2.val
    simp -dsimp [hb2]
    obtain ⟨h3, e3⟩ : ∃ h3, h3 = Array.setIfInBounds h2 (hb.size + 1) (.cells #[.slice va vn vc, .int .i64 1, .slice a2 r.m.length c2, .slice none 0 0, .slice none 0 0] 65) := ⟨_, rfl⟩
    rw [← e3]
    have u3 := (t1.here.call k2).set (.cells #[.slice va vn vc, .int .i64 1, .slice a2 r.m.length c2, .slice none 0 0, .slice none 0 0] 65) hM5
    have s3 := (t1.call k2).here.set (.cells #[.slice va vn vc, .int .i64 1, .slice a2 r.m.length c2, .slice none 0 0, .slice none 0 0] 65) hM5
    rw [← e3] at u3 s3
    have hb3 : h3[hb.size + 1]? = some (.cells #[.slice va vn vc, .int .i64 1, .slice a2 r.m.length c2, .slice none 0 0, .slice none 0 0] 65 (0, 0)) := e3 ▸ set_same _ (lt_of_blk hb2)
    have g3 := e3 ▸ (g1.call k2).set _ hM5 (fun e => by have := hne _ e; omega)
    have w3 := (w2.mono (t1.ret (n := hb.size) e1)).mono (s3.ft (Nat.le_refl _))
    have t3 := t1.trans u3
    have hR3p : ∀ o, (h3.push o)[h.size]? = _ := fun o => push_at (t3.at hR (fun h => h))
    simp -dsimp [hR3p]
    refine clone_ints (M := M) (by rw [e3]; simp) (p2.mono (t3.ft (Nat.le_refl 0))) hm ?_
    intro v4 h4 w4 k4
    have hb4' := k4.at hb3 (fun h => h)
    obtain ⟨a4, c4, rfl, _, _⟩ := w4.val
    simp -dsimp [hb4']
    obtain ⟨h5, e5⟩ : ∃ h5, h5 = Array.setIfInBounds h4 (hb.size + 1) (.cells #[.slice va vn vc, .int .i64 1, .slice a2 r.m.length c2, .slice a4 r.m.length c4, .slice none 0 0] 65) := ⟨_, rfl⟩
    rw [← e5]
    have s5 := (t3.call k4).here.set (.cells #[.slice va vn vc, .int .i64 1, .slice a2 r.m.length c2, .slice a4 r.m.length c4, .slice none 0 0] 65) hM5
    rw [← e5] at s5
    have hb5 : h5[hb.size + 1]? = some (.cells #[.slice va vn vc, .int .i64 1, .slice a2 r.m.length c2, .slice a4 r.m.length c4, .slice none 0 0] 65 (0, 0)) := e5 ▸ set_same _ (lt_of_blk hb4')
    have g5 := e5 ▸ (g3.call k4).set _ hM5 (fun e => by have := hne _ e; omega)
    have u5 := (t3.here.call k4).trans s5
    have w5 := (w4.mono (t3.ret (n := hb.size) t3.size)).mono (s5.ft (Nat.le_refl _))
    have w35 := w3.mono (u5.ft (Nat.le_refl _))
    have t5 := t3.trans u5
    have hR5p : ∀ o, (h5.push o)[h.size]? = _ := fun o => push_at (t5.at hR (fun h => h))
    simp -dsimp [hR5p]
    refine clone_ints (M := M) (by rw [e5]; simp) (p2.mono (t5.ft (Nat.le_refl 0))) hm ?_
    intro v6 h6 w6 k6
    have hb6 := k6.at hb5 (fun h => h)
    obtain ⟨a6, c6, rfl, _, _⟩ := w6.val
    have hz6 : ∀ o, (Array.setIfInBounds h6 (hb.size + 1) o)[hb.size + 1]? = some o := fun o => set_same _ (lt_of_blk hb6)
    have hb46 : ∀ o, (Array.setIfInBounds h6 (hb.size + 1) o)[hb.size]? = _ := fun o => (set_other _ (by omega)).trans (k6.at ((e5 ▸ set_other _ (by omega) : h5[hb.size]? = h4[hb.size]?).trans (k4.at ((e3 ▸ set_other _ (by omega) : h3[hb.size]? = h2[hb.size]?).trans (k2.at hb4 (fun h => h))) (fun h => h))) (fun h => h))
    have hlb6 : hb.size < h6.size := by have := lt_of_blk hb6; omega
    have hz6' : ∀ o o', (Array.setIfInBounds (Array.setIfInBounds h6 (hb.size + 1) o) hb.size o')[hb.size]? = some o' := fun o o' => set_same _ (by simp; omega)
    simp -dsimp [hb6, hz6, hb46, hz6']
    have s7 := fun o o' => ((t5.call k6).here.set o hM5).set o' hM4
    have u7 := fun o o' => ((t5.here.call k6).set o hM5).set o' hM4
    have t7 := fun o o' => t5.trans (u7 o o')
    have hlh : h.size ≤ hb.size := by omega
    refine hK _ _ ⟨_, rfl, ⟨_, _, _, _, rfl, ?_, ?_, ?_, ?_⟩, kb.trans (t7 _ _).keep (fun _ _ h => h)⟩
    · exact (((g5.call k6).set _ hM5 (fun e => by have := hne _ e; omega)).set _ hM4 (fun e => by have := hne _ e; omega)).rep hlh fun b hb => by have := hne b hb; omega
    · exact (w35.mono ((u7 _ _).ft (Nat.le_refl _))).mono (Ft.free hlh)
    · exact (w5.mono ((u7 _ _).ft (Nat.le_refl _))).mono (Ft.free hlh)
    · exact ((w6.mono (t5.ret (n := hb.size) t5.size)).mono ((s7 _ _).ft (Nat.le_refl _))).mono (Ft.free hlh)
end Go.Proofs

/-
  Cells of rows; a cell among others; the facts' group-by; comparisons of rows of cells.
-/
namespace Go.HC
/-- How long a cell's rows are. -/
structure Sml (m : Nat) (c : CellM) : Prop where
  key : c.key.length ≤ 64
  sum : c.sum.length = m
  mn : c.mn.length = m
  mx : c.mx.length = m
theorem Sml.small {m : Nat} {c : CellM} (s : Sml m c) (hm : m < 1000000000) : CellSmall c := ⟨by have := s.key; omega, by have := s.sum; omega, by have := s.mn; omega, by have := s.mx; omega⟩
theorem Sml.join {m : Nat} {a b : CellM} (ha : Sml m a) (hb : Sml m b) : Sml m (joinC a b) :=
  ⟨ha.key, by simp [joinC, ha.sum, hb.sum], by simp [joinC, ha.mn, hb.mn], by simp [joinC, ha.mx, hb.mx]⟩
theorem Sml.of {s : Int} {r : RowM} (hk : r.key.length ≤ 64) : Sml r.m.length (ofM s r) := ⟨by have := pickM_le s r.key 0; simp only [ofM]; omega, rfl, rfl, rfl⟩
theorem sml_put {m : Nat} {l : List CellM} {c : CellM} (hl : ∀ d ∈ l, Sml m d) (hc : Sml m c) : ∀ d ∈ putC l c, Sml m d := by
  induction l with
  | nil => intro d hd; rw [putC, List.mem_singleton] at hd; rw [hd]; exact hc
  | cons e l ih =>
    intro d hd
    have he := hl e List.mem_cons_self
    have ih := ih fun d hd => hl d (List.mem_cons_of_mem _ hd)
    rw [putC] at hd
    split at hd
    · rcases List.mem_cons.1 hd with rfl | h
      · exact he
      · exact ih d h
    · split at hd
      · rcases List.mem_cons.1 hd with rfl | h
        · exact he.join hc
        · exact hl d (List.mem_cons_of_mem _ h)
      · rcases List.mem_cons.1 hd with rfl | h
        · exact hc
        · exact hl d h
theorem sml_group {m : Nat} {l : List CellM} (hl : ∀ d ∈ l, Sml m d) : ∀ d ∈ groupC l, Sml m d := by
  have key : ∀ (l o : List CellM), (∀ d ∈ l, Sml m d) → (∀ d ∈ o, Sml m d) → ∀ d ∈ l.foldl putC o, Sml m d := by
    intro l
    induction l with
    | nil => exact fun o _ ho => ho
    | cons c l ih => exact fun o hl ho => ih _ (fun d hd => hl d (List.mem_cons_of_mem _ hd)) (sml_put ho (hl c List.mem_cons_self))
  exact key l [] hl fun d hd => by cases hd
/-- Where a cell belongs: how many stand ahead of it. -/
def posC : List CellM → List Int → Nat
  | [], _ => 0
  | d :: l, key => if lessM d.key key < 0 then posC l key + 1 else 0
theorem posC_le : ∀ (l : List CellM) (key : List Int), posC l key ≤ l.length
  | [], _ => Nat.le_refl _
  | d :: l, key => by
    rw [posC]
    have := posC_le l key
    split <;> simp; omega
theorem posC_lt : ∀ {l : List CellM} {key : List Int} {k : Nat} (hk : k < l.length), k < posC l key → lessM l[k].key key < 0
  | [], _, k, hk, _ => by simp at hk
  | d :: l, key, k, hk, h => by
    rw [posC] at h
    split at h
    · rename_i h1
      cases k with
      | zero => exact h1
      | succ k => exact posC_lt (l := l) (by simpa using hk) (by omega)
    · omega
theorem posC_at : ∀ {l : List CellM} {key : List Int} (hk : posC l key < l.length), ¬ lessM l[posC l key].key key < 0
  | [], _, hk => by simp at hk
  | d :: l, key, hk => by
    by_cases h1 : lessM d.key key < 0
    · have e : posC (d :: l) key = posC l key + 1 := by rw [posC, if_pos h1]
      have hk' : posC l key < l.length := by rw [e] at hk; simpa using hk
      have := posC_at hk'
      simp only [e, List.getElem_cons_succ]
      exact this
    · have e : posC (d :: l) key = 0 := by rw [posC, if_neg h1]
      simp only [e, List.getElem_cons_zero]
      exact h1
theorem putC_pos : ∀ (l : List CellM) (c : CellM), putC l c = if h : posC l c.key < l.length ∧ ∃ hk : posC l c.key < l.length, lessM l[posC l c.key].key c.key = 0
    then l.set (posC l c.key) (joinC (l[posC l c.key]'h.1) c) else l.take (posC l c.key) ++ c :: l.drop (posC l c.key)
  | [], c => by simp [putC, posC]
  | d :: l, c => by
    rw [putC]
    by_cases h1 : lessM d.key c.key < 0
    · have e : posC (d :: l) c.key = posC l c.key + 1 := by rw [posC, if_pos h1]
      rw [if_pos h1, putC_pos l c]
      simp only [e, List.length_cons, Nat.add_lt_add_iff_right, List.getElem_cons_succ, List.set_cons_succ, List.take_succ_cons, List.drop_succ_cons, List.cons_append]
      split <;> rfl
    · have e : posC (d :: l) c.key = 0 := by rw [posC, if_neg h1]
      rw [if_neg h1]
      simp only [e, List.length_cons, Nat.zero_lt_succ, List.getElem_cons_zero, List.set_cons_zero, List.take_zero, List.drop_zero, List.nil_append, true_and, exists_true_left]
      split <;> simp_all
end Go.HC
namespace Go.Proofs
open Go Go.HC


end Go.Proofs

/-
  HC, part 25: several slices that grow, in blocks of their own.
-/
namespace Go.HC
/-- A slice that grows: its value, its data, its block. -/
structure GI (α : Type) where
  v : Value
  xs : List α
  o : Option Nat
/-- Slices that grow, in blocks of their own that are none of B. -/
structure Grs {α : Type} (R : Rp α) (e n : Nat) (M : Nat → Prop) (h : Heap) (B : Nat → Prop) (l : List (GI α)) : Prop where
  gr : ∀ t ∈ l, Gr R e n M h t.v t.xs t.o ∧ ∀ b, t.o = some b → ¬ B b ∧ n ≤ b
  sep : ∀ (i j : Nat) (s t : GI α), l[i]? = some s → l[j]? = some t → i ≠ j → ∀ b, s.o = some b → t.o ≠ some b
section
variable {α : Type} {R : Rp α} {e n : Nat} {M M' : Nat → Prop} {h h' : Heap} {B : Nat → Prop} {l : List (GI α)}
theorem Grs.nils (k : Nat) : Grs R e n M h B (List.replicate k ⟨.slice none 0 0, [], none⟩) := by
  refine ⟨fun t ht => ?_, fun i j s t hi hj _ b hb => ?_⟩
  · rw [(List.mem_replicate.1 ht).2]
    exact ⟨.nil _ _ _ _ _, fun b hb => by cases hb⟩
  · have := (List.mem_replicate.1 (List.mem_of_getElem? hi)).2
    rw [this] at hb; cases hb
theorem Grs.at (g : Grs R e n M h B l) {i : Nat} {t : GI α} (hi : l[i]? = some t) : Gr R e n M h t.v t.xs t.o := (g.gr t (List.mem_of_getElem? hi)).1
theorem Grs.call (g : Grs R e n M h B l) (k : Keep none_ h h') : Grs R e n M h' B l := ⟨fun t ht => ⟨(g.gr t ht).1.call k, (g.gr t ht).2⟩, g.sep⟩
/-- A block of B is written. -/
theorem Grs.wr (g : Grs R e n M h B l) {b : Nat} (o : Obj) (hb : M b) (hB : B b) : Grs R e n M (h.setIfInBounds b o) B l :=
  ⟨fun t ht => ⟨(g.gr t ht).1.set o hb fun e => ((g.gr t ht).2 b e).1 hB, (g.gr t ht).2⟩, g.sep⟩
/-- One of them has grown. -/
theorem Grs.app (g : Grs R e n M h B l) {i : Nat} {t : GI α} (hi : l[i]? = some t) {v : Value} {ys : List α} {o : Option Nat} (hg : Gr R e n M' h' v ys o) (ht : Tr M M' h h') (hk : Keep (fun b => t.o = some b) h h') (ho : ∀ b, o = some b → t.o = some b ∨ h.size ≤ b)
    (hB : ∀ b, B b → b < h.size) (hn : n ≤ h.size) (hM : ∀ b, M b → M' b) : Grs R e n M' h' B (l.set i ⟨v, ys, o⟩) := by
  have hil : i < l.length := (List.getElem?_eq_some_iff.1 hi).1
  have lt : ∀ s ∈ l, ∀ b, s.o = some b → b < h.size := fun s hs b hb => (g.gr s hs).1.own_lt b hb
  have hmt := List.mem_of_getElem? hi
  refine ⟨fun s hs => ?_, fun a c s t' ha hc hac b hb hb' => ?_⟩
  · obtain ⟨j, hj⟩ := List.mem_iff_getElem?.1 hs
    rw [List.getElem?_set] at hj
    by_cases hij : i = j
    · rw [if_pos hij, if_pos hil] at hj
      cases hj
      refine ⟨hg, fun b hb => ?_⟩
      rcases ho b hb with h1 | h1
      · exact (g.gr t hmt).2 b h1
      · exact ⟨fun h2 => by have := hB b h2; omega, by omega⟩
    · rw [if_neg hij] at hj
      have hm := List.mem_of_getElem? hj
      refine ⟨(g.gr s hm).1.mono ht (Nat.le_refl _) fun b hb => ⟨hM b ((g.gr s hm).1.mu b hb), hk.blk b (lt s hm b hb) (g.sep j i s t hj hi (fun e => hij e.symm) b hb)⟩, (g.gr s hm).2⟩
  · rw [List.getElem?_set] at ha hc
    by_cases h1 : i = a
    · have h2 : i ≠ c := fun e => hac (h1.symm.trans e)
      rw [if_pos h1, if_pos hil] at ha
      rw [if_neg h2] at hc
      cases ha
      rcases ho b hb with h3 | h3
      · exact g.sep i c t t' hi hc h2 b h3 hb'
      · have := lt t' (List.mem_of_getElem? hc) b hb'; omega
    · rw [if_neg h1] at ha
      by_cases h2 : i = c
      · rw [if_pos h2, if_pos hil] at hc
        cases hc
        rcases ho b hb' with h3 | h3
        · exact g.sep a i s t ha hi (fun e => h1 e.symm) b hb h3
        · have := lt s (List.mem_of_getElem? ha) b hb; omega
      · rw [if_neg h2] at hc
        exact g.sep a c s t' ha hc hac b hb hb'
end
end Go.HC

/-
  The document's join of two cells.
-/
namespace Go.HC
theorem zip_take {g : Int → Int → Int} {xs ys : List Int} {k : Nat} (h1 : k < xs.length) (h2 : k < ys.length) : (List.zipWith g xs ys).take (k + 1) = (List.zipWith g xs ys).take k ++ [g xs[k] ys[k]] := by
  rw [List.take_add_one, List.getElem?_eq_getElem (by rw [List.length_zipWith]; omega), List.getElem_zipWith]
  rfl
end Go.HC
namespace Go.Proofs
open Go Go.HC

theorem _root_.Go.HC.Grow.not_at {e f : Nat} {h : Heap} {v : Value} {xs : List Int} {own : Option Nat} {b : Nat} {arr : Array Value} (g : Grow rInt e none_ h v xs own) (hb : h[b]? = some (.cells arr f (0, 0))) (hef : e ≠ f) : own ≠ some b := by
  rintro rfl
  rcases g with ⟨_, _, h0⟩ | ⟨bk, c, ar, cs, _, h0, h1, _⟩
  · cases h0
  · cases h0
    rw [h1] at hb
    simp only [Option.some.injEq] at hb
    injection hb with _ h2 _
    exact hef h2
set_option maxHeartbeats 40000000 in
set_option maxRecDepth 10000 in
theorem rjoin_spec {h : Heap} {cs ds : List Value} {a b : CellM} {m : Nat} (ha : rCell.rep (Old h) h cs a) (sa : CellSmall a) (ea : Sml m a) (hb : rCell.rep (Old h) h ds b) (eb : Sml m b) :
    CallH Tryz.prog 100 #[.agg cs.toArray, .agg ds.toArray] h fun r h' => ∃ es, r = .agg es.toArray ∧ rCell.rep (Ft h.size none_ h') h' es (joinC a b) ∧ Keep none_ h h' := by
  refine callH_by fun K hK => ?_
  refine enter [.cell 4 65] Tryz.func100 rfl rfl (by kernel_rfl) rfl ?_
  obtain ⟨kv, sv, nv, xv, rfl, r1, r2, r3, r4⟩ := ha
  obtain ⟨ka, kc, rfl, _, _⟩ := r1.val
  obtain ⟨s1, sc, rfl, _, _⟩ := r2.val
  obtain ⟨na, nc, rfl, _, _⟩ := r3.val
  obtain ⟨xa, xc, rfl, _, _⟩ := r4.val
  obtain ⟨kv', sv', nv', xv', rfl, q1, q2, q3, q4⟩ := hb
  obtain ⟨ka', kc', rfl, _, _⟩ := q1.val
  obtain ⟨sa', sc', rfl, _, _⟩ := q2.val
  obtain ⟨na', nc', rfl, _, _⟩ := q3.val
  obtain ⟨xa', xc', rfl, _, _⟩ := q4.val
  simp -dsimp [boxS_eq]
  generalize hB : Array.push _ _ = h0
  have hz0 : h0.size = h.size + 3 := by rw [← hB]; simp
  have k0 : Keep none_ h h0 := by rw [← hB]; exact (((Keep.refl none_ h).pushed _).pushed _).pushed _
  have hp1 : ∀ o, (h.push o).size = h.size + 1 := fun o => by simp
  have hp2 : ∀ o o', ((h.push o).push o').size = h.size + 2 := fun o o' => by simp
  have hA0 : h0[h.size]? = some (.cells #[.slice ka a.key.length kc, .int .i64 a.count, .slice s1 a.sum.length sc, .slice na a.mn.length nc, .slice xa a.mx.length xc] 65 (0, 0)) := by rw [← hB]; exact push_at (push_at (push_new _ _))
  have hB0 : h0[h.size + 1]? = some (.cells #[.slice ka' b.key.length kc', .int .i64 b.count, .slice sa' b.sum.length sc', .slice na' b.mn.length nc', .slice xa' b.mx.length xc'] 65 (0, 0)) := by
    rw [← hB]; refine push_at ?_; rw [← hp1]; exact push_new _ _
  have hT0 : h0[h.size + 2]? = some (.cells #[.slice none 0 0, .int .i64 0, .slice none 0 0, .slice none 0 0, .slice none 0 0] 65 (0, 0)) := by
    rw [← hB, ← hp2]; exact push_new _ _
  have m1 : ∀ b, Old h b → Old h b ∧ h0[b]? = h[b]? := fun b hb => ⟨hb, k0.blk b (Old.lt b hb) (fun h => h)⟩
  have hF0 : ∀ b, Old h b → b < h0.size := fun b hb => by have := Old.lt b hb; omega
  have p1 := r1.mono m1
  refine drawn_any [([], .act (EmptyAt h0.size)), ([], .look (.pointer (some ⟨h.size, 0, none⟩))), ([1], .look (.slice ka a.key.length kc)), ([0, 2], .act (NewInts h0.size a.key)),
    ([], .look (.pointer (some ⟨h.size, 1, none⟩))), ([4], .look (.int .i64 a.count)), ([], .look (.pointer (some ⟨h.size + 1, 1, none⟩))), ([6], .look (.int .i64 b.count)), ([5, 7], .look (.int .i64 (IntKind.i64.wrap (a.count + b.count)))),
    ([3, 8], .act (fun v h' => ∃ kv, v = .agg #[kv, .int .i64 (IntKind.i64.wrap (a.count + b.count)), .slice none 0 0, .slice none 0 0, .slice none 0 0] ∧ NewInts h0.size a.key kv h')),
    ([], .act (fun v h' => ∃ b5, v = .pointer (some ⟨b5, 0, none⟩) ∧ h'[b5]? = some (.cells #[.slice none 0 0, .int .i64 0, .slice none 0 0, .slice none 0 0, .slice none 0 0] 65 (0, 0)) ∧ h0.size ≤ b5))]
    [0, 1, 2, 3, 4, 5, 6, 7, 8, 9, 10] [⟨11, false, []⟩] (by kernel_rfl) (by kernel_rfl) (by kernel_rfl) ?_ ?_
  · simp only [obl, rdS, doS]
    refine ⟨?_, ?_, ?_, ?_, ?_, ?_, ?_, ?_, ?_, ?_, ?_, trivial⟩
    all_goals intro h1 k1
    all_goals simp -dsimp [dstOf, k1.at hA0 (fun h => h), k1.at hB0 (fun h => h)]
    · exact ⟨.push _ _ _, _, rfl, push_new _ _, k1.size⟩
    · exact fun v hj he kj => newInts_app he kj k1 p1 hF0 sa.key fun _ _ h => h
    · rintro v hj ⟨own, g, n⟩ kj
      replace g := g.at_ kj
      obtain ⟨a', c', rfl⟩ := g.val
      simp -dsimp
      exact ⟨.refl _ _, own, g, n⟩
    · exact ⟨.push _ _ _, k1.size⟩
  · intro h4 k4
    have hT4 := k4.at hT0 (fun h => h)
    have e4 := k4.size
    simp -dsimp only [List.map_cons, List.map_nil, item, dstOf, List.getElem?_cons_succ, List.getElem?_cons_zero, Option.map_some, Option.bind_some]
    simp -dsimp only [rdI, putl]
    rintro - - - - - - - - vA jA ⟨kv, rfl, o1, g1, n1⟩ wA vB jB ⟨b5, rfl, hb5, l5⟩ wB
    replace g1 := g1.at_ wA
    replace hb5 := wB.at hb5 (fun h => h)
    have w1 := g1.not_at hb5 (by decide)
    obtain ⟨a1, c1, rfl⟩ := g1.val
    have hlb := lt_of_blk hb5
    have hset : ∀ o, (h4.setIfInBounds b5 o)[b5]? = some o := fun o => set_same o hlb
    simp -dsimp [hb5]
    have hs2 : h.size + 1 + 1 = h.size + 2 := rfl
    rw [hs2]
    have t4 : Tr none_ (fun b => b = h.size + 2 ∨ b = b5) h h4 := ⟨k0.trans k4 (fun _ _ h => h), fun b hb => .inr (by omega), fun b hb => by omega⟩
    generalize hH : h4.setIfInBounds b5 _ = h5
    have t5 : Tr none_ (fun b => b = h.size + 2 ∨ b = b5) h h5 := by rw [← hH]; exact t4.set _ (.inr rfl)
    have hold : ∀ b, b ≠ b5 → h5[b]? = h4[b]? := fun b hn => by rw [← hH, set_other _ (fun e => hn e.symm)]
    have hz5 : h5.size = h4.size := by rw [← hH]; simp
    have hb5' : h5[b5]? = some (.cells #[.slice a1 a.key.length c1, .int .i64 (IntKind.i64.wrap (a.count + b.count)), .slice none 0 0, .slice none 0 0, .slice none 0 0] 65 (0, 0)) := by rw [← hH]; exact set_same _ hlb
    have gk : SlRep rInt (Ft h.size (fun b => b = h.size + 2 ∨ b = b5) h5) h5 _ _ := g1.ints.mono fun b hb => by
        have := n1 b hb
        have := g1.own_lt b hb
        have hne : b ≠ b5 := fun e => w1 (by rw [← e]; exact hb)
        exact ⟨⟨⟨by omega, fun _ => (g1.thaw b hb).at (hold b hne)⟩, by omega, by omega⟩, hold b hne⟩
    have hA5 := (hold _ (by omega)).trans (k4.at hA0 (fun h => h))
    have hB5 := (hold _ (by omega)).trans (k4.at hB0 (fun h => h))
    have hT5 := (hold _ (by omega)).trans hT4
    clear hH hset
    refine loopj (σ := Nat × Value × Value × Value) (fun t => [(2, .pointer (some ⟨h.size, 0, none⟩)), (3, .pointer (some ⟨h.size + 1, 0, none⟩)), (4, .pointer (some ⟨h.size + 2, 0, none⟩)), (5, .pointer (some ⟨b5, 0, none⟩)), (6, .int .i64 t.1)])
      (fun t h1 => ∃ M o2 o3 o4, Tr (fun b => b = h.size + 2 ∨ b = b5) M h5 h1 ∧ (M (h.size + 2) ∧ M b5) ∧ t.1 ≤ a.sum.length ∧ h1[h.size + 2]? = some (.cells #[.slice none 0 0, .int .i64 0, .slice none 0 0, .slice none 0 0, .slice none 0 0] 65 (0, 0)) ∧
        h1[b5]? = some (.cells #[.slice a1 a.key.length c1, .int .i64 (IntKind.i64.wrap (a.count + b.count)), t.2.1, t.2.2.1, t.2.2.2] 65 (0, 0)) ∧
        Grs rInt 3 h.size M h1 (fun b => b = h.size + 2 ∨ b = b5) [⟨t.2.1, (joinC a b).sum.take t.1, o2⟩, ⟨t.2.2.1, (joinC a b).mn.take t.1, o3⟩, ⟨t.2.2.2, (joinC a b).mx.take t.1, o4⟩])
      (fun t => a.sum.length - t.1) (0, .slice none 0 0, .slice none 0 0, .slice none 0 0) (by simp) ⟨_, none, none, none, t5.here, ⟨.inl rfl, .inr rfl⟩, Nat.zero_le _, hT5, hb5', Grs.nils 3⟩ (by kernel_rfl) ?_
    rintro ⟨k, v2, v3, v4⟩ h1 g ⟨M, o2, o3, o4, t1, ⟨hM2, hM5⟩, hk, hT1, hb1, gg⟩
    simp only at hk hT1 hb1 gg
    have e1 := t1.size
    have hA1 := t1.at hA5 (by omega)
    have hB1 := t1.at hB5 (by omega)
    have wk := wrap_succ (k := k) (by have := sa.sum; omega)
    have hlb1 := lt_of_blk hb1
    obtain ⟨va2, vn2, vc2, rfl, _⟩ := (gg.at (i := 0) rfl).vals
    obtain ⟨va3, vn3, vc3, rfl, _⟩ := (gg.at (i := 1) rfl).vals
    obtain ⟨va4, vn4, vc4, rfl, _⟩ := (gg.at (i := 2) rfl).vals
    by_cases hkl : k < a.sum.length
    · have hb1p : ∀ o, (h1.push o)[b5]? = _ := fun o => push_at hb1
      simp -dsimp [hA1, hkl]
      have tt := t5.trans t1
      have ll : ∀ f : List Int, (f.take k).length ≤ k := fun f => by rw [List.length_take]; omega
      have hsk := sa.sum
      obtain ⟨bA0, oA0, eA0, _, cA0⟩ := (r2.mono tt.old).int_at k (by omega)
      obtain ⟨bB0, oB0, eB0, _, cB0⟩ := (q2.mono tt.old).int_at k (by rw [eb.sum, ← ea.sum]; omega)
      subst eA0 eB0
      have iA0 : k < a.sum.length := by omega
      have iB0 : k < b.sum.length := by rw [eb.sum, ← ea.sum]; omega
      refine drawn_by [⟨0, true, []⟩, ⟨1, true, []⟩, ⟨2, true, []⟩, ⟨3, true, []⟩, ⟨4, true, []⟩, ⟨5, true, []⟩, ⟨6, true, []⟩, ⟨7, true, []⟩, ⟨8, true, []⟩, ⟨9, true, []⟩, ⟨10, true, []⟩, ⟨11, true, []⟩, ⟨12, true, []⟩, ⟨13, false, [0, 1]⟩, ⟨14, false, []⟩, ⟨15, true, []⟩, ⟨16, false, []⟩] (by kernel_rfl) (by kernel_rfl) ?_
      simp -dsimp [hA1, hB1, hb1, hb1p, cA0, cB0, idxV_nat iA0, idxV_nat iB0, elSz_eq, again_cons]
      have eL0 := ll (joinC a b).sum
      refine gr_app1 (xs := (joinC a b).sum.take k) (by rfl) intT (gg.at (i := 0) rfl) t1.lt rfl rfl (by omega) (by omega) ?_
      intro w0 y0 p0 g0 u0 k0 ho0
      obtain ⟨ya0, yn0, yc0, rfl, _⟩ := g0.vals
      have hby0 := k0.at hb1 (fun e => ((gg.gr _ (List.mem_of_getElem? (i := 0) rfl)).2 _ e).1 (.inr rfl))
      have G0 := gg.app (i := 0) rfl g0 u0 k0 ho0 (fun b hb => by have := tt.size; have := lt_of_blk hb1; have := tt.lt _ hM2; omega) tt.size (fun b hb => .inl hb)
      simp -dsimp [hby0]
      obtain ⟨z0, x0⟩ : ∃ z, z = y0.setIfInBounds b5 (.cells #[.slice a1 a.key.length c1, .int .i64 (IntKind.i64.wrap (a.count + b.count)), .slice ya0 yn0 yc0, .slice va3 vn3 vc3, .slice va4 vn4 vc4] 65) := ⟨_, rfl⟩
      rw [← x0]
      obtain ⟨N0, eN0⟩ : ∃ N : Nat → Prop, N = fun b => M b ∨ p0 = some b := ⟨_, rfl⟩
      have n20 : N0 (h.size + 2) := by rw [eN0]; exact .inl hM2
      have n50 : N0 b5 := by rw [eN0]; exact .inl hM5
      rw [← eN0] at u0 G0
      replace u0 := u0.set (.cells #[.slice a1 a.key.length c1, .int .i64 (IntKind.i64.wrap (a.count + b.count)), .slice ya0 yn0 yc0, .slice va3 vn3 vc3, .slice va4 vn4 vc4] 65) n50
      replace G0 := G0.wr (.cells #[.slice a1 a.key.length c1, .int .i64 (IntKind.i64.wrap (a.count + b.count)), .slice ya0 yn0 yc0, .slice va3 vn3 vc3, .slice va4 vn4 vc4] 65) n50 (.inr rfl)
      rw [← x0] at u0 G0
      have hbz0 : z0[b5]? = some (.cells #[.slice a1 a.key.length c1, .int .i64 (IntKind.i64.wrap (a.count + b.count)), .slice ya0 yn0 yc0, .slice va3 vn3 vc3, .slice va4 vn4 vc4] 65 (0, 0)) := x0 ▸ set_same _ (lt_of_blk hby0)
      have hTz0 : z0[h.size + 2]? = _ := x0 ▸ (set_other _ (by omega)).trans (k0.at hT1 (fun e => ((gg.gr _ (List.mem_of_getElem? (i := 0) rfl)).2 _ e).1 (.inl rfl)))
      have hbzp0 : ∀ o, (z0.push o)[b5]? = _ := fun o => push_at hbz0
      have tr0 := t1.trans u0
      have tt0 := tt.trans u0
      have hA0' := tr0.at hA5 (by omega)
      have hB0' := tr0.at hB5 (by omega)
      obtain ⟨bA1, oA1, eA1, _, cA1⟩ := (r3.mono tt0.old).int_at k (by rw [ea.mn, ← ea.sum]; omega)
      obtain ⟨bB1, oB1, eB1, _, cB1⟩ := (q3.mono tt0.old).int_at k (by rw [eb.mn, ← ea.sum]; omega)
      subst eA1 eB1
      have iA1 : k < a.mn.length := by rw [ea.mn, ← ea.sum]; omega
      have iB1 : k < b.mn.length := by rw [eb.mn, ← ea.sum]; omega
      refine drawn_by [⟨0, true, []⟩, ⟨1, true, []⟩, ⟨2, true, []⟩, ⟨3, true, []⟩, ⟨4, true, []⟩, ⟨5, true, []⟩, ⟨6, true, []⟩, ⟨7, true, []⟩, ⟨8, true, []⟩, ⟨9, true, []⟩, ⟨10, true, []⟩, ⟨11, true, []⟩, ⟨12, false, [0, 1]⟩, ⟨13, false, [0, 1]⟩, ⟨14, false, []⟩, ⟨15, true, []⟩, ⟨16, false, []⟩] (by kernel_rfl) (by kernel_rfl) ?_
      simp -dsimp [hA0', hB0', hbz0, hbzp0, cA1, cB1, idxV_nat iA1, idxV_nat iB1, elSz_eq, again_cons]
      have eL1 := ll (joinC a b).mn
      refine gr_app1 (xs := (joinC a b).mn.take k) (by first | rfl | (rw [x0]; simp)) intT (G0.at (i := 1) rfl) tr0.lt rfl rfl (by omega) (by omega) ?_
      intro w1 y1 p1 g1 u1 k1 ho1
      obtain ⟨ya1, yn1, yc1, rfl, _⟩ := g1.vals
      have hby1 := k1.at hbz0 (fun e => ((G0.gr _ (List.mem_of_getElem? (i := 1) rfl)).2 _ e).1 (.inr rfl))
      have G1 := G0.app (i := 1) rfl g1 u1 k1 ho1 (fun b hb => by have := tt0.size; have := lt_of_blk hbz0; have := tt0.lt _ n20; omega) tt0.size (fun b hb => .inl hb)
      simp -dsimp [hby1]
      obtain ⟨z1, x1⟩ : ∃ z, z = y1.setIfInBounds b5 (.cells #[.slice a1 a.key.length c1, .int .i64 (IntKind.i64.wrap (a.count + b.count)), .slice ya0 yn0 yc0, .slice ya1 yn1 yc1, .slice va4 vn4 vc4] 65) := ⟨_, rfl⟩
      rw [← x1]
      obtain ⟨N1, eN1⟩ : ∃ N : Nat → Prop, N = fun b => N0 b ∨ p1 = some b := ⟨_, rfl⟩
      have n21 : N1 (h.size + 2) := by rw [eN1]; exact .inl n20
      have n51 : N1 b5 := by rw [eN1]; exact .inl n50
      rw [← eN1] at u1 G1
      replace u1 := u1.set (.cells #[.slice a1 a.key.length c1, .int .i64 (IntKind.i64.wrap (a.count + b.count)), .slice ya0 yn0 yc0, .slice ya1 yn1 yc1, .slice va4 vn4 vc4] 65) n51
      replace G1 := G1.wr (.cells #[.slice a1 a.key.length c1, .int .i64 (IntKind.i64.wrap (a.count + b.count)), .slice ya0 yn0 yc0, .slice ya1 yn1 yc1, .slice va4 vn4 vc4] 65) n51 (.inr rfl)
      rw [← x1] at u1 G1
      have hbz1 : z1[b5]? = some (.cells #[.slice a1 a.key.length c1, .int .i64 (IntKind.i64.wrap (a.count + b.count)), .slice ya0 yn0 yc0, .slice ya1 yn1 yc1, .slice va4 vn4 vc4] 65 (0, 0)) := x1 ▸ set_same _ (lt_of_blk hby1)
      have hTz1 : z1[h.size + 2]? = _ := x1 ▸ (set_other _ (by omega)).trans (k1.at hTz0 (fun e => ((G0.gr _ (List.mem_of_getElem? (i := 1) rfl)).2 _ e).1 (.inl rfl)))
      have hbzp1 : ∀ o, (z1.push o)[b5]? = _ := fun o => push_at hbz1
      have tr1 := tr0.trans u1
      have tt1 := tt0.trans u1
      have hA1' := tr1.at hA5 (by omega)
      have hB1' := tr1.at hB5 (by omega)
      obtain ⟨bA2, oA2, eA2, _, cA2⟩ := (r4.mono tt1.old).int_at k (by rw [ea.mx, ← ea.sum]; omega)
      obtain ⟨bB2, oB2, eB2, _, cB2⟩ := (q4.mono tt1.old).int_at k (by rw [eb.mx, ← ea.sum]; omega)
      subst eA2 eB2
      have iA2 : k < a.mx.length := by rw [ea.mx, ← ea.sum]; omega
      have iB2 : k < b.mx.length := by rw [eb.mx, ← ea.sum]; omega
      refine drawn_by [⟨0, true, []⟩, ⟨1, true, []⟩, ⟨2, true, []⟩, ⟨3, true, []⟩, ⟨4, true, []⟩, ⟨5, true, []⟩, ⟨6, true, []⟩, ⟨7, true, []⟩, ⟨8, true, []⟩, ⟨9, true, []⟩, ⟨10, true, []⟩, ⟨11, true, []⟩, ⟨12, false, [0, 1]⟩, ⟨13, false, [0, 1]⟩, ⟨14, false, []⟩, ⟨15, true, []⟩, ⟨16, false, []⟩] (by kernel_rfl) (by kernel_rfl) ?_
      simp -dsimp [hA1', hB1', hbz1, hbzp1, cA2, cB2, idxV_nat iA2, idxV_nat iB2, elSz_eq, again_cons]
      have eL2 := ll (joinC a b).mx
      refine gr_app1 (xs := (joinC a b).mx.take k) (by first | rfl | (rw [x1]; simp)) intT (G1.at (i := 2) rfl) tr1.lt rfl rfl (by omega) (by omega) ?_
      intro w2 y2 p2 g2 u2 k2 ho2
      obtain ⟨ya2, yn2, yc2, rfl, _⟩ := g2.vals
      have hby2 := k2.at hbz1 (fun e => ((G1.gr _ (List.mem_of_getElem? (i := 2) rfl)).2 _ e).1 (.inr rfl))
      have G2 := G1.app (i := 2) rfl g2 u2 k2 ho2 (fun b hb => by have := tt1.size; have := lt_of_blk hbz1; have := tt1.lt _ n21; omega) tt1.size (fun b hb => .inl hb)
      simp -dsimp [hby2]
      obtain ⟨z2, x2⟩ : ∃ z, z = y2.setIfInBounds b5 (.cells #[.slice a1 a.key.length c1, .int .i64 (IntKind.i64.wrap (a.count + b.count)), .slice ya0 yn0 yc0, .slice ya1 yn1 yc1, .slice ya2 yn2 yc2] 65) := ⟨_, rfl⟩
      rw [← x2]
      obtain ⟨N2, eN2⟩ : ∃ N : Nat → Prop, N = fun b => N1 b ∨ p2 = some b := ⟨_, rfl⟩
      have n22 : N2 (h.size + 2) := by rw [eN2]; exact .inl n21
      have n52 : N2 b5 := by rw [eN2]; exact .inl n51
      rw [← eN2] at u2 G2
      replace u2 := u2.set (.cells #[.slice a1 a.key.length c1, .int .i64 (IntKind.i64.wrap (a.count + b.count)), .slice ya0 yn0 yc0, .slice ya1 yn1 yc1, .slice ya2 yn2 yc2] 65) n52
      replace G2 := G2.wr (.cells #[.slice a1 a.key.length c1, .int .i64 (IntKind.i64.wrap (a.count + b.count)), .slice ya0 yn0 yc0, .slice ya1 yn1 yc1, .slice ya2 yn2 yc2] 65) n52 (.inr rfl)
      rw [← x2] at u2 G2
      have hbz2 : z2[b5]? = some (.cells #[.slice a1 a.key.length c1, .int .i64 (IntKind.i64.wrap (a.count + b.count)), .slice ya0 yn0 yc0, .slice ya1 yn1 yc1, .slice ya2 yn2 yc2] 65 (0, 0)) := x2 ▸ set_same _ (lt_of_blk hby2)
      have hTz2 : z2[h.size + 2]? = _ := x2 ▸ (set_other _ (by omega)).trans (k2.at hTz1 (fun e => ((G1.gr _ (List.mem_of_getElem? (i := 2) rfl)).2 _ e).1 (.inl rfl)))
      have hbzp2 : ∀ o, (z2.push o)[b5]? = _ := fun o => push_at hbz2
      have tr2 := tr1.trans u2
      have tt2 := tt1.trans u2
      have hA2' := tr2.at hA5 (by omega)
      have hB2' := tr2.at hB5 (by omega)
      have z0' := zip_take (g := fun x y => IntKind.i64.wrap (x + y)) iA0 iB0
      have z1' := zip_take (g := min) iA1 iB1
      have z2' := zip_take (g := max) iA2 iB2
      refine ⟨(k + 1, .slice ya0 yn0 yc0, .slice ya1 yn1 yc1, .slice ya2 yn2 yc2), by simp [wk], rfl, ⟨N2, p0, p1, p2, tr2, ⟨n22, n52⟩, by omega, hTz2, hbz2, ?_⟩, by simp; omega⟩
      show Grs _ _ _ _ _ _ [⟨_, (List.zipWith _ a.sum b.sum).take (k + 1), p0⟩, ⟨_, (List.zipWith _ a.mn b.mn).take (k + 1), p1⟩, ⟨_, (List.zipWith _ a.mx b.mx).take (k + 1), p2⟩]
      rw [z0', z1', z2']
      exact G2
    · simp -dsimp [hA1, hkl, hb1]
      have hkk : k = a.sum.length := by omega
      have hsetT : ∀ o, (h1.setIfInBounds (h.size + 2) o)[h.size + 2]? = some o := fun o => set_same _ (lt_of_blk hT1)
      simp -dsimp [hT1, hsetT]
      have hl := fun (f : Int → Int → Int) (xs ys : List Int) (e : xs.length = m) (e' : ys.length = m) => List.take_of_length_le (l := List.zipWith f xs ys) (i := k) (by rw [List.length_zipWith]; have := ea.sum; omega)
      have tt := (t5.trans t1).set (.cells #[.slice a1 a.key.length c1, .int .i64 (IntKind.i64.wrap (a.count + b.count)), .slice va2 vn2 vc2, .slice va3 vn3 vc3, .slice va4 vn4 vc4] 65) hM2
      have t1' := t1.set (.cells #[.slice a1 a.key.length c1, .int .i64 (IntKind.i64.wrap (a.count + b.count)), .slice va2 vn2 vc2, .slice va3 vn3 vc3, .slice va4 vn4 vc4] 65) hM2
      have g9 := gg.wr (.cells #[.slice a1 a.key.length c1, .int .i64 (IntKind.i64.wrap (a.count + b.count)), .slice va2 vn2 vc2, .slice va3 vn3 vc3, .slice va4 vn4 vc4] 65) hM2 (.inl rfl)
      have hr := fun i t (hi : [(⟨.slice va2 vn2 vc2, (joinC a b).sum.take k, o2⟩ : GI Int), ⟨.slice va3 vn3 vc3, (joinC a b).mn.take k, o3⟩, ⟨.slice va4 vn4 vc4, (joinC a b).mx.take k, o4⟩][i]? = some t) => (g9.at hi).rep (n' := h.size) (Nat.le_refl _) fun b hb => ((g9.gr t (List.mem_of_getElem? hi)).2 b hb).2
      refine hK _ _ ⟨_, rfl, ⟨_, _, _, _, rfl, (gk.mono (t1'.ft (Nat.le_refl _))).mono (Ft.free (Nat.le_refl _)), ?_, ?_, ?_⟩, tt.keep⟩
      · have := hr 0 _ rfl
        rwa [show (joinC a b).sum.take k = (joinC a b).sum from hl _ _ _ ea.sum eb.sum] at this
      · have := hr 1 _ rfl
        rwa [show (joinC a b).mn.take k = (joinC a b).mn from hl _ _ _ ea.mn eb.mn] at this
      · have := hr 2 _ rfl
        rwa [show (joinC a b).mx.take k = (joinC a b).mx from hl _ _ _ ea.mx eb.mx] at this
end Go.Proofs

/-
  A cell is put among others that rise; groups of cells and of facts: the document's.
-/
namespace Go.Proofs
open Go Go.HC

set_option maxHeartbeats 4000000 in
set_option maxRecDepth 10000 in
theorem rput_at {n0 : Nat} {h : Heap} {v : Value} {cs : List Value} {l : List CellM} {c : CellM} {m : Nat} (hl : SlRep rCell (Ft n0 none_ h) h v l) (hc : rCell.rep (Old h) h cs c) (hn : l.length < 1000000) (hm : m < 1000000000) (hs : ∀ d ∈ l, Sml m d) (hsc : Sml m c) (hn0 : n0 ≤ h.size) :
    CallH Tryz.prog 53 #[v, .agg cs.toArray] h fun r h' => SlRep rCell (Ft n0 none_ h') h' r (putC l c) ∧ Keep none_ h h' := by
  refine callH_by fun K hK => ?_
  refine enter [.tmp 4] Tryz.func53 rfl rfl (by kernel_rfl) rfl ?_
  obtain ⟨a0, c0, rfl, hc0, hc0'⟩ := hl.val
  obtain ⟨ka, kc, sa, sc, na, nc, xa, xc, rfl, r1, r2, r3, r4⟩ := cell_open hc
  simp -dsimp [boxS_eq]
  generalize hB : Array.push h _ = hb
  have kb : Keep none_ h hb := by rw [← hB]; exact .push _ _ _
  have hC : hb[h.size]? = some (.cells #[.slice ka c.key.length kc, .int .i64 c.count, .slice sa c.sum.length sc, .slice na c.mn.length nc, .slice xa c.mx.length xc] 65 (0, 0)) := by rw [← hB]; exact push_new _ _
  have tb := Tr.of kb
  have l1 := hl.mono (tb.ft (Nat.le_refl n0))
  have k1 := r1.mono (tb.ft (Nat.le_refl 0))
  have c1 := rCell.mono hc (tb.ft (Nat.le_refl 0))
  have hpl := posC_le l c.key
  refine loopj (σ := Nat) (fun k => [(0, .slice a0 l.length c0), (3, .pointer (some ⟨h.size, 0, none⟩)), (5, .int .i64 k)]) (fun k h1 => h1 = hb ∧ k ≤ posC l c.key) (fun k => l.length - k) 0 (by simp) ⟨rfl, Nat.zero_le _⟩ (by kernel_rfl) ?_
  rintro k h1 g ⟨rfl, hk⟩
  have wk := wrap_succ (k := k) (by omega)
  rcases Nat.lt_or_ge k l.length with hkl | hkl
  case' inl =>
    obtain ⟨b1, o1, cs1, ea0, _, hr1, hc1⟩ := l1.get k hkl
    subst ea0
    obtain ⟨ka1, kc1, sa1, sc1, na1, nc1, xa1, xc1, rfl, q1, _⟩ := cell_open hr1
    have hk0 : cellIn h1[b1]? (o1 + k * 5) = some (.slice ka1 l[k].key.length kc1) := cellsIn_cell (d := 0) hc1 (by decide)
    have hc1' : HC.cellsIn h1[b1]? (o1 + k * 5) 5 = _ := hc1
    simp -dsimp
    refine drawn_by [⟨0, true, []⟩, ⟨1, true, []⟩, ⟨2, true, []⟩, ⟨3, true, []⟩, ⟨4, true, []⟩, ⟨5, true, []⟩, ⟨6, true, []⟩, ⟨7, true, []⟩, ⟨8, true, []⟩, ⟨9, true, []⟩, ⟨10, true, []⟩, ⟨11, true, []⟩, ⟨12, false, []⟩, ⟨13, true, []⟩, ⟨14, true, []⟩] (by kernel_rfl) (by kernel_rfl) ?_
    simp -dsimp [hkl, idxV_nat hkl, elSz_eq, hk0, hC]
    refine call_by (rless_spec q1 k1) ?_
    rintro _ h2 ⟨rfl, hh⟩
    obtain rfl := hh.symm
    by_cases hlt : lessM l[k].key c.key < 0
    case pos =>
      simp -dsimp [hlt, wk]
      refine ⟨k + 1, by simp, rfl, ⟨rfl, ?_⟩, by show l.length - (k + 1) < l.length - k; omega⟩
      rcases Nat.lt_or_ge k (posC l c.key) with h | h
      · exact h
      · have e : k = posC l c.key := by omega
        subst e
        exact absurd hlt (posC_at hkl)
    have hkp : k = posC l c.key := by
      rcases Nat.lt_or_ge k (posC l c.key) with h | h
      · exact absurd (posC_lt hkl h) hlt
      · omega
    simp -dsimp [hlt]
    refine drawn_by [⟨0, true, []⟩, ⟨1, true, []⟩, ⟨2, true, []⟩, ⟨3, true, []⟩, ⟨4, true, []⟩, ⟨5, true, []⟩, ⟨6, true, []⟩, ⟨7, true, []⟩, ⟨8, true, []⟩, ⟨9, true, []⟩, ⟨10, true, []⟩, ⟨11, true, []⟩, ⟨12, false, []⟩, ⟨13, true, []⟩, ⟨14, true, []⟩] (by kernel_rfl) (by kernel_rfl) ?_
    simp -dsimp [hkl, idxV_nat hkl, elSz_eq, hk0, hC]
    refine call_by (rless_spec q1 k1) ?_
    rintro _ h2 ⟨rfl, hh⟩
    obtain rfl := hh.symm
    by_cases h0 : lessM l[k].key c.key = 0
    case pos =>
      simp -dsimp [h0]
      obtain ⟨ge, te⟩ := gr_empty rCell 65 n0 tb h1.size rfl
      obtain ⟨cs0, _, _, _, hcl, hel⟩ := l1.open_
      refine gr_append (ys := l) (n := n0) cellT ge te.lt rfl (hcl.mono fun b hb => te.ft (Nat.le_refl n0) b hb) (hel.mono fun b hb => te.ft (Nat.le_refl n0) b hb) (by simp; omega) (by simp; omega) ?_
      intro v3 h3 own3 g3 t3 k3 ho3
      obtain ⟨va3, vn3, vc3, rfl, hvn3⟩ := g3.vals
      have u3 := te.trans t3
      have hC3 := u3.at hC (fun h => h)
      have hk3 : HC.cellsIn h3[b1]? (o1 + k * 5) 5 = HC.cellsIn h1[b1]? (o1 + k * 5) 5 := by
        obtain ⟨bb, oo, cc, e1, hf, _⟩ := l1.get k hkl
        cases e1
        rw [u3.keep.blk b1 hf.2.1 (fun h => h)]
      simp -dsimp
      refine drawn_by [⟨0, true, []⟩, ⟨1, true, []⟩, ⟨2, true, []⟩, ⟨3, true, []⟩, ⟨4, true, []⟩, ⟨5, true, []⟩, ⟨6, true, []⟩, ⟨7, false, [0, 1]⟩, ⟨8, true, []⟩, ⟨9, false, []⟩] (by kernel_rfl) (by kernel_rfl) ?_
      simp -dsimp [idxV_nat hkl, elSz_eq, hC3, hk3, hc1']
      have hm1 := hs l[k] (List.getElem_mem hkl)
      refine call_by (rjoin_spec (rCell.mono (rCell.mono hr1 (u3.ft (Nat.le_refl n0))) (Ft.free (Nat.zero_le _))) (hm1.small hm) hm1 (rCell.mono (rCell.mono c1 (u3.ft (Nat.le_refl 0))) (Ft.free (Nat.zero_le _))) hsc) ?_
      rintro _ h4 ⟨es, rfl, r4', k4⟩
      have u4 := u3.call k4
      have hl5 := rCell.len r4'
      obtain ⟨bk, m', c', o', hv, hm', ho4, hw, g4⟩ := (g3.call k4).setE (i := k) (by simpa using hkl) (rCell.mono r4' (u3.ret (Nat.le_trans hn0 (kb.trans u3.keep fun _ _ h => h).size)))
      cases hv
      have hkm : k < vn3 := by rw [hm']; simpa using hkl
      obtain ⟨ka5, kc5, sa5, sc5, na5, nc5, xa5, xc5, rfl, _⟩ := cell_open r4'
      have hw' : writeIn h4[bk]? (k * 5) _ = some o' := hw
      simp -dsimp [idxV_nat hkm, elSz_eq, again_cons, hw']
      have u5 := u4.set o' (g3.mu bk ho4)
      refine hK _ _ ⟨?_, kb.trans u5.keep (fun _ _ h => h)⟩
      have hput : putC l c = l.set k (joinC l[k] c) := by
        rw [putC_pos]
        subst hkp
        rw [dif_pos ⟨hkl, hkl, h0⟩]
      rw [hput]
      simp only [List.nil_append] at g4
      exact g4.rep (Nat.le_refl n0) (fun b hb => by have := u5.fresh b (g4.mu b hb); have := kb.size; omega)
    have h0' : (lessM l[k].key c.key == 0) = false := by simpa using h0
    simp -dsimp [h0']
  case' inr =>
    have hkp : k = posC l c.key := by omega
    have hkl' : ¬ k < l.length := by omega
    simp -dsimp
    refine drawn_by [⟨0, true, []⟩, ⟨1, true, []⟩, ⟨2, true, []⟩, ⟨3, true, []⟩, ⟨4, true, []⟩, ⟨5, true, []⟩, ⟨6, true, []⟩, ⟨7, true, []⟩, ⟨8, true, []⟩, ⟨9, true, []⟩, ⟨10, true, []⟩, ⟨11, true, []⟩, ⟨12, false, []⟩, ⟨13, true, []⟩, ⟨14, true, []⟩] (by kernel_rfl) (by kernel_rfl) ?_
    simp -dsimp [hkl']
    refine drawn_by [⟨0, true, []⟩, ⟨1, true, []⟩, ⟨2, true, []⟩, ⟨3, true, []⟩, ⟨4, true, []⟩, ⟨5, true, []⟩, ⟨6, true, []⟩, ⟨7, true, []⟩, ⟨8, true, []⟩, ⟨9, true, []⟩, ⟨10, true, []⟩, ⟨11, true, []⟩, ⟨12, false, []⟩, ⟨13, true, []⟩, ⟨14, true, []⟩] (by kernel_rfl) (by kernel_rfl) ?_
    simp -dsimp [hkl']
  all_goals
    have hkl2 : k ≤ l.length := by omega
    refine drawn_by [⟨1, true, []⟩, ⟨2, true, []⟩, ⟨3, true, []⟩, ⟨5, true, []⟩, ⟨9, true, []⟩, ⟨10, true, []⟩, ⟨11, true, []⟩, ⟨0, false, [1, 2, 3, 5, 9, 10, 11]⟩, ⟨4, false, [5, 9, 10, 11]⟩, ⟨6, false, [9, 10, 11]⟩, ⟨7, false, [9, 10, 11]⟩, ⟨8, false, [9, 10, 11]⟩, ⟨12, false, []⟩, ⟨13, true, []⟩] (by kernel_rfl) (by kernel_rfl) ?_
    have hkc : k ≤ c0 := by omega
    have hCp : ∀ o, (h1.push o)[h.size]? = _ := fun o => push_at hC
    simp -dsimp [elSz_eq, pieceV, natV, hC, hCp, hkl2, hc0, hkc, again_cons]
    obtain ⟨ge, te⟩ := gr_empty rCell 65 n0 tb h1.size rfl
    have s1 := (l1.mono (te.ft (Nat.le_refl n0))).cut (i := 0) (j := k) (m := c0) (Nat.zero_le _) hkl2 hkc (Nat.le_refl _)
    have s2 := l1.cut (i := k) (j := l.length) (m := c0) hkl2 (Nat.le_refl _) hc0 (Nat.le_refl _)
    simp only [List.drop_zero, Nat.sub_zero] at s1 s2
    have htk : (l.take k).length = k := by rw [List.length_take]; omega
    have hdk : ((l.drop k).take (l.length - k)) = l.drop k := List.take_of_length_le (by simp)
    rw [hdk] at s2
    have hld : (l.drop k).length = l.length - k := by simp
    obtain ⟨cs1, _, _, _, hcl1, hel1⟩ := s1.open_
    refine gr_append (ys := l.take k) (n := n0) cellT ge te.lt htk.symm hcl1 hel1 (by rw [htk]; simp; omega) (by rw [htk]; simp; omega) ?_
    intro v3 h3 own3 g3 t3 k3 ho3
    rw [List.nil_append] at g3
    obtain ⟨va3, vn3, vc3, rfl, hvn3⟩ := g3.vals
    have u3 := te.trans t3
    have hC3 := u3.at hC (fun h => h)
    simp -dsimp [elSz_eq, pieceV, natV, hC3, hkl2, hc0, hkc, again_cons]
    refine call_by (rcopy_new (rCell.mono (rCell.mono c1 (u3.ft (Nat.le_refl 0))) (Ft.free (Nat.zero_le _))) (hsc.small hm)) ?_
    rintro _ h4 ⟨es, rfl, r4', k4⟩
    have u4 := u3.call k4
    obtain ⟨ka5, kc5, sa5, sc5, na5, nc5, xa5, xc5, rfl, _⟩ := cell_open r4'
    simp -dsimp [elSz_eq, pieceV, natV, hkl2, hc0, hkc, again_cons]
    refine gr_app1 rfl cellT (g3.call k4) u4.lt (rCell.mono r4' (u3.ret (Nat.le_trans hn0 (kb.trans u3.keep fun _ _ h => h).size))) rfl (by rw [htk]; omega) (by rw [htk]; omega) ?_
    intro v5 h5 own5 g5 t5 k5 ho5
    have u5 := u4.trans t5
    obtain ⟨va5, vn5, vc5, rfl, hvn5⟩ := g5.vals
    simp -dsimp [elSz_eq, pieceV, natV, hkl2, hc0, hkc, again_cons]
    obtain ⟨cs2, _, _, _, hcl2, hel2⟩ := (s2.mono (u5.ft (Nat.le_refl n0))).open_
    refine gr_append (ys := l.drop k) (n := n0) cellT g5 u5.lt hld.symm hcl2 hel2 (by rw [List.length_append, htk, hld]; simp; omega) (by rw [List.length_append, htk, hld]; simp; omega) ?_
    intro v6 h6 own6 g6 t6 k6 ho6
    obtain ⟨va6, vn6, vc6, rfl, hvn6⟩ := g6.vals
    simp -dsimp
    have u6 := u5.trans t6
    refine hK _ _ ⟨?_, kb.trans u6.keep (fun _ _ h => h)⟩
    have hput : putC l c = l.take k ++ [c] ++ l.drop k := by
      rw [putC_pos, ← hkp, dif_neg]
      · simp
      · rintro ⟨hx, _, h0x⟩
        first | exact h0 h0x | omega
    rw [hput]
    exact g6.rep (Nat.le_refl n0) (fun b hb => by have := u6.fresh b (g6.mu b hb); have := kb.size; omega)
theorem rput_spec {h : Heap} {v : Value} {cs : List Value} {l : List CellM} {c : CellM} {m : Nat} (hl : SlRep rCell (Old h) h v l) (hc : rCell.rep (Old h) h cs c) (hn : l.length < 1000000) (hm : m < 1000000000) (hs : ∀ d ∈ l, Sml m d) (hsc : Sml m c) :
    CallH Tryz.prog 53 #[v, .agg cs.toArray] h fun r h' => SlRep rCell (Old h') h' r (putC l c) ∧ Keep none_ h h' := rput_at hl hc hn hm hs hsc (Nat.zero_le _)
end Go.Proofs

/-
  Groups of cells and of facts, the document's; rows of cells held against each other.
-/
namespace Go.Proofs
open Go Go.HC

set_option maxHeartbeats 4000000 in
set_option maxRecDepth 10000 in
theorem rfacts_spec {h : Heap} {v : Value} {rows : List RowM} {m : Nat} (s : Int) (hr : SlRep rRow (Old h) h v rows) (hn : rows.length < 1000000) (hm : m < 1000000000) (hs : ∀ r ∈ rows, r.key.length < 64 ∧ r.m.length = m) :
    CallH Tryz.prog 24 #[v, .int .i64 s] h fun r h' => SlRep rCell (Old h') h' r (groupC (rows.map (ofM s))) ∧ Keep none_ h h' := by
  refine callH_by fun K hK => ?_
  refine enter [.tmp 4] Tryz.func24 rfl rfl (by kernel_rfl) rfl ?_
  obtain ⟨a0, c0, rfl, hc0, hc0'⟩ := hr.val
  have hall : ∀ d ∈ rows.map (ofM s), Sml m d := by
    intro d hd
    obtain ⟨r, hr, rfl⟩ := List.mem_map.1 hd
    have := hs r hr
    rw [← this.2]
    exact .of (by omega)
  simp -dsimp
  refine loopj (σ := Nat × Value) (fun t => [(0, .slice a0 rows.length c0), (1, .int .i64 s), (5, t.2), (6, .int .i64 t.1)])
    (fun t h1 => Keep none_ h h1 ∧ t.1 ≤ rows.length ∧ SlRep rCell (Old h1) h1 t.2 (groupC ((rows.map (ofM s)).take t.1)))
    (fun t => rows.length - t.1) (0, .slice none 0 0) (by simp) ⟨.refl _ _, Nat.zero_le _, .nil _ _ _⟩ (by kernel_rfl) ?_
  rintro ⟨k, v⟩ h1 g ⟨k1, hk1, g1⟩
  simp only at hk1 g1
  have wk := wrap_succ (k := k) (by omega)
  by_cases hkl : k < rows.length
  · have q1 := hr.mono ((Tr.of k1).ft (Nat.le_refl 0))
    obtain ⟨b1, o1, cs, rfl, _, hrep, hc1⟩ := q1.get k hkl
    obtain ⟨ka, kc, ma, mc, rfl, _⟩ := row_open hrep
    have hc1' : HC.cellsIn h1[b1]? (o1 + k * 2) 2 = _ := hc1
    simp -dsimp [hkl, idxA_nat hkl, hc1']
    have hrow := hs rows[k] (List.getElem_mem hkl)
    refine call_by (of_spec s hrep hrow.1 (by omega)) ?_
    rintro _ h2 ⟨ds, rfl, r2, k2⟩
    have hl := groupC_le ((rows.map (ofM s)).take k)
    rw [List.length_take, List.length_map] at hl
    have hkm : k < (rows.map (ofM s)).length := by simpa using hkl
    simp -dsimp
    refine call_by (rput_spec (m := m) (g1.mono ((Tr.of k2).ft (Nat.le_refl 0))) (rCell.mono r2 (Ft.free (Nat.zero_le _))) (by omega) hm (sml_group fun d hd => hall d (List.mem_of_mem_take hd)) (hall _ (by have := List.getElem_mem hkm; simpa using this))) ?_
    rintro v3 h3 ⟨g3, k3⟩
    simp -dsimp [wk]
    refine ⟨(k + 1, v3), by simp, rfl, ⟨(k1.trans k2 fun _ _ h => h).trans k3 fun _ _ h => h, by omega, ?_⟩, by simp; omega⟩
    rw [group_take hkm, List.getElem_map]
    exact g3
  · have hkk : k = rows.length := by omega
    simp -dsimp [hkl]
    rw [hkk, List.take_of_length_le (by simp)] at g1
    exact hK _ _ ⟨g1, k1⟩

end Go.Proofs

/-
  HC, part 26: a loop that is cut off from what comes behind it: its rounds end in a state, and what comes behind begins with that.
-/
namespace Go.HC
/-- The loop with this number is left, in a state of which this holds. -/
def ExJ {σ : Type} (idx : Nat) (S : σ → L) (d : List Nat) (J : σ → Heap → Prop) (_t1 : Tag S) (_t2 : Tag J) (j : Nat) (l : L) (b : Base) (h : Heap) : Prop := j = idx ∧ ∃ s, Sub (S s) l b ∧ b.d = d ∧ J s h
section
variable {P : Program} {n : Nat} {ro : Option Nat} {c : Code} {κ : Kont} {l : L} {b : Base} {h : Heap} {σ : Type}
theorem gsem_cut {idx : Nat} {S : σ → L} {d : List Nat} {J : σ → Heap → Prop} {R : L → Base → Heap → Prop} (hR : ∀ l b h, R l b h → κ.rt l b h)
    (hc : gsem P n ro c { nx := fun _ _ _ => False, rt := R, ex := ExJ idx S d J ⟨⟩ ⟨⟩, gt := fun _ _ _ _ => False } l b h)
    (after : ∀ s h g, J s h → κ.ex idx (S s) ⟨g, d⟩ h) : gsem P n ro c κ l b h := by
  intro a w hw hfr fr k cs hkd hro
  obtain ⟨e, a', w', l', b', hs, hfr', hk, harr⟩ := hc a w hw hfr fr k cs hkd hro
  cases e with
  | nx => exact hk.elim
  | rt => exact ⟨.rt, a', w', l', b', hs, hfr', hR _ _ _ hk, harr⟩
  | ex j =>
    obtain ⟨rfl, s, hsub, hd, hJ⟩ := hk
    have hcl := hfr'.clean hsub
    rw [hd] at hcl
    exact ⟨.ex j, a', w', S s, ⟨fun t => a'.tmps.getD t undef, d⟩, hs, hcl, after s _ _ hJ, harr⟩
  | gt t => exact hk.elim
/-- A loop: S, J: what holds ahead of each round; it is left where Q holds too; R: how its rounds may return. -/
theorem loopc (S : σ → L) (J : σ → Heap → Prop) (μ : σ → Nat) (s0 : σ) (idx : Nat) (Q : σ → Heap → Prop) (R : L → Base → Heap → Prop) (hR : ∀ l b h, R l b h → κ.rt l b h) (hS : Sub (S s0) l b) (hJ : J s0 h) (hok : codeOk n c = true)
    (round : ∀ s h g, J s h → cs P n ro c { nx := LoopJ S (fun _ => b.d) J μ s ⟨⟩ ⟨⟩ ⟨⟩, rt := R, ex := ExJ idx S b.d (fun s h => J s h ∧ Q s h) ⟨⟩ ⟨⟩, gt := fun _ _ _ _ => False } (S s) ⟨g, b.d⟩ h)
    (after : ∀ s h g, J s h → Q s h → κ.ex idx (S s) ⟨g, b.d⟩ h) : gs P n ro (.loop c) κ l b h :=
  gsem_cut hR (loop (κ := { nx := fun _ _ _ => False, rt := R, ex := ExJ idx S b.d (fun s h => J s h ∧ Q s h) ⟨⟩ ⟨⟩, gt := fun _ _ _ _ => False }) S (fun _ => b.d) J μ s0 hS rfl hJ hok round) fun s h g hj => after s h g hj.1 hj.2
/-- No round returns. -/
def noRet : L → Base → Heap → Prop := fun _ _ _ => False
theorem noRet_le {κ : Kont} : ∀ l b h, noRet l b h → κ.rt l b h := fun _ _ _ h => h.elim
end
end Go.HC

/-
  Facts of numbers: a schema, rows.
-/
namespace Go.HC
structure SchM where
  cards : List Int
  ms : Int
/-- The number of values of a dimension. -/
def cardM (cards : List Int) (i : Nat) : Int := 1 + withinM ((cards[i]?).getD ((i : Int) + 2)) 5
def cardsM (dims : Int) (cards : List Int) : List Int :=
  if withinM dims 7 = 0 then ((List.range ((withinM dims 4).toNat + 1)).map (cardM cards)).set 0 16 else (List.range ((withinM dims 4).toNat + 1)).map (cardM cards)
def div5 (k : Int) : Nat → Int
  | 0 => k
  | d + 1 => IntKind.i64.wrap ((div5 k d).tdiv 5)
def keyM (cs : List Int) (k : Int) : List Int := cs.mapIdx fun d c => withinM (div5 k d) c
def rowM (cs : List Int) (ms : Int) (k : Int) : RowM :=
  ⟨keyM cs k, (List.range ms.toNat).map fun (j : Nat) => IntKind.i64.wrap (withinM (IntKind.i64.wrap (div5 k cs.length + IntKind.i64.wrap (7 * (j : Int)))) 201 - 100)⟩
def factsM (dims : Int) (cards : List Int) (ms : Int) (ns : List Int) : SchM × List RowM :=
  (⟨cardsM dims cards, withinM ms 3⟩, (ns.take 40).map (rowM (cardsM dims cards) (withinM ms 3)))
/-- A schema, rows that may be. -/
structure FactsOk (s : SchM) (rows : List RowM) : Prop where
  dims : 1 ≤ s.cards.length ∧ s.cards.length ≤ 4
  cards : ∀ c ∈ s.cards, 1 ≤ c ∧ c ≤ 16
  ms : 0 ≤ s.ms ∧ s.ms ≤ 2
  len : rows.length ≤ 300
  key : ∀ r ∈ rows, r.key.length = s.cards.length ∧ ∀ (i : Nat) (h : i < r.key.length) (h' : i < s.cards.length), 0 ≤ r.key[i] ∧ r.key[i] < s.cards[i]
  m : ∀ r ∈ rows, r.m.length = s.ms.toNat ∧ ∀ x ∈ r.m, -9223372036854775808 ≤ x ∧ x < 9223372036854775808
theorem cardM_bound (cards : List Int) (i : Nat) : 1 ≤ cardM cards i ∧ cardM cards i ≤ 5 := by
  unfold cardM
  have := withinM_bound (a := (cards[i]?).getD ((i : Int) + 2)) (n := 5) (by omega)
  omega
theorem cardsM_ok (dims : Int) (cards : List Int) : (cardsM dims cards).length = (withinM dims 4).toNat + 1 ∧ ∀ c ∈ cardsM dims cards, 1 ≤ c ∧ c ≤ 16 := by
  unfold cardsM
  split
  · refine ⟨by simp, fun c hc => ?_⟩
    rcases List.mem_or_eq_of_mem_set hc with h | rfl
    · obtain ⟨i, _, rfl⟩ := List.mem_map.1 h
      have := cardM_bound cards i; omega
    · omega
  · refine ⟨by simp, fun c hc => ?_⟩
    obtain ⟨i, _, rfl⟩ := List.mem_map.1 hc
    have := cardM_bound cards i; omega
theorem factsM_ok (dims : Int) (cards : List Int) (ms : Int) (ns : List Int) : FactsOk (factsM dims cards ms ns).1 (factsM dims cards ms ns).2 := by
  have hc := cardsM_ok dims cards
  have hd := withinM_bound (a := dims) (n := 4) (by omega)
  have hm := withinM_bound (a := ms) (n := 3) (by omega)
  refine ⟨by simp only [factsM, hc.1]; omega, hc.2, by simp only [factsM]; omega, by simp only [factsM, List.length_map, List.length_take]; omega, fun r hr => ?_, fun r hr => ?_⟩
  · simp only [factsM, List.mem_map] at hr
    obtain ⟨k, _, rfl⟩ := hr
    refine ⟨by simp [rowM, keyM, factsM], fun i h h' => ?_⟩
    simp only [rowM, keyM, List.getElem_mapIdx, factsM]
    simp only [factsM] at h'
    have := hc.2 _ (List.getElem_mem h')
    exact withinM_bound (by omega)
  · simp only [factsM, List.mem_map] at hr
    obtain ⟨k, _, rfl⟩ := hr
    refine ⟨by simp [rowM, factsM], fun x hx => ?_⟩
    simp only [rowM, List.mem_map] at hx
    obtain ⟨j, _, rfl⟩ := hx
    have := withinM_bound (a := IntKind.i64.wrap (div5 k (cardsM dims cards).length + IntKind.i64.wrap (7 * (j : Int)))) (n := 201) (by omega)
    rw [wrap_i64 (by omega) (by omega)]
    omega
end Go.HC
namespace Go.Proofs
open Go Go.HC

theorem rowT : ElemT Tryz.prog 31 62 rRow 48 := ⟨Tryz.elS31, Tryz.szS62, Tryz.byS62, _, Tryz.zS62, rfl⟩

set_option maxHeartbeats 4000000 in
set_option maxRecDepth 10000 in
theorem facts1_spec {h : Heap} {cv nv : Value} {cards ns : List Int} (dims ms : Int) (hc : SlRep rInt (Old h) h cv cards) (hn : SlRep rInt (Old h) h nv ns) :
    CallH Tryz.prog 39 #[.int .i64 dims, cv, .int .i64 ms, nv] h fun r h' => ∃ sv rv, r = .tuple #[.agg #[sv, .int .i64 (factsM dims cards ms ns).1.ms], rv] ∧
      SlRep rInt (Ft h.size none_ h') h' sv (factsM dims cards ms ns).1.cards ∧ SlRep rRow (Ft h.size none_ h') h' rv (factsM dims cards ms ns).2 ∧ Keep none_ h h' := by
  refine callH_by fun K hK => ?_
  refine enter [.cell 8 30, .tmp 9] Tryz.func39 rfl rfl (by kernel_rfl) rfl ?_
  obtain ⟨a0, c0, rfl, hc0, hc0'⟩ := hc.val
  obtain ⟨a1, c1, rfl, hc1, hc1'⟩ := hn.val
  simp -dsimp
  refine call_by (within1_spec ms 3 (by decide) (by decide) _) ?_
  rintro _ h0 ⟨rfl, hh⟩
  obtain rfl := hh.symm
  simp -dsimp
  rw [push_set (by simp)]
  have hd4 := withinM_bound (a := dims) (n := 4) (by omega)
  have hm3 := withinM_bound (a := ms) (n := 3) (by omega)
  obtain ⟨nd, hnd⟩ : ∃ nd : Nat, withinM dims 4 = nd := ⟨(withinM dims 4).toNat, by omega⟩
  refine loopc (σ := Nat × Value) (fun t => [(0, .int .i64 dims), (1, .slice a0 cards.length c0), (3, .slice a1 ns.length c1), (8, .pointer (some ⟨h.size, 0, none⟩)), (10, .pointer (some ⟨h.size + 1, 0, none⟩)), (11, .int .i64 t.1)])
    (fun t h1 => ∃ M own, Tr none_ M h h1 ∧ (M h.size ∧ M (h.size + 1)) ∧ (∀ b, own = some b → h.size + 2 ≤ b) ∧ t.1 ≤ nd + 1 ∧ h1[h.size]? = some (.cells #[.slice none 0 0, .int .i64 0] 30 (0, 0)) ∧
      h1[h.size + 1]? = some (.cells #[t.2, .int .i64 (withinM ms 3)] 30 (0, 0)) ∧ Gr rInt 3 h.size M h1 t.2 ((List.range t.1).map (cardM cards)) own)
    (fun t => nd + 1 - t.1) (0, .slice none 0 0) 0 (fun t _ => t.1 = nd + 1) noRet noRet_le (by simp)
    ⟨_, none, (((Tr.start _).pushM _).pushM _), ⟨.inl (.inr rfl), .inr (by simp)⟩, (fun _ h => by cases h), Nat.zero_le _, push_at (push_new _ _), push_get (by simp), .nil _ _ _ _ _⟩ (by kernel_rfl) ?_ ?_
  · rintro ⟨k, v⟩ h1 g ⟨M, own, t1, ⟨hM8, hM10⟩, hne, hk1, hb8, hb10, g1⟩
    simp only at hk1 hb8 hb10 g1
    have e1 := t1.size
    obtain ⟨va, vn, vc, rfl, hvn⟩ := g1.vals
    have wk := wrap_succ (k := k) (by omega)
    simp -dsimp
    refine call_by (within1_spec dims 4 (by decide) (by decide) _) ?_
    rintro _ h1' ⟨rfl, hh⟩
    obtain rfl := hh.symm
    rw [hnd]
    by_cases hkl : k ≤ nd
    · have hb1p : ∀ o, (h1.push o)[h.size + 1]? = _ := fun o => push_at hb10
      have wk2 : IntKind.i64.wrap ((k : Int) + 2) = (k : Int) + 2 := by rw [wrap_i64 (by omega) (by omega)]
      obtain ⟨x, hx⟩ : ∃ x, x = (cards[k]?).getD ((k : Int) + 2) := ⟨_, rfl⟩
      have hcm : cardM cards k = 1 + withinM x 5 := by rw [hx]; rfl
      have hw5 := withinM_bound (a := x) (n := 5) (by omega)
      have wx : IntKind.i64.wrap (1 + withinM x 5) = 1 + withinM x 5 := by rw [wrap_i64 (by omega) (by omega)]
      simp -dsimp [hkl, wk2]
      refine if hck : k < cards.length then ?ina else ?inb
      case' ina =>
        obtain ⟨b1, o1, ea, _, hc1⟩ := (hc.mono t1.old).int_at k hck
        subst ea
        rw [List.getElem?_eq_getElem hck, Option.getD_some] at hx
        simp -dsimp [hck, idxA_nat hck, hc1, ← hx]
      case' inb =>
        rw [List.getElem?_eq_none (by omega), Option.getD_none] at hx
        simp -dsimp [hck, ← hx]
      all_goals
        refine drawn_by [⟨0, true, []⟩, ⟨1, true, []⟩, ⟨2, true, []⟩, ⟨3, false, [0, 1]⟩, ⟨4, true, []⟩, ⟨5, false, [0, 1]⟩, ⟨6, false, []⟩, ⟨7, true, []⟩, ⟨8, false, []⟩] (by kernel_rfl) (by kernel_rfl) ?_
        simp -dsimp [hb10]
        refine call_by (within1_spec x 5 (by decide) (by decide) _) ?_
        rintro _ h1' ⟨rfl, hh⟩
        obtain rfl := hh.symm
        simp -dsimp [hb10, hb1p, again_cons, wx]
        have hlr : ((List.range k).map (cardM cards)).length = k := by simp
        refine gr_app1 rfl intT g1 t1.lt rfl rfl (by omega) (by omega) ?_
        intro v' h2 own' g2 t2 k2 ho
        have hb2 := k2.at hb10 (fun e => by have := hne _ e; omega)
        have hb82 := k2.at hb8 (fun e => by have := hne _ e; omega)
        have hne' : ∀ b, own' = some b → h.size + 2 ≤ b := fun b e => (ho _ e).elim (hne b) (by have := lt_of_blk hb10; omega)
        obtain ⟨va', vn', vc', rfl, _⟩ := g2.vals
        simp -dsimp [hb2, wk]
        refine ⟨(k + 1, .slice va' vn' vc'), by simp, rfl, ⟨_, own', (t1.trans t2).set _ (.inl hM10), ⟨.inl hM8, .inl hM10⟩, hne', by omega, (set_other _ (by omega)).trans hb82, set_same _ (lt_of_blk hb2), ?_⟩, by simp; omega⟩
        rw [List.range_succ, List.map_append, List.map_singleton, hcm]
        exact g2.set _ (.inl hM10) (fun e => by have := hne' _ e; omega)
    · have hkk : k = nd + 1 := by omega
      simp -dsimp [hkl]
      exact ⟨rfl, (k, .slice va vn vc), by simp, rfl, ⟨M, own, t1, ⟨hM8, hM10⟩, hne, hk1, hb8, hb10, g1⟩, hkk⟩
  · rintro ⟨k, v⟩ h1 g ⟨M, own, t1, ⟨hM8, hM10⟩, hne, hk1, hb8, hb10, g1⟩ hkk
    simp only at hk1 hb8 hb10 g1 hkk
    subst hkk
    have e1 := t1.size
    obtain ⟨va, vn, vc, ev, hvn⟩ := g1.vals
    subst ev
    simp -dsimp
    have hcs : cardsM dims cards = if withinM dims 7 = 0 then ((List.range (nd + 1)).map (cardM cards)).set 0 16 else (List.range (nd + 1)).map (cardM cards) := by
      have : (withinM dims 4).toNat = nd := by omega
      unfold cardsM; rw [this]
    refine call_by (within1_spec dims 7 (by decide) (by decide) _) ?_
    rintro _ h1' ⟨rfl, hh⟩
    obtain rfl := hh.symm
    have hlr : ((List.range (nd + 1)).map (cardM cards)).length = nd + 1 := by simp
    refine if h7 : withinM dims 7 = 0 then ?za else ?zb
    case' za =>
      rw [if_pos h7] at hcs
      obtain ⟨bk, m', c', o', hv, hm', ho4, hw, g4⟩ := g1.setE (i := 0) (x := 16) (by rw [hlr]; omega) rfl
      cases hv
      have hm0 : 0 < vn := by rw [hm', hlr]; omega
      have hM' := g1.mu bk ho4
      have hnb := hne bk ho4
      have hw' : writeIn h1[bk]? 0 [.int .i64 16] = some o' := by simpa using hw
      simp -dsimp [h7, hb10, idxA_zero hm0, hw']
      have hb8' : (h1.setIfInBounds bk o')[h.size]? = _ := (set_other _ (by omega)).trans hb8
      have hb10' : (h1.setIfInBounds bk o')[h.size + 1]? = _ := (set_other _ (by omega)).trans hb10
      replace t1 := t1.set o' hM'
      generalize h1.setIfInBounds bk o' = h2 at *
      replace hb8 := hb8'
      replace hb10 := hb10'
      clear g1 hw hw' ho4 hM' hnb hb8' hb10'
      generalize some (⟨bk, 0, none⟩ : Addr) = va at *
    case' zb =>
      rw [if_neg h7] at hcs
      have h7' : (withinM dims 7 == 0) = false := by simpa using h7
      simp -dsimp [h7']
      have g4 := g1
      generalize h1 = h2 at *
    all_goals
      rw [← hcs] at g4
      have hcl : (cardsM dims cards).length = nd + 1 := by rw [(cardsM_ok dims cards).1]; omega
      have hcb := (cardsM_ok dims cards).2
      have hvn' : vn = (cardsM dims cards).length := by rw [hvn, hlr, hcl]
      obtain ⟨cl, ecl⟩ : ∃ cl, cl = cardsM dims cards := ⟨_, rfl⟩
      have sc : SlRep rInt (Ft h.size (fun b => b = h.size) h2) h2 _ (cardsM dims cards) := g4.grow.ints.mono fun b hb => ⟨⟨⟨by have := hne b hb; omega, fun _ => g4.grow.thaw b hb⟩, g4.own_lt b hb, by have := hne b hb; omega⟩, rfl⟩
      have t2 : Tr none_ (fun b => b = h.size) h h2 := t1.less fun b hb => hb ▸ hM8
      rw [← ecl] at sc hcl hcb hvn'
      obtain ⟨mm, hmm⟩ : ∃ mm : Nat, withinM ms 3 = mm := ⟨(withinM ms 3).toNat, by omega⟩
      rw [hmm] at hb10
      clear t1 g4 hne hcs
      refine loopc (σ := Nat × Value) (fun t => [(3, .slice a1 ns.length c1), (8, .pointer (some ⟨h.size, 0, none⟩)), (10, .pointer (some ⟨h.size + 1, 0, none⟩)), (13, t.2), (14, .int .i64 t.1)])
        (fun t h1 => ∃ M own, Tr (fun b => b = h.size) M h2 h1 ∧ M h.size ∧ (∀ b, own = some b → h.size + 1 ≤ b) ∧ (t.1 ≤ ns.length ∧ t.1 ≤ 40) ∧ h1[h.size]? = some (.cells #[.slice none 0 0, .int .i64 0] 30 (0, 0)) ∧
          Gr rRow 62 h.size M h1 t.2 ((ns.take t.1).map (rowM cl mm)) own)
        (fun t => 40 - t.1) (0, .slice none 0 0) 2 (fun t _ => ¬ (t.1 < ns.length ∧ t.1 < 40)) noRet noRet_le (by simp) ⟨_, none, t2.here, rfl, (fun _ h => by cases h), ⟨Nat.zero_le _, Nat.zero_le _⟩, hb8, .nil _ _ _ _ _⟩ (by kernel_rfl) ?_ ?_
      case refine_2 =>
        rintro ⟨i, v⟩ h3 g ⟨M3, own3, t3, hM3, ho3, ⟨hi1, hi2⟩, hz3, g3⟩ hin
        simp only at hi1 hi2 hz3 g3 hin
        obtain ⟨va3, vn3, vc3, ev3, hvn3⟩ := g3.vals
        subst ev3
        have hb103 := t3.at hb10 (by omega)
        have hcut : (ns.take i) = ns.take 40 := by
          by_cases h1 : i < ns.length
          · have : i = 40 := by omega
            rw [this]
          · rw [List.take_of_length_le (by omega), List.take_of_length_le (by omega)]
        have hset8 : ∀ o, (h3.setIfInBounds h.size o)[h.size]? = some o := fun o => set_same _ (lt_of_blk hz3)
        simp -dsimp [hb103, hz3, hset8]
        have t9 := t3.set (.cells #[.slice va vn vc, .int .i64 mm] 30) hM3
        refine hK _ _ ⟨.slice va vn vc, .slice va3 vn3 vc3, by simp only [factsM, hmm], ?_, ?_, (t2.trans t9).keep⟩
        · simp only [factsM, ← ecl]
          exact (sc.mono (t9.ft (Nat.le_refl _))).mono (Ft.free (Nat.le_refl _))
        · rw [hcut] at g3
          simp only [factsM, ← ecl, hmm]
          have g9 := g3.mono (t3.here.set (.cells #[.slice va vn vc, .int .i64 mm] 30) hM3) (Nat.le_refl _) fun b hb => ⟨g3.mu b hb, set_other _ fun e => by have := ho3 b hb; omega⟩
          exact g9.rep (Nat.le_refl _) fun b hb => by have := ho3 b hb; omega
      rintro ⟨i, v⟩ h3 g ⟨M3, own3, t3, hM3, ho3, ⟨hi1, hi2⟩, hz3, g3⟩
      simp only at hi1 hi2 hz3 g3
      have wi := wrap_succ (k := i) (by omega)
      obtain ⟨va3, vn3, vc3, ev3, hvn3⟩ := g3.vals
      subst ev3
      have hb103 := t3.at hb10 (by omega)
      have sc3 := (sc.mono (t3.ft (Nat.le_refl _))).mono (Ft.free (Nat.zero_le _))
      have t23 := t2.trans t3
      by_cases hin : i < ns.length ∧ i < 40
      case neg =>
        by_cases h1 : i < ns.length
        · have h2 : ((i : Int) < 40) = False := by simp; omega
          simp -dsimp [h1, h2]
          exact ⟨rfl, (i, .slice va3 vn3 vc3), by simp, rfl, ⟨M3, own3, t3, hM3, ho3, ⟨hi1, hi2⟩, hz3, g3⟩, hin⟩
        · simp -dsimp [h1]
          exact ⟨rfl, (i, .slice va3 vn3 vc3), by simp, rfl, ⟨M3, own3, t3, hM3, ho3, ⟨hi1, hi2⟩, hz3, g3⟩, hin⟩
      obtain ⟨hin1, hin2⟩ := hin
      obtain ⟨bn, on, en, _, hcn⟩ := (hn.mono t23.old).int_at i hin1
      have hin2' : ((i : Int) < 40) = True := by simp; omega
      simp -dsimp [hin1, hin2', en, idxA_nat hin1, hcn]
      obtain ⟨k, ek⟩ : ∃ k, k = ns[i] := ⟨_, rfl⟩
      rw [← ek, ← en]
      have hkl4 : (keyM cl k).length = cl.length := by simp [keyM]
      refine loopc (σ := Nat × Value) (fun t => [(3, .slice a1 ns.length c1), (8, .pointer (some ⟨h.size, 0, none⟩)), (10, .pointer (some ⟨h.size + 1, 0, none⟩)), (13, .slice va3 vn3 vc3), (14, .int .i64 i), (15, .int .i64 (div5 k t.1)), (16, .pointer (some ⟨h3.size, 0, none⟩)), (17, .int .i64 t.1)])
        (fun t h4 => ∃ M own, Tr none_ M h3 h4 ∧ M h3.size ∧ (∀ b, own = some b → h3.size + 1 ≤ b) ∧ t.1 ≤ cl.length ∧ h4[h3.size]? = some (.cells #[t.2, .slice none 0 0] 62 (0, 0)) ∧ Gr rInt 3 h3.size M h4 t.2 ((keyM cl k).take t.1) own)
        (fun t => cl.length - t.1) (0, .slice none 0 0) 4 (fun t _ => t.1 = cl.length) noRet noRet_le (by simp [div5]) ⟨_, none, (Tr.start _).pushM _, .inr rfl, (fun _ h => by cases h), Nat.zero_le _, push_new _ _, .nil _ _ _ _ _⟩ (by kernel_rfl) ?_ ?_
      case refine_1 =>
        rintro ⟨d, v⟩ h4 g ⟨M4, own4, t4, hM4, ho4, hd, hr4, g4⟩
        simp only at hd hr4 g4
        have wd := wrap_succ (k := d) (by omega)
        obtain ⟨va4, vn4, vc4, ev4, hvn4⟩ := g4.vals
        subst ev4
        have hb104 := t4.at hb103 (fun h => h)
        by_cases hdl : d < cl.length
        · obtain ⟨bc, oc, ec, _, hcc⟩ := (sc3.mono t4.old).int_at d hdl
          subst ec
          have hdn : d < vn := by omega
          have hr4p : ∀ o, (h4.push o)[h3.size]? = _ := fun o => push_at hr4
          have hcd := hcb _ (List.getElem_mem hdl)
          simp -dsimp [hb104, hdn]
          refine drawn_by [⟨0, true, []⟩, ⟨1, true, []⟩, ⟨2, true, []⟩, ⟨3, true, []⟩, ⟨4, true, []⟩, ⟨5, true, []⟩, ⟨6, true, []⟩, ⟨7, true, []⟩, ⟨8, false, [0, 1]⟩, ⟨9, false, [0, 1]⟩, ⟨10, false, []⟩, ⟨11, true, []⟩, ⟨12, false, []⟩] (by kernel_rfl) (by kernel_rfl) ?_
          simp -dsimp [hb104, hr4, hcc, idxV_nat hdn, elSz_eq]
          refine call_by (within1_spec (div5 k d) cl[d] (by omega) (by omega) h4) ?_
          rintro _ h4' ⟨rfl, hh⟩
          subst h4'
          simp -dsimp [hr4, hr4p, again_cons]
          have hlk : ((keyM cl k).take d).length = d := by rw [List.length_take, hkl4]; omega
          refine gr_app1 rfl intT g4 t4.lt rfl rfl (by omega) (by omega) ?_
          intro v5 h5 own5 g5 t5 k5 ho5
          have hr5 := k5.at hr4 (fun e => by have := ho4 _ e; omega)
          have ho5' : ∀ b, own5 = some b → h3.size + 1 ≤ b := fun b e => (ho5 _ e).elim (ho4 b) (by have := lt_of_blk hr4; omega)
          obtain ⟨va5, vn5, vc5, ev5, _⟩ := g5.vals
          subst ev5
          simp -dsimp [hr5, wd]
          refine ⟨(d + 1, .slice va5 vn5 vc5), by simp [div5], rfl, ⟨_, own5, (t4.trans t5).set _ (.inl hM4), .inl hM4, ho5', by omega, set_same _ (lt_of_blk hr5), ?_⟩, by simp; omega⟩
          have : (keyM cl k).take (d + 1) = (keyM cl k).take d ++ [withinM (div5 k d) cl[d]] := by
            rw [List.take_add_one, List.getElem?_eq_getElem (by omega)]
            simp [keyM]
          rw [this]
          exact g5.set _ (.inl hM4) (fun e => by have := ho5' _ e; omega)
        · have hdn : ¬ d < vn := by omega
          simp -dsimp [hb104, hdn]
          exact ⟨rfl, (d, .slice va4 vn4 vc4), by simp, rfl, ⟨M4, own4, t4, hM4, ho4, hd, hr4, g4⟩, by show d = _; omega⟩
      rintro ⟨d, v⟩ h4 g ⟨M4, own4, t4, hM4, ho4, hd, hr4, g4⟩ hdl
      simp only at hd hr4 g4 hdl
      subst hdl
      rw [List.take_of_length_le (by omega)] at g4
      have t4' : Tr none_ (fun b => b = h3.size) h3 h4 := t4.less fun b hb => hb ▸ hM4
      have sk : SlRep rInt (Ft h3.size (fun b => b = h3.size) h4) h4 v (keyM cl k) := g4.grow.ints.mono fun b hb => ⟨⟨⟨by have := ho4 b hb; omega, fun _ => g4.grow.thaw b hb⟩, g4.own_lt b hb, by have := ho4 b hb; omega⟩, rfl⟩
      obtain ⟨va4, vc4, ev4, _, _⟩ := sk.val
      subst ev4
      simp -dsimp
      have hml : ((rowM cl mm k).m).length = mm := by simp [rowM]
      refine loopc (σ := Nat × Value) (fun t => [(3, .slice a1 ns.length c1), (8, .pointer (some ⟨h.size, 0, none⟩)), (10, .pointer (some ⟨h.size + 1, 0, none⟩)), (13, .slice va3 vn3 vc3), (14, .int .i64 i), (15, .int .i64 (div5 k cl.length)), (16, .pointer (some ⟨h3.size, 0, none⟩)), (18, .int .i64 t.1)])
        (fun t h5 => ∃ M own, Tr (fun b => b = h3.size) M h4 h5 ∧ M h3.size ∧ (∀ b, own = some b → h3.size + 1 ≤ b) ∧ t.1 ≤ mm ∧ h5[h3.size]? = some (.cells #[.slice va4 (keyM cl k).length vc4, t.2] 62 (0, 0)) ∧ Gr rInt 3 h3.size M h5 t.2 ((rowM cl mm k).m.take t.1) own)
        (fun t => mm - t.1) (0, .slice none 0 0) 6 (fun t _ => t.1 = mm) noRet noRet_le (by simp) ⟨_, none, t4'.here, rfl, (fun _ h => by cases h), Nat.zero_le _, hr4, .nil _ _ _ _ _⟩ (by kernel_rfl) ?_ ?_
      case refine_1 =>
        rintro ⟨j, v⟩ h5 g ⟨M5, own5, t5, hM5, ho5, hj, hr5, g5⟩
        simp only at hj hr5 g5
        have wj := wrap_succ (k := j) (by omega)
        obtain ⟨va5, vn5, vc5, ev5, hvn5⟩ := g5.vals
        subst ev5
        have hb105 := (t4'.trans t5).at hb103 (fun h => h)
        by_cases hjl : j < mm
        · have hr5p : ∀ o, (h5.push o)[h3.size]? = _ := fun o => push_at hr5
          simp -dsimp [hb105, hjl]
          refine drawn_by [⟨0, true, []⟩, ⟨1, true, []⟩, ⟨2, true, []⟩, ⟨3, true, []⟩, ⟨4, true, []⟩, ⟨5, true, []⟩, ⟨6, false, [0, 1]⟩, ⟨7, true, []⟩, ⟨8, false, [0, 1]⟩, ⟨9, false, []⟩, ⟨10, true, []⟩, ⟨11, false, []⟩] (by kernel_rfl) (by kernel_rfl) ?_
          simp -dsimp [hr5]
          refine call_by (within1_spec _ 201 (by omega) (by omega) h5) ?_
          rintro _ h5' ⟨rfl, hh⟩
          subst h5'
          simp -dsimp [hr5, hr5p, again_cons]
          have hlk : ((rowM cl mm k).m.take j).length = j := by rw [List.length_take, hml]; omega
          refine gr_app1 rfl intT g5 t5.lt rfl rfl (by omega) (by omega) ?_
          intro v6 h6 own6 g6 t6 k6 ho6
          have hr6 := k6.at hr5 (fun e => by have := ho5 _ e; omega)
          have ho6' : ∀ b, own6 = some b → h3.size + 1 ≤ b := fun b e => (ho6 _ e).elim (ho5 b) (by have := lt_of_blk hr5; omega)
          obtain ⟨va6, vn6, vc6, ev6, _⟩ := g6.vals
          subst ev6
          simp -dsimp [hr6, wj]
          refine ⟨(j + 1, .slice va6 vn6 vc6), by simp, rfl, ⟨_, own6, (t5.trans t6).set _ (.inl hM5), .inl hM5, ho6', by omega, set_same _ (lt_of_blk hr6), ?_⟩, by simp; omega⟩
          have : (rowM cl mm k).m.take (j + 1) = (rowM cl mm k).m.take j ++ [IntKind.i64.wrap (withinM (IntKind.i64.wrap (div5 k cl.length + IntKind.i64.wrap (7 * (j : Int)))) 201 - 100)] := by
            rw [List.take_add_one, List.getElem?_eq_getElem (by omega)]
            simp [rowM]
          rw [this]
          exact g6.set _ (.inl hM5) (fun e => by have := ho6' _ e; omega)
        · simp -dsimp [hb105, hjl]
          exact ⟨rfl, (j, .slice va5 vn5 vc5), by simp, rfl, ⟨M5, own5, t5, hM5, ho5, hj, hr5, g5⟩, by show j = _; omega⟩
      rintro ⟨j, v⟩ h5 g ⟨M5, own5, t5, hM5, ho5, hj, hr5, g5⟩ hjl
      simp only at hj hr5 g5 hjl
      subst hjl
      rw [List.take_of_length_le (by omega)] at g5
      obtain ⟨va5, vn5, vc5, ev5, hvn5⟩ := g5.vals
      subst ev5
      have t45 := t4'.trans t5
      simp -dsimp [hr5]
      have sk5 := (sk.mono (t5.ft (Nat.le_refl _))).mono (Ft.free (n' := h3.size) (Nat.le_refl _))
      have sm5 := g5.rep (n' := h3.size) (Nat.le_refl _) fun b hb => by have := ho5 b hb; omega
      have hg3 := g3.call t45.keep
      have hlr3 : ((ns.take i).map (rowM cl j)).length = i := by rw [List.length_map, List.length_take]; omega
      refine gr_app1 rfl rowT hg3 (t3.call t45.keep).lt (x := rowM cl j k) (c := [.slice va4 (keyM cl k).length vc4, .slice va5 vn5 vc5]) ?_ rfl (by omega) (by omega) ?_
      · exact ⟨_, _, rfl, sk5.mono (t3.ret t23.size), sm5.mono (t3.ret t23.size)⟩
      intro v6 h6 own6 g6 t6 k6 ho6
      obtain ⟨va6, vn6, vc6, ev6, _⟩ := g6.vals
      subst ev6
      have hz5 := t45.at hz3 (fun h => h)
      have hz6 := k6.at hz5 (fun e => by have := ho3 _ e; omega)
      simp -dsimp [wi]
      have hs3 := t45.size
      have hs23 := t23.size
      have hlz := lt_of_blk hz3
      refine ⟨(i + 1, .slice va6 vn6 vc6), by simp, rfl, ⟨_, own6, (t3.call t45.keep).trans t6, .inl hM3, fun b e => (ho6 _ e).elim (ho3 b) (by omega), ⟨by omega, by omega⟩, hz6, ?_⟩, by simp; omega⟩
      have : (ns.take (i + 1)).map (rowM cl j) = (ns.take i).map (rowM cl j) ++ [rowM cl j k] := by
        rw [List.take_add_one, List.getElem?_eq_getElem hin1, Option.toList_some, List.map_append, List.map_singleton, ek]
      rw [this]
      exact g6
end Go.Proofs

/-
  Numbers as bytes, plainly.
-/
namespace Go.HC
def byteM (x : Int) : UInt8 := UInt8.ofNat (x % 256).toNat
theorem byteM_nat (x : Int) : ((byteM x).toNat : Int) = x % 256 := by
  unfold byteM
  rw [UInt8.toNat_ofNat_of_lt' (by show (x % 256).toNat < 256; omega)]
  omega
theorem wrap_byte (x : Int) : IntKind.u8.wrap x = ((byteM x).toNat : Int) := by rw [byteM_nat]; rfl
theorem byteM_small {x : Int} (h0 : 0 ≤ x) (h : x < 256) : ((byteM x).toNat : Int) = x := by rw [byteM_nat]; omega
theorem wrap_eq (x : Int) : IntKind.i64.wrap x = if x % 18446744073709551616 < 9223372036854775808 then x % 18446744073709551616 else x % 18446744073709551616 - 18446744073709551616 := by
  have h : IntKind.i64.wrap x = (if (true && decide (x % 18446744073709551616 ≥ 9223372036854775808)) = true then x % 18446744073709551616 - 18446744073709551616 else x % 18446744073709551616) := rfl
  rw [h]
  by_cases hh : x % 18446744073709551616 < 9223372036854775808
  · rw [if_pos hh, if_neg (by simp; omega)]
  · rw [if_neg hh, if_pos (by simp; omega)]
theorem wrap_mod {x y : Int} (h : x % 18446744073709551616 = y % 18446744073709551616) : IntKind.i64.wrap x = IntKind.i64.wrap y := by rw [wrap_eq, wrap_eq, h]
theorem wrap_mod_self (x : Int) : IntKind.i64.wrap x % 18446744073709551616 = x % 18446744073709551616 := by
  rw [wrap_eq]
  split <;> omega
/-- A number, shifted by a byte, and a byte. -/
theorem shl_or (n : Int) {c : Nat} (hc : c < 256) : IntKind.i64.wrap ((BitVec.ofInt 64 (IntKind.i64.wrap (n * 256)) ||| BitVec.ofInt 64 (c : Int)).toNat) = IntKind.i64.wrap (n * 256 + c) := by
  have e1 : (BitVec.ofInt 64 (IntKind.i64.wrap (n * 256))).toNat = 2 ^ 8 * ((n % 72057594037927936).toNat) := by
    rw [BitVec.toNat_ofInt]
    show (IntKind.i64.wrap (n * 256) % 18446744073709551616).toNat = _
    rw [wrap_mod_self]
    have : n * 256 % 18446744073709551616 = 256 * (n % 72057594037927936) := by omega
    rw [this]
    omega
  have e2 : (BitVec.ofInt 64 (c : Int)).toNat = c := by
    rw [BitVec.toNat_ofInt]
    show ((c : Int) % 18446744073709551616).toNat = c
    omega
  rw [BitVec.toNat_or, e1, e2, ← Nat.two_pow_add_eq_or_of_lt (i := 8) (by omega)]
  apply wrap_mod
  omega
def w2 (n : Int) : List UInt8 := [byteM (n.fdiv 256), byteM n]
def w8 (n : Int) : List UInt8 := (List.range 8).map fun i => byteM (n.fdiv (2 ^ (56 - 8 * i)))
theorem w8_len (n : Int) : (w8 n).length = 8 := by simp [w8]
def backM (b : List UInt8) : Int := b.foldl (fun n c => IntKind.i64.wrap (n * 256 + (c.toNat : Int))) 0
theorem back2 {n : Int} (h0 : 0 ≤ n) (h : n < 65536) : backM (w2 n) = n := by
  unfold backM w2
  simp only [List.foldl_cons, List.foldl_nil, byteM_nat]
  rw [Int.fdiv_eq_ediv_of_nonneg _ (by decide)]
  rw [wrap_i64 (x := 0 * 256 + n / 256 % 256) (by omega) (by omega), wrap_i64 (by omega) (by omega)]
  omega
theorem back8 {n : Int} (h0 : -9223372036854775808 ≤ n) (h : n < 9223372036854775808) : backM (w8 n) = n := by
  have e : w8 n = [byteM (n / 72057594037927936), byteM (n / 281474976710656), byteM (n / 1099511627776), byteM (n / 4294967296), byteM (n / 16777216), byteM (n / 65536), byteM (n / 256), byteM n] := by
    unfold w8
    simp only [List.range, List.range.loop, List.map_cons, List.map_nil]
    simp only [Int.fdiv_eq_ediv_of_nonneg _ (show (0 : Int) ≤ 2 ^ (56 - 8 * 0) by decide), Int.fdiv_eq_ediv_of_nonneg _ (show (0 : Int) ≤ 2 ^ (56 - 8 * 1) by decide), Int.fdiv_eq_ediv_of_nonneg _ (show (0 : Int) ≤ 2 ^ (56 - 8 * 2) by decide), Int.fdiv_eq_ediv_of_nonneg _ (show (0 : Int) ≤ 2 ^ (56 - 8 * 3) by decide), Int.fdiv_eq_ediv_of_nonneg _ (show (0 : Int) ≤ 2 ^ (56 - 8 * 4) by decide), Int.fdiv_eq_ediv_of_nonneg _ (show (0 : Int) ≤ 2 ^ (56 - 8 * 5) by decide), Int.fdiv_eq_ediv_of_nonneg _ (show (0 : Int) ≤ 2 ^ (56 - 8 * 6) by decide), Int.fdiv_eq_ediv_of_nonneg _ (show (0 : Int) ≤ 2 ^ (56 - 8 * 7) by decide)]
    rw [show (2 : Int) ^ (56 - 8 * 0) = 72057594037927936 from rfl, show (2 : Int) ^ (56 - 8 * 1) = 281474976710656 from rfl, show (2 : Int) ^ (56 - 8 * 2) = 1099511627776 from rfl, show (2 : Int) ^ (56 - 8 * 3) = 4294967296 from rfl, show (2 : Int) ^ (56 - 8 * 4) = 16777216 from rfl, show (2 : Int) ^ (56 - 8 * 5) = 65536 from rfl, show (2 : Int) ^ (56 - 8 * 6) = 256 from rfl, show (2 : Int) ^ (56 - 8 * 7) = 1 from rfl, Int.ediv_one]
  rw [e]
  unfold backM
  simp only [List.foldl_cons, List.foldl_nil, byteM_nat]
  rw [wrap_i64 (x := 0 * 256 + n / 72057594037927936 % 256) (by omega) (by omega)]
  rw [wrap_i64 (x := (0 * 256 + n / 72057594037927936 % 256) * 256 + n / 281474976710656 % 256) (by omega) (by omega)]
  rw [wrap_i64 (x := ((0 * 256 + n / 72057594037927936 % 256) * 256 + n / 281474976710656 % 256) * 256 + n / 1099511627776 % 256) (by omega) (by omega)]
  rw [wrap_i64 (x := (((0 * 256 + n / 72057594037927936 % 256) * 256 + n / 281474976710656 % 256) * 256 + n / 1099511627776 % 256) * 256 + n / 4294967296 % 256) (by omega) (by omega)]
  rw [wrap_i64 (x := ((((0 * 256 + n / 72057594037927936 % 256) * 256 + n / 281474976710656 % 256) * 256 + n / 1099511627776 % 256) * 256 + n / 4294967296 % 256) * 256 + n / 16777216 % 256) (by omega) (by omega)]
  rw [wrap_i64 (x := (((((0 * 256 + n / 72057594037927936 % 256) * 256 + n / 281474976710656 % 256) * 256 + n / 1099511627776 % 256) * 256 + n / 4294967296 % 256) * 256 + n / 16777216 % 256) * 256 + n / 65536 % 256) (by omega) (by omega)]
  rw [wrap_i64 (x := ((((((0 * 256 + n / 72057594037927936 % 256) * 256 + n / 281474976710656 % 256) * 256 + n / 1099511627776 % 256) * 256 + n / 4294967296 % 256) * 256 + n / 16777216 % 256) * 256 + n / 65536 % 256) * 256 + n / 256 % 256) (by omega) (by omega)]
  rw [wrap_eq]
  split <;> omega
/-- Facts as bytes. -/
def encF (s : SchM) (rows : List RowM) : List UInt8 :=
  [67, 85, 66, 49] ++ [byteM s.cards.length] ++ s.cards.map byteM ++ [byteM s.ms] ++ w2 rows.length ++ rows.flatMap fun r => r.key.map byteM ++ r.m.flatMap w8
/-- Cells as bytes. -/
def encC (set : Int) (l : List CellM) : List UInt8 :=
  [byteM set] ++ w2 l.length ++ l.flatMap fun c => c.key.map byteM ++ w2 c.count ++ (List.range c.sum.length).flatMap fun k => w8 (c.sum.getD k 0) ++ w8 (c.mn.getD k 0) ++ w8 (c.mx.getD k 0)
end Go.HC

/-
  The document's numbers as bytes.
-/
namespace Go.Proofs
open Go Go.HC

set_option maxRecDepth 10000 in
theorem rtwo1_spec (n : Int) (h : Heap) : CallH Tryz.prog 74 #[.int .i64 n] h fun r h' => (∃ a c, r = .slice a 2 c) ∧ SlRep rByte (Ft h.size none_ h') h' r (w2 n) ∧ Keep none_ h h' := by
  refine callH_by fun K hK => ?_
  refine enter [.tmp 2] Tryz.func74 rfl rfl (by kernel_rfl) rfl ?_
  have e : n.fdiv (2 ^ 8) = n.fdiv 256 := rfl
  simp -dsimp [wrap_byte]
  generalize hB : Array.push h _ = h1
  have w1 : h1[h.size]? = some (.cells #[.int .u8 (byteM (n.fdiv 256)).toNat, .int .u8 (byteM n).toNat] 5 (0, 0)) := by rw [← hB]; exact push_new _ _
  refine hK _ _ ⟨⟨_, _, rfl⟩, ⟨_, 2, _, rfl, Nat.le_refl _, by decide, .inr ⟨h.size, 0, _, _, _, rfl, ⟨⟨Nat.le_refl _, fun _ => .is w1⟩, lt_of_blk w1, fun h => h⟩, w1, rfl⟩, bytes_map.2 rfl⟩, by rw [← hB]; exact .push _ _ _⟩

set_option maxHeartbeats 4000000 in
set_option maxRecDepth 10000 in
theorem reight_spec (n : Int) (h : Heap) : CallH Tryz.prog 75 #[.int .i64 n] h fun r h' => (∃ a c, r = .slice a 8 c) ∧ SlRep rByte (Ft h.size none_ h') h' r (w8 n) ∧ Keep none_ h h' := by
  refine callH_by fun K hK => ?_
  refine enter [.tmp 2] Tryz.func75 rfl rfl (by kernel_rfl) rfl ?_
  have hwl := w8_len n
  simp -dsimp
  refine loopc (σ := Nat × Value) (fun t => [(0, .int .i64 n), (3, t.2), (4, .int .i64 t.1)])
    (fun t h1 => t.1 ≤ 8 ∧ ∃ M own, Tr none_ M h h1 ∧ Gr rByte 5 h.size M h1 t.2 ((w8 n).take t.1) own) (fun t => 8 - t.1) (0, .slice none 0 0) 0 (fun t _ => t.1 = 8) noRet noRet_le (by simp)
    ⟨Nat.zero_le _, none_, none, .start _, .nil _ _ _ _ _⟩ (by kernel_rfl) ?_ ?_
  · rintro ⟨i, v⟩ h1 g ⟨hi, M, own, t1, g1⟩
    simp only at hi g1
    have wi := wrap_succ (k := i) (by omega)
    by_cases hil : i < 8
    · have e1 : decide ((i : Int) < 8) = true := decide_eq_true (by omega)
      have e2 : IntKind.i64.wrap (56 - IntKind.i64.wrap (8 * (i : Int))) = ((56 - 8 * i : Nat) : Int) := by
        rw [wrap_i64 (x := 8 * (i : Int)) (by omega) (by omega), wrap_i64 (by omega) (by omega)]; omega
      have e3 : (w8 n).take (i + 1) = (w8 n).take i ++ [byteM (n.fdiv (2 ^ (56 - 8 * i)))] := by
        rw [List.take_add_one, List.getElem?_eq_getElem (by omega), Option.toList_some]
        simp [w8]
      have hl : ((w8 n).take i).length = i := by rw [List.length_take]; omega
      simp -dsimp [e1, e2, shr_bit (show 56 - 8 * i < 64 by omega), wrap_byte]
      refine gr_app1 (x := byteM (n.fdiv (2 ^ (56 - 8 * i)))) rfl byteT g1 t1.lt rfl rfl (by omega) (by omega) ?_
      intro v5 h5 own5 g5 t5 k5 ho5
      simp -dsimp [wi]
      exact ⟨(i + 1, v5), by simp, rfl, ⟨by show i + 1 ≤ 8; omega, _, own5, t1.trans t5, by show Gr rByte _ _ _ h5 v5 ((w8 n).take (i + 1)) own5; rw [e3]; exact g5⟩, by show 8 - (i + 1) < 8 - i; omega⟩
    · have e1 : decide ((i : Int) < 8) = false := decide_eq_false (by omega)
      simp -dsimp [e1]
      exact ⟨rfl, (i, v), by simp, rfl, ⟨hi, M, own, t1, g1⟩, by show i = 8; omega⟩
  · rintro ⟨i, v⟩ h1 g ⟨hi, M, own, t1, g1⟩ hil
    simp only at hi g1 hil
    subst hil
    rw [List.take_of_length_le (by omega)] at g1
    obtain ⟨a, c, rfl⟩ := g1.val
    rw [hwl] at g1 ⊢
    simp -dsimp
    exact hK _ _ ⟨⟨_, _, rfl⟩, g1.rep (Nat.le_refl _) (fun b hb => t1.fresh b (g1.mu b hb)), t1.keep⟩
end Go.Proofs

/-
  HC, part 27: append of a make; copy; a function of the model's own that is called.
-/
namespace Go.HC
section
variable {P : Program} {h : Heap} {K : Value → Heap → Prop} {ty : TypeId}
theorem hp_asIntOf (k : IntKind) (i : Int) (K' : IntKind × Int → Heap → Prop) : hp P (asIntOf (.int k i)) K' h = K' (k, i) h := _root_.id rfl
/-- 'append(s, make([]T, m)...)' where there is no room. -/
theorem append_make {T iT e s by_ n c m : Nat} {z : Value} {cs : Array Bool} {F : Nat → Prop} {a : Option Addr} {old : List Value} {k : IntKind}
    (hT : elS P T = some e) (hi : P.underlying iT = some (.int k)) (hs : szS P e = some s) (hby : byS P e = some by_) (hz : zS P e = some z)
    (hold : old.length = n * s) (hro : Cells F h a old) (hm : m < 4611686018427387904) (hbig : (n + m) * by_ ≤ 140737488355328) (h63 : n + m < 9223372036854775808) (hms : m * s ≠ 0) (hc : c < n + m)
    (hk : ∀ cap, n + m ≤ cap → cap < 9223372036854775808 → K (.slice (some ⟨h.size, 0, none⟩) (n + m) cap) (h.push (.cells (old.toArray ++ Builtin.zeroCells z.cells m ++ Builtin.zeroCells z.cells (cap - (n + m))) e))) :
    builtinS P .append #[T, iT] ty cs #[.slice a n c, .int .i64 m] h K := by
  have hu := elS_spec hT
  unfold builtinS builtin Builtin.append_
  have hby' : ∃ i, P.info? e = some i ∧ i.bytes = by_ := by
    unfold byS at hby
    cases hi : P.info? e with
    | none => simp [hi] at hby
    | some i => simp [hi] at hby; exact ⟨i, rfl, hby⟩
  obtain ⟨i, hi', rfl⟩ := hby'
  have hmb : m * i.bytes ≤ 140737488355328 := Nat.le_trans (Nat.mul_le_mul_right _ (Nat.le_add_left m n)) hbig
  have hw : IntKind.i64.wrap (m : Int) = m := wrap_i64 (by omega) (by omega)
  have hl1 : ¬ ((m : Int) < 0) := by omega
  have e48 : (2 : Int) ^ 48 = 281474976710656 := by decide
  have hl2 : ¬ ((m : Int) * (i.bytes : Int) > 2 ^ 48) := by
    rw [e48, ← Int.natCast_mul]
    generalize m * i.bytes = q at hmb
    omega
  simp only [hp_bind, hp_underlying, hu, hi, hp_sizeOf, hs, hp_pure, List.getElem?_toArray, List.getElem?_cons_zero, List.getElem?_cons_succ, if_true, Bool.not_true, asInt, hp_asIntOf, hw, hp_ite, if_neg hl1, hp_typeInfo, hi', if_neg hl2, Int.toNat_natCast]
  have hroom : ¬ (n + m ≤ c) := by omega
  rw [if_neg hroom]
  have hcap := growslice_fits (old := c) (need := n + m) (bytes := i.bytes) (by omega) hbig
  have hmax : IntKind.i64.max = 9223372036854775807 := by decide
  rw [if_neg (by rw [hmax]; intro hh; have := hh.1; omega)]
  rw [if_neg (by omega)]
  simp only [hp_choose, Question.forced, Bool.false_eq_true, if_false, Question.cut]
  intro t
  have hge : n + m ≤ n + m + t % (2 ^ 63 - (n + m)) := Nat.le_add_right _ _
  have hlt : n + m + t % (2 ^ 63 - (n + m)) < 9223372036854775808 := by
    have := Nat.mod_lt t (show 0 < 2 ^ 63 - (n + m) by omega)
    omega
  have hk' := hk _ hge hlt
  simp only [hp_askRoom, hp_firstCells (n := n) (c := c) hro hold, if_neg hms, hp_zeroValue, hz, hp_bind, newRow, hp_newObj, hp_pure, nextK]
  exact hk'
/-- 'copy(dst, src)'. -/
theorem copy_cells {T e s dn dc m c2 bk off k : Nat} {cs : Array Bool} {F : Nat → Prop} {b : Option Addr} {news : List Value} {T2 : TypeId}
    (hT : elS P T = some e) (hs : szS P e = some s) (hnew : news.length = m * s) (hrn : Cells F h b news) (hk : k = Nat.min m dn) (hks : k * s ≠ 0) {o : Obj} (hw : writeIn h[bk]? off (news.take (k * s)) = some o)
    (hK : K (.int .i64 k) (h.setIfInBounds bk o)) :
    builtinS P .copy #[T, T2] ty cs #[.slice (some ⟨bk, off, none⟩) dn dc, .slice b m c2] h K := by
  have hu := elS_spec hT
  unfold builtinS builtin Builtin.copy_
  have hkm : k ≤ m := by rw [hk]; exact Nat.min_le_left _ _
  have hlen : (news.take (k * s)).length = k * s := by
    rw [List.length_take, hnew]
    exact Nat.min_eq_left (Nat.mul_le_mul_right _ hkm)
  have hne : (news.take (k * s)).toArray.toList ≠ [] := by
    intro e0
    have : (news.take (k * s)) = [] := e0
    rw [this] at hlen
    exact hks hlen.symm
  simp only [hp_bind, hp_underlying, hu, hp_sizeOf, hs, hp_pure, Builtin.lenOf, List.getElem?_toArray, List.getElem?_cons_zero, List.getElem?_cons_succ]
  rw [← hk]
  rw [hp_firstCells (n := m) (c := c2) (hrn.take (k * s)) hlen]
  rw [hp_storeCells _ _ _ _ _ _ hne, Nat.add_zero]
  have e0 : (news.take (k * s)).toArray.toList = news.take (k * s) := rfl
  rw [e0, hw]
  exact hK
theorem sliceS_from {T : TypeId} {a : Option Addr} {n c i : Nat} {k : IntKind} (hT : ((elS P T).bind (szS P)).isSome = true) (h1 : i ≤ n) (h2 : n ≤ c) :
    sliceS P T (.slice a n c) (some (.int k (i : Int))) none none h K = K (.slice (piece a i c (((elS P T).bind (szS P)).getD 0)) (n - i) (c - i)) h := by
  obtain ⟨e, s, he, hs⟩ : ∃ e s, elS P T = some e ∧ szS P e = some s := by
    cases he : elS P T with
    | none => rw [he] at hT; cases hT
    | some e =>
      cases hs : szS P e with
      | none => rw [he] at hT; simp [hs] at hT
      | some s => exact ⟨e, s, rfl, hs⟩
  rw [sliceS_slice he hs (.inl ⟨rfl, rfl⟩) (.inl ⟨rfl, rfl⟩) (.inr ⟨k, rfl⟩) h1 h2 (Nat.le_refl _), he, Option.bind_some, hs]
  rfl
theorem sliceS_to {T : TypeId} {a : Option Addr} {n c j : Nat} {k : IntKind} (hT : ((elS P T).bind (szS P)).isSome = true) (h1 : j ≤ c) :
    sliceS P T (.slice a n c) none (some (.int k (j : Int))) none h K = K (.slice (piece a 0 c (((elS P T).bind (szS P)).getD 0)) j c) h := by
  obtain ⟨e, s, he, hs⟩ : ∃ e s, elS P T = some e ∧ szS P e = some s := by
    cases he : elS P T with
    | none => rw [he] at hT; cases hT
    | some e =>
      cases hs : szS P e with
      | none => rw [he] at hT; simp [hs] at hT
      | some s => exact ⟨e, s, rfl, hs⟩
  rw [sliceS_slice he hs (.inl ⟨rfl, rfl⟩) (.inr ⟨k, rfl⟩) (.inl ⟨rfl, rfl⟩) (Nat.zero_le j) h1 (Nat.le_refl _), he, Option.bind_some, hs]
  rfl
theorem piece_mk {bk off i m s : Nat} (h : m ≠ i) : piece (some ⟨bk, off, none⟩) i m s = some ⟨bk, off + i * s, none⟩ := by
  unfold piece; rw [if_neg h, offs_mk]
theorem piece_zero {bk off m s : Nat} : piece (some ⟨bk, off, none⟩) 0 m s = some ⟨bk, off, none⟩ := by
  unfold piece; split
  · rfl
  · rw [offs_mk]; simp
theorem cap_slice (T : TypeId) (cs : Array Bool) (a : Option Addr) (n c : Nat) (he : (elS P T).isSome = true) : builtinS P .cap #[T] ty cs #[.slice a n c] h K = K (.int .i64 c) h := by
  obtain ⟨e, he⟩ := Option.isSome_iff_exists.1 he
  have hu := elS_spec he
  unfold builtinS builtin Builtin.cap_
  simp [hu, nextK, goInt]
theorem callS_extern {f : FuncId} {fn : Func} {e : Array Value → Sem Value} (hf : P.funcs[f]? = some fn) (hname : (fn.name == "runtime.NumGoroutine") = false) (hb : fn.body.isNone = true) (hn : Extern.findNext fn = none) (he : Extern.find fn = some e) (args : Array Value)
    (hK : hp P (e args) (fun v h => K v h) h) : callS P (.func (.func f) #[] #[]) args h K := by
  have h1 : fn.name ≠ "runtime.NumGoroutine" := by simpa using hname
  have h2 : fn.body = none := by simpa using hb
  show callV P _ _ _ _
  unfold callV
  simp only [Deferred.ofValue, hp_bind, hp_pure, invoke]
  rw [show #[] ++ args ++ #[] = args by simp]
  show hp P (callFunc f args) _ h
  unfold callFunc
  simp only [hp_bind, hp_program, hf, hname, hb, hn, he, Bool.false_eq_true, if_false, if_true, hp_mark, hp_pure]
  exact hK
end
end Go.HC

/-
  Keys held against each other by the library; a binary search among cells.
-/
namespace Go.HC
theorem posC_is {l : List CellM} {key : List Int} {i : Nat} (hi : i ≤ l.length) (h1 : ∀ (k : Nat) (hk : k < l.length), k < i → lessM l[k].key key < 0) (h2 : ∀ hk : i < l.length, ¬ lessM l[i].key key < 0) : posC l key = i := by
  have hp := posC_le l key
  rcases Nat.lt_trichotomy (posC l key) i with h | h | h
  · exact absurd (h1 _ (by omega) h) (posC_at (by omega))
  · exact h
  · exact absurd (posC_lt (l := l) (by omega) h) (h2 (by omega))
theorem Srt.get {l : List CellM} (hs : Srt l) {i j : Nat} (hi : i < l.length) (hj : j < l.length) (h : i < j) : lessM l[i].key l[j].key < 0 := List.pairwise_iff_getElem.1 hs i j hi hj h
theorem mid_op {i j : Nat} (hi : i < 4611686018427387904) (hj : j < 4611686018427387904) : intRes .shr .u64 (IntKind.u64.wrap (IntKind.i64.wrap ((i : Int) + (j : Int)))) 1 = some (.int .u64 (((i + j) / 2 : Nat) : Int)) := by
  have h0 : IntKind.i64.wrap ((i : Int) + (j : Int)) = (i : Int) + (j : Int) := by rw [wrap_i64 (by omega) (by omega)]
  have h1 : IntKind.u64.wrap ((i : Int) + (j : Int)) = (i : Int) + (j : Int) := by simp [IntKind.wrap, IntKind.bits, IntKind.signed]; omega
  rw [h0, h1, intRes_shr _ _ _ (by decide)]
  have h2 : (2 : Int) ^ min (1 : Int).toNat IntKind.u64.bits = 2 := by decide
  rw [h2]
  congr 2
  rw [Int.fdiv_eq_ediv_of_nonneg _ (by decide)]
  omega
theorem mid_back {k : Nat} (hk : k < 4611686018427387904) : IntKind.i64.wrap (k : Int) = k := wrap_i64 (by omega) (by omega)
end Go.HC
namespace Go.Proofs
open Go Go.HC

set_option maxRecDepth 10000 in
theorem isNaN_spec (x : Int) (h : Heap) : CallH Tryz.prog 143 #[.int .i64 x] h fun r h' => r = .bool false ∧ h' = h := by
  refine enter [.tmp 2] Tryz.func143 rfl rfl (by kernel_rfl) rfl ?_
  simp -dsimp
set_option maxRecDepth 10000 in
theorem cmpInt_spec (x y : Int) (h : Heap) : CallH Tryz.prog 119 #[.int .i64 x, .int .i64 y] h fun r h' => r = .int .i64 (if x < y then -1 else if y < x then 1 else 0) ∧ h' = h := by
  refine callH_by fun K hK => ?_
  refine enter [.tmp 4] Tryz.func119 rfl rfl (by kernel_rfl) rfl ?_
  simp -dsimp
  refine call_by (isNaN_spec x h) ?_
  rintro _ h1 ⟨rfl, hh⟩
  subst h1
  simp -dsimp
  refine call_by (isNaN_spec y h) ?_
  rintro _ h1 ⟨rfl, hh⟩
  subst h1
  simp -dsimp
  by_cases h1 : x < y
  · simp -dsimp [h1]
    exact hK _ _ ⟨by simp [h1], rfl⟩
  · by_cases h2 : y < x
    · simp -dsimp [h1, h2]
      exact hK _ _ ⟨by simp [h1, h2], rfl⟩
    · simp -dsimp [h1, h2]
      exact hK _ _ ⟨by simp [h1, h2], rfl⟩

set_option maxHeartbeats 4000000 in
set_option maxRecDepth 10000 in
theorem compare_spec {F G : Nat → Prop} {h : Heap} {av bv : Value} {xs ys : List Int} (ha : SlRep rInt F h av xs) (hb : SlRep rInt G h bv ys) :
    CallH Tryz.prog 129 #[av, bv] h fun r h' => r = .int .i64 (lessM xs ys) ∧ h' = h := by
  refine callH_by fun K hK => ?_
  refine enter [.tmp 4] Tryz.func129 rfl rfl (by kernel_rfl) rfl ?_
  obtain ⟨a0, c0, rfl, hc0, hc0'⟩ := ha.val
  obtain ⟨a1, c1, rfl, hc1, hc1'⟩ := hb.val
  simp -dsimp
  refine loopc (σ := Nat) (fun k => [(0, .slice a0 xs.length c0), (1, .slice a1 ys.length c1), (9, .slice a0 xs.length c0), (10, .int .i64 xs.length), (11, .int .i64 k)])
    (fun k h' => h' = h ∧ k ≤ xs.length ∧ k ≤ ys.length ∧ lessM xs ys = lessM (xs.drop k) (ys.drop k)) (fun k => xs.length - k) 0 0 (fun k _ => k = xs.length) (endR Tryz.prog [.tmp 4] K).rt (fun _ _ _ h => h) (by simp) ⟨rfl, Nat.zero_le _, Nat.zero_le _, rfl⟩ (by kernel_rfl) ?_ ?_
  · rintro k h1 g ⟨rfl, hk, hk', hpre⟩
    by_cases hx : k < xs.length
    · have wk := wrap_succ (k := k) (by omega)
      obtain ⟨b1, o1, e1, _, hc1⟩ := ha.int_at k hx
      rw [List.drop_eq_getElem_cons hx] at hpre
      by_cases hy : k < ys.length
      · obtain ⟨b2, o2, e2, _, hc2⟩ := hb.int_at k hy
        rw [List.drop_eq_getElem_cons hy, lessM] at hpre
        have hge : ¬ (ys.length ≤ k) := by omega
        simp -dsimp [hx, hge, e1, e2, idxA_nat hx, idxA_nat hy, hc1, hc2]
        refine call_by (cmpInt_spec xs[k] ys[k] h1) ?_
        rintro _ h2 ⟨rfl, hh⟩
        subst h2
        by_cases h1 : xs[k] < ys[k]
        · rw [if_pos h1] at hpre
          rw [if_pos h1]
          simp -dsimp
          exact hK _ _ ⟨by rw [hpre], rfl⟩
        · by_cases h2 : ys[k] < xs[k]
          · rw [if_neg h1, if_pos h2] at hpre
            rw [if_neg h1, if_pos h2]
            simp -dsimp
            exact hK _ _ ⟨by rw [hpre], rfl⟩
          · rw [if_neg h1, if_neg h2] at hpre
            rw [if_neg h1, if_neg h2]
            simp -dsimp [wk]
            exact ⟨k + 1, by simp [e1, e2], rfl, ⟨rfl, by omega, by omega, hpre⟩, by show xs.length - (k + 1) < xs.length - k; omega⟩
      · have hge : ys.length ≤ k := by omega
        rw [List.drop_of_length_le (l := ys) (by omega), lessM] at hpre
        simp -dsimp [hx, hge, e1, idxA_nat hx, hc1]
        exact hK _ _ ⟨by rw [hpre], rfl⟩
    · simp -dsimp [hx]
      exact ⟨rfl, k, by simp, rfl, ⟨rfl, hk, hk', hpre⟩, by omega⟩
  · rintro k h1 g ⟨rfl, hk, hk', hpre⟩ hkx
    have hkx' : k = xs.length := hkx
    rw [List.drop_of_length_le (l := xs) (by omega)] at hpre
    by_cases hl : xs.length < ys.length
    · rw [List.drop_eq_getElem_cons (l := ys) (by omega), lessM] at hpre
      simp -dsimp [hl]
      exact hK _ _ ⟨by rw [hpre], rfl⟩
    · rw [List.drop_of_length_le (l := ys) (by omega), lessM] at hpre
      simp -dsimp [hl]
      exact hK _ _ ⟨by rw [hpre], rfl⟩
set_option maxRecDepth 10000 in
theorem cless_spec {F G : Nat → Prop} {h : Heap} {av bv : Value} {xs ys : List Int} (ha : SlRep rInt F h av xs) (hb : SlRep rInt G h bv ys) :
    CallH Tryz.prog 94 #[av, bv] h fun r h' => r = .int .i64 (lessM xs ys) ∧ h' = h := by
  refine callH_by fun K hK => ?_
  refine enter [.tmp 4] Tryz.func94 rfl rfl (by kernel_rfl) rfl ?_
  simp -dsimp
  refine call_by (compare_spec ha hb) ?_
  rintro _ h1 ⟨rfl, hh⟩
  subst h1
  simp -dsimp
  exact hK _ _ ⟨rfl, rfl⟩
/-- A function that holds two cells against each other by their keys. -/
def CmpC (f : FuncId) : Prop := ∀ {h : Heap} {cs ds : List Value} {a b : CellM}, rCell.rep (Old h) h cs a → rCell.rep (Old h) h ds b →
  CallH Tryz.prog f #[.agg cs.toArray, .agg ds.toArray] h fun r h' => r = .int .i64 (lessM a.key b.key) ∧ Keep none_ h h'
set_option maxRecDepth 10000 in
theorem groupCmp : CmpC 93 := by
  intro h cs ds a b ha hb
  refine callH_by fun K hK => ?_
  refine enter [.tmp 4] Tryz.func93 rfl rfl (by kernel_rfl) rfl ?_
  obtain ⟨ka, kc, sa, sc, na, nc, xa, xc, rfl, r1, _⟩ := cell_open ha
  obtain ⟨ka', kc', sa', sc', na', nc', xa', xc', rfl, q1, _⟩ := cell_open hb
  simp -dsimp [boxS_eq]
  generalize hB : Array.push (Array.push h _) _ = h1
  have k1 : Keep none_ h h1 := by rw [← hB]; exact ((Keep.refl none_ h).pushed _).pushed _
  have hA : h1[h.size]? = some (.cells #[.slice ka a.key.length kc, .int .i64 a.count, .slice sa a.sum.length sc, .slice na a.mn.length nc, .slice xa a.mx.length xc] 65 (0, 0)) := by rw [← hB]; exact push_at (push_new _ _)
  have hB1 : h1[h.size + 1]? = some (.cells #[.slice ka' b.key.length kc', .int .i64 b.count, .slice sa' b.sum.length sc', .slice na' b.mn.length nc', .slice xa' b.mx.length xc'] 65 (0, 0)) := by rw [← hB]; exact push_get (by simp)
  simp -dsimp [hA, hB1]
  refine call_by (cless_spec (r1.mono ((Tr.of k1).ft (Nat.le_refl 0))) (q1.mono ((Tr.of k1).ft (Nat.le_refl 0)))) ?_
  rintro _ h2 ⟨rfl, hh⟩
  subst h2
  simp -dsimp
  exact hK _ _ ⟨rfl, k1⟩

set_option maxHeartbeats 4000000 in
set_option maxRecDepth 10000 in
theorem bsearch_spec {h : Heap} {v : Value} {cs : List Value} {l : List CellM} {c : CellM} {f : FuncId} (hf : FnOk Tryz.prog f) (hcmp : CmpC f) (hl : SlRep rCell (Old h) h v l) (hc : rCell.rep (Old h) h cs c) (hs : Srt l) (hn : l.length < 1000000) :
    CallH Tryz.prog 130 #[v, .agg cs.toArray, .func (.func f) #[] #[]] h fun r h' => r = .tuple #[.int .i64 (posC l c.key), .bool (decide (∃ hk : posC l c.key < l.length, lessM l[posC l c.key].key c.key = 0))] ∧ Keep none_ h h' := by
  refine callH_by fun K hK => ?_
  refine enter [.tmp 6, .tmp 7] Tryz.func130 rfl rfl (by kernel_rfl) rfl ?_
  obtain ⟨a0, c0, rfl, hc0, hc0'⟩ := hl.val
  obtain ⟨ka, kc, sa, sc, na, nc, xa, xc, rfl, r1, _⟩ := cell_open hc
  simp -dsimp [boxS_eq]
  generalize hB : Array.push h _ = h1
  have k1 : Keep none_ h h1 := by rw [← hB]; exact .push _ _ _
  have hC1 : h1[h.size]? = some (.cells #[.slice ka c.key.length kc, .int .i64 c.count, .slice sa c.sum.length sc, .slice na c.mn.length nc, .slice xa c.mx.length xc] 65 (0, 0)) := by rw [← hB]; exact push_new _ _
  have l1 := hl.mono ((Tr.of k1).ft (Nat.le_refl 0))
  have c1 := rCell.mono hc ((Tr.of k1).ft (Nat.le_refl 0))
  refine loopc (σ := Nat × Nat) (fun t => [(0, .slice a0 l.length c0), (2, .func (.func f) #[] #[]), (4, .pointer (some ⟨h.size, 0, none⟩)), (8, .int .i64 l.length), (9, .int .i64 t.1), (10, .int .i64 t.2)])
    (fun t h2 => Keep none_ h1 h2 ∧ t.1 ≤ t.2 ∧ t.2 ≤ l.length ∧ (∀ (k : Nat) (hk : k < l.length), k < t.1 → lessM l[k].key c.key < 0) ∧ ∀ (k : Nat) (hk : k < l.length), t.2 ≤ k → ¬ lessM l[k].key c.key < 0)
    (fun t => t.2 - t.1) (0, l.length) 0 (fun t _ => t.1 = t.2) noRet noRet_le (by simp) ⟨.refl _ _, Nat.zero_le _, Nat.le_refl _, fun _ _ h => by omega, fun _ _ h => by omega⟩ (by kernel_rfl) ?_ ?_
  · rintro ⟨i, j⟩ h2 g ⟨k2, hij, hj, hlo, hhi⟩
    simp only at hij hj hlo hhi
    have hC2 := k2.at hC1 (fun h => h)
    by_cases hlt : i < j
    · obtain ⟨m, em⟩ : ∃ m, m = (i + j) / 2 := ⟨_, rfl⟩
      have hm1 : i ≤ m := by omega
      have hm2 : m < j := by omega
      have hml : m < l.length := by omega
      have hop := mid_op (i := i) (j := j) (by omega) (by omega)
      have hbk := mid_back (k := m) (by omega)
      rw [← em] at hop
      have l2 := l1.mono ((Tr.of k2).ft (Nat.le_refl 0))
      obtain ⟨b1, o1, cs1, e1, _, hr1, hx1⟩ := l2.get m hml
      obtain ⟨ka1, kc1, sa1, sc1, na1, nc1, xa1, xc1, rfl, _⟩ := cell_open hr1
      have hx1' : HC.cellsIn h2[b1]? (o1 + m * 5) 5 = _ := hx1
      have wm := wrap_succ (k := m) (by omega)
      simp -dsimp [hlt, hop, hbk]
      refine drawn_by [⟨0, true, []⟩, ⟨1, true, []⟩, ⟨2, true, []⟩, ⟨3, true, []⟩, ⟨4, true, []⟩, ⟨5, true, []⟩, ⟨6, false, []⟩, ⟨7, true, []⟩] (by kernel_rfl) (by kernel_rfl) ?_
      simp -dsimp [e1, idxV_nat hml, elSz_eq, hx1', hC2, hf]
      refine call_by (hcmp hr1 (rCell.mono c1 ((Tr.of k2).ft (Nat.le_refl 0)))) ?_
      rintro _ h3 ⟨rfl, k3⟩
      have kk3 := k2.trans k3 fun _ _ h => h
      by_cases hl3 : lessM l[m].key c.key < 0
      · simp -dsimp [hl3, wm]
        refine ⟨(m + 1, j), by simp [e1], rfl, ⟨kk3, by show m + 1 ≤ j; omega, hj, fun k hk hkm => ?_, hhi⟩, by simp; omega⟩
        simp only at hkm
        rcases Nat.lt_or_ge k m with h | h
        · exact lessM_trans (hs.get hk hml h) hl3
        · have : k = m := by omega
          subst this; exact hl3
      · simp -dsimp [hl3]
        refine ⟨(i, m), by simp [e1], rfl, ⟨kk3, hm1, by show m ≤ l.length; omega, hlo, fun k hk hkm => ?_⟩, by simp; omega⟩
        simp only at hkm
        rcases Nat.lt_or_ge m k with h | h
        · intro hneg
          exact hl3 (lessM_trans (hs.get hml hk h) hneg)
        · have : k = m := by omega
          subst this; exact hl3
    · simp -dsimp [hlt]
      exact ⟨rfl, (i, j), by simp, rfl, ⟨k2, hij, hj, hlo, hhi⟩, by show i = j; omega⟩
  · rintro ⟨i, j⟩ h2 g ⟨k2, hij, hj, hlo, hhi⟩ hii
    simp only at hij hj hlo hhi hii
    subst hii
    have hpos : posC l c.key = i := posC_is hj hlo fun hk => hhi i hk (Nat.le_refl _)
    have hC2 := k2.at hC1 (fun h => h)
    simp -dsimp
    refine drawn_by [⟨0, true, []⟩, ⟨1, true, []⟩, ⟨2, true, []⟩, ⟨3, true, []⟩, ⟨4, true, []⟩, ⟨5, true, []⟩, ⟨6, true, []⟩, ⟨7, true, []⟩, ⟨8, true, []⟩, ⟨9, true, []⟩, ⟨10, true, []⟩, ⟨11, false, [0]⟩, ⟨12, true, []⟩, ⟨13, true, []⟩, ⟨14, true, []⟩, ⟨15, true, []⟩] (by kernel_rfl) (by kernel_rfl) ?_
    by_cases hil : i < l.length
    · have l2 := l1.mono ((Tr.of k2).ft (Nat.le_refl 0))
      obtain ⟨b1, o1, cs1, e1, _, hr1, hx1⟩ := l2.get i hil
      obtain ⟨ka1, kc1, sa1, sc1, na1, nc1, xa1, xc1, rfl, _⟩ := cell_open hr1
      have hx1' : HC.cellsIn h2[b1]? (o1 + i * 5) 5 = _ := hx1
      simp -dsimp [hil, e1, idxV_nat hil, elSz_eq, hx1', hC2, hf]
      refine call_by (hcmp hr1 (rCell.mono c1 ((Tr.of k2).ft (Nat.le_refl 0)))) ?_
      rintro _ h3 ⟨rfl, k3⟩
      simp -dsimp [again_cons]
      refine hK _ _ ⟨?_, (k1.trans k2 fun _ _ h => h).trans k3 fun _ _ h => h⟩
      subst hpos
      congr 3
      by_cases h0 : lessM l[posC l c.key].key c.key = 0
      · rw [decide_eq_true ⟨hil, h0⟩]; simp [h0]
      · rw [decide_eq_false (fun ⟨_, h⟩ => h0 h)]; simp [h0]
    · simp -dsimp [hil]
      refine hK _ _ ⟨?_, k1.trans k2 fun _ _ h => h⟩
      subst hpos
      rw [decide_eq_false (fun ⟨h, _⟩ => hil h)]
end Go.Proofs

/-
  A cell is laid in among others by the library.
-/
namespace Go.HC
theorem writeIn_ok {arr : Array Value} {e off : Nat} {vs : List Value} (h1 : vs.all Value.oneCell' = true) (h2 : off + vs.length ≤ arr.size) : writeIn (some (.cells arr e (0, 0))) off vs = some (.cells (writeC arr off vs) e (0, 0)) := by
  rw [writeIn_some, if_pos]
  simp [h1, h2]
section
variable {P : Program} {h : Heap} {K : Value → Heap → Prop}
theorem hp_bindI {α β : Type} {x : Sem α} {f : α → Sem β} {K : β → Heap → Prop} (h1 : hp P x (fun a h => hp P (f a) K h) h) : hp P (x >>= f) K h := by rw [hp_bind]; exact h1
/-- Two slices in two blocks do not overlap. -/
theorem hp_overlaps {tS tR e size : Nat} {a b : Addr} {la ca lb cb : Nat} {ca' cb' : Array Value} {ea eb : TypeId} (ht : P.underlying tS = some (.slice e)) (hz : szS P e = some size) (hne : a.block ≠ b.block)
    (hsa : h[a.block]? = some (.cells ca' ea (0, 0))) (hsb : h[b.block]? = some (.cells cb' eb (0, 0))) (hkB : cb'.size ≠ 0) (hK : K (.bool false) h) :
    hp P (Extern.SlicesOverlaps.overlaps #[tS, tS] #[tR] #[.slice (some a) la ca, .slice (some b) lb cb]) K h := by
  have hnb : (a.block != b.block) = true := by simpa using hne
  have hnb' : (a.block == b.block) = false := by simpa using hne
  have hfa : ∀ off sp, frozenH h ⟨a.block, off, sp⟩ = false := fun off sp => by unfold frozenH; rw [hsa]; simp
  have sa : shapeH h a.block = some (ea, ca'.size) := by unfold shapeH; rw [hsa]
  have sb : shapeH h b.block = some (eb, cb'.size) := by unfold shapeH; rw [hsb]
  refine hp_bindI ?_
  have ht' : P.underlying #[tS, tS][0] = some (.slice e) := ht
  rw [hp_underlying, ht']
  cases hk : cb'.size with
  | zero => exact absurd hk hkB
  | succ kB =>
    rw [hk] at sb
    by_cases h0 : la = 0 ∨ lb = 0 ∨ size = 0
    · simp [hp_sizeOf, hz, h0, hK]
    · simp [hp_sizeOf, hz, h0, hnb, hnb', noView, viewAt, mayBeOne, stringish, sa, sb, hfa, hK]
end
/-- A slice that grows, off what lies in its block. -/
theorem Gr.raw {α : Type} {R : Rp α} {e n : Nat} {M : Nat → Prop} {h : Heap} {bk c m : Nat} {arr : Array Value} {xs : List α} {cs : List Value} (hb : h[bk]? = some (.cells arr e (0, 0))) (hM : M bk) (hm : m = xs.length) (hsz : arr.size = c * R.sz) (hc : m ≤ c) (hc' : c < 9223372036854775808)
    (ht : arr.toList.take (m * R.sz) = cs) (he : Elems R (Ft n M h) h cs xs) : Gr R e n M h (.slice (some ⟨bk, 0, none⟩) m c) xs (some bk) := by
  subst hm
  exact ⟨.inr ⟨bk, c, arr, cs, rfl, rfl, hb, fun hf => hf.2.2 hM, hsz, hc, hc', ht, he⟩, fun b hb => by cases hb; exact hM⟩
/-- Cells are moved to make room, and new ones laid in. -/
theorem insert_list {D old cs : List Value} {i n s c : Nat} (hold : D.take (n * s) = old) (hD : D.length = c * s) (hcs : cs.length = s) (hi : i ≤ n) (hc : n + 1 ≤ c) :
    let A1 := D.take ((i + 1) * s) ++ old.drop (i * s) ++ D.drop ((i + 1) * s + (old.drop (i * s)).length)
    let A2 := A1.take (i * s) ++ cs ++ A1.drop (i * s + cs.length)
    A2.take ((n + 1) * s) = old.take (i * s) ++ cs ++ old.drop (i * s) := by
  intro A1 A2
  have h1 : i * s ≤ n * s := Nat.mul_le_mul_right _ hi
  have h2 : (n + 1) * s ≤ c * s := Nat.mul_le_mul_right _ hc
  have h3 : (i + 1) * s = i * s + s := Nat.succ_mul i s
  have h4 : (n + 1) * s = n * s + s := Nat.succ_mul n s
  have hol : old.length = n * s := by rw [← hold, List.length_take, hD]; omega
  have e1 : A1.take (i * s) = old.take (i * s) := by
    show (D.take ((i + 1) * s) ++ old.drop (i * s) ++ _).take (i * s) = _
    rw [List.append_assoc, List.take_append_of_le_length (by rw [List.length_take, hD]; omega), List.take_take, Nat.min_eq_left (by omega), ← hold, List.take_take, Nat.min_eq_left h1]
  have e2 : A1.drop (i * s + cs.length) = old.drop (i * s) ++ D.drop ((i + 1) * s + (old.drop (i * s)).length) := by
    show (D.take ((i + 1) * s) ++ old.drop (i * s) ++ _).drop (i * s + cs.length) = _
    have : i * s + cs.length = (D.take ((i + 1) * s)).length := by rw [List.length_take, hD]; omega
    rw [List.append_assoc, this, List.drop_append_of_le_length (Nat.le_refl _), List.drop_length]
    rfl
  show (A1.take (i * s) ++ cs ++ A1.drop (i * s + cs.length)).take ((n + 1) * s) = _
  rw [e1, e2, ← List.append_assoc]
  have hlen : (old.take (i * s) ++ cs ++ old.drop (i * s)).length = (n + 1) * s := by
    simp only [List.length_append, List.length_take, List.length_drop, hol, hcs]; omega
  rw [← hlen, List.take_left]
/-- The same, in a new block. -/
theorem insert_new {old cs zs : List Value} {i n s c : Nat} (hold : old.length = n * s) (hz : zs.length = (c - i) * s) (hcs : cs.length = s) (hi : i ≤ n) (hc : n + 1 ≤ c) :
    let D := old.take (i * s) ++ zs
    let A1 := D.take (i * s) ++ cs ++ D.drop (i * s + cs.length)
    let A2 := A1.take ((i + 1) * s) ++ old.drop (i * s) ++ A1.drop ((i + 1) * s + (old.drop (i * s)).length)
    A2.take ((n + 1) * s) = old.take (i * s) ++ cs ++ old.drop (i * s) ∧ D.length = c * s := by
  intro D A1 A2
  have h1 : i * s ≤ n * s := Nat.mul_le_mul_right _ hi
  have h3 : (i + 1) * s = i * s + s := Nat.succ_mul i s
  have h4 : (n + 1) * s = n * s + s := Nat.succ_mul n s
  have h5 : (c - i) * s = c * s - i * s := Nat.sub_mul c i s
  have h6 : (n + 1) * s ≤ c * s := Nat.mul_le_mul_right _ hc
  have hti : (old.take (i * s)).length = i * s := by rw [List.length_take, hold]; omega
  have hDl : D.length = c * s := by
    show (old.take (i * s) ++ zs).length = _
    rw [List.length_append, hti, hz]; omega
  refine ⟨?_, hDl⟩
  have e1 : D.take (i * s) = old.take (i * s) := by
    show (old.take (i * s) ++ zs).take (i * s) = _
    rw [List.take_append_of_le_length (by omega), List.take_of_length_le (by omega)]
  have e2 : A1.take ((i + 1) * s) = old.take (i * s) ++ cs := by
    show (D.take (i * s) ++ cs ++ D.drop (i * s + cs.length)).take ((i + 1) * s) = _
    rw [e1]
    have : (i + 1) * s = (old.take (i * s) ++ cs).length := by rw [List.length_append, hti, hcs]; omega
    rw [this, List.take_left]
  show (A1.take ((i + 1) * s) ++ old.drop (i * s) ++ _).take ((n + 1) * s) = _
  rw [e2]
  have hlen : (old.take (i * s) ++ cs ++ old.drop (i * s)).length = (n + 1) * s := by
    simp only [List.length_append, hti, hcs, List.length_drop, hold]; omega
  rw [← hlen, List.take_left]
end Go.HC
namespace Go.Proofs
open Go Go.HC

set_option maxHeartbeats 8000000 in
set_option maxRecDepth 10000 in
theorem insert_gen {n : Nat} {M : Nat → Prop} {h : Heap} {v : Value} {xs : List CellM} {own : Option Nat} {i b2 c2 : Nat} {arr2 : Array Value} {cs : List Value} {c : CellM} (g : Gr rCell 65 n M h v xs own) (hM : ∀ b, M b → b < h.size) (hi : i ≤ xs.length) (hn : xs.length < 1000000)
    (hb2 : h[b2]? = some (.cells arr2 65 (0, 0))) (h25 : arr2.toList.take 5 = cs) (hM2 : ¬ M b2) (hc : rCell.rep (Ft n M h) h cs c) :
    CallH Tryz.prog 131 #[v, .int .i64 i, .slice (some ⟨b2, 0, none⟩) 1 c2] h fun r h' => ∃ own', Gr rCell 65 n (fun b => M b ∨ own' = some b) h' r (xs.take i ++ c :: xs.drop i) own' ∧
      Tr M (fun b => M b ∨ own' = some b) h h' ∧ Keep (fun b => own = some b) h h' ∧ ∀ b, own' = some b → own = some b ∨ h.size ≤ b := by
  refine callH_by fun K hK => ?_
  refine enter [.tmp 6] Tryz.func131 rfl rfl (by kernel_rfl) rfl ?_
  obtain ⟨va, vn, vc, ev, hvn⟩ := g.vals
  subst ev
  obtain ⟨csx, _, hvc, hvc', hcells, helems⟩ := g.grow.cells
  have hcl := rCell.len hc
  have hco := rCell.one hc
  have hin : i ≤ vn := by omega
  have hT : ((elS Tryz.prog 43).bind (szS Tryz.prog)).isSome = true := by simp
  simp -dsimp [sliceS_from hT hin hvc]
  by_cases hie : i = vn
  · have hie' : ((i : Int) == (vn : Int)) = true := by simp [hie]
    simp -dsimp [hie']
    refine gr_append (F2 := fun b => b = b2) (ys := [c]) (news := cs) cellT g hM rfl (.inr ⟨b2, 0, _, _, _, rfl, rfl, hb2, by rw [List.drop_zero, hcl]; exact h25⟩) (.single hc) (by simp; omega) (by simp; omega) ?_
    intro v' h' own' g' t' k' ho'
    simp -dsimp
    refine hK _ _ ⟨own', ?_, t', k', ho'⟩
    have : xs.take i ++ c :: xs.drop i = xs ++ [c] := by rw [hie, hvn, List.take_length, List.drop_length]
    rw [this]; exact g'
  · have hie' : ((i : Int) == (vn : Int)) = false := by simp; omega
    have w1 := wrap_succ (k := vn) (by omega)
    have hlt : i < vn := by omega
    rcases g.grow with ⟨_, h0, _⟩ | ⟨bk, c', arr, old, ev, eo, hb, hF, hsz, hle, hc63, htk, hel⟩
    · rw [h0] at hvn; simp at hvn; omega
    simp only [Value.slice.injEq] at ev
    obtain ⟨rfl, _, rfl⟩ := ev
    have hMb : M bk := g.mu bk eo
    have hol : old.length = vn * 5 := by rw [hvn]; exact hel.len
    have hsz' : arr.toList.length = vc * 5 := by rw [Array.length_toList]; exact hsz
    have htk' : arr.toList.take (vn * 5) = old := by rw [hvn]; exact htk
    have hoo : old.all Value.oneCell' = true := hel.one
    have hnb2 : b2 ≠ bk := fun e => hM2 (e ▸ hMb)
    have hnl : (xs.take i ++ c :: xs.drop i).length = vn + 1 := by rw [List.length_append, List.length_take, List.length_cons, List.length_drop]; omega
    have hE : ∀ {M' : Nat → Prop} {h' : Heap}, Tr M M' h h' → Elems rCell (Ft n M' h') h' (old.take (i * 5) ++ cs ++ old.drop (i * 5)) (xs.take i ++ c :: xs.drop i) := fun t => by
      have e1 := (hel.take i).mono (t.ft (Nat.le_refl n))
      have e2 := (hel.drop i).mono (t.ft (Nat.le_refl n))
      rw [List.append_assoc]
      exact e1.append (Elems.append (Elems.single (rCell.mono hc (t.ft (Nat.le_refl n)))) e2)
    simp -dsimp [hie', cap_slice, w1]
    have w2 : IntKind.i64.wrap ((vn : Int) + 1 - (i : Int)) = ((vn + 1 - i : Nat) : Int) := by rw [wrap_i64 (by omega) (by omega)]; omega
    have w3 := wrap_succ (k := i) (by omega)
    by_cases hroom : vc < vn + 1
    · have hroom' : ((vc : Int) < (vn : Int) + 1) = True := by simp; omega
      simp -dsimp [hroom', sliceS_to hT (show i ≤ vc by omega), piece_zero, w1, w2]
      refine append_make (F := Old h) (old := old.take (i * 5)) (k := .i64) Tryz.elS43 Tryz.underlying3 Tryz.szS65 Tryz.byS65 Tryz.zS65 ?_ ?_ (by omega) (by omega) (by omega) (by omega) (by omega) ?_
      · rw [List.length_take, hol]; omega
      · refine .inr ⟨bk, 0, arr, _, _, rfl, ⟨nz, lt_of_blk hb, fun h => h⟩, hb, ?_⟩
        rw [List.drop_zero, List.length_take, hol, ← htk', List.take_take, Nat.min_comm]
      · intro cap hcap hcap'
        have e1 : i + (vn + 1 - i) = vn + 1 := by omega
        rw [e1] at hcap ⊢
        have hB1 : ∀ o, (h.push o)[h.size]? = some o := fun o => push_new _ _
        have hb2p : ∀ o, (h.push o)[b2]? = _ := fun o => push_at hb2
        have hbp : ∀ o, (h.push o)[bk]? = _ := fun o => push_at hb
        obtain ⟨arr0, ea0⟩ : ∃ arr0 : Array Value, arr0 = (old.take (i * 5)).toArray ++ Builtin.zeroCells (Value.agg #[.slice none 0 0, .int .i64 0, .slice none 0 0, .slice none 0 0, .slice none 0 0]).cells (vn + 1 - i) ++ Builtin.zeroCells (Value.agg #[.slice none 0 0, .int .i64 0, .slice none 0 0, .slice none 0 0, .slice none 0 0]).cells (cap - (vn + 1)) := ⟨_, rfl⟩
        rw [← ea0]
        obtain ⟨hB, eB⟩ : ∃ hB, hB = h.push (.cells arr0 65) := ⟨_, rfl⟩
        rw [← eB]
        have kB : Keep none_ h hB := by rw [eB]; exact .push _ _ _
        have hbB : hB[h.size]? = some (.cells arr0 65 (0, 0)) := by rw [eB]; exact push_new _ _
        have hzl : (Builtin.zeroCells (Value.agg #[.slice none 0 0, .int .i64 0, .slice none 0 0, .slice none 0 0, .slice none 0 0]).cells (vn + 1 - i) ++ Builtin.zeroCells (Value.agg #[.slice none 0 0, .int .i64 0, .slice none 0 0, .slice none 0 0, .slice none 0 0]).cells (cap - (vn + 1))).toList.length = (cap - i) * 5 := by
          rw [Array.length_toList, Array.size_append, zeroCells_size, zeroCells_size]
          show (vn + 1 - i) * 5 + (cap - (vn + 1)) * 5 = (cap - i) * 5
          omega
        have hal : arr0.toList = old.take (i * 5) ++ (Builtin.zeroCells (Value.agg #[.slice none 0 0, .int .i64 0, .slice none 0 0, .slice none 0 0, .slice none 0 0]).cells (vn + 1 - i) ++ Builtin.zeroCells (Value.agg #[.slice none 0 0, .int .i64 0, .slice none 0 0, .slice none 0 0, .slice none 0 0]).cells (cap - (vn + 1))).toList := by
          rw [ea0, Array.append_assoc, Array.toList_append]
        obtain ⟨hin1, hin2⟩ := insert_new (s := 5) (c := cap) (i := i) hol hzl hcl (by omega) (by omega)
        rw [← hal] at hin1 hin2
        have hasz : arr0.size = cap * 5 := by rw [← Array.length_toList]; exact hin2
        have hb2B := kB.at hb2 (fun h => h)
        have hbkB := kB.at hb (fun h => h)
        have hw1 := writeIn_ok (arr := arr0) (e := 65) (off := i * 5) hco (by rw [hcl, hasz]; show i * 5 + 5 ≤ cap * 5; omega)
        simp -dsimp [sliceS_from hT (show i ≤ vn + 1 by omega) hcap, piece_mk (show cap ≠ i by omega)]
        refine copy_cells (F := Old hB) (k := 1) (news := cs) Tryz.elS43 Tryz.szS65 hcl (.inr ⟨b2, 0, _, _, _, rfl, ⟨nz, lt_of_blk hb2B, fun h => h⟩, hb2B, by rw [List.drop_zero, hcl]; exact h25⟩) (by show 1 = min 1 _; omega) (by decide) (o := .cells (writeC arr0 (i * 5) cs) 65) ?_ ?_
        · rw [hbB, List.take_of_length_le (by rw [hcl]; decide)]; exact hw1
        obtain ⟨arr1, ea1⟩ : ∃ arr1, arr1 = writeC arr0 (i * 5) cs := ⟨_, rfl⟩
        have hal1 : arr1.toList = arr0.toList.take (i * 5) ++ cs ++ arr0.toList.drop (i * 5 + cs.length) := by
          rw [ea1]; exact toList_writeC cs arr0 (i * 5) (by rw [hcl, hasz]; show i * 5 + 5 ≤ cap * 5; omega)
        have hasz1 : arr1.size = cap * 5 := by rw [ea1, size_writeC, hasz]
        rw [← ea1]
        obtain ⟨hD, eD⟩ : ∃ hD, hD = hB.setIfInBounds h.size (.cells arr1 65) := ⟨_, rfl⟩
        rw [← eD]
        have hbD : hD[h.size]? = some (.cells arr1 65 (0, 0)) := by rw [eD]; exact set_same _ (lt_of_blk hbB)
        have hlb := lt_of_blk hb
        have hbkD : hD[bk]? = some (.cells arr 65 (0, 0)) := by rw [eD, set_other _ (by omega)]; exact hbkB
        have hod : (old.drop (i * 5)).length = (vn - i) * 5 := by rw [List.length_drop, hol]; omega
        have hw2 := writeIn_ok (arr := arr1) (e := 65) (off := (i + 1) * 5) (vs := old.drop (i * 5)) (List.all_eq_true.2 fun x hx => (List.all_eq_true.1 hoo) x (List.mem_of_mem_drop hx)) (by rw [hod, hasz1]; omega)
        simp -dsimp
        refine drawn_by [⟨0, true, []⟩, ⟨1, true, []⟩, ⟨2, true, []⟩, ⟨3, true, []⟩, ⟨4, true, []⟩, ⟨5, true, []⟩, ⟨6, true, []⟩, ⟨7, true, []⟩, ⟨8, false, []⟩] (by kernel_rfl) (by kernel_rfl) ?_
        have hp1 : i + 1 ≤ vn + 1 := by omega
        have hp2 : vn + 1 ≤ cap := hcap
        have hp3 : i ≤ vn := by omega
        have hp4 : vn ≤ vc := hvc
        have hp0 : (0 : Int) ≤ (i : Int) + 1 := by omega
        simp -dsimp [elSz_eq, pieceV, natV, w3, hp0, hp1, hp2, hp3, hp4, piece_mk (show cap ≠ i + 1 by omega), piece_mk (show vc ≠ i by omega)]
        refine copy_cells (F := Old hD) (k := vn - i) (news := old.drop (i * 5)) Tryz.elS43 Tryz.szS65 hod (.inr ⟨bk, i * 5, _, _, _, rfl, ⟨nz, lt_of_blk hbkD, fun h => h⟩, hbkD, ?_⟩) (by show vn - i = min (vn - i) (vn - i); omega) (by show (vn - i) * 5 ≠ 0; omega) (o := .cells (writeC arr1 ((i + 1) * 5) (old.drop (i * 5))) 65) ?_ ?_
        · rw [← htk', List.drop_take, List.length_take, List.length_drop, hsz']
          congr 1; omega
        · rw [hbD, List.take_of_length_le (by rw [hod]; exact Nat.le_refl _)]
          exact hw2
        simp -dsimp
        have hlt2 := toList_writeC (old.drop (i * 5)) arr1 ((i + 1) * 5) (by rw [hod, hasz1]; omega)
        have tB : Tr M M h hB := by rw [eB]; exact Tr.push ⟨.refl _ _, fun _ h => .inl h, hM⟩ _
        have tD : Tr M (fun b => M b ∨ some h.size = some b) h ((hD.setIfInBounds h.size (.cells (writeC arr1 ((i + 1) * 5) (old.drop (i * 5))) 65))) := by
          refine ⟨⟨?_, fun b hb' hm => ?_⟩, fun b hb' => hb'.imp id fun e => by cases e; exact Nat.le_refl _, fun b hb' => ?_⟩
          · rw [Array.size_setIfInBounds, eD, Array.size_setIfInBounds]; exact kB.size
          · rw [set_other _ (by omega), eD, set_other _ (by omega)]; exact kB.blk b hb' (fun h => h)
          · rw [Array.size_setIfInBounds, eD, Array.size_setIfInBounds, eB]
            rcases hb' with hb' | hb'
            · have := hM b hb'; simp; omega
            · cases hb'; simp
        refine hK _ _ ⟨some h.size, ?_, tD, ⟨tD.size, fun b hb' hn' => ?_⟩, fun b hb' => .inr (by cases hb'; exact Nat.le_refl _)⟩
        · refine Gr.raw (cs := old.take (i * 5) ++ cs ++ old.drop (i * 5)) (set_same _ (lt_of_blk hbD)) (.inr rfl) hnl.symm (by rw [size_writeC, hasz1]; rfl) hcap hcap' ?_ (hE tD)
          rw [hlt2, hal1]
          exact hin1
        · rw [set_other _ (by omega), eD, set_other _ (by omega)]; exact kB.blk b hb' (fun h => h)
    · have hroom' : ((vc : Int) < (vn : Int) + 1) = False := by simp; omega
      have hsT : ∀ (K : Value → Heap → Prop) (h : Heap), sliceS Tryz.prog 43 (.slice (some ⟨bk, 0, none⟩) vn vc) none (some (.int .i64 ((vn : Int) + 1))) none h K = K (.slice (some ⟨bk, 0, none⟩) (vn + 1) vc) h := fun K h => by
        have := sliceS_to (P := Tryz.prog) (a := some ⟨bk, 0, none⟩) (n := vn) (k := .i64) (K := K) (h := h) hT (show vn + 1 ≤ vc by omega)
        rw [piece_zero] at this
        simpa using this
      have hsF : ∀ (K : Value → Heap → Prop) (h : Heap), sliceS Tryz.prog 43 (.slice (some ⟨bk, 0, none⟩) (vn + 1) vc) (some (.int .i64 ((i : Int) + 1))) none none h K = K (.slice (some ⟨bk, (i + 1) * 5, none⟩) (vn - i) (vc - (i + 1))) h := fun K h => by
        have := sliceS_from (P := Tryz.prog) (a := some ⟨bk, 0, none⟩) (k := .i64) (K := K) (h := h) hT (show i + 1 ≤ vn + 1 by omega) (show vn + 1 ≤ vc by omega)
        rw [piece_mk (by omega)] at this
        simpa [show vn + 1 - (i + 1) = vn - i by omega] using this
      have hsI : ∀ (K : Value → Heap → Prop) (h : Heap), sliceS Tryz.prog 43 (.slice (some ⟨bk, 0, none⟩) (vn + 1) vc) (some (.int .i64 (i : Int))) none none h K = K (.slice (some ⟨bk, i * 5, none⟩) (vn + 1 - i) (vc - i)) h := fun K h => by
        have := sliceS_from (P := Tryz.prog) (a := some ⟨bk, 0, none⟩) (k := .i64) (K := K) (h := h) hT (show i ≤ vn + 1 by omega) (show vn + 1 ≤ vc by omega)
        rw [piece_mk (by omega)] at this
        simpa using this
      have hss : arr.size = vc * 5 := hsz
      simp -dsimp [hroom', w1, w3, hsT, hsF]
      refine callS_extern (e := Extern.SlicesOverlaps.overlaps #[43, 43] #[4]) Tryz.func158 (by kernel_rfl) (by kernel_rfl) (by kernel_rfl) (by kernel_rfl) _ ?_
      refine hp_overlaps Tryz.underlying43 Tryz.szS65 hnb2 hb2 hb (by rw [hss]; omega) ?_
      simp -dsimp
      refine drawn_by [⟨0, true, []⟩, ⟨1, true, []⟩, ⟨2, true, []⟩, ⟨3, true, []⟩, ⟨4, true, []⟩, ⟨5, true, []⟩, ⟨6, true, []⟩, ⟨7, true, []⟩, ⟨8, false, []⟩] (by kernel_rfl) (by kernel_rfl) ?_
      have hp0 : (0 : Int) ≤ (i : Int) + 1 := by omega
      have hp1 : i + 1 ≤ vn + 1 := by omega
      have hp2 : vn + 1 ≤ vc := by omega
      have hp3 : i ≤ vn + 1 := by omega
      simp -dsimp [elSz_eq, pieceV, natV, w3, hp0, hp1, hp2, hp3, piece_mk (show vc ≠ i + 1 by omega), piece_mk (show vc ≠ i by omega)]
      have hns : ((arr.toList.drop (i * 5)).take ((vn + 1 - i) * 5)).length = (vn + 1 - i) * 5 := by rw [List.length_take, List.length_drop, hsz']; omega
      have hod : (old.drop (i * 5)).length = (vn - i) * 5 := by rw [List.length_drop, hol]; omega
      have hnt : ((arr.toList.drop (i * 5)).take ((vn + 1 - i) * 5)).take ((vn - i) * 5) = old.drop (i * 5) := by
        rw [List.take_take, ← htk', List.drop_take]
        congr 1; omega
      have hw1 := writeIn_ok (arr := arr) (e := 65) (off := (i + 1) * 5) (vs := old.drop (i * 5)) (List.all_eq_true.2 fun x hx => (List.all_eq_true.1 hoo) x (List.mem_of_mem_drop hx)) (by rw [hod, hss]; omega)
      refine copy_cells (F := Old h) (k := vn - i) (news := (arr.toList.drop (i * 5)).take ((vn + 1 - i) * 5)) Tryz.elS43 Tryz.szS65 hns (.inr ⟨bk, i * 5, _, _, _, rfl, ⟨nz, lt_of_blk hb, fun h => h⟩, hb, by rw [hns]⟩) (by show vn - i = min (vn + 1 - i) (vn - i); omega) (by show (vn - i) * 5 ≠ 0; omega) (o := .cells (writeC arr ((i + 1) * 5) (old.drop (i * 5))) 65) ?_ ?_
      · rw [hb]
        exact (congrArg _ hnt).trans hw1
      obtain ⟨arr1, ea1⟩ : ∃ arr1, arr1 = writeC arr ((i + 1) * 5) (old.drop (i * 5)) := ⟨_, rfl⟩
      have hal1 := toList_writeC (old.drop (i * 5)) arr ((i + 1) * 5) (by rw [hod, hss]; omega)
      have hasz1 : arr1.size = vc * 5 := by rw [ea1, size_writeC, hss]
      rw [← ea1] at hal1 ⊢
      obtain ⟨hD, eD⟩ : ∃ hD, hD = h.setIfInBounds bk (.cells arr1 65) := ⟨_, rfl⟩
      rw [← eD]
      have hbD : hD[bk]? = some (.cells arr1 65 (0, 0)) := by rw [eD]; exact set_same _ (lt_of_blk hb)
      have hb2D : hD[b2]? = some (.cells arr2 65 (0, 0)) := by rw [eD, set_other _ (fun e => hnb2 e.symm)]; exact hb2
      have hw2 := writeIn_ok (arr := arr1) (e := 65) (off := i * 5) hco (by rw [hcl, hasz1]; show i * 5 + 5 ≤ vc * 5; omega)
      simp -dsimp [hsI]
      refine copy_cells (F := Old hD) (k := 1) (news := cs) Tryz.elS43 Tryz.szS65 hcl (.inr ⟨b2, 0, _, _, _, rfl, ⟨nz, lt_of_blk hb2D, fun h => h⟩, hb2D, by rw [List.drop_zero, hcl]; exact h25⟩) (by show 1 = min 1 _; omega) (by decide) (o := .cells (writeC arr1 (i * 5) cs) 65) ?_ ?_
      · rw [hbD, List.take_of_length_le (by rw [hcl]; decide)]; exact hw2
      simp -dsimp
      have hlt2 := toList_writeC cs arr1 (i * 5) (by rw [hcl, hasz1]; show i * 5 + 5 ≤ vc * 5; omega)
      have tH : Tr M M h h := ⟨.refl _ _, fun _ h => .inl h, hM⟩
      have tD : Tr M (fun b => M b ∨ some bk = some b) h (hD.setIfInBounds bk (.cells (writeC arr1 (i * 5) cs) 65)) := by
        rw [eD]
        exact ((tH.set _ hMb).set _ hMb).less fun b hb' => hb'.elim id fun e => by cases e; exact hMb
      refine hK _ _ ⟨some bk, ?_, tD, ⟨tD.size, fun b hb' hn' => ?_⟩, fun b hb' => .inl (by rw [eo]; exact hb')⟩
      · refine Gr.raw (cs := old.take (i * 5) ++ cs ++ old.drop (i * 5)) (set_same _ (lt_of_blk hbD)) (.inr rfl) hnl.symm (by rw [size_writeC, hasz1]; rfl) (by omega) hvc' ?_ (hE tD)
        rw [hlt2, hal1]
        exact insert_list (s := 5) htk' hsz' hcl (by omega) (by omega)
      · have : b ≠ bk := fun e => hn' (by rw [eo, e])
        rw [set_other _ (fun e => this e.symm), eD, set_other _ (fun e => this e.symm)]
theorem insert_spec {n : Nat} {M : Nat → Prop} {h : Heap} {v : Value} {xs : List CellM} {own : Option Nat} {i b2 : Nat} {cs : List Value} {c : CellM} (g : Gr rCell 65 n M h v xs own) (hM : ∀ b, M b → b < h.size) (hi : i ≤ xs.length) (hn : xs.length < 1000000)
    (hb2 : h[b2]? = some (.cells cs.toArray 65 (0, 0))) (hM2 : ¬ M b2) (hc : rCell.rep (Ft n M h) h cs c) :
    CallH Tryz.prog 131 #[v, .int .i64 i, .slice (some ⟨b2, 0, none⟩) 1 1] h fun r h' => ∃ own', Gr rCell 65 n (fun b => M b ∨ own' = some b) h' r (xs.take i ++ c :: xs.drop i) own' ∧
      Tr M (fun b => M b ∨ own' = some b) h h' ∧ Keep (fun b => own = some b) h h' ∧ ∀ b, own' = some b → own = some b ∨ h.size ≤ b :=
  insert_gen g hM hi hn hb2 (by have := rCell.len hc; rw [List.take_of_length_le (by show cs.length ≤ 5; rw [this]; decide)]) hM2 hc
end Go.Proofs

/-
  The document's facts as bytes.
-/
namespace Go.HC
theorem flat_len {α : Type} {f : α → List UInt8} {k : Nat} : ∀ {l : List α}, (∀ x ∈ l, (f x).length ≤ k) → (l.flatMap f).length ≤ k * l.length
  | [], _ => by simp
  | x :: l, h => by
    have h1 := h x List.mem_cons_self
    have h2 := flat_len (l := l) fun y hy => h y (List.mem_cons_of_mem _ hy)
    rw [List.flatMap_cons, List.length_append, List.length_cons, Nat.mul_add]
    omega
theorem flat_snoc {α : Type} (f : α → List UInt8) {l : List α} {i : Nat} (hi : i < l.length) : (l.take (i + 1)).flatMap f = (l.take i).flatMap f ++ f l[i] := by
  rw [List.take_add_one, List.getElem?_eq_getElem hi, Option.toList_some, List.flatMap_append, List.flatMap_singleton]
theorem map_snoc {α β : Type} (f : α → β) {l : List α} {i : Nat} (hi : i < l.length) : (l.take (i + 1)).map f = (l.take i).map f ++ [f l[i]] := by
  rw [List.take_add_one, List.getElem?_eq_getElem hi, Option.toList_some, List.map_append]
  rfl
def rowB (r : RowM) : List UInt8 := r.key.map byteM ++ r.m.flatMap w8
end Go.HC
namespace Go.Proofs
open Go Go.HC
/-- Bytes, put behind bytes. -/
theorem gr_bytes {P : Program} {T by_ n m c2 ty : Nat} {M F2 : Nat → Prop} {h : Heap} {K : Value → Heap → Prop} {cs : Array Bool} {v : Value} {xs ys : List UInt8} {own : Option Nat} {b : Option Addr} {e : TypeId}
    (hT : ElemT P T e rByte by_) (hg : Gr rByte e n M h v xs own) (hM : ∀ b, M b → b < h.size) (hs : SlRep rByte F2 h (.slice b m c2) ys)
    (hbig : (xs.length + ys.length) * by_ ≤ 140737488355328) (h63 : xs.length + ys.length < 9223372036854775808)
    (hk : ∀ v' h' own', Gr rByte e n (fun b => M b ∨ own' = some b) h' v' (xs ++ ys) own' → Tr M (fun b => M b ∨ own' = some b) h h' → Keep (fun b => own = some b) h h' → (∀ b, own' = some b → own = some b ∨ h.size ≤ b) → K v' h') :
    builtinS P .append #[T, T] ty cs #[v, .slice b m c2] h K := by
  obtain ⟨a, c, vs, e1, h1, h2, h3, h4⟩ := hs
  cases e1
  exact gr_append hT hg hM rfl h3 (bytes_map.2 (bytes_map.1 h4)) hbig h63 hk

/-- Bytes, put behind bytes that fill their block. -/
theorem append_fullB {P : Program} {T by_ n m c2 ty : Nat} {F F2 : Nat → Prop} {h : Heap} {K : Value → Heap → Prop} {cs : Array Bool} {a b : Option Addr} {xs ys : List UInt8} {e : TypeId}
    (hT : ElemT P T e rByte by_) (hs : SlRep rByte F h (.slice a n n) xs) (hy : SlRep rByte F2 h (.slice b m c2) ys) (hne : ys ≠ [])
    (hbig : (xs.length + ys.length) * by_ ≤ 140737488355328) (h63 : xs.length + ys.length < 9223372036854775808)
    (hk : ∀ v' h', Keep none_ h h' → h'.size = h.size + 1 → (∀ (n0 : Nat) (M : Nat → Prop), M h.size → Gr rByte e n0 M h' v' (xs ++ ys) (some h.size)) → K v' h') :
    builtinS P .append #[T, T] ty cs #[.slice a n n, .slice b m c2] h K := by
  obtain ⟨z, hz, hzs⟩ := hT.zero
  obtain ⟨_, _, old, e1, _, _, hro, hold⟩ := hs
  cases e1
  obtain ⟨_, _, news, e2, _, _, hrn, hel⟩ := hy
  cases e2
  have hnl := hel.len
  have cells2 : Cells (fun b => F b ∨ F2 b) h b news := hrn.mono (fun b hb => ⟨.inr hb, rfl⟩)
  have cells1 : Cells (fun b => F b ∨ F2 b) h a old := hro.mono (fun b hb => ⟨.inl hb, rfl⟩)
  have hpos : 0 < ys.length := List.length_pos_iff.2 hne
  refine append_cells (F := fun b => F b ∨ F2 b) hT.el hT.sz hT.by_ hz rByte.pos hold.len cells1 hnl cells2 hbig h63 ?_ ?_ ?_
  · intro h0 _
    omega
  · intro h0 hroom
    omega
  · intro hgr cap hcap hcap63
    refine hk _ _ (.push _ _ _) (by simp) fun n0 M hM => ⟨.inr ⟨h.size, cap, _, old ++ news, by rw [List.length_append], rfl, push_new _ _, fun hf => hf.2.2 hM, ?_, by rw [List.length_append]; exact hcap, hcap63, ?_, ?_⟩, fun b hb => by cases hb; exact hM⟩
    · simp only [Array.size_append, List.size_toArray, zeroCells_size, hzs, hold.len, hnl]
      rw [← Nat.add_mul, ← Nat.add_mul]
      congr 1
      omega
    · have hcl : (old ++ news).length = (xs.length + ys.length) * rByte.sz := by rw [List.length_append, hold.len, hnl, Nat.add_mul]
      rw [List.length_append, ← hcl]
      simp only [Array.toList_append, List.append_assoc]
      rw [← List.append_assoc]
      exact List.take_left
    · rw [bytes_map.1 hold, bytes_map.1 hel, ← List.map_append]
      exact bytes_map.2 rfl

set_option maxHeartbeats 8000000 in
set_option maxRecDepth 10000 in
theorem rencode_spec {h : Heap} {cv rv : Value} {s : SchM} {rows : List RowM} (hc : SlRep rInt (Old h) h cv s.cards) (hr : SlRep rRow (Old h) h rv rows) (hd : s.cards.length ≤ 4) (hn : rows.length ≤ 1000) (hrow : ∀ r ∈ rows, r.key.length ≤ 4 ∧ r.m.length ≤ 4) :
    CallH Tryz.prog 37 #[.agg #[cv, .int .i64 s.ms], rv] h fun r h' => SlRep rByte (Ft h.size none_ h') h' r (encF s rows) ∧ Keep none_ h h' := by
  refine callH_by fun K hK => ?_
  refine enter [.tmp 4] Tryz.func37 rfl rfl (by kernel_rfl) rfl ?_
  obtain ⟨a0, c0, rfl, _, _⟩ := hc.val
  obtain ⟨a1, c1, rfl, _, _⟩ := hr.val
  have hrb : ∀ r ∈ rows, (rowB r).length ≤ 36 := fun r hr => by
    have h1 := hrow r hr
    have h2 := flat_len (f := w8) (k := 8) (l := r.m) fun x _ => by rw [w8_len]; exact Nat.le_refl _
    unfold rowB
    rw [List.length_append, List.length_map]
    omega
  have hpre : ∀ i, ((rows.take i).flatMap rowB).length ≤ 36000 := fun i => by
    have h2 := flat_len (f := rowB) (k := 36) (l := rows.take i) fun x hx => hrb x (List.mem_of_mem_take hx)
    rw [List.length_take] at h2
    omega
  simp -dsimp [boxS_eq]
  generalize hB : Array.push h _ = hb
  have z1 : hb.size = h.size + 1 := by rw [← hB]; simp
  have kb : Keep none_ h hb := by rw [← hB]; exact .push _ _ _
  have wb : hb[h.size]? = some (.cells #[.slice a0 s.cards.length c0, .int .i64 s.ms] 30 (0, 0)) := by rw [← hB]; exact push_new _ _
  rw [show h.size + 1 = hb.size from z1.symm]
  refine const_bytes [67, 85, 66, 49] Tryz.elS66 (by kernel_rfl) rfl rfl (by decide) ?_
  intro hc' kc zc sc
  have wc := kc.at wb (fun h => h)
  simp -dsimp [wc, wrap_byte]
  generalize hD : Array.push hc' _ = h0
  have z0 : h0.size = hc'.size + 1 := by rw [← hD]; simp
  have k0 : Keep none_ hc' h0 := by rw [← hD]; exact .push _ _ _
  have wd : h0[hc'.size]? = some (.cells #[.int .u8 (byteM s.cards.length).toNat] 5 (0, 0)) := by rw [← hD]; exact push_new _ _
  have sd : SlRep rByte (fun b => b = hc'.size) h0 (.slice (some ⟨hc'.size, 0, none⟩) 1 1) [byteM s.cards.length] := ⟨_, 1, _, rfl, Nat.le_refl _, by decide, .inr ⟨hc'.size, 0, _, _, _, rfl, rfl, wd, rfl⟩, bytes_map.2 rfl⟩
  have sc0 := sc.mono (F' := fun b => b = hb.size) (h' := h0) fun b hb' => ⟨hb', k0.blk b (by omega) (fun h => h)⟩
  refine append_fullB byteT sc0 sd (by simp) (by simp) (by simp) ?_
  intro v2 h1 k1 z1' gg
  obtain ⟨M1, eM⟩ : ∃ M1 : Nat → Prop, M1 = fun b => b = h0.size := ⟨_, rfl⟩
  have hM1 : ∀ b, M1 b ↔ b = h0.size := fun b => by rw [eM]
  have k01 : Keep none_ h h1 := ((kb.trans kc fun _ _ h => h).trans k0 fun _ _ h => h).trans k1 fun _ _ h => h
  have wS := k1.at (k0.at wc (fun h => h)) (fun h => h)
  have t1 : Tr none_ M1 h h1 := ⟨k01, fun b hb => .inr (by have := (hM1 b).1 hb; omega), fun b hb => by have := (hM1 b).1 hb; omega⟩
  have hS : ∀ {M : Nat → Prop} {y : Heap}, Tr M1 M h1 y → y[h.size]? = _ := fun t => t.at wS fun hb => by have := (hM1 _).1 hb; omega
  have g2 := gg h.size M1 ((hM1 _).2 rfl)
  have t2 : Tr M1 M1 h1 h1 := t1.here
  simp -dsimp
  refine loopc (σ := Nat × Value) (fun t => [(1, .slice a1 rows.length c1), (2, .pointer (some ⟨h.size, 0, none⟩)), (5, t.2), (6, .int .i64 t.1)])
    (fun t y => t.1 ≤ s.cards.length ∧ ∃ M own, Tr M1 M h1 y ∧ Gr rByte 5 h.size M y t.2 ([67, 85, 66, 49] ++ [byteM s.cards.length] ++ (s.cards.take t.1).map byteM) own) (fun t => s.cards.length - t.1) (0, v2) 0 (fun t _ => t.1 = s.cards.length) noRet noRet_le (by simp)
    ⟨Nat.zero_le _, M1, _, t2, by simpa using g2⟩ (by kernel_rfl) ?_ ?_
  · rintro ⟨i, v⟩ y g ⟨hi, M, own, t, gv⟩
    simp only at hi gv
    have wi := wrap_succ (k := i) (by omega)
    by_cases hil : i < s.cards.length
    · obtain ⟨b5, o5, rfl, hF5, hc5⟩ := (hc.mono (t1.trans t).old).int_at i hil
      simp -dsimp [hS t, hil, idxA_nat hil, hc5, wrap_byte]
      refine gr_app1 (x := byteM s.cards[i]) rfl byteT gv t.lt rfl rfl (by simp; omega) (by simp; omega) ?_
      intro v5 h5 own5 g5 t5 k5 ho5
      simp -dsimp [wi]
      exact ⟨(i + 1, v5), by simp, rfl, ⟨by show i + 1 ≤ _; omega, _, own5, t.trans t5, by show Gr rByte _ _ _ h5 v5 _ own5; rw [map_snoc byteM hil, ← List.append_assoc]; exact g5⟩, by show s.cards.length - (i + 1) < s.cards.length - i; omega⟩
    · simp -dsimp [hS t, hil]
      exact ⟨rfl, (i, v), by simp, rfl, ⟨hi, M, own, t, gv⟩, by show i = s.cards.length; omega⟩
  rintro ⟨i, v3⟩ h3 g ⟨hi, M3, own3, t3, g3⟩ hil
  simp only at hi g3 hil
  subst hil
  rw [List.take_length] at g3
  obtain ⟨P, eP⟩ : ∃ P, P = [67, 85, 66, 49] ++ [byteM s.cards.length] ++ s.cards.map byteM := ⟨_, rfl⟩
  have hPl : P.length ≤ 9 := by rw [eP]; simp; omega
  rw [← eP] at g3
  simp -dsimp [hS t3, wrap_byte]
  refine gr_app1 (x := byteM s.ms) rfl byteT g3 t3.lt rfl rfl (by omega) (by omega) ?_
  intro v4 h4 own4 g4 t4 k4 ho4
  have t04 := t3.trans t4
  simp -dsimp
  refine call_by (rtwo1_spec rows.length h4) ?_
  rintro _ h5 ⟨⟨aw, cw, rfl⟩, sw, k5⟩
  have g5 := g4.call k5
  have t05 := t04.call k5
  have hw2 : (w2 rows.length).length = 2 := rfl
  simp -dsimp
  refine gr_bytes byteT g5 t05.lt sw (by simp [hw2]; omega) (by simp [hw2]; omega) ?_
  intro v6 h6 own6 g6 t6 k6 ho6
  have t06 := t05.trans t6
  obtain ⟨Q, eQ⟩ : ∃ Q, Q = P ++ [byteM s.ms] ++ w2 rows.length := ⟨_, rfl⟩
  have hQl : Q.length ≤ 12 := by rw [eQ]; simp [hw2]; omega
  rw [← eQ] at g6
  simp -dsimp
  refine loopc (σ := Nat × Value) (fun t => [(1, .slice a1 rows.length c1), (5, t.2), (7, .int .i64 t.1)])
    (fun t y => t.1 ≤ rows.length ∧ ∃ M own, Tr M1 M h1 y ∧ Gr rByte 5 h.size M y t.2 (Q ++ (rows.take t.1).flatMap rowB) own) (fun t => rows.length - t.1) (0, v6) 2 (fun t _ => t.1 = rows.length) noRet noRet_le (by simp)
    ⟨Nat.zero_le _, _, own6, t06, by simpa using g6⟩ (by kernel_rfl) ?_ ?_
  · rintro ⟨i, v⟩ y g ⟨hi, M, own, t, gv⟩
    simp only at hi gv
    have wi := wrap_succ (k := i) (by omega)
    by_cases hil : i < rows.length
    · obtain ⟨br, orr, cs, rfl, hFr, ⟨kv, mv, rfl, hkr, hmr⟩, hxr⟩ := hr.get i hil
      obtain ⟨ka, kc, rfl, _, _⟩ := hkr.val
      obtain ⟨ma, mc, rfl, _, _⟩ := hmr.val
      have hx : ∀ {M : Nat → Prop} {y : Heap}, Tr M1 M h1 y → HC.cellsIn y[br]? (orr + i * 2) 2 = _ := fun t => (congrArg (HC.cellsIn · (orr + i * 2) 2) ((t1.trans t).old br hFr).2).trans hxr
      have hk0 : ∀ {M : Nat → Prop} {y : Heap}, Tr M1 M h1 y → HC.cellIn y[br]? (orr + i * 2) = _ := fun t => cellsIn_cell (d := 0) (hx t) (by decide)
      have hm0 : ∀ {M : Nat → Prop} {y : Heap}, Tr M1 M h1 y → HC.cellIn y[br]? (orr + i * 2 + 1) = _ := fun t => cellsIn_cell (d := 1) (hx t) (by decide)
      have hrl := hrow rows[i] (List.getElem_mem hil)
      have hpi := hpre i
      obtain ⟨r, er⟩ : ∃ r, r = rows[i] := ⟨_, rfl⟩
      rw [← er] at hkr hmr hx hk0 hm0 hrl
      obtain ⟨B, eB⟩ : ∃ B, B = Q ++ (rows.take i).flatMap rowB := ⟨_, rfl⟩
      have hBl : B.length ≤ 40000 := by rw [eB, List.length_append]; omega
      rw [← eB] at gv
      simp -dsimp [hil]
      refine loopc (σ := Nat × Value) (fun t => [(1, .slice (some ⟨br, orr, none⟩) rows.length c1), (5, t.2), (7, .int .i64 i), (8, .int .i64 t.1)])
        (fun t y => t.1 ≤ r.key.length ∧ ∃ M own, Tr M1 M h1 y ∧ Gr rByte 5 h.size M y t.2 (B ++ (r.key.take t.1).map byteM) own) (fun t => r.key.length - t.1) (0, v) 4 (fun t _ => t.1 = r.key.length) noRet noRet_le (by simp)
        ⟨Nat.zero_le _, _, own, t, by simpa using gv⟩ (by kernel_rfl) ?_ ?_
      · rintro ⟨j, v⟩ y g ⟨hj, M, own, t, gv⟩
        simp only at hj gv
        have wj := wrap_succ (k := j) (by omega)
        by_cases hjl : j < r.key.length
        · obtain ⟨b5, o5, rfl, hF5, hc5⟩ := (hkr.mono (t1.trans t).old).int_at j hjl
          simp -dsimp [idxA_nat hil, idxA_nat hjl, hk0 t, hjl, hc5, wrap_byte]
          refine gr_app1 (x := byteM r.key[j]) rfl byteT gv t.lt rfl rfl (by simp; omega) (by simp; omega) ?_
          intro v5 h5 own5 g5 t5 k5 ho5
          simp -dsimp [wj]
          exact ⟨(j + 1, v5), by simp, rfl, ⟨by show j + 1 ≤ _; omega, _, own5, t.trans t5, by show Gr rByte _ _ _ h5 v5 _ own5; rw [map_snoc byteM hjl, ← List.append_assoc]; exact g5⟩, by show r.key.length - (j + 1) < r.key.length - j; omega⟩
        · simp -dsimp [idxA_nat hil, hk0 t, hjl]
          exact ⟨rfl, (j, v), by simp, rfl, ⟨hj, M, own, t, gv⟩, by show j = r.key.length; omega⟩
      rintro ⟨j, v⟩ y g ⟨hj, M, own, t, gv⟩ hjl
      simp only at hj gv hjl
      subst hjl
      rw [List.take_length] at gv
      obtain ⟨C, eC⟩ : ∃ C, C = B ++ r.key.map byteM := ⟨_, rfl⟩
      have hCl : C.length ≤ 40004 := by rw [eC]; simp; omega
      rw [← eC] at gv
      simp -dsimp
      refine loopc (σ := Nat × Value) (fun t => [(1, .slice (some ⟨br, orr, none⟩) rows.length c1), (5, t.2), (7, .int .i64 i), (9, .int .i64 t.1)])
        (fun t y => t.1 ≤ r.m.length ∧ ∃ M own, Tr M1 M h1 y ∧ Gr rByte 5 h.size M y t.2 (C ++ (r.m.take t.1).flatMap w8) own) (fun t => r.m.length - t.1) (0, v) 6 (fun t _ => t.1 = r.m.length) noRet noRet_le (by simp)
        ⟨Nat.zero_le _, _, own, t, by simpa using gv⟩ (by kernel_rfl) ?_ ?_
      · rintro ⟨j, v⟩ y g ⟨hj, M, own, t, gv⟩
        simp only at hj gv
        have wj := wrap_succ (k := j) (by omega)
        by_cases hjl : j < r.m.length
        · obtain ⟨b5, o5, rfl, hF5, hc5⟩ := (hmr.mono (t1.trans t).old).int_at j hjl
          have hfl := flat_len (f := w8) (k := 8) (l := r.m.take j) fun x _ => by rw [w8_len]; exact Nat.le_refl _
          rw [List.length_take] at hfl
          have hw8 := w8_len r.m[j]
          simp -dsimp [idxA_nat hil, idxA_nat hjl, hm0 t, hjl, hc5]
          refine call_by (reight_spec r.m[j] y) ?_
          rintro _ y2 ⟨⟨aw, cw, rfl⟩, sw, kw⟩
          simp -dsimp
          refine gr_bytes byteT (gv.call kw) (t.call kw).lt sw (by rw [List.length_append, hw8]; omega) (by rw [List.length_append, hw8]; omega) ?_
          intro v5 h5 own5 g5 t5 k5 ho5
          simp -dsimp [wj]
          exact ⟨(j + 1, v5), by simp, rfl, ⟨by show j + 1 ≤ _; omega, _, own5, (t.call kw).trans t5, by show Gr rByte _ _ _ h5 v5 _ own5; rw [flat_snoc w8 hjl, ← List.append_assoc]; exact g5⟩, by show r.m.length - (j + 1) < r.m.length - j; omega⟩
        · simp -dsimp [idxA_nat hil, hm0 t, hjl]
          exact ⟨rfl, (j, v), by simp, rfl, ⟨hj, M, own, t, gv⟩, by show j = r.m.length; omega⟩
      rintro ⟨j, v⟩ y g ⟨hj, M, own, t, gv⟩ hjl
      simp only at hj gv hjl
      subst hjl
      rw [List.take_length] at gv
      simp -dsimp [wi]
      exact ⟨(i + 1, v), by simp, rfl, ⟨by show i + 1 ≤ _; omega, M, own, t, by show Gr rByte _ _ _ y v _ own; rw [flat_snoc rowB hil, ← List.append_assoc, ← eB, ← er]; unfold rowB; rw [← List.append_assoc, ← eC]; exact gv⟩, by show rows.length - (i + 1) < rows.length - i; omega⟩
    · simp -dsimp [hil]
      exact ⟨rfl, (i, v), by simp, rfl, ⟨hi, M, own, t, gv⟩, by show i = rows.length; omega⟩
  rintro ⟨i, v⟩ y g ⟨hi, M, own, t, gv⟩ hil
  simp only at hi gv hil
  subst hil
  rw [List.take_length, eQ, eP] at gv
  simp -dsimp
  have t0 := t1.trans t
  exact hK _ _ ⟨gv.rep (Nat.le_refl _) (fun b hb => t0.fresh b (gv.mu b hb)), t0.keep⟩
end Go.Proofs

/-
  The document's numbers out of bytes; schemas, rows that may be.
-/
namespace Go.HC
theorem back_snoc {bs : List UInt8} {i : Nat} (hi : i < bs.length) : backM (bs.take (i + 1)) = IntKind.i64.wrap (backM (bs.take i) * 256 + (bs[i].toNat : Int)) := by
  unfold backM
  rw [List.take_add_one, List.getElem?_eq_getElem hi, Option.toList_some, List.foldl_append]
  rfl
theorem SlRep.byte_at {F : Nat → Prop} {h : Heap} {a : Option Addr} {n c : Nat} {xs : List UInt8} (hs : SlRep rByte F h (.slice a n c) xs) (k : Nat) (hk : k < xs.length) :
    ∃ bk off, a = some ⟨bk, off, none⟩ ∧ F bk ∧ cellIn h[bk]? (off + k) = some (.int .u8 xs[k].toNat) := by
  obtain ⟨b1, o1, v1, rfl, hf, hr, hc⟩ := hs.get1 rfl k hk
  have : v1 = .int .u8 xs[k].toNat := by simpa [rByte] using hr
  exact ⟨b1, o1, rfl, hf, this ▸ hc⟩
theorem shl8 (n : Int) : intRes .shl .i64 n 8 = some (.int .i64 (IntKind.i64.wrap (n * 256))) := _root_.id rfl
theorem or8 (n : Int) {c : Nat} (hc : c < 256) : intRes .or .i64 (IntKind.i64.wrap (n * 256)) (c : Int) = some (.int .i64 (IntKind.i64.wrap (n * 256 + c))) := by
  rw [intRes_or]
  exact congrArg (fun x => some (Value.int .i64 x)) (shl_or n hc)
end Go.HC
namespace Go.Proofs
open Go Go.HC

end Go.Proofs

/-
  Rows' bytes, piece by piece.
-/
namespace Go.HC
theorem flat_size {α : Type} {f : α → List UInt8} {w : Nat} : ∀ {l : List α}, (∀ x ∈ l, (f x).length = w) → (l.flatMap f).length = l.length * w
  | [], _ => by simp
  | x :: l, h => by
    rw [List.flatMap_cons, List.length_append, h x List.mem_cons_self, flat_size fun y hy => h y (List.mem_cons_of_mem _ hy), List.length_cons, Nat.succ_mul]
    omega
theorem flat_piece {α : Type} {f : α → List UInt8} {w : Nat} : ∀ {l : List α}, (∀ x ∈ l, (f x).length = w) → ∀ (i : Nat) (h : i < l.length), ((l.flatMap f).drop (i * w)).take w = f l[i]
  | [], _, i, h => by simp at h
  | x :: l, h, i, hi => by
    have hx := h x List.mem_cons_self
    rw [List.flatMap_cons]
    cases i with
    | zero => rw [Nat.zero_mul, List.drop_zero, List.take_append_of_le_length (by omega), List.take_of_length_le (by omega)]; rfl
    | succ i =>
      have ih := flat_piece (l := l) (fun y hy => h y (List.mem_cons_of_mem _ hy)) i (by simpa using hi)
      rw [List.drop_append, List.drop_of_length_le (by rw [hx, Nat.succ_mul]; omega), List.nil_append, hx, Nat.succ_mul, Nat.add_sub_cancel]
      exact ih
theorem rowB_len (r : RowM) : (rowB r).length = r.key.length + 8 * r.m.length := by
  unfold rowB
  rw [List.length_append, List.length_map, flat_size (w := 8) fun x _ => w8_len x]
  omega
theorem rowB_key (r : RowM) (j : Nat) (h : j < r.key.length) : (rowB r)[j]? = some (byteM r.key[j]) := by
  unfold rowB
  rw [List.getElem?_append_left (by simpa using h), List.getElem?_map, List.getElem?_eq_getElem h]
  rfl
theorem rowB_m (r : RowM) (j : Nat) (h : j < r.m.length) : ((rowB r).drop (r.key.length + 8 * j)).take 8 = w8 r.m[j] := by
  unfold rowB
  rw [List.drop_append, List.drop_of_length_le (by simp), List.nil_append, List.length_map, Nat.add_sub_cancel_left, Nat.mul_comm]
  exact flat_piece (fun x _ => w8_len x) j h
end Go.HC

/-
  What stands where in the bytes of facts, of cells.
-/
namespace Go.HC
theorem encF_eq (s : SchM) (rows : List RowM) : encF s rows = 67 :: 85 :: 66 :: 49 :: byteM s.cards.length :: (s.cards.map byteM ++ byteM s.ms :: byteM ((rows.length : Int).fdiv 256) :: byteM rows.length :: rows.flatMap fun r => r.key.map byteM ++ r.m.flatMap w8) := by
  unfold encF w2
  simp [List.append_assoc]
/-- The head of facts' bytes. -/
structure HeadAt (s : SchM) (rows : List RowM) (E flat : List UInt8) : Prop where
  take4 : E.take 4 = [67, 85, 66, 49]
  dims : E[4]? = some (byteM s.cards.length)
  card : ∀ (i : Nat) (h : i < s.cards.length), E[5 + i]? = some (byteM s.cards[i])
  ms : E[5 + s.cards.length]? = some (byteM s.ms)
  hi : E[6 + s.cards.length]? = some (byteM ((rows.length : Int).fdiv 256))
  lo : E[7 + s.cards.length]? = some (byteM rows.length)
  rest : E.drop (8 + s.cards.length) = flat
  len : E.length = 8 + s.cards.length + flat.length
theorem head_at (s : SchM) (rows : List RowM) : HeadAt s rows (encF s rows) (rows.flatMap fun r => r.key.map byteM ++ r.m.flatMap w8) := by
  obtain ⟨flat, ef⟩ : ∃ flat, flat = rows.flatMap fun r => r.key.map byteM ++ r.m.flatMap w8 := ⟨_, rfl⟩
  have e := encF_eq s rows
  rw [← ef] at e ⊢
  rw [e]
  have hl : (s.cards.map byteM).length = s.cards.length := List.length_map ..
  have at5 : ∀ k, (67 :: 85 :: 66 :: 49 :: byteM s.cards.length :: (s.cards.map byteM ++ byteM s.ms :: byteM ((rows.length : Int).fdiv 256) :: byteM rows.length :: flat))[5 + k]? = (s.cards.map byteM ++ byteM s.ms :: byteM ((rows.length : Int).fdiv 256) :: byteM rows.length :: flat)[k]? := fun k => by
    rw [show 5 + k = k + 1 + 1 + 1 + 1 + 1 by omega]
    simp only [List.getElem?_cons_succ]
  have behind : ∀ k, (s.cards.map byteM ++ byteM s.ms :: byteM ((rows.length : Int).fdiv 256) :: byteM rows.length :: flat)[s.cards.length + k]? = (byteM s.ms :: byteM ((rows.length : Int).fdiv 256) :: byteM rows.length :: flat)[k]? := fun k => by
    rw [List.getElem?_append_right (by omega), hl, Nat.add_sub_cancel_left]
  refine ⟨rfl, rfl, fun i hi => ?_, ?_, ?_, ?_, ?_, ?_⟩
  · rw [at5, List.getElem?_append_left (by omega), List.getElem?_map, List.getElem?_eq_getElem hi]
    rfl
  · have := behind 0
    rw [at5]
    exact this
  · rw [show 6 + s.cards.length = 5 + (s.cards.length + 1) by omega, at5, behind]
    rfl
  · rw [show 7 + s.cards.length = 5 + (s.cards.length + 2) by omega, at5, behind]
    rfl
  · rw [show 8 + s.cards.length = s.cards.length + 3 + 1 + 1 + 1 + 1 + 1 by omega]
    simp only [List.drop_succ_cons]
    rw [List.drop_append, hl, List.drop_of_length_le (by omega), List.nil_append, Nat.add_sub_cancel_left]
    rfl
  · simp
    omega
end Go.HC

/-
  Facts out of bytes, plainly.
-/
namespace Go.HC
/-- A schema that may be. -/
structure SchOk (s : SchM) : Prop where
  dims : 1 ≤ s.cards.length ∧ s.cards.length ≤ 4
  cards : ∀ c ∈ s.cards, 1 ≤ c ∧ c ≤ 16
  ms : 0 ≤ s.ms ∧ s.ms ≤ 2
theorem FactsOk.sch {s : SchM} {rows : List RowM} (h : FactsOk s rows) : SchOk s := ⟨h.dims, h.cards, h.ms⟩
/-- A key within its dimensions. -/
def FitR (cards key : List Int) : Prop := ∀ (i : Nat) (h : i < key.length) (h' : i < cards.length), 0 ≤ key[i] ∧ key[i] < cards[i]
def intB (c : UInt8) : Int := (c.toNat : Int)
def dimB (b : List UInt8) : Nat := (b.getD 4 0).toNat
/-- The schema that stands ahead of the rows. -/
def schB (b : List UInt8) : SchM := ⟨((b.drop 5).take (dimB b)).map intB, intB (b.getD (5 + dimB b) 0)⟩
def cntB (b : List UInt8) : Nat := (b.getD (6 + dimB b) 0).toNat * 256 + (b.getD (7 + dimB b) 0).toNat
def restB (b : List UInt8) : List UInt8 := b.drop (8 + dimB b)
structure HeadOk (b : List UInt8) : Prop where
  mark : b.take 4 = [67, 85, 66, 49]
  len : 8 + dimB b ≤ b.length
  sch : SchOk (schB b)
/-- A row of bytes. -/
def rowX (d m : Nat) (x : List UInt8) : RowM := ⟨(x.take d).map intB, (List.range m).map fun k => backM ((x.drop (d + 8 * k)).take 8)⟩
def widB (b : List UInt8) : Nat := dimB b + 8 * (schB b).ms.toNat
def rowB1 (b : List UInt8) (i : Nat) : RowM := rowX (dimB b) (schB b).ms.toNat (((restB b).drop (i * widB b)).take (widB b))
def rowsB (b : List UInt8) : List RowM := (List.range (cntB b)).map (rowB1 b)
/-- Bytes that are facts. -/
structure DecOk (b : List UInt8) : Prop where
  head : HeadOk b
  cnt : cntB b ≤ 300
  len : (restB b).length = cntB b * widB b
  fit : ∀ i, i < cntB b → FitR (schB b).cards (rowB1 b i).key
theorem HeadOk.cards_len {b : List UInt8} (h : HeadOk b) : (schB b).cards.length = dimB b := by
  have := h.len
  unfold schB
  rw [List.length_map, List.length_take, List.length_drop]
  omega
theorem int_byte {x : Int} (h0 : 0 ≤ x) (h : x < 256) : intB (byteM x) = x := byteM_small h0 h
theorem rowX_row {r : RowM} (hk : ∀ x ∈ r.key, 0 ≤ x ∧ x < 256) (hm : ∀ x ∈ r.m, -9223372036854775808 ≤ x ∧ x < 9223372036854775808) : rowX r.key.length r.m.length (rowB r) = r := by
  unfold rowX
  have e1 : ((rowB r).take r.key.length).map intB = r.key := by
    apply List.ext_getElem
    · have := rowB_len r
      simp
      omega
    · intro i h1 h2
      rw [List.getElem_map, List.getElem_take]
      have := rowB_key r i h2
      have hlt : i < (rowB r).length := by rw [rowB_len]; omega
      rw [List.getElem?_eq_getElem hlt, Option.some.injEq] at this
      rw [this]
      have := hk _ (List.getElem_mem h2)
      exact int_byte this.1 this.2
  have e2 : ((List.range r.m.length).map fun k => backM (((rowB r).drop (r.key.length + 8 * k)).take 8)) = r.m := by
    apply List.ext_getElem
    · simp
    · intro i h1 h2
      rw [List.getElem_map, List.getElem_range, rowB_m r i h2]
      have := hm _ (List.getElem_mem h2)
      exact back8 this.1 this.2
  rw [e1, e2]
theorem dec_enc {s : SchM} {rows : List RowM} (ok : FactsOk s rows) : DecOk (encF s rows) ∧ schB (encF s rows) = s ∧ rowsB (encF s rows) = rows := by
  have H := head_at s rows
  obtain ⟨E, eE⟩ : ∃ E, E = encF s rows := ⟨_, rfl⟩
  rw [← eE] at H ⊢
  obtain ⟨flat, ef⟩ : ∃ flat, flat = rows.flatMap rowB := ⟨_, rfl⟩
  have H : HeadAt s rows E flat := by rw [ef]; exact H
  have hdim := ok.dims
  have hms := ok.ms
  have hln := ok.len
  have get : ∀ (k : Nat) (x : UInt8), E[k]? = some x → E.getD k 0 = x := fun k x hx => by
    rw [List.getD_eq_getElem?_getD, hx]; rfl
  have e4 : dimB E = s.cards.length := by
    unfold dimB
    rw [get 4 _ H.dims]
    have := byteM_small (x := (s.cards.length : Int)) (by omega) (by omega)
    omega
  have es : schB E = s := by
    unfold schB
    rw [e4, get _ _ H.ms, int_byte (by omega) (by omega)]
    have : ((E.drop 5).take s.cards.length).map intB = s.cards := by
      apply List.ext_getElem
      · have := H.len
        simp
        omega
      · intro i h1 h2
        rw [List.getElem_map, List.getElem_take, List.getElem_drop]
        have := H.card i h2
        have hlt : 5 + i < E.length := by have := H.len; omega
        rw [List.getElem?_eq_getElem hlt, Option.some.injEq] at this
        rw [this]
        have := ok.cards _ (List.getElem_mem h2)
        exact int_byte (by omega) (by omega)
    rw [this]
  have ec : cntB E = rows.length := by
    unfold cntB
    rw [e4, get _ _ H.hi, get _ _ H.lo]
    have h1 := byteM_nat ((rows.length : Int).fdiv 256)
    have h2 := byteM_nat (rows.length : Int)
    rw [Int.fdiv_eq_ediv_of_nonneg _ (by decide)] at h1 ⊢
    omega
  have er : restB E = flat := by unfold restB; rw [e4]; exact H.rest
  have ew : widB E = s.cards.length + 8 * s.ms.toNat := by unfold widB; rw [e4, es]
  have hrl : ∀ r ∈ rows, (rowB r).length = widB E := fun r hr => by rw [ew, rowB_len, (ok.key r hr).1, (ok.m r hr).1]
  have eri : ∀ (i : Nat) (h : i < rows.length), rowB1 E i = rows[i] := fun i hi => by
    unfold rowB1
    have hm := List.getElem_mem hi
    have := rowX_row (r := rows[i]) (fun x hx => by
      obtain ⟨j, hj, rfl⟩ := List.mem_iff_getElem.1 hx
      have hk := ok.key _ hm
      have h1 := hk.2 j hj (by omega)
      have h2 := ok.cards _ (List.getElem_mem (show j < s.cards.length by omega))
      omega) (ok.m _ hm).2
    rw [er, ef, flat_piece hrl i hi, e4, es]
    rw [(ok.key _ hm).1, (ok.m _ hm).1] at this
    exact this
  have ers : rowsB E = rows := by
    unfold rowsB
    rw [ec]
    apply List.ext_getElem
    · simp
    · intro i h1 h2
      rw [List.getElem_map, List.getElem_range, eri i h2]
  refine ⟨⟨⟨H.take4, by rw [e4]; have := H.len; omega, by rw [es]; exact ok.sch⟩, by omega, by rw [er, ec, ef]; exact flat_size hrl, fun i hi => ?_⟩, es, ers⟩
  rw [ec] at hi
  rw [eri i hi, es]
  exact (ok.key _ (List.getElem_mem hi)).2
theorem strOf_mark {xs : List UInt8} : strOf xs = ⟨#[67, 85, 66, 49]⟩ ↔ xs = [67, 85, 66, 49] := by
  refine ⟨fun h => ?_, fun h => by rw [h]; rfl⟩
  have := congrArg (fun x : ByteArray => x.data.toList) h
  simpa [strOf] using this
end Go.HC

/-
  The document's schemas, rows that may be.
-/
namespace Go.Proofs
open Go Go.HC

end Go.Proofs

/-
  The document's head of facts.
-/
namespace Go.Proofs
open Go Go.HC

end Go.Proofs

/-
  HC, part 28: iterators that change no old block: what one asks of the function that it is handed; a range over one.
-/
namespace Go.HC
/-- What an iterator is handed: a function that takes one more datum. J: what holds when these have been taken (M: the blocks that may be changed since). A: which may come next. -/
structure YieldsM {α : Type} (P : Program) (y : Value) (val : α → Array Value) (A : List α → α → (Nat → Prop) → Heap → Prop) (J : List α → (Nat → Prop) → Heap → Prop) : Prop where
  lt : ∀ {xs M h}, J xs M h → ∀ b, M b → b < h.size
  call : ∀ {xs M h h'}, J xs M h → Keep none_ h h' → J xs M h'
  step : ∀ {xs x M h}, J xs M h → A xs x M h → callV P y (val x) h fun v h' => v = .bool true ∧ ∃ M', J (xs ++ [x]) M' h' ∧ Tr M M' h h'
/-- An iterator's contract: Fp: the blocks that it reads, as they are in h0; Done: what has come when it ends. -/
def IterM {α : Type} (P : Program) (f : FuncId) (first caps : Array Value) (val : α → Array Value) (A : List α → α → (Nat → Prop) → Heap → Prop) (Done : List α → Prop) (Fp : Nat → Prop) (h0 : Heap) : Prop :=
  ∀ (y : Value) (J : List α → (Nat → Prop) → Heap → Prop) (M : Nat → Prop) (h : Heap), (∃ fn u v, y = .func fn u v) → YieldsM P y val A J → J [] M h → h0.size ≤ h.size → (∀ b, Fp b → b < h0.size ∧ ¬ M b ∧ h[b]? = h0[b]?) →
    CallH P f (first ++ #[y] ++ caps) h fun _ h' => ∃ xs M', Done xs ∧ J xs M' h' ∧ Tr M M' h h'
/-- How a round's body ends. -/
def bodyM {α : Type} (dm : Nat) (M : Nat → Prop) (h1 h3 : Heap) (I : List α → (Nat → Prop) → Heap → Prop) (xs : List α) (_t : Tag I) (h4 : Heap) : Prop :=
  ∃ M4, I xs M4 h4 ∧ Tr M M4 h1 h4 ∧ M4 dm ∧ M4 (dm + 1) ∧ h4[dm]? = h3[dm]? ∧ h4[dm + 1]? = h3[dm + 1]?
def bodyMk {α : Type} (dm : Nat) (M : Nat → Prop) (h1 h3 : Heap) (I : List α → (Nat → Prop) → Heap → Prop) (xs : List α) : Kont :=
  { nx := fun _ _ h4 => bodyM dm M h1 h3 I xs ⟨⟩ h4, rt := fun _ _ _ => False, ex := fun _ _ _ _ => False, gt := fun _ _ _ _ => False }
/-- How the assignment ahead of it ends. -/
def asgM {α : Type} (P : Program) (n dm : Nat) (y : Code) (M : Nat → Prop) (h1 : Heap) (I : List α → (Nat → Prop) → Heap → Prop) (xs : List α) : Kont :=
  { nx := fun l2 b2 h2 => Keep none_ h1 h2 ∧ ∀ h3 : Heap, Keep (fun b => b = dm + 1) h2 h3 → h3.size = h2.size → cs P n (some (dm + 1)) y (bodyMk dm M h1 h3 I xs) l2 b2 h3,
    rt := fun _ _ _ => False, ex := fun _ _ _ _ => False, gt := fun _ _ _ _ => False }
section
variable {P : Program} {n : Nat} {κ : Kont} {l : L} {b : Base} {h : Heap} {α : Type}
@[simp] theorem bodyMk_nx (dm : Nat) (M : Nat → Prop) (h1 h3 : Heap) (I : List α → (Nat → Prop) → Heap → Prop) (xs : List α) : (bodyMk dm M h1 h3 I xs).nx l b h = bodyM dm M h1 h3 I xs ⟨⟩ h := _root_.id rfl
@[simp] theorem bodyMk_ex (dm : Nat) (M : Nat → Prop) (h1 h3 : Heap) (I : List α → (Nat → Prop) → Heap → Prop) (xs : List α) (j : Nat) : (bodyMk dm M h1 h3 I xs).ex j l b h = False := _root_.id rfl
@[simp] theorem bodyMk_rt (dm : Nat) (M : Nat → Prop) (h1 h3 : Heap) (I : List α → (Nat → Prop) → Heap → Prop) (xs : List α) : (bodyMk dm M h1 h3 I xs).rt l b h = False := _root_.id rfl
@[simp] theorem asgM_nx (dm : Nat) (y : Code) (M : Nat → Prop) (h1 : Heap) (I : List α → (Nat → Prop) → Heap → Prop) (xs : List α) : (asgM P n dm y M h1 I xs).nx l b h =
    (Keep none_ h1 h ∧ ∀ h3 : Heap, Keep (fun b => b = dm + 1) h h3 → h3.size = h.size → cs P n (some (dm + 1)) y (bodyMk dm M h1 h3 I xs) l b h3) := _root_.id rfl
theorem callV_by {y : Value} {args : Array Value} {h : Heap} {K K' : Value → Heap → Prop} (hc : callV P y args h K') (hk : ∀ v h, K' v h → K v h) : callS P y args h K :=
  hp_mono _ hc fun x h hx => nextK_mono hk x h hx
/-- 'for x := range f { .. }', f an iterator with a contract; no round leaves the loop. I: what holds between two rounds. -/
theorem range_m {g : Operand} {ps : Array Tmp} {x y : Code} {f : FuncId} {caps first : Array Value} {val : α → Array Value} {A : List α → α → (Nat → Prop) → Heap → Prop} {Done : List α → Prop} {Fp : Nat → Prop}
    (hg : ev l b g = .func (.func f) first caps) (hfn : FnOk P f) (hit : IterM P f first caps val A Done Fp h)
    (I : List α → (Nat → Prop) → Heap → Prop)
    (hlt : ∀ {xs M h'}, I xs M h' → ∀ b, M b → b < h'.size) (hmono : ∀ {xs M h1 h2}, I xs M h1 → M h.size → M (h.size + 1) → Keep (fun b => b = h.size + 1) h1 h2 → I xs M h2)
    (M0 : Nat → Prop) (hFp : ∀ b, Fp b → b < h.size ∧ ¬ M0 b) (hI0 : ∀ h1 : Heap, Keep none_ h h1 → h1.size = h.size + 2 → I [] (fun b => M0 b ∨ b = h.size ∨ b = h.size + 1) h1)
    (hok1 : codeOk n x = true) (hok2 : codeOk n y = true) (hps : ∀ v, (val v).size = ps.size) (hpn : ∀ p ∈ ps.toList, p < n)
    (round : ∀ xs v M h1, I xs M h1 → A xs v M h1 → h.size + 2 ≤ h1.size → M h.size → M (h.size + 1) → Tr M0 M h h1 →
      cs P n (some (h.size + 1)) x (asgM P n h.size y M h1 I (xs ++ [v])) (putAll (ps.toList.zip (val v).toList) l) ⟨b.g, []⟩ h1)
    (fin : ∀ xs M h', Done xs → I xs M h' → h'[h.size]? = some (.deferred (some [])) → h.size + 2 ≤ h'.size → M h.size → M (h.size + 1) → Tr M0 M h h' → κ.nx l ⟨b.g, h.size :: b.d⟩ h') :
    gs P n none (.rangeFunc g ps x y) κ l b h := by
  refine rangeFunc_rule hg hfn ?_
  intro fnid T hfr
  generalize hH : (h.push (.deferred (some []))).push (.loop { state := .ready, pending := none, fn := fnid, tmps := T, params := ps, assign := x, body := y, defers := h.size }) = H
  let rec0 : Loop := { state := .ready, pending := none, fn := fnid, tmps := T, params := ps, assign := x, body := y, defers := h.size }
  have hHs : H.size = h.size + 2 := by rw [← hH]; simp
  have hHl : H[h.size + 1]? = some (.loop rec0) := by
    rw [← hH]
    have : (h.push (.deferred (some []))).size = h.size + 1 := by simp
    rw [← this]
    exact push_new _ _
  have hHd : H[h.size]? = some (.deferred (some [])) := by
    rw [← hH, Array.getElem?_push, if_neg (by simp)]
    simp
  have hHo : ∀ b, b < h.size → H[b]? = h[b]? := by
    intro b hb
    rw [← hH, Array.getElem?_push, if_neg (by simp; omega), Array.getElem?_push, if_neg (by omega)]
  have hkH : Keep none_ h H := ⟨by omega, fun b hb _ => hHo b hb⟩
  have hIH := hI0 H hkH hHs
  have hM0 : ∀ b, M0 b → b < h.size ∨ b = h.size ∨ b = h.size + 1 := fun b hb => by have := hlt hIH b (.inl hb); omega
  have tH : Tr M0 (fun b => M0 b ∨ b = h.size ∨ b = h.size + 1) h H := ⟨hkH.weaken fun _ _ h => h.elim, fun b hb => hb.imp id fun h => by omega, hlt hIH⟩
  let J : List α → (Nat → Prop) → Heap → Prop := fun xs M h1 => h1[h.size + 1]? = some (.loop rec0) ∧ h1[h.size]? = some (.deferred (some [])) ∧ I xs M h1 ∧ M h.size ∧ M (h.size + 1) ∧ h.size + 2 ≤ h1.size ∧ Tr M0 M h h1
  have hy : YieldsM P (yv (h.size + 1)) val A J := by
    refine ⟨?_, ?_, ?_⟩
    · rintro xs M h1 ⟨_, _, hI, _⟩ b hb
      exact hlt hI b hb
    · rintro xs M h1 h1' ⟨h2, h3, hI, m1, m2, h6, t⟩ k
      exact ⟨k.at h2 (fun h => h), k.at h3 (fun h => h), hmono hI m1 m2 (k.weaken fun _ _ h => h.elim), m1, m2, Nat.le_trans h6 k.size, t.call k⟩
    · rintro xs v M h1 ⟨h2, h3, hI, m1, m2, h6, t⟩ hA
      refine callV_yield h2 (hps v) ?_
      have hfr1 : IsFr n ⟨T, []⟩ l ⟨b.g, []⟩ := ⟨hfr.size, fun t => (hfr.slot t).trans (look_base l b.g b.d [] t), rfl⟩
      have hfr2 := isFr_putAll (ps.toList.zip (val v).toList) hfr1 (fun p hp => hpn _ (List.of_mem_zip hp).1)
      have hfold : (ps.zip (val v)).foldl (fun tmps (t, a) => tmps.setIfInBounds t a) T = (ps.toList.zip (val v).toList).foldl (fun tmps p => tmps.setIfInBounds p.1 p.2) T := by
        rw [← Array.foldl_toList, Array.toList_zip]
      refine roundH_of (hfold ▸ hfr2) hok1 hok2 ?_
      refine csem_mono (κ := asgM P n h.size y M h1 I (xs ++ [v])) x ⟨?_, fun _ _ _ h => h, fun _ _ _ _ h => h, fun _ _ _ _ h => h⟩ (round xs v M h1 hI hA h6 m1 m2 t)
      rintro l2 b2 h2' ⟨hk2, hbody⟩
      have hlp2 : h2'[h.size + 1]? = some (.loop rec0) := hk2.at h2 (fun h => h)
      have hsz2 := hk2.size
      refine ⟨rec0, hlp2, rfl, ?_⟩
      generalize hH3 : h2'.setIfInBounds (h.size + 1) (.loop { rec0 with state := .busy }) = h3'
      have hs3 : h3'.size = h2'.size := by rw [← hH3]; simp
      have hl3 : h3'[h.size + 1]? = some (.loop { rec0 with state := .busy }) := by rw [← hH3]; exact set_same _ (by omega)
      have ho3 : ∀ b, b ≠ h.size + 1 → h3'[b]? = h2'[b]? := by intro b hb; rw [← hH3]; exact set_other _ (fun e => hb e.symm)
      have hd3 : h3'[h.size]? = some (.deferred (some [])) := (ho3 _ (by omega)).trans (hk2.at h3 (fun h => h))
      refine csem_mono (κ := bodyMk h.size M h1 h3' I (xs ++ [v])) y ⟨?_, fun _ _ _ h => h.elim, fun _ _ _ _ h => h.elim, fun _ _ _ _ h => h.elim⟩ (hbody h3' ⟨by omega, fun b _ hb => ho3 b hb⟩ hs3)
      rintro l4 b4 h4 ⟨M4, hI4, t4, m4, m4', e1, e2⟩
      have hl4 : h4[h.size + 1]? = some (.loop { rec0 with state := .busy }) := e2.trans hl3
      have hs4 := t4.size
      refine ⟨_, hl4, rfl, M4, ⟨set_same _ (by omega), (set_other _ (by omega)).trans (e1.trans hd3), hmono hI4 m4 m4' (.set _ _ fun _ => rfl), m4, m4', by simp; omega, (t.trans t4).set _ m4'⟩, t4.set _ m4'⟩
  refine (hit (yv (h.size + 1)) J _ H ⟨_, _, _, rfl⟩ hy ⟨hHl, hHd, hIH, .inr (.inl rfl), .inr (.inr rfl), by omega, tH⟩ (by omega) ?_).mono ?_
  · intro b hb
    obtain ⟨h1, h2⟩ := hFp b hb
    exact ⟨h1, fun hh => hh.elim h2 (fun h => by omega), hHo b h1⟩
  · rintro v h' ⟨xs, M', hdone, ⟨h2, h3, hI, m1, m2, h6, t⟩, hk⟩
    refine ⟨rec0, h2, by simp [rec0], ?_⟩
    exact fin xs M' _ hdone (hmono hI m1 m2 (.set _ _ fun _ => rfl)) ((set_other _ (by omega)).trans h3) (by simp; omega) m1 m2 (t.set _ m2)
/-- What is changed is new. -/
theorem Tr.from_ {M M' : Nat → Prop} {h h' h'' : Heap} (k : Keep none_ h h') (t : Tr M M' h' h'') (hM : ∀ b, M b → h.size ≤ b) : Tr none_ M' h h'' :=
  ⟨⟨Nat.le_trans k.size t.size, fun b hb _ => by rw [t.keep.blk b (Nat.lt_of_lt_of_le hb k.size) fun hm => by have := hM b hm; omega, k.blk b hb (fun h => h)]⟩,
    fun b hb => .inr ((t.new b hb).elim (hM b) fun h => Nat.le_trans k.size h), t.lt⟩
/-- A loop's own block is written. -/
theorem Tr.lp {M : Nat → Prop} {h h' : Heap} {lp : Nat} (hM : ∀ b, M b → b < h.size) (hl : M lp) (k : Keep (fun b => b = lp) h h') : Tr M M h h' :=
  ⟨k.weaken fun _ _ e => e ▸ hl, fun _ h => .inl h, fun b hb => Nat.lt_of_lt_of_le (hM b hb) k.size⟩
theorem Gr.lp {R : Rp α} {e n : Nat} {M : Nat → Prop} {h h' : Heap} {v : Value} {xs : List α} {own : Option Nat} {lp : Nat} (g : Gr R e n M h v xs own) (hM : ∀ b, M b → b < h.size) (hl : M lp) (hne : own ≠ some lp) (k : Keep (fun b => b = lp) h h') : Gr R e n M h' v xs own :=
  g.mono (.lp hM hl k) (Nat.le_refl _) fun b hb => ⟨g.mu b hb, k.blk b (g.own_lt b hb) fun e => hne (by rw [hb, e])⟩
end
end Go.HC

/-
  HC, part 29: a loop whose rounds range over functions; what is taken up at the end.
-/
namespace Go.HC
section
variable {P : Program} {n : Nat} {ro : Option Nat} {c : Code} {κ : Kont} {l : L} {b : Base} {h : Heap} {σ : Type}
end
end Go.HC

/-
  The document's facts out of bytes.
-/
namespace Go.Proofs
open Go Go.HC

end Go.Proofs

/-
  HashPlaces: the plain law; the document's place of a key.
-/
namespace Go.HC
end Go.HC

/-
  HashPlaces: the document's place of a key.
-/
namespace Go.HC
end Go.HC
namespace Go.Proofs
open Go Go.HC

end Go.Proofs

/-
  Two cells as one.
-/
namespace Go.Proofs
open Go Go.HC

set_option maxHeartbeats 4000000 in
set_option maxRecDepth 10000 in
theorem both_spec {F G : Nat → Prop} {h : Heap} {av bv : Value} {xs ys : List Int} {f : FuncId} {g : Int → Int → Int} (hfn : FnOk Tryz.prog f)
    (hdo : ∀ (x y : Int) (h : Heap), CallH Tryz.prog f #[.int .i64 x, .int .i64 y] h fun r h' => r = .int .i64 (g x y) ∧ h' = h)
    (ha : SlRep rInt F h av xs) (hF : ∀ b, F b → b < h.size) (hb : SlRep rInt G h bv ys) (hG : ∀ b, G b → b < h.size) (hl : xs.length < 1000000000) :
    CallH Tryz.prog 132 #[av, bv, .func (.func f) #[] #[]] h fun r h' => ∃ own, Grow rInt 3 none_ h' r (List.zipWith g xs ys) own ∧ Keep none_ h h' ∧ ∀ b, own = some b → h.size ≤ b := by
  refine callH_by fun K hK => ?_
  refine enter [.tmp 6] Tryz.func132 rfl rfl (by kernel_rfl) rfl ?_
  obtain ⟨a0, c0, rfl, hc0, hc0'⟩ := ha.val
  obtain ⟨a1, c1, rfl, hc1, hc1'⟩ := hb.val
  have hzl : (List.zipWith g xs ys).length = min xs.length ys.length := List.length_zipWith
  simp -dsimp
  refine loop' (σ := Nat × Value) (fun t => [(1, .slice a1 ys.length c1), (2, .func (.func f) #[] #[]), (7, t.2), (10, .slice a0 xs.length c0), (11, .int .i64 xs.length), (12, .int .i64 t.1)]) (fun _ => [])
    (fun t h1 => Keep none_ h h1 ∧ t.1 ≤ xs.length ∧ ∃ own, Grow rInt 3 none_ h1 t.2 ((List.zipWith g xs ys).take t.1) own ∧ ∀ b, own = some b → h.size ≤ b) (fun t => xs.length - t.1) (0, .slice none 0 0) ?_ rfl ⟨.refl _ _, Nat.zero_le _, none, .nil _ _ _ _, fun b hb => by cases hb⟩ (by kernel_rfl) ?_
  · intro p hp
    simp at hp
    rcases hp with rfl | rfl | rfl | rfl | rfl | rfl <;> simp
  · rintro ⟨k, tv⟩ h1 gg ⟨k1, hk, own, hg, ho⟩
    simp only at hk hg
    have e1 := k1.size
    obtain ⟨ta, tc, htv⟩ := hg.val
    obtain ⟨m, hm⟩ : ∃ m, ((List.zipWith g xs ys).take k).length = m := ⟨_, rfl⟩
    rw [hm] at htv
    subst htv
    by_cases hkl : k < xs.length
    · have ha1 := ha.mono (F' := F) (h' := h1) fun b hb => ⟨hb, k1.blk b (hF b hb) (fun h => h)⟩
      obtain ⟨b1, o1, v1, rfl, _, hr1, hcc1⟩ := ha1.get1 rfl k hkl
      have hv1 : v1 = .int .i64 xs[k] := by simpa [rInt] using hr1
      subst hv1
      have hidx1 : ∀ (K : Value → Heap → Prop) (h : Heap), indexAddrS Tryz.prog 22 (.slice (some ⟨b1, o1, none⟩) xs.length c0) (.int .i64 (k : Int)) h K = K (.pointer (some ⟨b1, o1 + k, none⟩)) h := by
        intro K h
        rw [indexAddrS_slice _ _ _ _ _ _ (by omega) (by omega) rfl]
        simp [elSz]
      have wk : IntKind.i64.wrap ((k : Int) + 1) = ((k + 1 : Nat) : Int) := by rw [wrap_i64 (by omega) (by omega)]; rfl
      by_cases hky : k < ys.length
      · have hb1 := hb.mono (F' := G) (h' := h1) fun b hb => ⟨hb, k1.blk b (hG b hb) (fun h => h)⟩
        obtain ⟨b2, o2, v2, rfl, _, hr2, hcc2⟩ := hb1.get1 rfl k hky
        have hv2 : v2 = .int .i64 ys[k] := by simpa [rInt] using hr2
        subst hv2
        have hidx2 : ∀ (K : Value → Heap → Prop) (h : Heap), indexAddrS Tryz.prog 22 (.slice (some ⟨b2, o2, none⟩) ys.length c1) (.int .i64 (k : Int)) h K = K (.pointer (some ⟨b2, o2 + k, none⟩)) h := by
          intro K h
          rw [indexAddrS_slice _ _ _ _ _ _ (by omega) (by omega) rfl]
          simp [elSz]
        have htl : ((List.zipWith g xs ys).take k).length = k := by rw [List.length_take, hzl]; omega
        have hnx : (List.zipWith g xs ys).take (k + 1) = (List.zipWith g xs ys).take k ++ [g xs[k] ys[k]] := by
          rw [List.take_add_one, List.getElem?_eq_getElem (by rw [hzl]; omega), List.getElem_zipWith]
          rfl
        simp -dsimp [hkl, hidx1, hcc1, hky, hidx2, hcc2, hfn]
        refine call_by (hdo xs[k] ys[k] h1) ?_
        rintro _ h1' ⟨rfl, hh⟩
        obtain rfl := hh.symm
        simp -dsimp
        have hps : (h1.push (.cells #[.int .i64 (g xs[k] ys[k])] 3)).size = h1.size + 1 := by simp
        have hgp := hg.push (fun _ h => h.elim) (.cells #[.int .i64 (g xs[k] ys[k])] 3)
        refine append_grow (F2 := fun b => b = h1.size) (ys := [g xs[k] ys[k]]) intT hgp (fun _ (h : none_ _) => h.elim) rfl
          (.inr ⟨h1.size, 0, _, _, _, rfl, rfl, push_new _ _, rfl⟩) (.single rfl) (by rw [htl]; simp; omega) (by rw [htl]; simp; omega) ?_
        intro tv' h2 own' hg2 kk2 ho2
        rw [hps] at ho2
        have e2 := kk2.size
        rw [hps] at e2
        rw [← hnx] at hg2
        simp -dsimp [wk]
        refine ⟨(k + 1, tv'), ?_, rfl, ⟨⟨by omega, fun b hb _ => by rw [kk2.blk b (by omega) (fun e => by have := ho b e; omega), push_old _ (by omega), k1.blk b hb (fun h => h)]⟩, by show k + 1 ≤ xs.length; omega, own', hg2, fun b hb => (ho2 b hb).elim (ho b) (fun h => by omega)⟩, by show xs.length - (k + 1) < xs.length - k; omega⟩
        intro p hp
        simp at hp
        rcases hp with rfl | rfl | rfl | rfl | rfl | rfl <;> simp
      · have hnx : (List.zipWith g xs ys).take (k + 1) = (List.zipWith g xs ys).take k := by
          rw [List.take_of_length_le (by rw [hzl]; omega), List.take_of_length_le (by rw [hzl]; omega)]
        have hg' : Grow rInt 3 none_ h1 (.slice ta m tc) ((List.zipWith g xs ys).take (k + 1)) own := by rw [hnx]; exact hg
        simp -dsimp [hkl, hidx1, hcc1, hky, wk]
        refine ⟨(k + 1, .slice ta m tc), ?_, rfl, ⟨k1, by show k + 1 ≤ xs.length; omega, own, hg', ho⟩, by show xs.length - (k + 1) < xs.length - k; omega⟩
        intro p hp
        simp at hp
        rcases hp with rfl | rfl | rfl | rfl | rfl | rfl <;> simp
    · have hall : (List.zipWith g xs ys).take k = List.zipWith g xs ys := List.take_of_length_le (by rw [hzl]; omega)
      rw [hall] at hg
      simp -dsimp [hkl]
      refine call_by (cloneInt_spec hg.ints hg.own_lt (by rw [hzl]; omega)) ?_
      rintro _ h2 ⟨own2, hg2, k2, ho2⟩
      obtain ⟨a2, c2, hv2⟩ := hg2.val
      obtain ⟨m2, hm2⟩ : ∃ m, (List.zipWith g xs ys).length = m := ⟨_, rfl⟩
      rw [hm2] at hv2
      subst hv2
      simp -dsimp
      exact hK _ _ ⟨own2, hg2, k1.trans k2 (fun _ _ h => h), fun b hb => by have := ho2 b hb; omega⟩

set_option maxHeartbeats 40000000 in
set_option maxRecDepth 10000 in
theorem join_th {F G : Nat → Prop} {h : Heap} {cs ds : List Value} {a b : CellM} (ha : rCell.rep F h cs a) (hF : ∀ b, F b → b < h.size) (sa : CellSmall a) (hb : rCell.rep G h ds b) (hG : ∀ b, G b → b < h.size) :
    CallH Tryz.prog 96 #[.agg cs.toArray, .agg ds.toArray] h fun r h' => ∃ es E, r = .agg es.toArray ∧ rCell.rep E h' es (joinC a b) ∧ Keep none_ h h' ∧ (∀ b, E b → h.size ≤ b ∧ b < h'.size) ∧ ∀ b, E b → Thaw h' b := by
  refine callH_by fun K hK => ?_
  refine enter [.cell 4 65] Tryz.func96 rfl rfl (by kernel_rfl) rfl ?_
  obtain ⟨kv, sv, nv, xv, rfl, r1, r2, r3, r4⟩ := ha
  obtain ⟨ka, kc, rfl, _, _⟩ := r1.val
  obtain ⟨s1, sc, rfl, _, _⟩ := r2.val
  obtain ⟨na, nc, rfl, _, _⟩ := r3.val
  obtain ⟨xa, xc, rfl, _, _⟩ := r4.val
  obtain ⟨kv', sv', nv', xv', rfl, q1, q2, q3, q4⟩ := hb
  obtain ⟨ka', kc', rfl, _, _⟩ := q1.val
  obtain ⟨sa', sc', rfl, _, _⟩ := q2.val
  obtain ⟨na', nc', rfl, _, _⟩ := q3.val
  obtain ⟨xa', xc', rfl, _, _⟩ := q4.val
  simp -dsimp [boxS_eq]
  generalize hB : Array.push _ _ = h0
  have hz0 : h0.size = h.size + 3 := by rw [← hB]; simp
  have k0 : Keep none_ h h0 := by rw [← hB]; exact (((Keep.refl none_ h).pushed _).pushed _).pushed _
  have hp1 : ∀ o, (h.push o).size = h.size + 1 := fun o => by simp
  have hp2 : ∀ o o', ((h.push o).push o').size = h.size + 2 := fun o o' => by simp
  have hA0 : h0[h.size]? = some (.cells #[.slice ka a.key.length kc, .int .i64 a.count, .slice s1 a.sum.length sc, .slice na a.mn.length nc, .slice xa a.mx.length xc] 65 (0, 0)) := by rw [← hB]; exact push_at (push_at (push_new _ _))
  have hB0 : h0[h.size + 1]? = some (.cells #[.slice ka' b.key.length kc', .int .i64 b.count, .slice sa' b.sum.length sc', .slice na' b.mn.length nc', .slice xa' b.mx.length xc'] 65 (0, 0)) := by
    rw [← hB]; refine push_at ?_; rw [← hp1]; exact push_new _ _
  have hT0 : h0[h.size + 2]? = some (.cells #[.slice none 0 0, .int .i64 0, .slice none 0 0, .slice none 0 0, .slice none 0 0] 65 (0, 0)) := by
    rw [← hB, ← hp2]; exact push_new _ _
  have m1 : ∀ (h' : Heap), Keep none_ h h' → ∀ b, F b → F b ∧ h'[b]? = h[b]? := fun h' k b hb => ⟨hb, k.blk b (hF b hb) (fun h => h)⟩
  have m2 : ∀ (h' : Heap), Keep none_ h h' → ∀ b, G b → G b ∧ h'[b]? = h[b]? := fun h' k b hb => ⟨hb, k.blk b (hG b hb) (fun h => h)⟩
  refine drawn_by [⟨0, true, []⟩, ⟨1, true, []⟩, ⟨3, true, []⟩, ⟨4, true, []⟩, ⟨5, true, []⟩, ⟨6, true, []⟩, ⟨7, true, []⟩, ⟨8, true, []⟩, ⟨9, true, []⟩, ⟨10, true, []⟩, ⟨11, true, []⟩, ⟨13, true, []⟩, ⟨14, true, []⟩, ⟨15, true, []⟩, ⟨16, true, []⟩, ⟨18, true, []⟩, ⟨19, true, []⟩, ⟨20, true, []⟩, ⟨21, true, []⟩, ⟨2, false, [3, 4, 5, 6, 7, 8, 9, 10, 11, 13, 14, 15, 16, 18, 19, 20, 21]⟩, ⟨12, false, [3, 4, 5, 6, 7, 13, 14, 15, 16, 18, 19, 20, 21]⟩, ⟨17, false, [3, 4, 5, 6, 7, 18, 19, 20, 21]⟩, ⟨22, false, [3, 4, 5, 6, 7]⟩, ⟨23, false, []⟩, ⟨24, false, []⟩] (by kernel_rfl) (by kernel_rfl) ?_
  simp -dsimp [hA0, hB0]
  refine call_by (cloneInt_spec (r1.mono (m1 h0 k0)) (fun b hb => by have := hF b hb; omega) (by have := sa.key; omega)) ?_
  rintro _ h1 ⟨o1, g1, k1, n1⟩
  obtain ⟨a1, c1, rfl⟩ := g1.val
  have k01 := k0.trans k1 (fun _ _ h => h)
  have hA1 := k1.at hA0 (fun h => h)
  have hB1 := k1.at hB0 (fun h => h)
  have e1 := k1.size
  simp -dsimp [again_cons, hA1, hB1]
  refine call_by (both_spec (f := 133) (by simp) add_spec (r2.mono (m1 h1 k01)) (fun b hb => by have := hF b hb; omega) (q2.mono (m2 h1 k01)) (fun b hb => by have := hG b hb; omega) sa.sum) ?_
  rintro _ h2 ⟨o2, g2, k2, n2⟩
  obtain ⟨a2, c2, hv2⟩ := g2.val
  obtain ⟨l2, hl2⟩ : ∃ m, (List.zipWith (fun x y => IntKind.i64.wrap (x + y)) a.sum b.sum).length = m := ⟨_, rfl⟩
  rw [hl2] at hv2
  subst hv2
  have k02 := k01.trans k2 (fun _ _ h => h)
  have hA2 := k2.at hA1 (fun h => h)
  have hB2 := k2.at hB1 (fun h => h)
  have e2 := k2.size
  simp -dsimp [again_cons, hA2, hB2]
  refine call_by (both_spec (f := 134) (by simp) min_spec (r3.mono (m1 h2 k02)) (fun b hb => by have := hF b hb; omega) (q3.mono (m2 h2 k02)) (fun b hb => by have := hG b hb; omega) sa.mn) ?_
  rintro _ h3 ⟨o3, g3, k3, n3⟩
  obtain ⟨a3, c3, hv3⟩ := g3.val
  obtain ⟨l3, hl3⟩ : ∃ m, (List.zipWith min a.mn b.mn).length = m := ⟨_, rfl⟩
  rw [hl3] at hv3
  subst hv3
  have k03 := k02.trans k3 (fun _ _ h => h)
  have hA3 := k3.at hA2 (fun h => h)
  have hB3 := k3.at hB2 (fun h => h)
  have e3 := k3.size
  simp -dsimp [again_cons, hA3, hB3]
  refine call_by (both_spec (f := 135) (by simp) max_spec (r4.mono (m1 h3 k03)) (fun b hb => by have := hF b hb; omega) (q4.mono (m2 h3 k03)) (fun b hb => by have := hG b hb; omega) sa.mx) ?_
  rintro _ h4 ⟨o4, g4, k4, n4⟩
  obtain ⟨a4, c4, hv4⟩ := g4.val
  obtain ⟨l4, hl4⟩ : ∃ m, (List.zipWith max a.mx b.mx).length = m := ⟨_, rfl⟩
  rw [hl4] at hv4
  subst hv4
  have k04 := k03.trans k4 (fun _ _ h => h)
  have hA4 := k4.at hA3 (fun h => h)
  have hB4 := k4.at hB3 (fun h => h)
  have hT4 := k4.at (k3.at (k2.at (k1.at hT0 (fun h => h)) (fun h => h)) (fun h => h)) (fun h => h)
  have e4 := k4.size
  have hset : ∀ o, (h4.setIfInBounds (h.size + 2) o)[h.size + 2]? = some o := fun o => set_same o (by omega)
  simp -dsimp [again_cons, hA4, hB4, hT4, hset]
  generalize hH : h4.setIfInBounds (h.size + 2) _ = h5
  have hz5 : h5.size = h4.size := by rw [← hH]; simp
  have hold : ∀ b, b ≠ h.size + 2 → h5[b]? = h4[b]? := fun b hn => by rw [← hH, set_other _ (fun e => hn e.symm)]
  have p1 := g1.own_lt
  have p2 := g2.own_lt
  have p3 := g3.own_lt
  have p4 := g4.own_lt
  refine hK _ _ ⟨_, fun b => o1 = some b ∨ o2 = some b ∨ o3 = some b ∨ o4 = some b, rfl, ⟨_, _, _, _, rfl, ?_, ?_, ?_, ?_⟩, ⟨by omega, fun b hb _ => by rw [hold b (by omega), k04.blk b hb (fun h => h)]⟩, ?_, ?_⟩
  · exact g1.ints.mono fun b hb => ⟨.inl hb, by
      have := n1 b hb
      have := p1 b hb
      rw [hold b (by omega), k4.blk b (by omega) (fun h => h), k3.blk b (by omega) (fun h => h), k2.blk b (by omega) (fun h => h)]⟩
  · exact g2.ints.mono fun b hb => ⟨.inr (.inl hb), by
      have := n2 b hb
      have := p2 b hb
      rw [hold b (by omega), k4.blk b (by omega) (fun h => h), k3.blk b (by omega) (fun h => h)]⟩
  · exact g3.ints.mono fun b hb => ⟨.inr (.inr (.inl hb)), by
      have := n3 b hb
      have := p3 b hb
      rw [hold b (by omega), k4.blk b (by omega) (fun h => h)]⟩
  · exact g4.ints.mono fun b hb => ⟨.inr (.inr (.inr hb)), by
      have := n4 b hb
      rw [hold b (by omega)]⟩
  · rintro b (hb | hb | hb | hb)
    · have := n1 b hb; have := p1 b hb; omega
    · have := n2 b hb; have := p2 b hb; omega
    · have := n3 b hb; have := p3 b hb; omega
    · have := n4 b hb; have := p4 b hb; omega
  · rintro b (hb | hb | hb | hb)
    · refine (g1.thaw b hb).at ?_
      have := n1 b hb; have := p1 b hb
      rw [hold b (by omega), k4.blk b (by omega) (fun h => h), k3.blk b (by omega) (fun h => h), k2.blk b (by omega) (fun h => h)]
    · refine (g2.thaw b hb).at ?_
      have := n2 b hb; have := p2 b hb
      rw [hold b (by omega), k4.blk b (by omega) (fun h => h), k3.blk b (by omega) (fun h => h)]
    · refine (g3.thaw b hb).at ?_
      have := n3 b hb; have := p3 b hb
      rw [hold b (by omega), k4.blk b (by omega) (fun h => h)]
    · refine (g4.thaw b hb).at ?_
      have := n4 b hb
      rw [hold b (by omega)]
end Go.Proofs

/-
  A cell in memory of its own, by way of a group of one.
-/
namespace Go.Proofs
open Go Go.HC

set_option maxRecDepth 10000 in
theorem cloneCell_spec {F : Nat → Prop} {h : Heap} {v : Value} {xs : List CellM} {own : Option Nat} (hg : Grow rCell 65 F h v xs own) (hF : ∀ b, F b → b < h.size) (hn : xs.length < 1000000000) :
    CallH Tryz.prog 97 #[v] h fun r h' => ∃ own', Grow rCell 65 F h' r xs own' ∧ Keep none_ h h' ∧ ∀ b, own' = some b → h.size ≤ b := by
  refine enter [.tmp 2] Tryz.func97 rfl rfl (by kernel_rfl) rfl ?_
  have hl := hg.own_lt
  rcases hg with ⟨rfl, rfl, rfl⟩ | ⟨bk, c, arr, cs, rfl, rfl, h1, h2, h3, h4, h5, h6, h7⟩
  · simp -dsimp
    exact ⟨none, .nil _ _ _ _, .refl _ _, fun b hb => by cases hb⟩
  · obtain ⟨cs', _, hq1, hq2, hcel, hel⟩ := (Grow.cells (R := rCell) (.inr ⟨bk, c, arr, cs, rfl, rfl, h1, h2, h3, h4, h5, h6, h7⟩) : ∃ cs, _)
    simp -dsimp
    refine clone_cells (F := F) (F2 := fun b => some bk = some b) cellT hF hl rfl hcel hel (by omega) (by omega) ?_
    intro v' h' own' hg' hk ho hz
    obtain ⟨a', c', rfl⟩ := hg'.val
    simp -dsimp
    exact ⟨own', hg', hk, ho⟩

end Go.Proofs

/-
  The program's table: made; a cell is put.
-/
namespace Go.HC
end Go.HC
namespace Go.Proofs
open Go Go.HC

end Go.Proofs

/-
  The document's table in memory: a key is found, cells are put, told.
-/
namespace Go.HC
def zeroC : CellM := ⟨[], 0, [], [], []⟩
structure RTabC (tT cT bT : Nat) (h : Heap) (T : Tab) (bt bc bi n cc ic : Nat) (D : Nat → Prop) : Prop where
  top : h[bt]? = some (.cells #[.slice (some ⟨bc, 0, none⟩) n cc, .slice (some ⟨bi, 0, none⟩) n ic, .int .i64 (takenM T)] tT (0, 0))
  len : n = T.length
  C : Grow rCell cT D h (.slice (some ⟨bc, 0, none⟩) n cc) (T.map fun s => s.getD zeroC) (some bc)
  I : Grow rBool bT none_ h (.slice (some ⟨bi, 0, none⟩) n ic) (T.map Option.isSome) (some bi)
  ne : bt ≠ bc ∧ bt ≠ bi ∧ bc ≠ bi
  D : ∀ b, D b → b < h.size ∧ b ≠ bt ∧ b ≠ bc ∧ b ≠ bi
def rfoot (bt bc bi : Nat) (D : Nat → Prop) : Nat → Prop := fun b => b = bt ∨ b = bc ∨ b = bi ∨ D b
section
variable {tT cT bT : Nat} {h h' : Heap} {T : Tab} {bt bc bi n cc ic : Nat} {D : Nat → Prop}
theorem RTabC.lt (s : RTabC tT cT bT h T bt bc bi n cc ic D) : ∀ b, rfoot bt bc bi D b → b < h.size := by
  rintro b (rfl | rfl | rfl | hb)
  · exact lt_of_blk s.top
  · exact s.C.own_lt _ rfl
  · exact s.I.own_lt _ rfl
  · exact (s.D b hb).1
theorem RTabC.mono (s : RTabC tT cT bT h T bt bc bi n cc ic D) (hs : h.size ≤ h'.size) (hk : ∀ b, rfoot bt bc bi D b → h'[b]? = h[b]?) : RTabC tT cT bT h' T bt bc bi n cc ic D where
  top := by rw [hk bt (.inl rfl)]; exact s.top
  len := s.len
  C := s.C.mono (fun b hb => ⟨hb, hk b (.inr (.inr (.inr hb)))⟩) fun b hb => ⟨fun hd => by have := (s.D b hd).2.2.1; cases hb; exact this rfl, by cases hb; exact hk _ (.inr (.inl rfl))⟩
  I := s.I.mono (fun _ h => h.elim) fun b hb => ⟨fun h => h, by cases hb; exact hk _ (.inr (.inr (.inl rfl)))⟩
  ne := s.ne
  D := fun b hb => ⟨Nat.lt_of_lt_of_le (s.D b hb).1 hs, (s.D b hb).2⟩
end
/-- A table of the document's. -/
def RTab (tT cT bT : Nat) (v : Value) (G : Nat → Prop) (h : Heap) (T : Tab) : Prop := ∃ bt bc bi n cc ic D, v = .pointer (some ⟨bt, 0, none⟩) ∧ G = rfoot bt bc bi D ∧ RTabC tT cT bT h T bt bc bi n cc ic D
section
variable {tT cT bT : Nat} {v : Value} {G S : Nat → Prop} {h h' : Heap} {T : Tab}
theorem RTab.lt (s : RTab tT cT bT v G h T) : ∀ b, G b → b < h.size := by
  obtain ⟨bt, bc, bi, n, cc, ic, D, rfl, rfl, s⟩ := s
  exact s.lt
theorem RTab.keep (s : RTab tT cT bT v G h T) (k : Keep S h h') (hS : ∀ b, G b → ¬ S b) : RTab tT cT bT v G h' T := by
  have hl := s.lt
  obtain ⟨bt, bc, bi, n, cc, ic, D, rfl, rfl, s⟩ := s
  exact ⟨bt, bc, bi, n, cc, ic, D, rfl, rfl, s.mono k.size fun b hb => k.blk b (hl b hb) (hS b hb)⟩
end
end Go.HC
namespace Go.Proofs
open Go Go.HC

end Go.Proofs

/-
  The document's table: a cell is put; a new table.
-/
namespace Go.HC
end Go.HC
namespace Go.Proofs
open Go Go.HC

end Go.Proofs

/-
  The program's table: its cells are told; a key's cell is told.
-/
namespace Go.HC
end Go.HC
namespace Go.Proofs
open Go Go.HC

end Go.Proofs

/-
  The document's table: a new one; what is asked for; all cells.
-/
namespace Go.HC
end Go.HC
namespace Go.Proofs
open Go Go.HC

end Go.Proofs

/-
  The library's sort of one cell.
-/
namespace Go.Proofs
open Go Go.HC
end Go.Proofs

/-
  The program's group-by of one cell; a key's cell; the law's example.
-/
namespace Go.HC
end Go.HC
namespace Go.Proofs
open Go Go.HC

end Go.Proofs

/-
  The program's table: a key's cell; the law's example.
-/
namespace Go.Proofs
open Go Go.HC

end Go.Proofs

/-
  The law's example; numbers within a bound; keys that are held against each other.
-/
namespace Go.HC
end Go.HC
namespace Go.Proofs
open Go Go.HC

end Go.Proofs

/-
  Cells of facts; tables that are given the same cells.
-/
namespace Go.HC
theorem pick_mem {s x : Int} : ∀ {xs : List Int} {i : Nat}, x ∈ pickM s i xs → x ∈ xs
  | [], _, h => by cases h
  | y :: ys, i, h => by
    rw [pickM] at h
    split at h
    · rcases List.mem_cons.1 h with rfl | h
      · exact List.mem_cons_self
      · exact List.mem_cons_of_mem _ (pick_mem h)
    · exact List.mem_cons_of_mem _ (pick_mem h)
/-- How many dimensions a set has, of so many. -/
def lvlM (s : Int) : Nat → Nat → Nat
  | _, 0 => 0
  | i, n + 1 => (if bitM s i then 1 else 0) + lvlM s (i + 1) n
theorem pick_len (s : Int) : ∀ (xs : List Int) (i : Nat), (pickM s i xs).length = lvlM s i xs.length
  | [], _ => rfl
  | x :: xs, i => by
    rw [pickM, List.length_cons, lvlM]
    split <;> simp [pick_len s xs (i + 1)] <;> omega
/-- Cells of facts: rows of measures alike long, keys alike long, of few values. -/
structure CellOk (m n : Nat) (c : CellM) : Prop where
  sml : Sml m c
  len : c.key.length = n
  key : ∀ v ∈ c.key, 0 ≤ v ∧ v < 16
theorem CellOk.join {m n : Nat} {a b : CellM} (ha : CellOk m n a) (hb : CellOk m n b) : CellOk m n (joinC a b) := ⟨ha.sml.join hb.sml, ha.len, ha.key⟩
theorem FactsOk.cell {s : SchM} {rows : List RowM} (h : FactsOk s rows) (a : Int) : ∀ c ∈ rows.map (ofM a), CellOk s.ms.toNat (lvlM a 0 s.cards.length) c := by
  intro c hc
  obtain ⟨r, hr, rfl⟩ := List.mem_map.1 hc
  have hk := h.key r hr
  have hd := h.dims
  refine ⟨?_, ?_, fun v hv => ?_⟩
  · rw [← (h.m r hr).1]; exact .of (by omega)
  · simp only [ofM]; rw [pick_len, hk.1]
  · have hm := pick_mem hv
    obtain ⟨i, hi, rfl⟩ := List.getElem_of_mem hm
    have h1 := hk.2 i hi (by omega)
    have h2 := h.cards _ (List.getElem_mem (show i < s.cards.length by omega))
    omega
end Go.HC
namespace Go.Proofs
open Go Go.HC

end Go.Proofs

/-
  Cells parted by a number of their keys, plainly: in how many parts.
-/
namespace Go.HC
def atV (c : CellM) (i : Nat) : Int := (c.key[i]?).getD 0
def partC (i : Nat) (v : Int) (l : List CellM) : List CellM := l.filter fun c => decide (atV c i = v)
/-- The values at a place of the keys, rising. -/
structure Vals (i : Nat) (l : List CellM) (vs : List Int) : Prop where
  srt : vs.Pairwise (· < ·)
  mem : ∀ v, v ∈ vs ↔ ∃ c ∈ l, atV c i = v
theorem Vals.unique {i : Nat} {l : List CellM} {vs us : List Int} (h : Vals i l vs) (h' : Vals i l us) : vs = us := by
  have hp : vs.Perm us := (List.perm_ext_iff_of_nodup (h.srt.imp fun h e => by omega) (h'.srt.imp fun h e => by omega)).2 fun v => (h.mem v).trans (h'.mem v).symm
  exact hp.eq_of_pairwise (le := fun a b : Int => a < b) (fun a b _ _ h1 h2 => by omega) h.srt h'.srt
theorem Vals.perm {i : Nat} {l m : List CellM} {vs : List Int} (h : Vals i l vs) (hp : l.Perm m) : Vals i m vs :=
  ⟨h.srt, fun v => (h.mem v).trans ⟨fun ⟨c, hc, e⟩ => ⟨c, hp.mem_iff.1 hc, e⟩, fun ⟨c, hc, e⟩ => ⟨c, hp.mem_iff.2 hc, e⟩⟩⟩
def valsM (i : Nat) (l : List CellM) : List Int := ((List.range 16).map Int.ofNat).filter fun v => l.any fun c => decide (atV c i = v)
/-- Cells with keys of L numbers of few values, alike ahead of a place. -/
structure Pre (L i : Nat) (l : List CellM) : Prop where
  len : ∀ c ∈ l, c.key.length = L
  small : ∀ c ∈ l, ∀ v ∈ c.key, 0 ≤ v ∧ v < 16
  pre : ∀ c ∈ l, ∀ d ∈ l, c.key.take i = d.key.take i
section
variable {L i : Nat} {l m : List CellM} {vs : List Int} {v : Int}
theorem Pre.at (h : Pre L i l) (hi : i < L) {c : CellM} (hc : c ∈ l) : ∃ hk : i < c.key.length, atV c i = c.key[i] ∧ 0 ≤ atV c i ∧ atV c i < 16 := by
  have hk : i < c.key.length := by rw [h.len c hc]; exact hi
  have e : atV c i = c.key[i] := by unfold atV; rw [List.getElem?_eq_getElem hk]; rfl
  exact ⟨hk, e, by rw [e]; exact h.small c hc _ (List.getElem_mem hk)⟩
theorem Pre.vals (h : Pre L i l) (hi : i < L) : Vals i l (valsM i l) := by
  refine ⟨?_, fun v => ?_⟩
  · unfold valsM
    refine List.Pairwise.filter _ ?_
    rw [List.pairwise_map]
    exact List.pairwise_lt_range.imp fun h => by simpa using h
  · unfold valsM
    simp only [List.mem_filter, List.mem_map, List.mem_range, List.any_eq_true, decide_eq_true_eq]
    constructor
    · rintro ⟨_, c, hc, e⟩; exact ⟨c, hc, e⟩
    · rintro ⟨c, hc, e⟩
      obtain ⟨_, _, h0, h1⟩ := h.at hi hc
      exact ⟨⟨v.toNat, by omega, by rw [Int.ofNat_eq_natCast]; omega⟩, c, hc, e⟩
theorem mem_part {c : CellM} : c ∈ partC i v l ↔ c ∈ l ∧ atV c i = v := by unfold partC; simp
theorem Pre.part (h : Pre L i l) (hi : i < L) (v : Int) : Pre L (i + 1) (partC i v l) := by
  refine ⟨fun c hc => h.len c (mem_part.1 hc).1, fun c hc => h.small c (mem_part.1 hc).1, fun c hc d hd => ?_⟩
  obtain ⟨hc, ec⟩ := mem_part.1 hc
  obtain ⟨hd, ed⟩ := mem_part.1 hd
  obtain ⟨k1, e1, _⟩ := h.at hi hc
  obtain ⟨k2, e2, _⟩ := h.at hi hd
  rw [List.take_add_one, List.take_add_one, h.pre c hc d hd, List.getElem?_eq_getElem k1, List.getElem?_eq_getElem k2, ← e1, ← e2, ec, ed]
theorem Pre.start (hl : ∀ c ∈ l, c.key.length = L) (hs : ∀ c ∈ l, ∀ v ∈ c.key, 0 ≤ v ∧ v < 16) : Pre L 0 l := ⟨hl, hs, fun _ _ _ _ => rfl⟩
theorem Pre.perm (h : Pre L i l) (hp : l.Perm m) : Pre L i m :=
  ⟨fun c hc => h.len c (hp.mem_iff.2 hc), fun c hc => h.small c (hp.mem_iff.2 hc), fun c hc d hd => h.pre c (hp.mem_iff.2 hc) d (hp.mem_iff.2 hd)⟩
/-- A group's keys are those of its cells. -/
theorem group_key {c : CellM} (hc : c ∈ groupC l) : ∃ d ∈ l, d.key = c.key := by
  have h := ((grp_group l).mem c).1 hc
  refine Classical.byContradiction fun hn => ?_
  have := atKey_none.2 (fun d hd e => hn ⟨d, hd, e⟩ : ∀ d ∈ l, d.key ≠ c.key)
  rw [this] at h; cases h
theorem Pre.one (h : Pre L L l) : (groupC l).length ≤ 1 := by
  have hs := (grp_group l).srt
  match hg : groupC l with
  | [] => simp
  | [_] => simp
  | a :: b :: t =>
    exfalso
    rw [hg] at hs
    have hab : lessM a.key b.key < 0 := (List.pairwise_cons.1 hs).1 b List.mem_cons_self
    obtain ⟨c, hc, ec⟩ := group_key (l := l) (c := a) (by rw [hg]; exact List.mem_cons_self)
    obtain ⟨d, hd, ed⟩ := group_key (l := l) (c := b) (by rw [hg]; exact List.mem_cons_of_mem _ List.mem_cons_self)
    have hp := h.pre c hc d hd
    rw [List.take_of_length_le (by rw [h.len c hc]; exact Nat.le_refl _), List.take_of_length_le (by rw [h.len d hd]; exact Nat.le_refl _)] at hp
    rw [← ec, ← ed, hp, lessM_self] at hab
    omega
end
section
variable {L i f n : Nat} {l m : List CellM} {vs : List Int} {v : Int}
end
end Go.HC

/-
  The program's group-by.
-/
namespace Go.HC
theorem small_put {l : List CellM} {c : CellM} (hl : ∀ d ∈ l, CellSmall d) (hc : CellSmall c) : ∀ d ∈ putC l c, CellSmall d := by
  induction l with
  | nil => intro d hd; rw [putC, List.mem_singleton] at hd; rw [hd]; exact hc
  | cons e l ih =>
    intro d hd
    have he := hl e List.mem_cons_self
    have ih := ih fun d hd => hl d (List.mem_cons_of_mem _ hd)
    have hj : CellSmall (joinC e c) := ⟨he.key, by simp only [joinC, List.length_zipWith]; have := he.sum; omega, by simp only [joinC, List.length_zipWith]; have := he.mn; omega, by simp only [joinC, List.length_zipWith]; have := he.mx; omega⟩
    rw [putC] at hd
    split at hd
    · rcases List.mem_cons.1 hd with rfl | h
      · exact he
      · exact ih d h
    · split at hd
      · rcases List.mem_cons.1 hd with rfl | h
        · exact hj
        · exact hl d (List.mem_cons_of_mem _ h)
      · rcases List.mem_cons.1 hd with rfl | h
        · exact hc
        · exact hl d h
theorem small_group {l : List CellM} (hl : ∀ d ∈ l, CellSmall d) : ∀ d ∈ groupC l, CellSmall d := by
  have key : ∀ (l o : List CellM), (∀ d ∈ l, CellSmall d) → (∀ d ∈ o, CellSmall d) → ∀ d ∈ l.foldl putC o, CellSmall d := by
    intro l
    induction l with
    | nil => exact fun o _ ho => ho
    | cons c l ih => exact fun o hl ho => ih _ (fun d hd => hl d (List.mem_cons_of_mem _ hd)) (small_put ho (hl c List.mem_cons_self))
  exact key l [] hl fun d hd => by cases hd
/-- A row of cells in memory of its own, behind n0: its block may be changed, and the cells' blocks. -/
def NewC (e n0 : Nat) (h : Heap) (v : Value) (l : List CellM) : Prop := ∃ F own, Grow rCell e F h v l own ∧ (∀ b, F b → Nw n0 h b ∧ b < h.size) ∧ ∀ b, own = some b → n0 ≤ b
theorem NewC.rep {e n0 n : Nat} {h : Heap} {v : Value} {l : List CellM} (g : NewC e n0 h v l) (hn : n ≤ n0) : SlRep rCell (Ft n none_ h) h v l := by
  obtain ⟨F, own, g, hF, ho⟩ := g
  exact g.rep.mono fun b hb => ⟨hb.elim (fun h => ⟨(hF b h).1.less hn, (hF b h).2, fun h => h⟩) fun h => ⟨⟨Nat.le_trans hn (ho b h), fun _ => g.thaw b h⟩, g.own_lt b h, fun h => h⟩, rfl⟩
theorem NewC.keep {e n0 : Nat} {h h' : Heap} {v : Value} {l : List CellM} (g : NewC e n0 h v l) (k : Keep none_ h h') : NewC e n0 h' v l := by
  obtain ⟨F, own, g, hF, ho⟩ := g
  have hne : ∀ b, own = some b → ¬ F b := fun b hb => by
    rcases g with ⟨_, _, h0⟩ | ⟨bk, c, arr, cs, _, h0, _, h1, _⟩
    · rw [h0] at hb; cases hb
    · rw [h0] at hb; cases hb; exact h1
  exact ⟨F, own, g.mono (fun b hb => ⟨hb, k.blk b (hF b hb).2 (fun h => h)⟩) fun b hb => ⟨hne b hb, k.blk b (g.own_lt b hb) (fun h => h)⟩, fun b hb => ⟨(hF b hb).1.at (Nat.le_refl _) (k.blk b (hF b hb).2 (fun h => h)), Nat.lt_of_lt_of_le (hF b hb).2 k.size⟩, ho⟩
theorem NewC.older {e n0 n1 : Nat} {h : Heap} {v : Value} {l : List CellM} (g : NewC e n0 h v l) (hn : n1 ≤ n0) : NewC e n1 h v l := by
  obtain ⟨F, own, g, hF, ho⟩ := g
  exact ⟨F, own, g, fun b hb => ⟨(hF b hb).1.less hn, (hF b hb).2⟩, fun b hb => Nat.le_trans hn (ho b hb)⟩
end Go.HC
namespace Go.Proofs
open Go Go.HC

theorem join_new {h : Heap} {cs ds : List Value} {a b : CellM} (ha : rCell.rep (Old h) h cs a) (hb : rCell.rep (Old h) h ds b) (sa : CellSmall a) :
    CallH Tryz.prog 96 #[.agg cs.toArray, .agg ds.toArray] h fun r h' => ∃ es, r = .agg es.toArray ∧ rCell.rep (Ft h.size none_ h') h' es (joinC a b) ∧ Keep none_ h h' :=
  (join_th ha Old.lt sa hb Old.lt).mono fun _ _ ⟨ds, _, e, r, k, n, t⟩ => ⟨ds, e, rCell.mono r fun b hb => ⟨⟨⟨(n b hb).1, fun _ => t b hb⟩, (n b hb).2, fun h => h⟩, rfl⟩, k⟩
theorem own_new {h : Heap} {cs : List Value} {c : CellM} (hr : rCell.rep (Old h) h cs c) (hc : CellSmall c) :
    CallH Tryz.prog 90 #[.agg cs.toArray] h fun r h' => ∃ ds, r = .agg ds.toArray ∧ rCell.rep (Ft h.size none_ h') h' ds c ∧ Keep none_ h h' :=
  (cellOwn_th hr Old.lt hc).mono fun _ _ ⟨ds, _, e, r, k, n, t⟩ => ⟨ds, e, rCell.mono r fun b hb => ⟨⟨⟨(n b hb).1, fun _ => t b hb⟩, (n b hb).2, fun h => h⟩, rfl⟩, k⟩

set_option maxHeartbeats 4000000 in
set_option maxRecDepth 10000 in
theorem oput_spec {n : Nat} {M : Nat → Prop} {h : Heap} {bo : Nat} {v : Value} {xs : List CellM} {own : Option Nat} {cs : List Value} {c : CellM} (hb : h[bo]? = some (.cells #[v, .func (.func 93) #[] #[]] 158 (0, 0)))
    (g : Gr rCell 65 n M h v xs own) (hM : ∀ b, M b → b < h.size) (hMo : M bo) (hno : own ≠ some bo) (hr : rCell.rep (Ft n M h) h cs c) (hs : Srt xs) (hsm : ∀ d ∈ xs, CellSmall d) (_hc : CellSmall c) (hn : xs.length < 1000000) (hn0 : n ≤ h.size) :
    CallH Tryz.prog 95 #[.pointer (some ⟨bo, 0, none⟩), .agg cs.toArray, .func (.func 96) #[] #[]] h fun r h' => r = .tuple #[] ∧ ∃ M' v' own', Tr M M' h h' ∧ (∀ b, M b → M' b) ∧
      h'[bo]? = some (.cells #[v', .func (.func 93) #[] #[]] 158 (0, 0)) ∧ Gr rCell 65 n M' h' v' (putC xs c) own' ∧ (∀ b, own' = some b → own = some b ∨ h.size ≤ b) := by
  refine callH_by fun K hK => ?_
  refine enter [] Tryz.func95 rfl rfl (by kernel_rfl) rfl ?_
  obtain ⟨ka, kc, sa, sc, na, nc, xa, xc, rfl, r1, r2, r3, r4⟩ := cell_open hr
  obtain ⟨va, vn, vc, ev, hvn⟩ := g.vals
  subst ev
  have tH : Tr M M h h := ⟨.refl _ _, fun _ h => .inl h, hM⟩
  simp -dsimp [boxS_eq]
  generalize hB : Array.push h _ = h1
  have kb : Keep none_ h h1 := by rw [← hB]; exact .push _ _ _
  have t1 := tH.call kb
  have hC : h1[h.size]? = some (.cells #[.slice ka c.key.length kc, .int .i64 c.count, .slice sa c.sum.length sc, .slice na c.mn.length nc, .slice xa c.mx.length xc] 65 (0, 0)) := by rw [← hB]; exact push_new _ _
  have hb1 := kb.at hb (fun h => h)
  have hlb := lt_of_blk hb
  have g1 := g.call kb
  have c1 := rCell.mono hr (t1.ft (Nat.le_refl n))
  have hone : ∀ b, own = some b → 0 ≤ b := fun _ _ => Nat.zero_le _
  have l1 : SlRep rCell (Old h1) h1 _ xs := g1.rep (Nat.zero_le n) hone
  refine drawn_by [⟨0, true, []⟩, ⟨1, true, []⟩, ⟨2, true, []⟩, ⟨3, true, []⟩, ⟨4, true, []⟩, ⟨5, true, []⟩, ⟨6, true, []⟩, ⟨7, true, []⟩, ⟨8, true, []⟩, ⟨9, false, []⟩, ⟨10, true, []⟩, ⟨11, true, []⟩, ⟨12, true, []⟩, ⟨13, true, []⟩, ⟨14, true, []⟩] (by kernel_rfl) (by kernel_rfl) ?_
  simp -dsimp [hb1, hC]
  refine call_by (bsearch_spec (by simp) groupCmp l1 (rCell.mono c1 (Ft.free (Nat.zero_le _))) hs hn) ?_
  rintro _ h2 ⟨rfl, k2⟩
  have t2 := t1.call k2
  have hC2 := k2.at hC (fun h => h)
  have hb2 := k2.at hb1 (fun h => h)
  have g2 := g1.call k2
  have c2 := rCell.mono c1 (t1.here.call k2 |>.ft (Nat.le_refl n))
  obtain ⟨i, ei⟩ : ∃ i, i = posC xs c.key := ⟨_, rfl⟩
  have hpl := posC_le xs c.key
  rw [← ei] at hpl ⊢
  simp -dsimp
  by_cases h0 : ∃ hk : i < xs.length, lessM xs[i].key c.key = 0
  · obtain ⟨hil, h0⟩ := h0
    have hput : putC xs c = xs.set i (joinC xs[i] c) := by
      rw [putC_pos]
      subst ei
      rw [dif_pos ⟨hil, hil, h0⟩]
    have hin : i < vn := by omega
    rw [decide_eq_true ⟨hil, h0⟩]
    obtain ⟨bk, es, ea, eo, hre, hce⟩ := g2.elem i hil
    subst ea
    obtain ⟨ka1, kc1, sa1, sc1, na1, nc1, xa1, xc1, rfl, _⟩ := cell_open hre
    have hce' : HC.cellsIn h2[bk]? (i * 5) 5 = _ := hce
    simp -dsimp
    refine drawn_by [⟨0, true, []⟩, ⟨1, true, []⟩, ⟨2, true, []⟩, ⟨3, true, []⟩, ⟨4, true, []⟩, ⟨5, true, []⟩, ⟨6, true, []⟩, ⟨7, true, []⟩, ⟨8, true, []⟩, ⟨9, true, []⟩, ⟨10, true, []⟩, ⟨11, true, []⟩, ⟨12, true, []⟩, ⟨13, true, []⟩, ⟨14, false, [0, 1, 2, 3, 4]⟩, ⟨15, true, []⟩, ⟨16, false, []⟩] (by kernel_rfl) (by kernel_rfl) ?_
    simp -dsimp [hb2, hC2, idxV_nat hin, elSz_eq, hce']
    refine call_by (join_new (rCell.mono hre (Ft.free (Nat.zero_le _))) (rCell.mono c2 (Ft.free (Nat.zero_le _))) (hsm _ (List.getElem_mem hil))) ?_
    rintro _ h3 ⟨fs, rfl, r3', k3⟩
    have t3 := t2.call k3
    obtain ⟨bk', m', c', o', hv, hm', ho4, hw, g4⟩ := (g2.call k3).setE (i := i) hil (rCell.mono r3' (t2.ret (Nat.le_trans hn0 t2.size)))
    cases hv
    obtain ⟨ka5, kc5, sa5, sc5, na5, nc5, xa5, xc5, rfl, _⟩ := cell_open r3'
    have hw' : writeIn h3[bk]? (i * 5) _ = some o' := hw
    have hb3 := k3.at hb2 (fun h => h)
    have hne : bk ≠ bo := fun e => hno (by rw [ho4, e])
    simp -dsimp [hb3, idxV_nat hin, elSz_eq, again_cons, hw']
    exact hK _ _ ⟨rfl, M, _, own, t3.set o' (g.mu bk ho4), fun _ h => h, (set_other _ hne).trans hb3, by rw [hput]; exact g4, fun b hb => .inl hb⟩
  · rw [decide_eq_false h0]
    have hput : putC xs c = xs.take i ++ c :: xs.drop i := by
      rw [putC_pos, ← ei, dif_neg]
      rintro ⟨_, hx⟩; exact h0 hx
    simp -dsimp
    refine drawn_by [⟨0, true, []⟩, ⟨1, true, []⟩, ⟨2, true, []⟩, ⟨3, true, []⟩, ⟨4, true, []⟩, ⟨5, true, []⟩, ⟨6, true, []⟩, ⟨7, false, [0, 1, 2, 3, 4, 5]⟩, ⟨8, false, [0]⟩, ⟨9, true, []⟩, ⟨10, true, []⟩, ⟨11, false, []⟩] (by kernel_rfl) (by kernel_rfl) ?_
    have hb2p : ∀ o, (h2.push o)[bo]? = _ := fun o => push_at hb2
    simp -dsimp [hb2, hb2p, hC2, again_cons]
    generalize hB3 : Array.push h2 _ = h3
    have k3 : Keep none_ h2 h3 := by rw [← hB3]; exact .push _ _ _
    have t3 := t2.call k3
    have hN : h3[h2.size]? = some (.cells [.slice ka c.key.length kc, .int .i64 c.count, .slice sa c.sum.length sc, .slice na c.mn.length nc, .slice xa c.mx.length xc].toArray 65 (0, 0)) := by rw [← hB3]; exact push_new _ _
    refine call_by (insert_spec (g2.call k3) t3.lt hpl hn hN (fun hm => by have := t2.lt _ hm; omega) (rCell.mono c2 (t2.here.call k3 |>.ft (Nat.le_refl n)))) ?_
    rintro v4 h4 ⟨own4, g4, t4, k4, ho4⟩
    have hb3 := k3.at hb2 (fun h => h)
    have hb4 := k4.at hb3 hno
    have hl4 := lt_of_blk hb3
    obtain ⟨va4, vn4, vc4, ev4, _⟩ := g4.vals
    subst ev4
    simp -dsimp [hb4, again_cons]
    have hno4 : own4 ≠ some bo := fun e => (ho4 _ e).elim hno (fun h => by omega)
    have hs2 := t3.size
    refine hK _ _ ⟨rfl, _, _, own4, (t3.trans t4).set _ (.inl hMo), fun _ h => .inl h, set_same _ (lt_of_blk hb4), by rw [hput]; exact g4.set _ (.inl hMo) hno4, fun b hb => (ho4 b hb).imp id fun h => by omega⟩

set_option maxHeartbeats 4000000 in
set_option maxRecDepth 10000 in
/-- The group-by, in memory of its own. -/
theorem cgroup_spec {h : Heap} {v : Value} {l : List CellM} (hl : SlRep rCell (Old h) h v l) (hn : l.length < 1000000) (hsm : ∀ d ∈ l, CellSmall d) :
    CallH Tryz.prog 48 #[v] h fun r h' => NewC 65 h.size h' r (groupC l) ∧ Keep none_ h h' := by
  refine callH_by fun K hK => ?_
  refine enter [.tmp 2] Tryz.func48 rfl rfl (by kernel_rfl) rfl ?_
  obtain ⟨a0, c0, rfl, hc0, hc0'⟩ := hl.val
  simp -dsimp
  rw [push_set rfl]
  refine loopc (σ := Nat) (fun k => [(3, .pointer (some ⟨h.size, 0, none⟩)), (7, .slice a0 l.length c0), (8, .int .i64 l.length), (9, .int .i64 k)])
    (fun k h1 => ∃ M v own, Tr none_ M h h1 ∧ M h.size ∧ h1[h.size]? = some (.cells #[v, .func (.func 93) #[] #[]] 158 (0, 0)) ∧ Gr rCell 65 h.size M h1 v (groupC (l.take k)) own ∧ (∀ b, own = some b → h.size + 1 ≤ b) ∧ k ≤ l.length)
    (fun k => l.length - k) 0 0 (fun k _ => k = l.length) noRet noRet_le (by simp) ⟨_, _, none, (Tr.start h).pushM _, .inr rfl, push_new _ _, .nil _ _ _ _ _, (fun _ h => by cases h), Nat.zero_le _⟩ (by kernel_rfl) ?_ ?_
  · rintro k h1 g ⟨M, v, own, t1, hMo, hb1, g1, ho, hk⟩
    have wk := wrap_succ (k := k) (by omega)
    by_cases hkl : k < l.length
    · obtain ⟨b1, o1, cs, e1, _, hrep, hx1⟩ := (hl.mono t1.old).get k hkl
      obtain ⟨ka, kc, sa, sc, na, nc, xa, xc, rfl, _⟩ := cell_open hrep
      have hx1' : HC.cellsIn h1[b1]? (o1 + k * 5) 5 = _ := hx1
      simp -dsimp [hkl, e1, idxA_nat hkl, hx1']
      rw [push_set rfl]
      generalize hB2 : Array.push h1 _ = h2
      have k2 : Keep none_ h1 h2 := by rw [← hB2]; exact .push _ _ _
      have t2 := t1.call k2
      have hck := hsm _ (List.getElem_mem hkl)
      refine call_by (own_new (rCell.mono (rCell.mono hrep (t1.here.call k2 |>.ft (Nat.le_refl 0))) (Ft.free (Nat.le_refl 0))) hck) ?_
      rintro _ h3 ⟨ds, rfl, r3, k3⟩
      have t3 := t2.call k3
      have hb3 := (k2.trans k3 fun _ _ h => h).at hb1 (fun h => h)
      have hgl := groupC_le (l.take k)
      rw [List.length_take] at hgl
      simp -dsimp
      refine call_by (oput_spec hb3 ((g1.call k2).call k3) t3.lt hMo (fun e => by have := ho _ e; omega) (rCell.mono r3 (t2.ret t2.size)) (grp_group _).srt (small_group fun d hd => hsm d (List.mem_of_mem_take hd)) hck (by omega) t3.size) ?_
      rintro _ h4 ⟨rfl, M4, v4, own4, t4, hM4, hb4, g4, ho4⟩
      simp -dsimp [wk]
      have hl3 := lt_of_blk hb3
      refine ⟨k + 1, by simp [e1], rfl, ⟨M4, v4, own4, t3.trans t4, hM4 _ hMo, hb4, ?_, fun b hb => (ho4 b hb).elim (ho b) (fun h => by omega), by omega⟩, by show l.length - (k + 1) < l.length - k; omega⟩
      rw [group_take hkl]; exact g4
    · simp -dsimp [hkl]
      exact ⟨rfl, k, by simp, rfl, ⟨M, v, own, t1, hMo, hb1, g1, ho, hk⟩, by omega⟩
  · rintro k h1 g ⟨M, v, own, t1, hMo, hb1, g1, ho, hk⟩ hkl
    have hkl' : k = l.length := hkl
    rw [hkl', List.take_length] at g1
    obtain ⟨va, vn, vc, ev, hvn⟩ := g1.vals
    subst ev
    simp -dsimp [hb1]
    have hgl := groupC_le l
    refine call_by (cloneCell_spec g1.grow Ft.lt (by omega)) ?_
    rintro _ h2 ⟨own2, g2, k2, ho2⟩
    obtain ⟨a2, c2, rfl⟩ := g2.val
    simp -dsimp
    exact hK _ _ ⟨⟨_, own2, g2, fun b hb => ⟨hb.1.at (Nat.le_refl _) (k2.blk b hb.2.1 (fun h => h)), Nat.lt_of_lt_of_le hb.2.1 k2.size⟩, fun b hb => Nat.le_trans t1.size (ho2 b hb)⟩, t1.keep.trans k2 fun _ _ h => h⟩
end Go.Proofs

/-
  'slices.SortFunc[[]api.Cell,api.Cell]' of the library at this program's numbers, laid for the kit's contract; printed by a program of this work (wip/tools/lay2.py).
-/
namespace Go.Proofs
open Go.RowKit Go.Sort Go.Shelf
end Go.Proofs

/-
  The library's sort of cells, by the kit's contract.
-/
namespace Go.HC
open Go.Sort Go.Proofs
end Go.HC
namespace Go.Proofs
open Go Go.HC Go.Sort

end Go.Proofs

/-
  'slices.Sort[[]int,int]' of the library at this program's numbers, laid for the kit's contract; printed by a program of this work (wip/tools/lay2.py).
-/
namespace Go.Proofs
open Go.RowKit Go.Sort Go.Shelf
def Tryz.sortI_ren : Go.Shelf.Ren := ⟨fun | 5 => 83 | 8 => 122 | 7 => 121 | 19 => 153 | 20 => 154 | 10 => 144 | 11 => 145 | 12 => 146 | 13 => 147 | 14 => 148 | 15 => 149 | 16 => 150 | 17 => 151 | 18 => 152 | 30 => 173 | 31 => 174 | 32 => 175 | 33 => 176 | 34 => 177 | 35 => 143 | 40 => 186 | n => n, fun | 23 => 22 | 25 => 3 | 3 => 3 | 32 => 54 | 22 => 22 | 0 => 0 | 44 => 199 | 46 => 201 | 4 => 4 | 36 => 193 | 35 => 192 | 41 => 49 | 5 => 5 | 9 => 9 | 53 => 213 | 57 => 217 | 63 => 223 | 64 => 224 | n => n, fun n => n⟩
theorem Tryz.sortI : SlLaysM.n5 Tryz.prog Tryz.sortI_ren where
  mixed := by kernel_rfl
  f5 := ⟨"slices.Sort[[]int,int]", by decide, Tryz.func83.trans (congrArg some (by kernel_rfl))⟩
  f7 := ⟨"slices.pdqsortOrdered[int]", by decide, Tryz.func121.trans (congrArg some (by kernel_rfl))⟩
  f8 := Tryz.func122.trans (congrArg some (by kernel_rfl))
  f10 := ⟨"slices.insertionSortOrdered[int]", by decide, Tryz.func144.trans (congrArg some (by kernel_rfl))⟩
  f11 := ⟨"slices.heapSortOrdered[int]", by decide, Tryz.func145.trans (congrArg some (by kernel_rfl))⟩
  f12 := ⟨"slices.breakPatternsOrdered[int]", by decide, Tryz.func146.trans (congrArg some (by kernel_rfl))⟩
  f13 := ⟨"slices.choosePivotOrdered[int]", by decide, Tryz.func147.trans (congrArg some (by kernel_rfl))⟩
  f14 := ⟨"slices.reverseRangeOrdered[int]", by decide, Tryz.func148.trans (congrArg some (by kernel_rfl))⟩
  f15 := ⟨"slices.partialInsertionSortOrdered[int]", by decide, Tryz.func149.trans (congrArg some (by kernel_rfl))⟩
  f16 := ⟨"cmp.Less[int]", by decide, Tryz.func150.trans (congrArg some (by kernel_rfl))⟩
  f17 := ⟨"slices.partitionEqualOrdered[int]", by decide, Tryz.func151.trans (congrArg some (by kernel_rfl))⟩
  f18 := ⟨"slices.partitionOrdered[int]", by decide, Tryz.func152.trans (congrArg some (by kernel_rfl))⟩
  f19 := Tryz.func153.trans (congrArg some (by kernel_rfl))
  f20 := Tryz.func154.trans (congrArg some (by kernel_rfl))
  f30 := ⟨"slices.siftDownOrdered[int]", by decide, Tryz.func173.trans (congrArg some (by kernel_rfl))⟩
  f31 := Tryz.func174.trans (congrArg some (by kernel_rfl))
  f32 := Tryz.func175.trans (congrArg some (by kernel_rfl))
  f33 := ⟨"slices.medianAdjacentOrdered[int]", by decide, Tryz.func176.trans (congrArg some (by kernel_rfl))⟩
  f34 := ⟨"slices.medianOrdered[int]", by decide, Tryz.func177.trans (congrArg some (by kernel_rfl))⟩
  f35 := ⟨"cmp.isNaN[int]", by decide, Tryz.func143.trans (congrArg some (by kernel_rfl))⟩
  f40 := ⟨"slices.order2Ordered[int]", by decide, Tryz.func186.trans (congrArg some (by kernel_rfl))⟩
  t0 := Tryz.underlying0
  a0 := Tryz.isAgg0
  z0 := Tryz.sizeOf0
  v0 := Tryz.zeroValue0
  t3 := Tryz.underlying3
  a3 := Tryz.isAgg3
  z3 := Tryz.sizeOf3
  v3 := Tryz.zeroValue3
  t4 := Tryz.underlying4
  a4 := Tryz.isAgg4
  z4 := Tryz.sizeOf4
  v4 := Tryz.zeroValue4
  t5 := Tryz.underlying5
  a5 := Tryz.isAgg5
  z5 := Tryz.sizeOf5
  v5 := Tryz.zeroValue5
  t9 := Tryz.underlying9
  a9 := Tryz.isAgg9
  z9 := Tryz.sizeOf9
  v9 := Tryz.zeroValue9
  t22 := Tryz.underlying22
  a22 := Tryz.isAgg22
  z22 := Tryz.sizeOf22
  v22 := Tryz.zeroValue22
  t23 := Tryz.underlying22
  a23 := Tryz.isAgg22
  z23 := Tryz.sizeOf22
  v23 := Tryz.zeroValue22
  t25 := Tryz.underlying3
  a25 := Tryz.isAgg3
  z25 := Tryz.sizeOf3
  v25 := Tryz.zeroValue3
  t32 := Tryz.underlying54
  a32 := Tryz.isAgg54
  z32 := Tryz.sizeOf54
  v32 := Tryz.zeroValue54
  t35 := Tryz.underlying192
  a35 := Tryz.isAgg192
  z35 := Tryz.sizeOf192
  v35 := Tryz.zeroValue192
  t36 := Tryz.underlying193
  a36 := Tryz.isAgg193
  z36 := Tryz.sizeOf193
  v36 := Tryz.zeroValue193
  t41 := Tryz.underlying49
  a41 := Tryz.isAgg49
  z41 := Tryz.sizeOf49
  v41 := Tryz.zeroValue49
  t44 := Tryz.underlying199
  a44 := Tryz.isAgg199
  z44 := Tryz.sizeOf199
  v44 := Tryz.zeroValue199
  t46 := Tryz.underlying201
  a46 := Tryz.isAgg201
  z46 := Tryz.sizeOf201
  v46 := Tryz.zeroValue201
  t53 := Tryz.underlying213
  a53 := Tryz.isAgg213
  z53 := Tryz.sizeOf213
  v53 := Tryz.zeroValue213
  t57 := Tryz.underlying217
  a57 := Tryz.isAgg217
  z57 := Tryz.sizeOf217
  v57 := Tryz.zeroValue217
  t63 := Tryz.underlying223
  a63 := Tryz.isAgg223
  z63 := Tryz.sizeOf223
  v63 := Tryz.zeroValue223
  t64 := Tryz.underlying224
  a64 := Tryz.isAgg224
  z64 := Tryz.sizeOf224
  v64 := Tryz.zeroValue224
end Go.Proofs

/-
  The library's sort of numbers, by the kit's contract.
-/
namespace Go.HC
open Go.Sort Go.Proofs
/-- Numbers in their order. -/
def sortI (xs : List Int) : List Int := xs.mergeSort fun x y => decide (x ≤ y)
theorem sortI_perm (xs : List Int) : (sortI xs).Perm xs := List.mergeSort_perm xs _
theorem sortI_sorted (xs : List Int) : (sortI xs).Pairwise (· ≤ ·) := by
  have h := List.pairwise_mergeSort (le := fun x y : Int => decide (x ≤ y)) (fun a b c h1 h2 => by simp only [decide_eq_true_eq] at *; omega) (fun a b => by simp only [Bool.or_eq_true, decide_eq_true_eq]; omega) xs
  exact h.imp fun h => by simpa using h
theorem sortI_length (xs : List Int) : (sortI xs).length = xs.length := (sortI_perm xs).length_eq
/-- Values that stand once each, sorted. -/
theorem Vals.sort {i : Nat} {l : List CellM} {xs : List Int} (hn : xs.Nodup) (hm : ∀ v, v ∈ xs ↔ ∃ c ∈ l, atV c i = v) : Vals i l (sortI xs) := by
  refine ⟨?_, fun v => ((sortI_perm xs).mem_iff).trans (hm v)⟩
  have h1 := sortI_sorted xs
  have h2 : (sortI xs).Nodup := (sortI_perm xs).nodup_iff.2 hn
  exact (h1.and h2).imp fun {a b} h => by
    have := h.1; have := h.2; omega
end Go.HC
namespace Go.Proofs
open Go Go.HC Go.Sort

theorem sorti_spec {F : Nat → Prop} {h : Heap} {v : Value} {xs : List Int} {own : Option Nat} (hg : Grow rInt 3 F h v xs own) (hF : ∀ b, F b → b < h.size) (hn : xs.length < 1099511627776) :
    CallH Tryz.prog 83 #[v] h fun r h' => r = .tuple #[] ∧ Grow rInt 3 F h' v (sortI xs) own ∧ Keep (fun b => own = some b) h h' := by
  rcases hg with ⟨rfl, rfl, rfl⟩ | ⟨bk, c, arr, cs, rfl, rfl, h1, h2, h3, h4, h5, h6, h7⟩
  · intro w hw
    refine (AnyM.slices_Sort_int_none Tryz.sortI none 0 w).mono ?_
    rintro e w' ⟨rfl, rfl⟩
    exact ⟨_, rfl, .refl _, rfl, hw ▸ .inl ⟨rfl, by simp [sortI], rfl⟩, hw ▸ .refl _ _⟩
  · intro w hw
    subst hw
    have hcs := ints_map.1 h7
    have h3' : arr.size = c := by simpa [rInt] using h3
    have h6' : arr.toList.take xs.length = xs.map (Value.int .i64) := by
      rw [← hcs, ← h6]; simp [rInt]
    have hget : ∀ j (hj : j < xs.length), arr[j]? = some (.int .i64 xs[j]) := by
      intro j hj
      have := congrArg (·[j]?) h6'
      simp only [List.getElem?_take, hj, if_true, List.getElem?_map, List.getElem?_eq_getElem hj, Option.map_some] at this
      simpa using this
    have hc := AnyM.slices_Sort_int Tryz.sortI bk 0 c xs w (by
      intro j hj
      have hj' : j < xs.length := by simpa using hj
      constructor
      · show cellH w.heap _ = _
        unfold cellH
        simp only [h1, Nat.zero_add, Option.isSome_none, Bool.false_eq_true, if_false]
        rw [hget j hj']
        rw [getElem!_pos xs.toArray j (by simpa using hj')]
        simp
      · show frozenH w.heap _ = _
        unfold frozenH
        simp [h1]) (lt_of_blk h1) (by omega)
    refine hc.mono ?_
    rintro e w' ⟨rfl, n, os, rfl⟩
    have hbk := lt_of_blk h1
    have hd : (xs.mergeSort fun x y => decide (x ≤ y)) = sortI xs := rfl
    rw [hd]
    have hdl := sortI_length xs
    generalize sortI xs = d at hdl ⊢
    have hH : (Sort.grow (Sort.putRow (Value.int .i64) (Sort.ahead w n) bk 0 d.toArray) os).heap = (w.heap.modify bk (Sort.onCells (Sort.putCells (Value.int .i64) 0 d.toArray))) ++ os := rfl
    refine ⟨_, rfl, ⟨rfl, rfl, rfl, by simp [putRow, mapBlock, grow]⟩, rfl, ?_, ?_⟩
    · refine .inr ⟨bk, c, Sort.putCells (Value.int .i64) 0 d.toArray arr, d.map (Value.int .i64), by rw [hdl], rfl, ?_, h2, ?_, by rw [hdl]; exact h4, h5, ?_, ?_⟩
      · rw [hH, Array.getElem?_append_left (by simpa using hbk), Array.getElem?_modify, if_pos rfl, h1]
        rfl
      · simp only [Sort.putCells, Array.size_mapIdx]; exact h3
      · rw [hdl]
        apply List.ext_getElem?
        intro i
        simp only [List.getElem?_take, Sort.putCells]
        by_cases hi : i < xs.length
        · have : i < arr.size := by omega
          simp [rInt, hi, this, hdl]
        · simp [rInt, hi, hdl]
      · exact ints_map.2 rfl
    · refine ⟨by rw [hH]; simp, fun b hb hne => ?_⟩
      rw [hH, Array.getElem?_append_left (by simpa using hb), Array.getElem?_modify, if_neg (fun e => hne (by rw [e]))]
end Go.Proofs

/-
  Tables that are given cells, plainly: what is told of a key is what its cells come to.
-/
namespace Go.HC
/-- The table holds, of each key, what these cells come to. -/
structure Holds (T : Tab) (l : List CellM) : Prop where
  ok : TabOk T
  mem : ∀ c, (∃ k : Nat, T[k]? = some (some c)) ↔ atKey c.key l = some c
theorem Holds.new (n : Nat) : Holds (newM n) [] := ⟨newM_ok n, fun c => by
  rw [atKey_nil]
  constructor
  · rintro ⟨k, h⟩
    unfold newM at h
    rw [List.getElem?_replicate] at h
    split at h <;> cases h
  · intro h; cases h⟩
theorem Holds.get {T : Tab} {l : List CellM} (h : Holds T l) (key : List Int) : getM T key = atKey key l := by
  cases ha : atKey key l with
  | some c =>
    have hk := atKey_key ha
    obtain ⟨k, hc⟩ := (h.mem c).2 (by rw [hk]; exact ha)
    have := find_there h.ok hc
    unfold getM
    rw [← hk, this]
    simp [hc]
  | none =>
    unfold getM
    cases hf : findM T key with
    | none => rfl
    | some k =>
      obtain ⟨_, h1 | ⟨c, h1, hc⟩, _⟩ := find_spec_some hf
      · simp [h1]
      · have := (h.mem c).1 ⟨k, h1⟩
        rw [hc, ha] at this; cases this
theorem putM_at {T : Tab} {c : CellM} {k : Nat} (hf : findM T c.key = some k) : putM T c = some (T.set k (some (joinO (T[k]?).join c))) := by
  unfold putM
  rw [hf]
  simp only [Option.some.injEq]
  congr 1
  rcases T[k]? with _ | (_ | d) <;> rfl
theorem Holds.put {T T' : Tab} {l : List CellM} {c : CellM} (h : Holds T l) (hp : putM T c = some T') : Holds T' (l ++ [c]) := by
  refine ⟨(put_ok h.ok hp).1, fun d => ?_⟩
  have hg := h.get c.key
  cases hf : findM T c.key with
  | none => unfold putM at hp; rw [hf] at hp; cases hp
  | some k =>
    rw [putM_at hf] at hp
    simp only [Option.some.injEq] at hp
    obtain ⟨hk, hor, _⟩ := find_spec_some hf
    unfold getM at hg
    rw [hf] at hg
    simp only at hg
    have hat : c.key = d.key → atKey d.key l = (T[k]?).join := fun e => by rw [← e, hg]
    rw [atKey_snoc]
    have hset : ∀ j : Nat, T'[j]? = if k = j then some (some (joinO (T[k]?).join c)) else T[j]? := by
      intro j
      rw [← hp, List.getElem?_set]
      by_cases e : k = j
      · rw [if_pos e, if_pos e, if_pos hk]
      · rw [if_neg e, if_neg e]
    have hkey : (joinO (T[k]?).join c).key = c.key := by
      rcases hor with h0 | ⟨d', h0, hd'⟩
      · rw [h0]; rfl
      · rw [h0]; exact hd'
    constructor
    · rintro ⟨j, hj⟩
      by_cases e : k = j
      · subst e
        rw [hset, if_pos rfl] at hj
        simp only [Option.some.injEq] at hj
        have hcd : c.key = d.key := by rw [← hkey, hj]
        rw [if_pos hcd, hat hcd, hj]
      · rw [hset, if_neg e] at hj
        have hm := (h.mem d).1 ⟨j, hj⟩
        rw [if_neg]
        · exact hm
        · intro hk'
          have := find_there h.ok hj
          rw [← hk', hf] at this
          cases this; exact e rfl
    · intro hd
      by_cases hk' : c.key = d.key
      · rw [if_pos hk', hat hk'] at hd
        simp only [Option.some.injEq] at hd
        exact ⟨k, by rw [hset, if_pos rfl, hd]⟩
      · rw [if_neg hk'] at hd
        obtain ⟨j, hj⟩ := (h.mem d).2 hd
        refine ⟨j, ?_⟩
        rw [hset, if_neg]
        · exact hj
        · rintro rfl
          rcases hor with h0 | ⟨d', h0, hd'⟩
          · rw [h0] at hj; cases hj
          · rw [h0] at hj; cases hj; exact hk' hd'.symm
theorem Holds.cells {T : Tab} {l : List CellM} (h : Holds T l) (c : CellM) : c ∈ cellsM T ↔ c ∈ groupC l := by
  rw [(grp_group l).mem, ← h.mem]
  unfold cellsM
  simp only [List.mem_filterMap, id]
  constructor
  · rintro ⟨x, hx, rfl⟩
    obtain ⟨k, hk⟩ := List.mem_iff_getElem?.1 hx
    exact ⟨k, hk⟩
  · rintro ⟨k, hk⟩
    exact ⟨_, List.mem_of_getElem? hk, rfl⟩
theorem Srt.nodup {l : List CellM} (h : Srt l) : l.Nodup := h.imp fun h e => by rw [e, lessM_self] at h; omega
/-- A table's cells stand once each. -/
theorem TabOk.nodup {T : Tab} (h : TabOk T) : (cellsM T).Nodup := by
  have key : ∀ (S : Tab) (off : Nat), (∀ (i : Nat) (c : CellM), S[i]? = some (some c) → T[off + i]? = some (some c)) → (cellsM S).Nodup := by
    intro S
    induction S with
    | nil => exact fun _ _ => List.nodup_nil
    | cons x S ih =>
      intro off hs
      have hr := ih (off + 1) fun i c hi => by
        have := hs (i + 1) c (by simpa using hi)
        rwa [Nat.add_assoc, Nat.add_comm 1 i]
      cases x with
      | none => exact hr
      | some c =>
        refine List.nodup_cons.2 ⟨fun hc => ?_, hr⟩
        have hm : ∃ i : Nat, S[i]? = some (some c) := by
          unfold cellsM at hc
          simp only [List.mem_filterMap, id] at hc
          obtain ⟨y, hy, rfl⟩ := hc
          obtain ⟨k, hk⟩ := List.mem_iff_getElem?.1 hy
          exact ⟨k, hk⟩
        obtain ⟨i, hi⟩ := hm
        have h1 := find_there h (hs 0 c rfl)
        have h2 := find_there h (hs (i + 1) c (by simpa using hi))
        rw [h1] at h2
        simp at h2
  exact key T 0 fun i c hi => by simpa using hi
theorem Holds.perm {T : Tab} {l : List CellM} (h : Holds T l) : (cellsM T).Perm (groupC l) :=
  (List.perm_ext_iff_of_nodup h.ok.nodup (grp_group l).srt.nodup).2 h.cells
theorem Holds.taken {T : Tab} {l : List CellM} (h : Holds T l) : takenM T = (groupC l).length := by
  rw [← cells_len, h.perm.length_eq]
end Go.HC

/-
  The program's tables of all cells at once: they fit, or there is no place.
-/
namespace Go.HC
theorem take_snoc {α : Type} {l : List α} {k : Nat} (hk : k < l.length) : l.take (k + 1) = l.take k ++ [l[k]] := by
  rw [List.take_add_one, List.getElem?_eq_getElem hk, Option.toList_some]
end Go.HC
namespace Go.Proofs
open Go Go.HC

end Go.Proofs

/-
  Parts of cells in a map: slices that grow, by their values.
-/
namespace Go.HC
section
variable {P : Program} {h : Heap} {K : Value → Heap → Prop}
end
theorem part_snoc (i : Nat) (v : Int) (l : List CellM) (c : CellM) : partC i v (l ++ [c]) = if atV c i = v then partC i v l ++ [c] else partC i v l := by
  unfold partC
  rw [List.filter_append]
  by_cases h : atV c i = v <;> simp [h]
/-- The slice of a value; nil where there is none. -/
def slotE (x : Int) (es : Ents Int) : Value := (getE x es).getD (.slice none 0 0)
/-- Parts in a map, the values in a slice: tI, tC: the numbers of the types int and Cell. -/
structure PJ (tI tC i : Nat) (l : List CellM) (h0 h : Heap) (bm : Nat) (vv : Value) (vs : List Int) (own : Option Nat) (es : Ents Int) (clock : Nat) (M : Nat → Prop) (O : Int → Option Nat) : Prop where
  tr : Tr none_ M h0 h
  mbm : M bm
  map : h[bm]? = some (.map (entsOf kInt es) clock)
  vals : Gr rInt tI 0 M h vv vs own
  part : ∀ x, Gr rCell tC 0 M h (slotE x es) (partC i x l) (O x)
  dis : ∀ x y b, O x = some b → O y = some b → x = y
  diso : ∀ x b, O x = some b → own ≠ some b
  disb : ∀ x, O x ≠ some bm
  disv : own ≠ some bm
/-- What the values are. -/
structure PV (i : Nat) (l : List CellM) (vs : List Int) (es : Ents Int) : Prop where
  nod : vs.Nodup
  mem : ∀ v, v ∈ vs ↔ ∃ c ∈ l, atV c i = v
  is : ∀ x, (getE x es).isSome = true ↔ x ∈ vs
section
variable {tI tC i : Nat} {l : List CellM} {h0 h h' : Heap} {bm : Nat} {vv v' : Value} {vs vs' : List Int} {own own' : Option Nat} {es : Ents Int} {clock : Nat} {M M' : Nat → Prop} {O : Int → Option Nat} {c : CellM}
theorem PV.nil : PV i [] [] [] := ⟨List.nodup_nil, fun v => by simp, fun x => by simp [getE, findI]⟩
theorem PV.put {x : Int} {v : Value} (p : PV i l vs es) (hx : atV c i = x) : PV i (l ++ [c]) (if (getE x es).isSome then vs else vs ++ [x]) (putE x v clock es) := by
  have hm : ∀ u, (∃ d ∈ l ++ [c], atV d i = u) ↔ u ∈ vs ∨ u = x := fun u => by
    rw [p.mem]
    constructor
    · rintro ⟨d, hd, e⟩
      rcases List.mem_append.1 hd with hd | hd
      · exact .inl ⟨d, hd, e⟩
      · rw [List.mem_singleton] at hd; subst hd; exact .inr (e.symm.trans hx)
    · rintro (⟨d, hd, e⟩ | rfl)
      · exact ⟨d, List.mem_append_left _ hd, e⟩
      · exact ⟨c, List.mem_append_right _ (List.mem_singleton.2 rfl), hx⟩
  have hi : ∀ u, (getE u (putE x v clock es)).isSome = true ↔ u ∈ vs ∨ u = x := fun u => by
    rw [getE_put]
    split
    · rename_i e; simp [e]
    · rename_i e; rw [p.is]; simp [e]
  by_cases hs : (getE x es).isSome = true
  · rw [if_pos hs]
    have hxv := (p.is x).1 hs
    refine ⟨p.nod, fun u => by rw [hm]; exact ⟨.inl, fun h => h.elim id fun e => e ▸ hxv⟩, fun u => by rw [hi]; exact ⟨fun h => h.elim id fun e => e ▸ hxv, .inl⟩⟩
  · rw [if_neg hs]
    have hxv : x ∉ vs := fun h => hs ((p.is x).2 h)
    refine ⟨?_, fun u => by rw [hm]; simp, fun u => by rw [hi]; simp⟩
    rw [List.nodup_append]
    exact ⟨p.nod, by simp, fun a ha b hb => by rw [List.mem_singleton] at hb; subst hb; rintro rfl; exact hxv ha⟩
theorem PJ.start {h1 : Heap} (t : Tr none_ M' h0 h1) : PJ tI tC i [] h0 (h1.push (.map #[] 0)) h1.size (.slice none 0 0) [] none [] 0 (fun b => M' b ∨ b = h1.size) (fun _ => none) where
  tr := t.pushM _
  mbm := .inr rfl
  map := push_new _ _
  vals := .nil _ _ _ _ _
  part _ := .nil _ _ _ _ _
  dis _ _ _ h := by cases h
  diso _ _ h := by cases h
  disb _ h := by cases h
  disv h := by cases h
theorem PJ.keep (p : PJ tI tC i l h0 h bm vv vs own es clock M O) (k : Keep none_ h h') : PJ tI tC i l h0 h' bm vv vs own es clock M O :=
  ⟨p.tr.call k, p.mbm, k.at p.map (fun h => h), p.vals.call k, fun x => (p.part x).call k, p.dis, p.diso, p.disb, p.disv⟩
/-- A value is appended. -/
theorem PJ.val (p : PJ tI tC i l h0 h bm vv vs own es clock M O) (g : Gr rInt tI 0 (fun b => M b ∨ own' = some b) h' v' vs' own') (t : Tr M (fun b => M b ∨ own' = some b) h h') (k : Keep (fun b => own = some b) h h')
    (ho : ∀ b, own' = some b → own = some b ∨ h.size ≤ b) : PJ tI tC i l h0 h' bm v' vs' own' es clock (fun b => M b ∨ own' = some b) O := by
  have hl : ∀ x b, O x = some b → b < h.size := fun x => (p.part x).own_lt
  have hb : bm < h.size := lt_of_blk p.map
  refine ⟨p.tr.trans t, .inl p.mbm, k.at p.map p.disv, g, fun x => (p.part x).mono t (Nat.le_refl 0) fun b hb => ⟨.inl ((p.part x).mu b hb), k.blk b (hl x b hb) (p.diso x b hb)⟩, p.dis, fun x b hx e => ?_, p.disb, fun e => ?_⟩
  · rcases ho b e with e | e
    · exact p.diso x b hx e
    · have := hl x b hx; omega
  · rcases ho bm e with e | e
    · exact p.disv e
    · omega
/-- A cell is appended to those of its value. -/
theorem PJ.cell {x : Int} (p : PJ tI tC i l h0 h bm vv vs own es clock M O) (hx : atV c i = x) (g : Gr rCell tC 0 (fun b => M b ∨ own' = some b) h' v' (partC i x l ++ [c]) own') (t : Tr M (fun b => M b ∨ own' = some b) h h') (k : Keep (fun b => O x = some b) h h')
    (ho : ∀ b, own' = some b → O x = some b ∨ h.size ≤ b) :
    PJ tI tC i (l ++ [c]) h0 (h'.setIfInBounds bm (.map (entsOf kInt (putE x v' clock es)) (clockE x es clock))) bm vv vs own (putE x v' clock es) (clockE x es clock) (fun b => M b ∨ own' = some b) (fun y => if y = x then own' else O y) := by
  have hl : ∀ x b, O x = some b → b < h.size := fun x => (p.part x).own_lt
  have hb : bm < h.size := lt_of_blk p.map
  have hvl := p.vals.own_lt
  have hob : own' ≠ some bm := fun e => (ho bm e).elim (p.disb x) fun e => by omega
  have hsl : ∀ y, slotE y (putE x v' clock es) = if y = x then v' else slotE y es := fun y => by
    unfold slotE; rw [getE_put]; split <;> rfl
  refine ⟨(p.tr.trans t).set _ (.inl p.mbm), .inl p.mbm, set_same _ (Nat.lt_of_lt_of_le hb t.size), ?_, fun y => ?_, ?_, fun y b hy e => ?_, fun y => ?_, p.disv⟩
  · refine (p.vals.mono t (Nat.le_refl 0) fun b hb => ⟨.inl (p.vals.mu b hb), k.blk b (hvl b hb) fun e => p.diso x b e hb⟩).set _ (.inl p.mbm) p.disv
  · rw [hsl, part_snoc, hx]
    by_cases e : y = x
    · subst e
      simp only [if_true]
      exact g.set _ (.inl p.mbm) hob
    · simp only [if_neg e, if_neg (fun h : x = y => e h.symm)]
      exact ((p.part y).mono t (Nat.le_refl 0) fun b hb => ⟨.inl ((p.part y).mu b hb), k.blk b (hl y b hb) fun h => e (p.dis y x b hb h)⟩).set _ (.inl p.mbm) (p.disb y)
  · intro y z b hy hz
    by_cases ey : y = x <;> by_cases ez : z = x <;> simp only [ey, ez, if_true, if_false] at hy hz
    · rw [ey, ez]
    · rcases ho b hy with h1 | h1
      · exact absurd (p.dis x z b h1 hz).symm ez
      · have := hl z b hz; omega
    · rcases ho b hz with h1 | h1
      · exact absurd (p.dis y x b hy h1) ey
      · have := hl y b hy; omega
    · exact p.dis y z b hy hz
  · by_cases ey : y = x <;> simp only [ey, if_true, if_false] at hy
    · rcases ho b hy with h1 | h1
      · exact p.diso x b h1 e
      · have := hvl b e; omega
    · exact p.diso y b hy e
  · by_cases ey : y = x <;> simp only [ey, if_true, if_false]
    · exact hob
    · exact p.disb y
end
end Go.HC

/-
  The program's group-by by tables, parted by the keys' numbers.
-/
namespace Go.HC
theorem PV.vals {i : Nat} {l : List CellM} {vs : List Int} {es : Ents Int} (p : PV i l vs es) : Vals i l (sortI vs) := .sort p.nod p.mem
theorem Gr.newC {e n n0 : Nat} {M : Nat → Prop} {h : Heap} {v : Value} {l : List CellM} {own : Option Nat} (g : Gr rCell e n M h v l own) (hn : n0 ≤ n) (ho : ∀ b, own = some b → n0 ≤ b) : NewC e n0 h v l :=
  ⟨Ft n M h, own, g.grow, fun _ hb => ⟨hb.1.less hn, hb.2.1⟩, ho⟩
end Go.HC
namespace Go.Proofs
open Go Go.HC

end Go.Proofs

/-
  The program's hash.Group.
-/
namespace Go.Proofs
open Go Go.HC

end Go.Proofs

/-
  What is made of cells, plainly: parts, how many are held at once.
-/
namespace Go.HC
section
variable {L i f n : Nat} {l m : List CellM} {v : Int}
end
end Go.HC

/-
  The document's group-by in parts.
-/
namespace Go.HC
theorem putC_last : ∀ {o : List CellM} {c : CellM}, (∀ d ∈ o, lessM d.key c.key < 0) → putC o c = o ++ [c]
  | [], _, _ => rfl
  | d :: o, c, h => by
    rw [putC, if_pos (h d List.mem_cons_self), putC_last fun e he => h e (List.mem_cons_of_mem _ he)]; rfl
theorem group_id {o : List CellM} (h : Srt o) : groupC o = o := by
  have key : ∀ k, groupC (o.take k) = o.take k := by
    intro k
    induction k with
    | zero => rfl
    | succ k ih =>
      by_cases hk : k < o.length
      · rw [group_take hk, ih, take_snoc hk]
        refine putC_last fun d hd => ?_
        obtain ⟨j, hj, e⟩ := List.getElem_of_mem hd
        rw [List.length_take] at hj
        rw [List.getElem_take] at e
        rw [← e]
        exact h.get (by omega) hk (by omega)
      · rw [List.take_of_length_le (by omega)]; rwa [List.take_of_length_le (by omega)] at ih
  have := key o.length
  rwa [List.take_length] at this
theorem Holds.group {T : Tab} {l : List CellM} (h : Holds T l) : groupC (cellsM T) = groupC l := (group_perm h.perm).trans (group_id (grp_group l).srt)
end Go.HC
namespace Go.Proofs
open Go Go.HC

end Go.Proofs

/-
  The document's parts of cells, of any keys.
-/
namespace Go.HC
end Go.HC
namespace Go.Proofs
open Go Go.HC

end Go.Proofs

/-
  Two rows of rising cells made one; runs; plainly.
-/
namespace Go.HC
end Go.HC
namespace Go.HC
end Go.HC
namespace Go.HC
/-- What holds of runs. -/
structure RunOk (most : Nat) (l : List CellM) (st : List (List CellM) × List CellM) : Prop where
  srt : ∀ r ∈ st.1, Srt r
  len : ∀ r ∈ st.1, r.length = most
  held : Srt st.2
  hlen : st.2.length ≤ most
  grp : groupC (st.1.flatten ++ st.2) = groupC l
  one : (groupC l).length ≤ most → st.1 = []
end Go.HC

/-
  Cells by fewer dimensions, plainly.
-/
namespace Go.HC
/-! ### fewer dimensions -/
def dimsM (a : Int) : List Nat := (List.range 4).filter (bitM a)
def pickN (b : Int) (ds : List Nat) (key : List Int) : List Int := (ds.zip key).filterMap fun p => if bitM b p.1 = true then some p.2 else none
def narrowC (a b : Int) (c : CellM) : CellM := ⟨pickN b (dimsM a) c.key, c.count, c.sum, c.mn, c.mx⟩
theorem pickN_cons (b : Int) (d : Nat) (ds : List Nat) (x : Int) (key : List Int) : pickN b (d :: ds) (x :: key) = if bitM b d = true then x :: pickN b ds key else pickN b ds key := by
  unfold pickN
  rw [List.zip_cons_cons, List.filterMap_cons]
  split <;> rename_i h <;> split at h <;> simp_all
theorem pickN_nil (b : Int) (ds : List Nat) : pickN b ds [] = [] := by unfold pickN; simp
theorem pickN_nil' (b : Int) (key : List Int) : pickN b [] key = [] := by unfold pickN; simp
theorem pickN_snoc (b : Int) (d : Nat) : ∀ (ds : List Nat) (key : List Int), pickN b (ds ++ [d]) key = pickN b ds key ++ (if h : ds.length < key.length then (if bitM b d = true then [key[ds.length]] else []) else [])
  | [], [] => by simp [pickN_nil]
  | [], x :: key => by
    simp only [List.nil_append, pickN_cons, pickN_nil', List.length_nil, List.length_cons, Nat.zero_lt_succ, dite_true, List.getElem_cons_zero]
  | e :: ds, [] => by simp [pickN_nil]
  | e :: ds, x :: key => by
    rw [List.cons_append, pickN_cons, pickN_cons, pickN_snoc b d ds key]
    by_cases h : ds.length < key.length
    · have h' : (e :: ds).length < (x :: key).length := by simp; omega
      rw [dif_pos h, dif_pos h']
      split <;> simp
    · have h' : ¬ (e :: ds).length < (x :: key).length := by simp; omega
      rw [dif_neg h, dif_neg h']
      simp
theorem pickN_le (b : Int) (ds : List Nat) (key : List Int) : (pickN b ds key).length ≤ key.length := by
  unfold pickN
  refine Nat.le_trans (List.length_filterMap_le _ _) ?_
  rw [List.length_zip]; omega
theorem narrow_small {a b : Int} {c : CellM} (h : CellSmall c) : CellSmall (narrowC a b c) := ⟨Nat.lt_of_le_of_lt (pickN_le _ _ _) h.key, h.sum, h.mn, h.mx⟩
theorem lvl_dims : ∀ n : Fin 5, ∀ a : Fin 16, a.val < 2 ^ n.val → lvlM (a.val : Int) 0 n.val = (dimsM (a.val : Int)).length := by decide +kernel
/-- Both sets' dimensions. -/
def andM (x y : Int) : Int := IntKind.i64.wrap ((BitVec.ofInt IntKind.i64.bits x &&& BitVec.ofInt IntKind.i64.bits y).toNat)
/-! ### groups of changed cells -/
end Go.HC

/-
  How many cells are held at once, plainly.
-/
namespace Go.HC
/-! ### how many are held -/
structure RunsOk (most : Nat) (l : List CellM) (rs : List (List CellM)) : Prop where
  srt : ∀ r ∈ rs, Srt r
  len : ∀ r ∈ rs, 0 < r.length ∧ r.length ≤ most
  grp : groupC rs.flatten = groupC l
  one : (groupC l).length ≤ most → rs = if 0 < (groupC l).length then [groupC l] else []
end Go.HC

/-
  Runs of cells: the program's.
-/
namespace Go.HC
/-- A new row of one cell. -/
theorem NewC.one {e n0 : Nat} {h : Heap} {v : Value} {c : CellM} (g : NewC e n0 h v [c]) :
    ∃ bk c2 arr cs, v = .slice (some ⟨bk, 0, none⟩) 1 c2 ∧ 1 ≤ c2 ∧ n0 ≤ bk ∧ h[bk]? = some (.cells arr e (0, 0)) ∧ 5 ≤ arr.size ∧ arr.toList.take 5 = cs ∧ rCell.rep (Ft n0 none_ h) h cs c := by
  obtain ⟨F, own, g, hF, ho⟩ := g
  rcases g with ⟨_, h0, _⟩ | ⟨bk, c2, arr, cs, rfl, rfl, h1, h2, h3, h4, h5, h6, h7⟩
  · cases h0
  · obtain ⟨c1, c3, e1, h8, h9⟩ := h7
    have h9 : c3 = [] := h9
    subst h9
    rw [List.append_nil] at e1
    subst e1
    have h3 : arr.size = c2 * 5 := h3
    have h4 : 1 ≤ c2 := h4
    exact ⟨bk, c2, arr, _, rfl, h4, ho bk rfl, h1, by omega, h6, rCell.mono h8 fun b hb => ⟨⟨(hF b hb).1, (hF b hb).2, fun h => h⟩, rfl⟩⟩
end Go.HC
namespace Go.Proofs
open Go Go.HC

end Go.Proofs

/-
  Runs of cells: the program's, whole.
-/
namespace Go.HC
theorem put_all {p : CellM → Prop} (hj : ∀ a b, p a → p b → p (joinC a b)) : ∀ {l : List CellM} {c : CellM}, (∀ d ∈ l, p d) → p c → ∀ d ∈ putC l c, p d
  | [], c, _, hc, d, hd => by rw [putC, List.mem_singleton] at hd; rw [hd]; exact hc
  | e :: l, c, hl, hc, d, hd => by
    have he := hl e List.mem_cons_self
    have hl' : ∀ d ∈ l, p d := fun d hd => hl d (List.mem_cons_of_mem _ hd)
    rw [putC] at hd
    split at hd
    · rcases List.mem_cons.1 hd with rfl | h
      · exact he
      · exact put_all hj hl' hc d h
    · split at hd
      · rcases List.mem_cons.1 hd with rfl | h
        · exact hj _ _ he hc
        · exact hl' d h
      · rcases List.mem_cons.1 hd with rfl | h
        · exact hc
        · exact hl d h
theorem group_all {p : CellM → Prop} (hj : ∀ a b, p a → p b → p (joinC a b)) {l : List CellM} (hl : ∀ d ∈ l, p d) : ∀ d ∈ groupC l, p d := by
  have key : ∀ (l o : List CellM), (∀ d ∈ l, p d) → (∀ d ∈ o, p d) → ∀ d ∈ l.foldl putC o, p d := by
    intro l
    induction l with
    | nil => exact fun o _ ho => ho
    | cons c l ih => exact fun o hl ho => ih _ (fun d hd => hl d (List.mem_cons_of_mem _ hd)) (put_all hj ho (hl c List.mem_cons_self))
  exact key l [] hl fun d hd => by cases hd
/-- Bounds of runs. -/
structure RunB (p : CellM → Prop) (n : Nat) (st : List (List CellM) × List CellM) : Prop where
  out : ∀ r ∈ st.1, ∀ d ∈ r, p d
  held : ∀ d ∈ st.2, p d
  len : st.1.length + st.2.length ≤ n
  each : ∀ r ∈ st.1, r.length ≤ n
end Go.HC
namespace Go.Proofs
open Go Go.HC

end Go.Proofs

/-
  A set's dimensions, one by one.
-/
namespace Go.HC
theorem shr_i {s : Int} {k : Nat} (hk : k < 64) : intRes .shr .i64 s (k : Int) = some (.int .i64 (s.fdiv (2 ^ k))) := by
  rw [intRes_shr _ _ _ (by omega)]
  have : min ((k : Int).toNat) IntKind.i64.bits = k := by
    have : IntKind.i64.bits = 64 := by decide
    omega
  rw [this]
theorem range_snoc (p : Nat → Bool) (i : Nat) : (List.range (i + 1)).filter p = (List.range i).filter p ++ (if p i = true then [i] else []) := by
  rw [List.range_succ, List.filter_append, List.filter_cons]
  simp
end Go.HC
namespace Go.Proofs
open Go Go.HC

theorem dims_spec (s : Int) (h : Heap) : CallH Tryz.prog 91 #[.int .i64 s] h fun r h' => r = .func (.func 128) #[] #[.pointer (some ⟨h.size, 0, none⟩)] ∧ h' = h.push (.cells #[.int .i64 s] 3) := by
  refine enter [.tmp 2] Tryz.func91 rfl rfl (by kernel_rfl) rfl ?_
  simp -dsimp [boxS_eq]

set_option maxRecDepth 10000 in
theorem dims_iter {h0 : Heap} {bx : Nat} {s : Int} {fz : Nat × Nat} (hbx : h0[bx]? = some (.cells #[.int .i64 s] 3 fz)) :
    IterM Tryz.prog 128 #[] #[.pointer (some ⟨bx, 0, none⟩)] (fun i : Nat => #[.int .i64 (i : Int)]) (fun xs i _ _ => xs = (List.range i).filter (bitM s) ∧ i < 4 ∧ bitM s i = true) (fun xs => xs = dimsM s) (fun b => b = bx) h0 := by
  intro y J M0 h ⟨yf, yu, yv', hyf⟩ hy hJ hsz hFp
  subst hyf
  have hlt := lt_of_blk hbx
  obtain ⟨_, hMb, hbe⟩ := hFp bx rfl
  have hbx' := hbe.trans hbx
  refine callH_by fun K hK => ?_
  refine enter [] Tryz.func128 rfl rfl (by kernel_rfl) rfl ?_
  simp -dsimp
  refine loopc (σ := Nat) (fun i => [(0, .func yf yu yv'), (1, .pointer (some ⟨bx, 0, none⟩)), (4, .int .i64 i)]) (fun i h1 => i ≤ 4 ∧ ∃ M, J ((List.range i).filter (bitM s)) M h1 ∧ Tr M0 M h h1) (fun i => 4 - i) 0 0 (fun i _ => i = 4) noRet noRet_le (by simp)
    ⟨by omega, M0, hJ, ⟨.refl _ _, fun _ h => .inl h, fun b hb => hy.lt hJ b hb⟩⟩ (by kernel_rfl) ?_ ?_
  · rintro i h1 g ⟨hi, M, hJ1, t⟩
    have hb1 := t.keep.at hbx' hMb
    have hrs := range_snoc (bitM s) i
    by_cases hl : i < 4
    · have hl' : (i : Int) < 4 := by omega
      have wk := wrap_succ (k := i) (by omega)
      simp -dsimp [hl', hb1, shr_i (show i < 64 by omega), bit_op]
      cases hb : bitM s i with
      | false =>
        rw [hb, if_neg (by decide), List.append_nil] at hrs
        simp -dsimp [wk]
        exact ⟨i + 1, by simp, rfl, ⟨by omega, M, by rw [hrs]; exact hJ1, t⟩, by show 4 - (i + 1) < 4 - i; omega⟩
      | true =>
        rw [hb, if_pos rfl] at hrs
        simp -dsimp
        refine callV_by (hy.step (x := i) hJ1 ⟨rfl, hl, hb⟩) ?_
        rintro _ h2 ⟨rfl, M', hJ2, t2⟩
        simp -dsimp [wk]
        exact ⟨i + 1, by simp, rfl, ⟨by omega, M', by rw [hrs]; exact hJ2, t.trans t2⟩, by show 4 - (i + 1) < 4 - i; omega⟩
    · have hl' : ¬ (i : Int) < 4 := by omega
      simp -dsimp [hl']
      exact ⟨rfl, i, by simp, rfl, ⟨hi, M, hJ1, t⟩, by omega⟩
  · rintro i h1 g ⟨hi, M, hJ1, t⟩ rfl
    simp -dsimp
    exact hK _ _ ⟨_, M, rfl, hJ1, t⟩
end Go.Proofs

/-
  A cell by fewer dimensions: the program's, the document's.
-/
namespace Go.Proofs
open Go Go.HC

set_option maxHeartbeats 4000000 in
set_option maxRecDepth 10000 in
theorem narrow_spec {h : Heap} {cs : List Value} {c : CellM} (a b : Int) (hr : rCell.rep (Old h) h cs c) (hc : CellSmall c) :
    CallH Tryz.prog 47 #[.agg cs.toArray, .int .i64 a, .int .i64 b] h fun r h' => ∃ ds, r = .agg ds.toArray ∧ rCell.rep (Ft h.size none_ h') h' ds (narrowC a b c) ∧ Keep none_ h h' := by
  refine callH_by fun K hK => ?_
  refine enter [.cell 6 65] Tryz.func47 rfl rfl (by kernel_rfl) rfl ?_
  obtain ⟨ka, kc, sa, sc, na, nc, xa, xc, rfl, r1, r2, r3, r4⟩ := cell_open hr
  simp -dsimp [boxS_eq]
  generalize hB : Array.push (Array.push (Array.push h _) _) _ = h0
  have k0 : Keep none_ h h0 := by rw [← hB]; exact (((Keep.refl none_ h).pushed _).pushed _).pushed _
  have hz0 : h0.size = h.size + 3 := by rw [← hB]; simp
  have hC : h0[h.size]? = some (.cells #[.slice ka c.key.length kc, .int .i64 c.count, .slice sa c.sum.length sc, .slice na c.mn.length nc, .slice xa c.mx.length xc] 65 (0, 0)) := by rw [← hB]; exact push_at (push_at (push_new _ _))
  have hb0 : h0[h.size + 1]? = some (.cells #[.int .i64 b] 3 (0, 0)) := by rw [← hB]; exact push_at (push_get (by simp))
  have hz : h0[h.size + 2]? = some (.cells #[.slice none 0 0, .int .i64 0, .slice none 0 0, .slice none 0 0, .slice none 0 0] 65 (0, 0)) := by rw [← hB]; exact push_get (by simp)
  simp -dsimp [hC]
  refine call_by (own_new (rCell.mono hr ((Tr.of k0).ft (Nat.le_refl 0))) hc) ?_
  rintro _ h1 ⟨ds, rfl, rd, k1⟩
  obtain ⟨ka', kc', sa', sc', na', nc', xa', xc', rfl, q1, q2, q3, q4⟩ := cell_open rd
  simp -dsimp
  rw [push_set rfl, push_set (by simp)]
  generalize hB2 : Array.push (Array.push h1 _) _ = h2
  have e1 := k1.size
  have k2 : Keep none_ h1 h2 := by rw [← hB2]; exact ((Keep.refl none_ h1).pushed _).pushed _
  have hz2 : h2.size = h1.size + 2 := by rw [← hB2]; simp
  have hO : h2[h1.size]? = some (.cells #[.slice none 0 0, .int .i64 c.count, .slice sa' c.sum.length sc', .slice na' c.mn.length nc', .slice xa' c.mx.length xc'] 65 (0, 0)) := by rw [← hB2]; exact push_at (push_new _ _)
  have hA : h2[h1.size + 1]? = some (.cells #[.int .i64 0] 3 (0, 0)) := by rw [← hB2]; exact push_get (by simp)
  refine call_by (dims_spec a h2) ?_
  rintro _ h3 ⟨rfl, e3⟩
  simp -dsimp
  have k3 : Keep none_ h2 h3 := by rw [e3]; exact .push _ _ _
  have hz3 : h3.size = h2.size + 1 := by rw [e3]; simp
  have hD : h3[h2.size]? = some (.cells #[.int .i64 a] 3 (0, 0)) := by rw [e3]; exact push_new _ _
  clear e3
  have hC3 := k3.at (k2.at (k1.at hC (fun h => h)) (fun h => h)) (fun h => h)
  have hb3 := k3.at (k2.at (k1.at hb0 (fun h => h)) (fun h => h)) (fun h => h)
  have hz3' := k3.at (k2.at (k1.at hz (fun h => h)) (fun h => h)) (fun h => h)
  have hO3 := k3.at hO (fun h => h)
  have hA3 := k3.at hA (fun h => h)
  obtain ⟨I, hI⟩ : ∃ I : List Nat → (Nat → Prop) → Heap → Prop, ∀ xs M h', I xs M h' ↔ ((M h1.size ∧ M (h1.size + 1)) ∧ (∀ b, M b → b < h'.size) ∧ ∃ kv own, h'[h1.size]? = some (.cells #[kv, .int .i64 c.count, .slice sa' c.sum.length sc', .slice na' c.mn.length nc', .slice xa' c.mx.length xc'] 65 (0, 0)) ∧
      h'[h1.size + 1]? = some (.cells #[.int .i64 xs.length] 3 (0, 0)) ∧ Gr rInt 3 h.size M h' kv (pickN b xs c.key) own ∧ ∀ bk, own = some bk → h3.size + 2 ≤ bk) := ⟨_, fun _ _ _ => Iff.rfl⟩
  have hO' := lt_of_blk hO3
  have k03 : Keep none_ h h3 := ((k0.trans k1 fun _ _ h => h).trans k2 fun _ _ h => h).trans k3 fun _ _ h => h
  refine range_m (val := fun i : Nat => #[.int .i64 (i : Int)]) (first := #[]) (by simp) (by simp) (dims_iter hD) I
    ?_ ?_ (fun b => b = h1.size ∨ b = h1.size + 1) ?_ ?_ (by kernel_rfl) (by kernel_rfl) (fun _ => rfl) (by intro p hp; simp at hp; subst hp; decide) ?_ ?_
  · exact fun hi => ((hI _ _ _).1 hi).2.1
  · intro xs M h4 h5 hi m1 m2 k
    obtain ⟨hM, hlt, kv, own, w1, w2, g, ho⟩ := (hI _ _ _).1 hi
    exact (hI _ _ _).2 ⟨hM, fun b hb => Nat.lt_of_lt_of_le (hlt b hb) k.size, kv, own, k.at w1 (by omega), k.at w2 (by omega), g.lp hlt m2 (fun e => by have := ho _ e; omega) k, ho⟩
  · rintro b rfl
    exact ⟨by omega, by omega⟩
  · intro h4 k4 hz4
    exact (hI _ _ _).2 ⟨⟨.inl (.inl rfl), .inl (.inr rfl)⟩, by omega, _, none, k4.at hO3 (fun h => h), k4.at hA3 (fun h => h), by rw [pickN_nil']; exact .nil _ _ _ _ _, fun b hb => by cases hb⟩
  · rintro xs i M h4 hi4 ⟨hxs, hi, hbi⟩ hz4 m1 m2 t
    simp -dsimp
    refine ⟨.refl _ _, fun h5 k5 e5 => ?_⟩
    obtain ⟨⟨hM1, hM2⟩, hlt, kv, own, w1, w2, g, ho⟩ := (hI _ _ _).1 hi4
    have t5 := Tr.lp hlt m2 k5
    have u5 := t.trans t5
    have T5 := Tr.from_ k03 u5 (fun b hb => by omega)
    have g5 := g.lp hlt m2 (fun e => by have := ho _ e; omega) k5
    have w1' := k5.at w1 (by omega)
    have w2' := k5.at w2 (by omega)
    have hC5 := u5.at hC3 (by omega)
    have hb5 := u5.at hb3 (by omega)
    have hsn := pickN_snoc b i xs c.key
    have hxl : xs.length ≤ 4 := by rw [hxs]; exact Nat.le_trans (List.length_filter_le _ _) (by simp; omega)
    have wk := wrap_succ (k := xs.length) (by omega)
    have hw2 := lt_of_blk w2'
    have ho2 : h1.size < h5.size := lt_of_blk w1'
    have htl : (xs ++ [i]).length = xs.length + 1 := by simp
    -- behind the number is written
    have fin : ∀ (h6 : Heap) (kv' : Value) (own' : Option Nat) (M' : Nat → Prop), Tr M M' h4 h6 → (∀ b, M b → M' b) → h6[h3.size]? = h5[h3.size]? → h6[h3.size + 1]? = h5[h3.size + 1]? → h3.size + 2 ≤ h6.size →
        h6[h1.size]? = some (.cells #[kv', .int .i64 c.count, .slice sa' c.sum.length sc', .slice na' c.mn.length nc', .slice xa' c.mx.length xc'] 65 (0, 0)) →
        Gr rInt 3 h.size M' h6 kv' (pickN b (xs ++ [i]) c.key) own' → (∀ bk, own' = some bk → h3.size + 2 ≤ bk) →
        bodyM h3.size M h4 h5 I (xs ++ [i]) ⟨⟩ (h6.setIfInBounds (h1.size + 1) (.cells #[.int .i64 ((xs.length + 1 : Nat) : Int)] 3)) := by
      intro h6 kv' own' M' t6 hM' d1 d2 hz6 v1 g6 ho6
      refine ⟨M', (hI _ _ _).2 ⟨⟨hM' _ hM1, hM' _ hM2⟩, fun b hb => by simpa using t6.lt b hb, kv', own', (set_other _ (by omega)).trans v1, ?_, g6.set _ (hM' _ hM2) (fun e => by have := ho6 _ e; omega), ho6⟩, t6.set _ (hM' _ hM2), hM' _ m1, hM' _ m2, (set_other _ (by omega)).trans d1, (set_other _ (by omega)).trans d2⟩
      rw [htl]
      exact set_same _ (by omega)
    have t45 : Tr M M h4 h5 := t5
    have skip : ∀ (e : pickN b (xs ++ [i]) c.key = pickN b xs c.key), bodyM h3.size M h4 h5 I (xs ++ [i]) ⟨⟩ (h5.setIfInBounds (h1.size + 1) (.cells #[.int .i64 ((xs.length + 1 : Nat) : Int)] 3)) :=
      fun e => fin h5 kv own M t45 (fun _ h => h) rfl rfl (by omega) w1' (by rw [e]; exact g5) ho
    simp -dsimp [hb5, shr_i (show i < 64 by omega), bit_op]
    cases hbb : bitM b i with
    | false =>
      simp -dsimp [w2', wk]
      refine skip ?_
      rw [hsn, hbb]
      split <;> simp
    | true =>
      simp -dsimp [hC5, w2']
      by_cases hxk : xs.length < c.key.length
      · have hw1p : ∀ o, (h5.push o)[h1.size]? = _ := fun o => push_at w1'
        have rk := r1.mono (T5.ft (Nat.le_refl 0))
        obtain ⟨b1, o1, eka, _, hc1⟩ := rk.int_at xs.length hxk
        obtain ⟨va, vn, vc, rfl, hvn⟩ := g5.vals
        have hpl := pickN_le b xs c.key
        have hkl := hc.key
        simp -dsimp [hxk]
        refine drawn_by [⟨0, true, []⟩, ⟨1, true, []⟩, ⟨2, true, []⟩, ⟨3, true, []⟩, ⟨4, true, []⟩, ⟨5, true, []⟩, ⟨6, true, []⟩, ⟨7, false, [0, 1]⟩, ⟨8, false, []⟩, ⟨9, true, []⟩, ⟨10, false, []⟩] (by kernel_rfl) (by kernel_rfl) ?_
        simp -dsimp [hC5, w1', w2', hw1p, eka, hc1, idxV_nat hxk, elSz_eq, again_cons]
        refine gr_app1 (x := c.key[xs.length]) rfl intT g5 t5.lt rfl rfl (by omega) (by omega) ?_
        intro v' h6 own' g6 t6 k6 ho6
        have v1 := k6.at w1' (fun e => by have := ho _ e; omega)
        have v2 := k6.at w2' (fun e => by have := ho _ e; omega)
        have ho6' : ∀ b, own' = some b → h3.size + 2 ≤ b := fun b e => (ho6 _ e).elim (ho b) (by omega)
        have hl1 := lt_of_blk v1
        have hl2 := lt_of_blk v2
        obtain ⟨va', vn', vc', rfl, hvn'⟩ := g6.vals
        simp -dsimp [v1, set_other _ (show h1.size ≠ h1.size + 1 by omega), v2, wk]
        refine fin _ _ own' (fun b => M b ∨ own' = some b) ((t45.trans t6).set _ (.inl hM1)) (fun _ h => .inl h) ((set_other _ (by omega)).trans (k6.blk _ (by omega) fun e => by have := ho _ e; omega)) ((set_other _ (by omega)).trans (k6.blk _ (by omega) fun e => by have := ho _ e; omega)) (by have := k6.size; simp; omega) (set_same _ hl1) ?_ ho6'
        rw [hsn, dif_pos hxk, hbb, if_pos rfl]
        exact g6.set _ (.inl hM1) (fun e => by have := ho6' _ e; omega)
      · simp -dsimp [hxk, w2', wk]
        refine skip ?_
        rw [hsn, dif_neg hxk, List.append_nil]
  · rintro xs M h4 rfl hi4 hdm hz4 m1 m2 t
    obtain ⟨⟨hM1, hM2⟩, hlt, kv, own, w1, w2, g, ho⟩ := (hI _ _ _).1 hi4
    have T4 := Tr.from_ k03 t (fun b hb => by omega)
    obtain ⟨va, vn, vc, rfl, hvn⟩ := g.vals
    have hpl := pickN_le b (dimsM a) c.key
    have hkl := hc.key
    simp -dsimp [w1]
    refine call_by (cloneInt_spec g.grow.ints g.own_lt (by omega)) ?_
    rintro _ h5 ⟨own5, g5, k5, ho5⟩
    obtain ⟨a5, c5, rfl⟩ := g5.val
    have w5 := k5.at w1 (fun h => h)
    have T5 := T4.call k5
    have hz5 := k5.at (t.at hz3' (by omega)) (fun h => h)
    have hd5 := k5.at hdm (fun h => h)
    have hl1 := lt_of_blk w5
    have hl2 := lt_of_blk hz5
    have hl3 := lt_of_blk hd5
    have s5 := k5.size
    have hne : h1.size ≠ h.size + 2 := by omega
    simp -dsimp [w5, set_same _ hl1, set_other _ hne, hz5]
    generalize hH : Array.setIfInBounds (Array.setIfInBounds h5 _ _) _ _ = h6
    have hold : ∀ bk, bk ≠ h1.size → bk ≠ h.size + 2 → h6[bk]? = h5[bk]? := fun bk n1 n2 => by rw [← hH, set_other _ (fun e => n2 e.symm), set_other _ (fun e => n1 e.symm)]
    have hres : h6[h.size + 2]? = some (.cells #[.slice a5 (pickN b (dimsM a) c.key).length c5, .int .i64 c.count, .slice sa' c.sum.length sc', .slice na' c.mn.length nc', .slice xa' c.mx.length xc'] 65 (0, 0)) := by rw [← hH]; exact set_same _ (by simpa using hl2)
    have hz6 : h6.size = h5.size := by rw [← hH]; simp
    rw [takeS_cons ((hold _ (by omega) (by omega)).trans hd5)]
    have hne3 : h3.size ≠ h.size + 2 := by omega
    simp -dsimp [set_other _ hne3, hres]
    have hold7 : ∀ bk, bk ≠ h1.size → bk ≠ h.size + 2 → bk ≠ h3.size → (h6.setIfInBounds h3.size (.deferred none))[bk]? = h5[bk]? := fun bk n1 n2 n3 => by rw [set_other _ (fun e => n3 e.symm), hold bk n1 n2]
    have hz7 : (h6.setIfInBounds h3.size (.deferred none)).size = h5.size := by simp [hz6]
    generalize h6.setIfInBounds h3.size (.deferred none) = h7 at hold7 hz7 ⊢
    have hq : ∀ bk, Ft h0.size none_ h1 bk → Ft h.size none_ h7 bk ∧ h7[bk]? = h1[bk]? := fun bk hb => by
      have l1 := hb.1.1
      have l2 := hb.2.1
      have e : h7[bk]? = h1[bk]? := by
        rw [hold7 bk (by omega) (by omega) (by omega), k5.blk bk (by have := t.size; omega) (fun h => h), t.keep.blk bk (by omega) (by omega), k3.blk bk (by omega) (fun h => h), k2.blk bk l2 (fun h => h)]
      exact ⟨⟨hb.1.at (by omega) e, by have := T5.size; have := t.size; omega, fun h => h⟩, e⟩
    refine hK _ _ ⟨_, rfl, ⟨_, _, _, _, rfl, ?_, q2.mono hq, q3.mono hq, q4.mono hq⟩, ⟨by have := T5.size; omega, fun bk hb _ => by rw [hold7 bk (by omega) (by omega) (by omega), T5.keep.blk bk hb (fun h => h)]⟩⟩
    refine g5.ints.mono fun bk hb => ?_
    have l1 := ho5 bk hb
    have l2 := g5.own_lt bk hb
    have l3 := t.size
    have e := hold7 bk (by omega) (by omega) (by omega)
    exact ⟨⟨⟨by omega, fun _ => (g5.thaw bk hb).at e⟩, by omega, fun h => h⟩, e⟩

end Go.Proofs

/-
  Cells by fewer dimensions, one by one, collected: the program's.
-/
namespace Go.HC
/-- Cells that come one by one, in memory of their own. -/
def cellsA (n0 : Nat) (l : List CellM) (xs : List (List Value)) (cs : List Value) (M : Nat → Prop) (h : Heap) : Prop := ∃ hk : xs.length < l.length, rCell.rep (Ft n0 M h) h cs l[xs.length]
theorem IterM.keep {α : Type} {P : Program} {f : FuncId} {first caps : Array Value} {val : α → Array Value} {A : List α → α → (Nat → Prop) → Heap → Prop} {Done : List α → Prop} {Fp : Nat → Prop} {h0 h1 : Heap} (hit : IterM P f first caps val A Done Fp h0) (hF : ∀ b, Fp b → b < h0.size) (k : Keep none_ h0 h1) : IterM P f first caps val A Done Fp h1 := by
  intro y J M h hyv hy hJ hsz hFp
  refine hit y J M h hyv hy hJ (Nat.le_trans k.size hsz) fun b hb => ?_
  obtain ⟨_, g2, g3⟩ := hFp b hb
  exact ⟨hF b hb, g2, g3.trans (k.blk b (hF b hb) (fun h => h))⟩
end Go.HC
namespace Go.Proofs
open Go Go.HC

end Go.Proofs

/-
  Two rows of rising cells made one: the program's.
-/
namespace Go.HC
/-- A row of cells in memory of its own that is not among what may be changed. -/
def NewCM (e n0 : Nat) (M : Nat → Prop) (h : Heap) (v : Value) (l : List CellM) : Prop := ∃ F own, Grow rCell e F h v l own ∧ (∀ b, F b → Nw n0 h b ∧ b < h.size ∧ ¬ M b) ∧ ∀ b, own = some b → n0 ≤ b ∧ ¬ M b
theorem NewCM.mono {e n0 : Nat} {M M' : Nat → Prop} {h h' : Heap} {v : Value} {l : List CellM} (g : NewCM e n0 M h v l) (t : Tr M M' h h') : NewCM e n0 M' h' v l := by
  obtain ⟨F, own, g, hF, ho⟩ := g
  have hlt := g.own_lt
  have hnf := g.notF
  have key : ∀ b, b < h.size → ¬ M b → ¬ M' b := fun b h1 h2 hm => (t.new b hm).elim h2 fun h => by omega
  exact ⟨F, own, g.mono (fun b hb => ⟨hb, t.keep.blk b (hF b hb).2.1 (hF b hb).2.2⟩) fun b hb => ⟨hnf b hb, t.keep.blk b (hlt b hb) (ho b hb).2⟩,
    fun b hb => ⟨(hF b hb).1.at (Nat.le_refl _) (t.keep.blk b (hF b hb).2.1 (hF b hb).2.2), Nat.lt_of_lt_of_le (hF b hb).2.1 t.size, key b (hF b hb).2.1 (hF b hb).2.2⟩, fun b hb => ⟨(ho b hb).1, key b (hlt b hb) (ho b hb).2⟩⟩
theorem NewCM.newC {e n0 : Nat} {M : Nat → Prop} {h : Heap} {v : Value} {l : List CellM} (g : NewCM e n0 M h v l) : NewC e n0 h v l := by
  obtain ⟨F, own, g, hF, ho⟩ := g
  exact ⟨F, own, g, fun b hb => ⟨(hF b hb).1, (hF b hb).2.1⟩, fun b hb => (ho b hb).1⟩
theorem NewCM.rep {e n0 n : Nat} {M : Nat → Prop} {h : Heap} {v : Value} {l : List CellM} (g : NewCM e n0 M h v l) (hn : n ≤ n0) : SlRep rCell (Ft n M h) h v l := by
  obtain ⟨F, own, g, hF, ho⟩ := g
  exact g.rep.mono fun b hb => ⟨hb.elim (fun h => ⟨(hF b h).1.less hn, (hF b h).2.1, (hF b h).2.2⟩) fun h => ⟨⟨Nat.le_trans hn (ho b h).1, fun _ => g.thaw b h⟩, g.own_lt b h, (ho b h).2⟩, rfl⟩
/-- What is changed may be more than it was. -/
theorem Tr.more {M M' N : Nat → Prop} {h h' : Heap} (t : Tr M M' h h') (hN : ∀ b, N b → (M b ∨ h.size ≤ b) ∧ b < h'.size) : Tr M (fun b => M' b ∨ N b) h h' :=
  ⟨t.keep, fun b hb => hb.elim (t.new b) fun h => (hN b h).1, fun b hb => hb.elim (t.lt b) fun h => (hN b h).2⟩
end Go.HC
namespace Go.Proofs
open Go Go.HC

end Go.Proofs

/-
  Two rows of rising cells made one: the program's, whole.
-/
namespace Go.HC
/-- A slice that grows and a number, in variables of their own. -/
def TwoJ (tS tC tI n0 B5 B6 lim : Nat) (M : Nat → Prop) (h : Heap) (j : Nat) (out : List CellM) : Prop :=
  ∃ v own, h[B5]? = some (.cells #[v] tS (0, 0)) ∧ h[B6]? = some (.cells #[.int .i64 j] tI (0, 0)) ∧ Gr rCell tC n0 M h v out own ∧ (∀ b, own = some b → lim ≤ b) ∧ M B5 ∧ M B6 ∧ ∀ b, M b → b < h.size
section
variable {tS tC tI n0 B5 B6 lim j j' : Nat} {M M' : Nat → Prop} {h h' : Heap} {out : List CellM}
theorem TwoJ.call (t : TwoJ tS tC tI n0 B5 B6 lim M h j out) (k : Keep none_ h h') : TwoJ tS tC tI n0 B5 B6 lim M h' j out := by
  obtain ⟨v, own, w1, w2, g, ho, m1, m2, hl⟩ := t
  exact ⟨v, own, k.at w1 (fun h => h), k.at w2 (fun h => h), g.call k, ho, m1, m2, fun b hb => Nat.lt_of_lt_of_le (hl b hb) k.size⟩
theorem TwoJ.lp {lp : Nat} (t : TwoJ tS tC tI n0 B5 B6 lim M h j out) (m : M lp) (h1 : lp < lim) (h2 : B5 ≠ lp) (h3 : B6 ≠ lp) (k : Keep (fun b => b = lp) h h') : TwoJ tS tC tI n0 B5 B6 lim M h' j out := by
  obtain ⟨v, own, w1, w2, g, ho, m1, m2, hl⟩ := t
  exact ⟨v, own, k.at w1 h2, k.at w2 h3, g.lp hl m (fun e => by have := ho _ e; omega) k, ho, m1, m2, fun b hb => Nat.lt_of_lt_of_le (hl b hb) k.size⟩
/-- A cell has been appended, and is written; the number too. -/
theorem TwoJ.put {c : CellM} {v' : Value} {own' : Option Nat} (g : Gr rCell tC n0 M' h v' (out ++ [c]) own') (ho : ∀ b, own' = some b → lim ≤ b) (m1 : M' B5) (m2 : M' B6) (hl : ∀ b, M' b → b < h.size)
    (h1 : B5 < lim) (h2 : B6 < lim) (h3 : B5 ≠ B6) : TwoJ tS tC tI n0 B5 B6 lim M' ((h.setIfInBounds B5 (.cells #[v'] tS)).setIfInBounds B6 (.cells #[.int .i64 j'] tI)) j' (out ++ [c]) :=
  ⟨v', own', (set_other _ (fun e => h3 e.symm)).trans (set_same _ (hl _ m1)), set_same _ (by simpa using hl _ m2), (g.set _ m1 (fun e => by have := ho _ e; omega)).set _ m2 (fun e => by have := ho _ e; omega), ho, m1, m2, fun b hb => by simpa using hl b hb⟩
end
end Go.HC
namespace Go.Proofs
open Go Go.HC

end Go.Proofs

/-
  Rows of rising cells made one, one by one; rows in pieces: the program's.
-/
namespace Go.HC
end Go.HC
namespace Go.Proofs
open Go Go.HC

end Go.Proofs

/-
  All rows made one: the program's.
-/
namespace Go.HC
section
variable {n : Nat} {ls : List (List CellM)}
end
end Go.HC
namespace Go.Proofs
open Go Go.HC

end Go.Proofs

/-
  How many cells a part comes to at most: the program's.
-/
namespace Go.HC
end Go.HC
namespace Go.Proofs
open Go Go.HC

end Go.Proofs

/-
  Plans carried out: the program's.
-/
namespace Go.HC
theorem NewC.vals {e n0 : Nat} {h : Heap} {v : Value} {l : List CellM} (g : NewC e n0 h v l) : ∃ a n c, v = .slice a n c := by
  obtain ⟨F, own, g, _⟩ := g
  obtain ⟨a, c, rfl⟩ := g.val
  exact ⟨_, _, _, rfl⟩
/-- Other blocks are written. -/
theorem NewC.keepS {e n0 : Nat} {h h' : Heap} {S : Nat → Prop} {v : Value} {l : List CellM} (g : NewC e n0 h v l) (k : Keep S h h') (hS : ∀ b, S b → b < n0) : NewC e n0 h' v l := by
  obtain ⟨F, own, g, hF, ho⟩ := g
  have hl := g.own_lt
  have hs : ∀ b, n0 ≤ b → ¬ S b := fun b h1 h2 => by have := hS b h2; omega
  exact ⟨F, own, g.mono (fun b hb => ⟨hb, k.blk b (hF b hb).2 (hs b (hF b hb).1.1)⟩) fun b hb => ⟨g.notF b hb, k.blk b (hl b hb) (hs b (ho b hb))⟩, fun b hb => ⟨(hF b hb).1.at (Nat.le_refl _) (k.blk b (hF b hb).2 (hs b (hF b hb).1.1)), Nat.lt_of_lt_of_le (hF b hb).2 k.size⟩, ho⟩
end Go.HC
namespace Go.Proofs
open Go Go.HC

end Go.Proofs

/-
  Runs of cells: the document's.
-/
namespace Go.HC
end Go.HC
namespace Go.Proofs
open Go Go.HC

end Go.Proofs

/-
  Rows of rising cells made one: the document's.
-/
namespace Go.Proofs
open Go Go.HC

end Go.Proofs

/-
  Plans carried out: the document's.
-/
namespace Go.HC
end Go.HC
namespace Go.Proofs
open Go Go.HC

end Go.Proofs

/-
  Plans carried out: the document's, whole.
-/
namespace Go.Proofs
open Go Go.HC

end Go.Proofs

/-
  hypercubelaw12: what its statements share.
-/
namespace Go.HC
end Go.HC
namespace Go.Proofs
open Go Go.HC

end Go.Proofs

/-
  hypercubelaw12: what its statements share, plainly.
-/
namespace Go.HC
theorem dims_le {n : Nat} {a : Int} (hn : n ≤ 4) (h0 : 0 ≤ a) (ha : a < 2 ^ n) : a < 16 ∧ lvlM a 0 n = (dimsM a).length := by
  have h16 : (2 : Int) ^ n ≤ 2 ^ 4 := pow2_le hn
  have e16 : (2 : Int) ^ 4 = 16 := by decide
  have hlt : a < 16 := by omega
  refine ⟨hlt, ?_⟩
  obtain ⟨m, rfl⟩ : ∃ m : Nat, a = m := ⟨a.toNat, by omega⟩
  have := lvl_dims ⟨n, by omega⟩ ⟨m, by omega⟩ (by
    have h : ((m : Nat) : Int) < ((2 ^ n : Nat) : Int) := by rw [Int.natCast_pow]; exact ha
    exact Int.ofNat_lt.1 h)
  exact this
/-- Cells of facts, by a set of their dimensions. -/
theorem FactsOk.cells {s : SchM} {rows : List RowM} (h : FactsOk s rows) {b : Int} (h0 : 0 ≤ b) (hb : b < 2 ^ s.cards.length) : b < 16 ∧ ∀ c ∈ rows.map (ofM b), CellOk s.ms.toNat (dimsM b).length c := by
  obtain ⟨h1, h2⟩ := dims_le h.dims.2 h0 hb
  exact ⟨h1, fun c hc => by rw [← h2]; exact h.cell b c hc⟩
/-- A set within a set. -/
structure Within (a b : Int) (n : Nat) : Prop where
  a0 : 0 ≤ a
  a1 : a < 2 ^ n
  b0 : 0 ≤ b
  b1 : b < 2 ^ n
  sub : ∀ i, i < 4 → bitM b i = true → bitM a i = true
theorem bit_zero (i : Nat) : bitM 0 i = false := by
  unfold bitM
  rw [Int.zero_fdiv]; rfl
theorem Within.zero {a : Int} {n : Nat} (h0 : 0 ≤ a) (ha : a < 2 ^ n) : Within a 0 n := ⟨h0, ha, Int.le_refl _, by omega, fun i _ h => by rw [bit_zero] at h; cases h⟩
theorem Within.trans {a b c : Int} {n : Nat} (h : Within a b n) (h' : Within b c n) : Within a c n := ⟨h.a0, h.a1, h'.b0, h'.b1, fun i hi hc => h.sub i hi (h'.sub i hi hc)⟩
theorem and_op (x y : Int) : intRes .and .i64 x y = some (.int .i64 (andM x y)) := _root_.id rfl
end Go.HC
