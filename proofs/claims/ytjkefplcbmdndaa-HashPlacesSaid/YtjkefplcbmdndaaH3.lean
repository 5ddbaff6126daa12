/-
  Cells in memory of their own.
-/
import Derived.Test.YtjkefplcbmdndaaH2
namespace Go.HC
/-- No row of a cell is too long. -/
structure CellSmall (c : CellM) : Prop where
  key : c.key.length < 1000000000
  sum : c.sum.length < 1000000000
  mn : c.mn.length < 1000000000
  mx : c.mx.length < 1000000000
end Go.HC
namespace Go.Proofs
open Go Go.HC

set_option maxHeartbeats 40000000 in
set_option maxRecDepth 10000 in
theorem cellOwn_spec {F : Nat → Prop} {h : Heap} {cs : List Value} {c : CellM} (hr : rCell.rep F h cs c) (hF : ∀ b, F b → b < h.size) (hc : CellSmall c) :
    CallH Try.prog 60 #[.agg cs.toArray] h fun r h' => ∃ ds G, r = .agg ds.toArray ∧ rCell.rep G h' ds c ∧ Keep none_ h h' ∧ ∀ b, G b → h.size ≤ b ∧ b < h'.size := by
  refine callH_by fun K hK => ?_
  refine enter [.cell 2 39] Try.func60 rfl rfl (by kernel_rfl) rfl ?_
  obtain ⟨kv, sv, nv, xv, rfl, r1, r2, r3, r4⟩ := hr
  obtain ⟨ka, kc, rfl, _, _⟩ := r1.val
  obtain ⟨sa, sc, rfl, _, _⟩ := r2.val
  obtain ⟨na, nc, rfl, _, _⟩ := r3.val
  obtain ⟨xa, xc, rfl, _, _⟩ := r4.val
  simp -dsimp [boxS_eq]
  generalize hB : (h.push _).push _ = h0
  have hz0 : h0.size = h.size + 2 := by rw [← hB]; simp
  have k0 : Keep none_ h h0 := by rw [← hB]; exact ((Keep.refl none_ h).pushed _).pushed _
  have hb0 : h0[h.size]? = some (.cells #[.slice ka c.key.length kc, .int .i64 c.count, .slice sa c.sum.length sc, .slice na c.mn.length nc, .slice xa c.mx.length xc] 39 (0, 0)) := by rw [← hB]; exact push_at (push_new _ _)
  have ht0 : h.size + 1 < h0.size := by omega
  have m1 : ∀ (h' : Heap), Keep none_ h h' → ∀ b, F b → F b ∧ h'[b]? = h[b]? := fun h' k b hb => ⟨hb, k.blk b (hF b hb) (fun h => h)⟩
  refine drawn_by [⟨0, true, []⟩, ⟨1, true, []⟩, ⟨3, true, []⟩, ⟨4, true, []⟩, ⟨5, true, []⟩, ⟨6, true, []⟩, ⟨8, true, []⟩, ⟨9, true, []⟩, ⟨11, true, []⟩, ⟨12, true, []⟩, ⟨2, false, [3, 4, 5, 6, 8, 9, 11, 12]⟩, ⟨7, false, [3, 4, 8, 9, 11, 12]⟩, ⟨10, false, [3, 4, 11, 12]⟩, ⟨13, false, [3, 4]⟩, ⟨14, false, []⟩, ⟨15, false, []⟩] (by kernel_rfl) (by kernel_rfl) ?_
  simp -dsimp [hb0]
  refine call_by (cloneInt_spec (r1.mono (m1 h0 k0)) (fun b hb => by have := hF b hb; omega) (by have := hc.key; omega)) ?_
  rintro _ h1 ⟨o1, g1, k1, n1⟩
  obtain ⟨a1, c1, rfl⟩ := g1.val
  have k01 := k0.trans k1 (fun _ _ h => h)
  have hb1 := k1.at hb0 (fun h => h)
  have e1 := k1.size
  simp -dsimp [again_cons, hb1]
  refine call_by (cloneInt_spec (r2.mono (m1 h1 k01)) (fun b hb => by have := hF b hb; omega) (by have := hc.sum; omega)) ?_
  rintro _ h2 ⟨o2, g2, k2, n2⟩
  obtain ⟨a2, c2, rfl⟩ := g2.val
  have k02 := k01.trans k2 (fun _ _ h => h)
  have hb2 := k2.at hb1 (fun h => h)
  have e2 := k2.size
  simp -dsimp [again_cons, hb2]
  refine call_by (cloneInt_spec (r3.mono (m1 h2 k02)) (fun b hb => by have := hF b hb; omega) (by have := hc.mn; omega)) ?_
  rintro _ h3 ⟨o3, g3, k3, n3⟩
  obtain ⟨a3, c3, rfl⟩ := g3.val
  have k03 := k02.trans k3 (fun _ _ h => h)
  have hb3 := k3.at hb2 (fun h => h)
  have e3 := k3.size
  simp -dsimp [again_cons, hb3]
  refine call_by (cloneInt_spec (r4.mono (m1 h3 k03)) (fun b hb => by have := hF b hb; omega) (by have := hc.mx; omega)) ?_
  rintro _ h4 ⟨o4, g4, k4, n4⟩
  obtain ⟨a4, c4, rfl⟩ := g4.val
  have k04 := k03.trans k4 (fun _ _ h => h)
  have hb4 := k4.at hb3 (fun h => h)
  have e4 := k4.size
  have ht4 : h4[h.size + 1]? = some (.cells #[.slice none 0 0, .int .i64 0, .slice none 0 0, .slice none 0 0, .slice none 0 0] 39 (0, 0)) := by
    have : h0[h.size + 1]? = some (.cells #[.slice none 0 0, .int .i64 0, .slice none 0 0, .slice none 0 0, .slice none 0 0] 39 (0, 0)) := by
      rw [← hB]
      have : (h.push (.cells #[.slice ka c.key.length kc, .int .i64 c.count, .slice sa c.sum.length sc, .slice na c.mn.length nc, .slice xa c.mx.length xc] 39)).size = h.size + 1 := by simp
      rw [← this]; exact push_new _ _
    exact k4.at (k3.at (k2.at (k1.at this (fun h => h)) (fun h => h)) (fun h => h)) (fun h => h)
  have hset : ∀ o, (h4.setIfInBounds (h.size + 1) o)[h.size + 1]? = some o := fun o => set_same o (by omega)
  simp -dsimp [again_cons, hb4, ht4, hset]
  generalize hH : h4.setIfInBounds (h.size + 1) _ = h5
  have hz5 : h5.size = h4.size := by rw [← hH]; simp
  have hold : ∀ b, b ≠ h.size + 1 → h5[b]? = h4[b]? := fun b hn => by rw [← hH, set_other _ (fun e => hn e.symm)]
  have l1 := g1.own_lt
  have l2 := g2.own_lt
  have l3 := g3.own_lt
  have l4 := g4.own_lt
  refine hK _ _ ⟨_, fun b => o1 = some b ∨ o2 = some b ∨ o3 = some b ∨ o4 = some b, rfl, ⟨_, _, _, _, rfl, ?_, ?_, ?_, ?_⟩, ⟨by omega, fun b hb _ => by rw [hold b (by omega), k04.blk b hb (fun h => h)]⟩, ?_⟩
  · exact g1.ints.mono fun b hb => ⟨.inl hb, by
      have := n1 b hb
      have := l1 b hb
      rw [hold b (by omega), k4.blk b (by omega) (fun h => h), k3.blk b (by omega) (fun h => h), k2.blk b (by omega) (fun h => h)]⟩
  · exact g2.ints.mono fun b hb => ⟨.inr (.inl hb), by
      have := n2 b hb
      have := l2 b hb
      rw [hold b (by omega), k4.blk b (by omega) (fun h => h), k3.blk b (by omega) (fun h => h)]⟩
  · exact g3.ints.mono fun b hb => ⟨.inr (.inr (.inl hb)), by
      have := n3 b hb
      have := l3 b hb
      rw [hold b (by omega), k4.blk b (by omega) (fun h => h)]⟩
  · exact g4.ints.mono fun b hb => ⟨.inr (.inr (.inr hb)), by
      have := n4 b hb
      rw [hold b (by omega)]⟩
  · rintro b (hb | hb | hb | hb)
    · have := n1 b hb; have := l1 b hb; omega
    · have := n2 b hb; have := l2 b hb; omega
    · have := n3 b hb; have := l3 b hb; omega
    · have := n4 b hb; have := l4 b hb; omega

set_option maxRecDepth 10000 in
theorem add_spec (x y : Int) (h : Heap) : CallH Try.prog 50 #[.int .i64 x, .int .i64 y] h fun r h' => r = .int .i64 (IntKind.i64.wrap (x + y)) ∧ h' = h := by
  refine enter [.tmp 4] Try.func50 rfl rfl (by kernel_rfl) rfl ?_
  simp -dsimp
set_option maxRecDepth 10000 in
theorem min_spec (x y : Int) (h : Heap) : CallH Try.prog 51 #[.int .i64 x, .int .i64 y] h fun r h' => r = .int .i64 (min x y) ∧ h' = h := by
  refine enter [.tmp 4] Try.func51 rfl rfl (by kernel_rfl) rfl ?_
  simp -dsimp
  done
set_option maxRecDepth 10000 in
theorem max_spec (x y : Int) (h : Heap) : CallH Try.prog 52 #[.int .i64 x, .int .i64 y] h fun r h' => r = .int .i64 (max x y) ∧ h' = h := by
  refine enter [.tmp 4] Try.func52 rfl rfl (by kernel_rfl) rfl ?_
  simp -dsimp
  done
end Go.Proofs
