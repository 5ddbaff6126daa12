/-
  The program's group-by of one cell; a key's cell; the law's example.
-/
import Derived.Test.YtjkefplcbmdndaaH8
namespace Go.HC
theorem put_newOne (c : CellM) : putM (newM 1) c = some [some c] := by
  have hf : findM (newM 1) c.key = some 0 := by
    have h0 : probe c.key (newM 1).length 0 = 0 := Nat.mod_one _
    have := find_hit (T := newM 1) (key := c.key) (i := 0) (by decide) (fun j hj => by omega) (by rw [h0]; rfl)
    rw [h0] at this
    exact this
  unfold putM
  rw [hf]
  rfl
end Go.HC
namespace Go.Proofs
open Go Go.HC

set_option maxHeartbeats 40000000 in
set_option maxRecDepth 10000 in
theorem fit1_spec {F : Nat → Prop} {h : Heap} {cs : List Value} {c : CellM} {sb : Nat} (hr : rCell.rep F h cs c) (hF : ∀ b, F b → b < h.size) (hc : CellSmall c) (hs : h[sb]? = some (.cells cs.toArray 39 (0, 0))) :
    CallH Try.prog 54 #[.slice (some ⟨sb, 0, none⟩) 1 1, .int .i64 1] h fun r h' => ∃ E v own, r = .tuple #[v, .bool true] ∧ Grow rCell 39 E h' v [c] own ∧ Keep none_ h h' ∧ (∀ b, E b → h.size ≤ b ∧ b < h'.size) ∧ ∀ b, own = some b → h.size ≤ b := by
  refine callH_by fun K hK => ?_
  have hlen := rCell.len hr
  have hone := rCell.one hr
  obtain ⟨v0, v1, v2, v3, v4, rfl⟩ : ∃ v0 v1 v2 v3 v4, cs = [v0, v1, v2, v3, v4] := by
    match cs, hlen with
    | [a, b, c, d, e], _ => exact ⟨a, b, c, d, e, rfl⟩
  simp only [List.all_cons, List.all_nil, Bool.and_true, Bool.and_eq_true] at hone
  obtain ⟨u0, u1, u2, u3, u4⟩ := hone
  have hsb := lt_of_blk hs
  refine enter [.tmp 4, .tmp 5] Try.func54 rfl rfl (by kernel_rfl) rfl ?_
  have hidx : ∀ (K : Value → Heap → Prop) (h : Heap), indexAddrS Try.prog 29 (.slice (some ⟨sb, 0, none⟩) 1 1) (.int .i64 0) h K = K (.pointer (some ⟨sb, 0, none⟩)) h := by
    intro K h
    rw [indexAddrS_slice (i := 0) _ _ _ _ _ (by omega) (by omega) rfl]
    simp [elSz]
  simp -dsimp
  refine call_by (hnew_spec 1 (by decide) h) ?_
  rintro tv h0 ⟨F0, t0, k0, n0⟩
  have e0 := k0.size
  obtain ⟨bs, htv⟩ : ∃ bs, tv = .pointer (some ⟨bs, 0, none⟩) := by
    obtain ⟨bs, _, _, _, rfl, _⟩ := t0; exact ⟨bs, rfl⟩
  subst htv
  simp -dsimp
  refine loop' (σ := Bool) (fun t => [(6, .pointer (some ⟨bs, 0, none⟩)), (12, .slice (some ⟨sb, 0, none⟩) 1 1), (13, .int .i64 1), (14, .int .i64 (if t = true then 1 else 0))]) (fun _ => [])
    (fun t h1 => (t = false ∧ h1 = h0) ∨ (t = true ∧ Keep none_ h h1 ∧ ∃ F1, TabAt (.pointer (some ⟨bs, 0, none⟩)) F1 h1 [some c] ∧ ∀ b, F1 b → h.size ≤ b))
    (fun t => if t = true then 0 else 1) false ?_ rfl (.inl ⟨rfl, rfl⟩) (by kernel_rfl) ?_
  · intro p hp
    simp at hp
    rcases hp with rfl | rfl | rfl | rfl <;> simp
  · rintro t h1 g (⟨rfl, rfl⟩ | ⟨rfl, k1, F1, t1, n1⟩)
    · have hs0 := k0.at hs (fun h => h)
      simp -dsimp [hidx, hs0, u0, u1, u2, u3, u4]
      generalize hB2 : Array.setIfInBounds _ h1.size _ = h2
      have k2 : Keep none_ h1 h2 := by rw [← hB2]; exact ((Keep.refl none_ h1).pushed _).setted _ (fun hh => absurd hh (by omega))
      have hz2 : h2.size = h1.size + 1 := by rw [← hB2]; simp
      have k02 := k0.trans k2 (fun _ _ h => h)
      have hr2 := rCell.mono hr fun b hb => (⟨hb, k02.blk b (hF b hb) (fun h => h)⟩ : F b ∧ h2[b]? = h[b]?)
      have t2 := t0.keep k2 (fun _ _ h => h)
      have hsm : TabSmall (newM 1) := fun k d hd => by
        unfold newM at hd
        rw [List.getElem?_replicate] at hd
        split at hd <;> cases hd
      refine call_by (hput_spec t2 (by decide) hsm hr2 (fun b hb => by have := hF b hb; omega) hc) ?_
      rintro _ h3 ⟨rfl, F3, t3, k3, n3⟩
      rw [put_newOne] at t3 ⊢
      have e3 := k3.size
      simp -dsimp
      refine ⟨true, ?_, rfl, .inr ⟨rfl, ⟨by omega, fun b hb _ => by rw [k3.blk b (by omega) (fun hf => by have := n0 b hf; omega), k02.blk b hb (fun h => h)]⟩, F3, t3, fun b hb => (n3 b hb).elim (n0 b) (fun h => by omega)⟩, by simp⟩
      intro p hp
      simp at hp
      rcases hp with rfl | rfl | rfl | rfl <;> simp
    · have hsm : TabSmall [some c] := fun k d hd => by
        match k, hd with
        | 0, hd => simp at hd; rw [← hd]; exact hc
        | k + 1, hd => simp at hd
      simp -dsimp
      refine call_by (hcells_spec t1 (show 1 < 1000000000 from by decide) hsm) ?_
      rintro _ h2 ⟨E, own, hg, k2, hE, ho⟩
      have hg' : Grow rCell 39 E h2 _ [c] own := hg
      obtain ⟨a2, c2, rfl⟩ := hg'.val
      have e1 := k1.size
      have hl1 : [c].length = 1 := rfl
      simp -dsimp
      refine call_by (sort1_spec a2 c2 _ h2) ?_
      rintro _ h2' ⟨rfl, hh⟩
      obtain rfl := hh.symm
      simp -dsimp
      exact hK _ _ ⟨E, _, own, rfl, hg', k1.trans k2 (fun _ _ h => h), fun b hb => by have := hE b hb; omega, fun b hb => by have := ho b hb; omega⟩

set_option maxRecDepth 10000 in
theorem hgroup1_spec {F : Nat → Prop} {h : Heap} {cs : List Value} {c : CellM} {sb : Nat} (hr : rCell.rep F h cs c) (hF : ∀ b, F b → b < h.size) (hc : CellSmall c) (hs : h[sb]? = some (.cells cs.toArray 39 (0, 0))) :
    CallH Try.prog 28 #[.slice (some ⟨sb, 0, none⟩) 1 1, .int .i64 1] h fun r h' => ∃ E v own, r = .tuple #[v, .int .i64 1] ∧ Grow rCell 39 E h' v [c] own ∧ Keep none_ h h' ∧ (∀ b, E b → h.size ≤ b ∧ b < h'.size) ∧ ∀ b, own = some b → h.size ≤ b := by
  refine callH_by fun K hK => ?_
  refine enter [.tmp 4, .tmp 5] Try.func28 rfl rfl (by kernel_rfl) rfl ?_
  simp -dsimp
  refine call_by (K' := fun r h' => ∃ E v own, r = .tuple #[v, .int .i64 1] ∧ Grow rCell 39 E h' v [c] own ∧ Keep none_ h h' ∧ (∀ b, E b → h.size ≤ b ∧ b < h'.size) ∧ ∀ b, own = some b → h.size ≤ b) ?_ ?_
  · refine callH_by fun K hK => ?_
    refine enter [.tmp 6, .tmp 7] Try.func44 rfl rfl (by kernel_rfl) rfl ?_
    simp -dsimp
    refine call_by (fit1_spec hr hF hc hs) ?_
    rintro _ h1 ⟨E, v, own, rfl, hg, k1, hE, ho⟩
    simp -dsimp
    exact hK _ _ ⟨E, v, own, rfl, hg, k1, hE, ho⟩
  · rintro _ h1 ⟨E, v, own, rfl, hg, k1, hE, ho⟩
    obtain ⟨a1, c1, rfl⟩ := hg.val
    simp -dsimp
    refine call_by (cloneCell_spec hg (fun b hb => (hE b hb).2) (by simp)) ?_
    rintro _ h2 ⟨own2, hg2, k2, ho2⟩
    obtain ⟨a2, c2, rfl⟩ := hg2.val
    have e1 := k1.size
    have e2 := k2.size
    simp -dsimp
    exact hK _ _ ⟨E, _, own2, rfl, hg2, k1.trans k2 (fun _ _ h => h), fun b hb => by have := hE b hb; omega, fun b hb => by have := ho2 b hb; omega⟩
end Go.Proofs
