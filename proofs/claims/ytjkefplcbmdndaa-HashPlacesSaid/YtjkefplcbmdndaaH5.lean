/-
  A cell in memory of its own, by way of a group of one.
-/
import Derived.Test.YtjkefplcbmdndaaH4
namespace Go.Proofs
open Go Go.HC

theorem cellT : ElemT Try.prog 29 39 rCell 104 := ⟨Try.elS29, Try.szS39, Try.byS39, _, Try.zS39, rfl⟩
set_option maxRecDepth 10000 in
theorem cloneCell_spec {F : Nat → Prop} {h : Heap} {v : Value} {xs : List CellM} {own : Option Nat} (hg : Grow rCell 39 F h v xs own) (hF : ∀ b, F b → b < h.size) (hn : xs.length < 1000000000) :
    CallH Try.prog 43 #[v] h fun r h' => ∃ own', Grow rCell 39 F h' r xs own' ∧ Keep none_ h h' ∧ ∀ b, own' = some b → h.size ≤ b := by
  refine enter [.tmp 2] Try.func43 rfl rfl (by kernel_rfl) rfl ?_
  have hl := hg.own_lt
  rcases hg with ⟨rfl, rfl, rfl⟩ | ⟨bk, c, arr, cs, rfl, rfl, h1, h2, h3, h4, h5, h6, h7⟩
  · simp -dsimp
    exact ⟨none, .nil _ _ _ _, .refl _ _, fun b hb => by cases hb⟩
  · obtain ⟨cs', _, hq1, hq2, hcel, hel⟩ := (Grow.cells (R := rCell) (.inr ⟨bk, c, arr, cs, rfl, rfl, h1, h2, h3, h4, h5, h6, h7⟩) : ∃ cs, _)
    simp -dsimp
    refine clone_cells (F := F) (F2 := fun b => some bk = some b) cellT hF hl rfl hcel hel (by omega) (by omega) ?_
    intro v' h' own' hg' hk ho hz
    obtain ⟨a', c', rfl⟩ := hg'.val
    simp -dsimp
    exact ⟨own', hg', hk, ho⟩

set_option maxRecDepth 10000 in
theorem searchNil_spec {h : Heap} {cs : List Value} (hl : cs.length = 5) (ho : cs.all Value.oneCell' = true) (fv : Value) :
    CallH Try.prog 66 #[.slice none 0 0, .agg cs.toArray, fv] h fun r h' => r = .tuple #[.int .i64 0, .bool false] ∧ Keep none_ h h' := by
  refine callH_by fun K hK => ?_
  obtain ⟨v0, v1, v2, v3, v4, rfl⟩ : ∃ v0 v1 v2 v3 v4, cs = [v0, v1, v2, v3, v4] := by
    match cs, hl with
    | [a, b, c, d, e], _ => exact ⟨a, b, c, d, e, rfl⟩
  simp only [List.all_cons, List.all_nil, Bool.and_true, Bool.and_eq_true] at ho
  obtain ⟨u0, u1, u2, u3, u4⟩ := ho
  refine enter [.tmp 6, .tmp 7] Try.func66 rfl rfl (by kernel_rfl) rfl ?_
  simp -dsimp [boxS_eq]
  generalize hB : h.push _ = h0
  have k0 : Keep none_ h h0 := by rw [← hB]; exact .push _ _ _
  refine loop' (σ := Unit) (fun _ => [(8, .int .i64 0), (9, .int .i64 0), (10, .int .i64 0)]) (fun _ => []) (fun _ h' => h' = h0) (fun _ => 0) () ?_ rfl rfl (by kernel_rfl) ?_
  · intro p hp
    simp at hp
    rcases hp with rfl | rfl | rfl <;> simp
  · rintro _ h' g rfl
    simp -dsimp
    refine drawn_by [⟨0, true, []⟩, ⟨1, true, []⟩, ⟨2, true, []⟩, ⟨3, true, []⟩, ⟨4, true, []⟩, ⟨5, true, []⟩, ⟨6, true, []⟩, ⟨7, true, []⟩, ⟨8, true, []⟩, ⟨9, true, []⟩, ⟨10, true, []⟩, ⟨11, false, [0]⟩, ⟨12, true, []⟩, ⟨13, true, []⟩, ⟨14, true, []⟩, ⟨15, true, []⟩] (by kernel_rfl) (by kernel_rfl) ?_
    simp -dsimp
    exact hK _ _ ⟨rfl, k0⟩

set_option maxRecDepth 10000 in
theorem insertNil_spec {F : Nat → Prop} {h : Heap} {cs : List Value} {c : CellM} {sb : Nat} (hr : rCell.rep F h cs c) (hF : ∀ b, F b → b < h.size) (hs : h[sb]? = some (.cells cs.toArray 39 (0, 0))) :
    CallH Try.prog 67 #[.slice none 0 0, .int .i64 0, .slice (some ⟨sb, 0, none⟩) 1 1] h fun r h' => ∃ own, Grow rCell 39 F h' r [c] own ∧ Keep none_ h h' ∧ ∀ b, own = some b → h.size ≤ b := by
  refine callH_by fun K hK => ?_
  refine enter [.tmp 6] Try.func67 rfl rfl (by kernel_rfl) rfl ?_
  have hsl : ∀ (K : Value → Heap → Prop) (h : Heap), sliceS Try.prog 29 (.slice none 0 0) (some (.int .i64 0)) none none h K = K (.slice none 0 0) h := fun K h =>
    sliceS_slice (P := Try.prog) (T := 29) (a := none) (n := 0) (c := 0) (lo := some (.int .i64 ((0 : Nat) : Int))) (hi := none) (mx := none) (i := 0) (j := 0) (m := 0) Try.elS29 Try.szS39 (.inl ⟨rfl, rfl⟩) (.inl ⟨rfl, rfl⟩) (.inr ⟨_, rfl⟩) (by omega) (by omega) (by omega)
  simp -dsimp [hsl]
  have hcl := rCell.len hr
  refine append_grow (F := F) (F2 := fun b => b = sb) (ys := [c]) cellT (Grow.nil _ _ _ _) hF rfl (.inr ⟨sb, 0, _, _, _, rfl, rfl, hs, by simp⟩) (.single hr) (by simp) (by simp) ?_
  intro v' h' own' hg hk ho
  obtain ⟨a', c', rfl⟩ := hg.val
  simp -dsimp
  exact hK _ _ ⟨own', hg, ⟨hk.size, fun b hb _ => hk.blk b hb (fun e => by cases e)⟩, fun b hb => (ho b hb).elim (fun e => by cases e) id⟩

set_option maxHeartbeats 4000000 in
set_option maxRecDepth 10000 in
theorem put1_spec {F : Nat → Prop} {h : Heap} {cs : List Value} {c : CellM} {ob : Nat} {fv jv : Value} (hr : rCell.rep F h cs c) (hF : ∀ b, F b → b < h.size) (hFo : ¬ F ob) (_hfv : fv.oneCell' = true) (hs : h[ob]? = some (.cells #[.slice none 0 0, fv] 85 (0, 0))) :
    CallH Try.prog 59 #[.pointer (some ⟨ob, 0, none⟩), .agg cs.toArray, jv] h fun r h' => r = .tuple #[] ∧ ∃ v own, h'[ob]? = some (.cells #[v, fv] 85 (0, 0)) ∧ Grow rCell 39 F h' v [c] own ∧ Keep (fun b => b = ob) h h' ∧ ∀ b, own = some b → h.size ≤ b := by
  refine callH_by fun K hK => ?_
  refine enter [] Try.func59 rfl rfl (by kernel_rfl) rfl ?_
  have hlen := rCell.len hr
  have hone := rCell.one hr
  obtain ⟨v0, v1, v2, v3, v4, rfl⟩ : ∃ v0 v1 v2 v3 v4, cs = [v0, v1, v2, v3, v4] := by
    match cs, hlen with
    | [a, b, c, d, e], _ => exact ⟨a, b, c, d, e, rfl⟩
  have hone' := hone
  simp only [List.all_cons, List.all_nil, Bool.and_true, Bool.and_eq_true] at hone'
  obtain ⟨u0, u1, u2, u3, u4⟩ := hone'
  have hob := lt_of_blk hs
  simp -dsimp [boxS_eq]
  generalize hB : h.push _ = h0
  have k0 : Keep none_ h h0 := by rw [← hB]; exact .push _ _ _
  have hz0 : h0.size = h.size + 1 := by rw [← hB]; simp
  have hc0 : h0[h.size]? = some (.cells #[v0, v1, v2, v3, v4] 39 (0, 0)) := by rw [← hB]; exact push_new _ _
  have hs0 := k0.at hs (fun h => h)
  refine drawn_by [⟨0, true, []⟩, ⟨1, true, []⟩, ⟨2, true, []⟩, ⟨3, true, []⟩, ⟨4, true, []⟩, ⟨5, true, []⟩, ⟨6, true, []⟩, ⟨7, true, []⟩, ⟨8, true, []⟩, ⟨9, false, []⟩, ⟨10, true, []⟩, ⟨11, true, []⟩, ⟨12, true, []⟩, ⟨13, true, []⟩, ⟨14, true, []⟩] (by kernel_rfl) (by kernel_rfl) ?_
  simp -dsimp [hs0, hc0]
  refine call_by (searchNil_spec hlen hone fv) ?_
  rintro _ h1 ⟨rfl, k1⟩
  have k01 := k0.trans k1 (fun _ _ h => h)
  have hs1 := k1.at hs0 (fun h => h)
  have hc1 := k1.at hc0 (fun h => h)
  have e1 := k1.size
  simp -dsimp
  refine drawn_by [⟨0, true, []⟩, ⟨1, true, []⟩, ⟨2, true, []⟩, ⟨3, true, []⟩, ⟨4, true, []⟩, ⟨5, true, []⟩, ⟨6, true, []⟩, ⟨7, false, [0, 1, 2, 3, 4, 5]⟩, ⟨8, false, [0]⟩, ⟨9, true, []⟩, ⟨10, true, []⟩, ⟨11, false, []⟩] (by kernel_rfl) (by kernel_rfl) ?_
  have hs1' := push_at (o := .cells #[v0, v1, v2, v3, v4] 39) hs1
  simp -dsimp [again_cons, hs1, hc1, hs1']
  generalize hB2 : h1.push _ = h2
  have k2 : Keep none_ h1 h2 := by rw [← hB2]; exact .push _ _ _
  have hz2 : h2.size = h1.size + 1 := by rw [← hB2]; simp
  have hc2 : h2[h1.size]? = some (.cells #[v0, v1, v2, v3, v4] 39 (0, 0)) := by rw [← hB2]; exact push_new _ _
  have k02 := k01.trans k2 (fun _ _ h => h)
  have hs2 := k2.at hs1 (fun h => h)
  have hr2 := rCell.mono hr fun b hb => (⟨hb, k02.blk b (hF b hb) (fun h => h)⟩ : F b ∧ h2[b]? = h[b]?)
  refine call_by (insertNil_spec hr2 (fun b hb => by have := hF b hb; omega) hc2) ?_
  rintro _ h3 ⟨own3, hg3, k3, ho3⟩
  obtain ⟨a3, c3, rfl⟩ := hg3.val
  have hs3 := k3.at hs2 (fun h => h)
  have e3 := k3.size
  simp -dsimp [again_cons, hs3]
  generalize hH : h3.setIfInBounds ob _ = h4
  have hz4 : h4.size = h3.size := by rw [← hH]; simp
  have k03 := k02.trans k3 (fun _ _ h => h)
  have hob3 : own3 ≠ some ob := fun e => by have := ho3 ob e; omega
  refine hK _ _ ⟨rfl, _, own3, by rw [← hH]; exact set_same _ (lt_of_blk hs3), hg3.mono (fun b hb => ⟨hb, by rw [← hH]; exact set_other _ (fun e => hFo (e ▸ hb))⟩) fun b hb => ⟨fun hFb => by have := hF b hFb; have := ho3 b hb; omega, by rw [← hH]; exact set_other _ (fun e => hob3 (e ▸ hb))⟩,
      ⟨by omega, fun b hb hn => by rw [← hH, set_other _ (fun e => hn e.symm), k03.blk b hb (fun h => h)]⟩, fun b hb => by have := ho3 b hb; omega⟩

set_option maxHeartbeats 4000000 in
set_option maxRecDepth 10000 in
theorem group1_spec {F : Nat → Prop} {h : Heap} {cs : List Value} {c : CellM} {sb : Nat} (hr : rCell.rep F h cs c) (hF : ∀ b, F b → b < h.size) (hc : CellSmall c) (hs : h[sb]? = some (.cells cs.toArray 39 (0, 0))) :
    CallH Try.prog 53 #[.slice (some ⟨sb, 0, none⟩) 1 1] h fun r h' => ∃ E own, Grow rCell 39 E h' r [c] own ∧ Keep none_ h h' ∧ (∀ b, E b → h.size ≤ b ∧ b < h'.size) ∧ ∀ b, own = some b → h.size ≤ b := by
  refine callH_by fun K hK => ?_
  refine enter [.tmp 2] Try.func53 rfl rfl (by kernel_rfl) rfl ?_
  have hlen := rCell.len hr
  have hone := rCell.one hr
  obtain ⟨v0, v1, v2, v3, v4, rfl⟩ : ∃ v0 v1 v2 v3 v4, cs = [v0, v1, v2, v3, v4] := by
    match cs, hlen with
    | [a, b, c, d, e], _ => exact ⟨a, b, c, d, e, rfl⟩
  simp only [List.all_cons, List.all_nil, Bool.and_true, Bool.and_eq_true] at hone
  obtain ⟨u0, u1, u2, u3, u4⟩ := hone
  have hsb := lt_of_blk hs
  simp -dsimp
  generalize hB : Array.setIfInBounds _ h.size _ = h0
  have k0 : Keep none_ h h0 := by rw [← hB]; exact ((Keep.refl none_ h).pushed _).setted _ (fun hh => absurd hh (by omega))
  have hz0 : h0.size = h.size + 1 := by rw [← hB]; simp
  have ho0 : h0[h.size]? = some (.cells #[.slice none 0 0, .func (.func 57) #[] #[]] 85 (0, 0)) := by rw [← hB]; exact set_same _ (by simp)
  have hs0 := k0.at hs (fun h => h)
  have hidx : ∀ (K : Value → Heap → Prop) (h : Heap), indexAddrS Try.prog 29 (.slice (some ⟨sb, 0, none⟩) 1 1) (.int .i64 0) h K = K (.pointer (some ⟨sb, 0, none⟩)) h := by
    intro K h
    rw [indexAddrS_slice (i := 0) _ _ _ _ _ (by omega) (by omega) rfl]
    simp [elSz]
  refine loop' (σ := Bool) (fun t => [(3, .pointer (some ⟨h.size, 0, none⟩)), (7, .slice (some ⟨sb, 0, none⟩) 1 1), (8, .int .i64 1), (9, .int .i64 (if t = true then 1 else 0))]) (fun _ => [])
    (fun t h1 => (t = false ∧ h1 = h0) ∨ (t = true ∧ Keep none_ h h1 ∧ ∃ E v own, h1[h.size]? = some (.cells #[v, .func (.func 57) #[] #[]] 85 (0, 0)) ∧ Grow rCell 39 E h1 v [c] own ∧ (∀ b, E b → h.size ≤ b ∧ b < h1.size) ∧ ∀ b, own = some b → h.size ≤ b))
    (fun t => if t = true then 0 else 1) false ?_ rfl (.inl ⟨rfl, rfl⟩) (by kernel_rfl) ?_
  · intro p hp
    simp at hp
    rcases hp with rfl | rfl | rfl | rfl <;> simp
  · rintro t h1 g (⟨rfl, rfl⟩ | ⟨rfl, k1, E, v, own, ho1, hg, hE, ho⟩)
    · simp -dsimp [hidx, hs0, u0, u1, u2, u3, u4]
      generalize hB2 : Array.setIfInBounds _ h1.size _ = h2
      have k2 : Keep none_ h1 h2 := by rw [← hB2]; exact ((Keep.refl none_ h1).pushed _).setted _ (fun hh => absurd hh (by omega))
      have hz2 : h2.size = h1.size + 1 := by rw [← hB2]; simp
      have hc2 : h2[h1.size]? = some (.cells #[v0, v1, v2, v3, v4] 39 (0, 0)) := by rw [← hB2]; exact set_same _ (by simp)
      have k02 := k0.trans k2 (fun _ _ h => h)
      have hr2 := rCell.mono hr fun b hb => (⟨hb, k02.blk b (hF b hb) (fun h => h)⟩ : F b ∧ h2[b]? = h[b]?)
      have ho2 := k2.at ho0 (fun h => h)
      refine call_by (cellOwn_spec hr2 (fun b hb => by have := hF b hb; omega) hc) ?_
      rintro _ h3 ⟨ds, E, rfl, hr3, k3, hE⟩
      have ho3 := k3.at ho2 (fun h => h)
      have e3 := k3.size
      simp -dsimp
      refine call_by (put1_spec hr3 (fun b hb => (hE b hb).2) (fun hb => by have := (hE _ hb).1; omega) rfl ho3) ?_
      rintro _ h4 ⟨rfl, v, own, ho4, hg4, k4, ho⟩
      have e4 := k4.size
      have k03 := k02.trans k3 (fun _ _ h => h)
      simp -dsimp
      refine ⟨true, ?_, rfl, .inr ⟨rfl, ⟨by omega, fun b hb _ => by rw [k4.blk b (by omega) (by omega), k03.blk b hb (fun h => h)]⟩, E, v, ho4, own, hg4, fun b hb => by have := hE b hb; omega, fun b hb => by have := ho b hb; omega⟩, by simp⟩
      intro p hp
      simp at hp
      rcases hp with rfl | rfl | rfl | rfl <;> simp
    · obtain ⟨a, cc, rfl⟩ := hg.val
      simp -dsimp [ho1]
      refine call_by (cloneCell_spec hg (fun b hb => (hE b hb).2) (by simp)) ?_
      rintro _ h2 ⟨own2, hg2, k2, ho2⟩
      obtain ⟨a2, c2, rfl⟩ := hg2.val
      have e1 := k1.size
      have e2 := k2.size
      simp -dsimp
      exact hK _ _ ⟨E, own2, hg2, k1.trans k2 (fun _ _ h => h), fun b hb => by have := hE b hb; omega, fun b hb => by have := ho2 b hb; omega⟩

set_option maxHeartbeats 4000000 in
set_option maxRecDepth 10000 in
theorem hashOwn_spec {F : Nat → Prop} {h : Heap} {cs : List Value} {c : CellM} (hr : rCell.rep F h cs c) (hF : ∀ b, F b → b < h.size) (hc : CellSmall c) :
    CallH Try.prog 38 #[.agg cs.toArray] h fun r h' => ∃ ds G, r = .agg ds.toArray ∧ rCell.rep G h' ds c ∧ Keep none_ h h' ∧ ∀ b, G b → h.size ≤ b ∧ b < h'.size := by
  refine callH_by fun K hK => ?_
  refine enter [.cell 2 39] Try.func38 rfl rfl (by kernel_rfl) rfl ?_
  have hlen := rCell.len hr
  have hone := rCell.one hr
  obtain ⟨v0, v1, v2, v3, v4, rfl⟩ : ∃ v0 v1 v2 v3 v4, cs = [v0, v1, v2, v3, v4] := by
    match cs, hlen with
    | [a, b, c, d, e], _ => exact ⟨a, b, c, d, e, rfl⟩
  simp only [List.all_cons, List.all_nil, Bool.and_true, Bool.and_eq_true] at hone
  obtain ⟨u0, u1, u2, u3, u4⟩ := hone
  simp -dsimp [boxS_eq]
  generalize hB : (h.push _).push _ = h0
  have k0 : Keep none_ h h0 := by rw [← hB]; exact ((Keep.refl none_ h).pushed _).pushed _
  have hz0 : h0.size = h.size + 2 := by rw [← hB]; simp
  have hc0 : h0[h.size]? = some (.cells #[v0, v1, v2, v3, v4] 39 (0, 0)) := by rw [← hB]; exact push_at (push_new _ _)
  have ht0 : h0[h.size + 1]? = some (.cells #[.slice none 0 0, .int .i64 0, .slice none 0 0, .slice none 0 0, .slice none 0 0] 39 (0, 0)) := by
    rw [← hB]
    have : (h.push (.cells #[v0, v1, v2, v3, v4] 39)).size = h.size + 1 := by simp
    rw [← this]; exact push_new _ _
  simp -dsimp [hc0]
  generalize hB2 : h0.push _ = h1
  have k1 : Keep none_ h0 h1 := by rw [← hB2]; exact .push _ _ _
  have hz1 : h1.size = h0.size + 1 := by rw [← hB2]; simp
  have hc1 : h1[h0.size]? = some (.cells #[v0, v1, v2, v3, v4] 39 (0, 0)) := by rw [← hB2]; exact push_new _ _
  have k01 := k0.trans k1 (fun _ _ h => h)
  have ht1 := k1.at ht0 (fun h => h)
  have hr1 := rCell.mono hr fun b hb => (⟨hb, k01.blk b (hF b hb) (fun h => h)⟩ : F b ∧ h1[b]? = h[b]?)
  refine call_by (group1_spec hr1 (fun b hb => by have := hF b hb; omega) hc hc1) ?_
  rintro _ h2 ⟨E, own, hg, k2, hE, ho⟩
  obtain ⟨a2, c2, rfl⟩ := hg.val
  obtain ⟨bk, es, rfl, hown, hrr, hce⟩ := hg.elem 0 (by simp)
  have hrr' : rCell.rep E h2 es c := hrr
  have ht2 := k2.at ht1 (fun h => h)
  have e2 := k2.size
  have hlen2 := rCell.len hrr'
  have hone2 := rCell.one hrr'
  obtain ⟨w0, w1, w2, w3, w4, rfl⟩ : ∃ w0 w1 w2 w3 w4, es = [w0, w1, w2, w3, w4] := by
    match es, hlen2 with
    | [a, b, c, d, e], _ => exact ⟨a, b, c, d, e, rfl⟩
  simp only [List.all_cons, List.all_nil, Bool.and_true, Bool.and_eq_true] at hone2
  obtain ⟨z0, z1, z2, z3, z4⟩ := hone2
  have hce' : HC.cellsIn h2[bk]? 0 5 = some [w0, w1, w2, w3, w4] := hce
  have hidx : ∀ (K : Value → Heap → Prop) (h : Heap), indexAddrS Try.prog 29 (.slice (some ⟨bk, 0, none⟩) 1 c2) (.int .i64 0) h K = K (.pointer (some ⟨bk, 0, none⟩)) h := by
    intro K h
    rw [indexAddrS_slice (i := 0) _ _ _ _ _ (by omega) (by omega) rfl]
    simp [elSz]
  have hset : ∀ o, (h2.setIfInBounds (h.size + 1) o)[h.size + 1]? = some o := fun o => set_same o (by omega)
  simp -dsimp [hidx, hce', ht2, hset, z0, z1, z2, z3, z4]
  generalize hH : h2.setIfInBounds (h.size + 1) _ = h3
  have hz3 : h3.size = h2.size := by rw [← hH]; simp
  have hold : ∀ b, b ≠ h.size + 1 → h3[b]? = h2[b]? := fun b hn => by rw [← hH, set_other _ (fun e => hn e.symm)]
  refine hK _ _ ⟨[w0, w1, w2, w3, w4], E, rfl, rCell.mono hrr' fun b hb => ⟨hb, hold b (by have := hE b hb; omega)⟩, ⟨by omega, fun b hb _ => by rw [hold b (by omega), k2.blk b (by omega) (fun h => h), k01.blk b hb (fun h => h)]⟩, fun b hb => by have := hE b hb; omega⟩
end Go.Proofs
