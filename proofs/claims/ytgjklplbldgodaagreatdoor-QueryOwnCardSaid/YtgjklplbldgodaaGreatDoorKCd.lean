/-
  A cell by fewer dimensions: the program's, the document's.
-/
import Derived.Test.YtgjklplbldgodaaGreatDoorKCc
import Derived.ProofKit
import Derived.OpenShut

namespace Go.Proofs
open Go Go.HC

set_option maxHeartbeats 4000000 in
set_option maxRecDepth 10000 in
theorem narrow_spec {h : Heap} {cs : List Value} {c : CellM} (a b : Int) (hr : rCell.rep (Old h) h cs c) (hc : CellSmall c) :
    CallH Tryz.prog 47 #[.agg cs.toArray, .int .i64 a, .int .i64 b] h fun r h' => ∃ ds, r = .agg ds.toArray ∧ rCell.rep (Ft h.size none_ h') h' ds (narrowC a b c) ∧ Keep none_ h h' := by
  refine callH_by fun K hK => ?_
  refine enter [.cell 6 65] Tryz.func47 rfl rfl (by kernel_rfl) rfl ?_
  obtain ⟨ka, kc, sa, sc, na, nc, xa, xc, rfl, r1, r2, r3, r4⟩ := cell_open hr
  simp -dsimp [boxS_eq]
  generalize hB : Array.push (Array.push (Array.push h _) _) _ = h0
  have k0 : Keep none_ h h0 := by rw [← hB]; exact (((Keep.refl none_ h).pushed _).pushed _).pushed _
  have hz0 : h0.size = h.size + 3 := by rw [← hB]; simp
  have hC : h0[h.size]? = some (.cells #[.slice ka c.key.length kc, .int .i64 c.count, .slice sa c.sum.length sc, .slice na c.mn.length nc, .slice xa c.mx.length xc] 65 (0, 0)) := by rw [← hB]; exact push_at (push_at (push_new _ _))
  have hb0 : h0[h.size + 1]? = some (.cells #[.int .i64 b] 3 (0, 0)) := by rw [← hB]; exact push_at (push_get (by simp))
  have hz : h0[h.size + 2]? = some (.cells #[.slice none 0 0, .int .i64 0, .slice none 0 0, .slice none 0 0, .slice none 0 0] 65 (0, 0)) := by rw [← hB]; exact push_get (by simp)
  simp -dsimp [hC]
  refine call_by (own_new (rCell.mono hr ((Tr.of k0).ft (Nat.le_refl 0))) hc) ?_
  rintro _ h1 ⟨ds, rfl, rd, k1⟩
  obtain ⟨ka', kc', sa', sc', na', nc', xa', xc', rfl, q1, q2, q3, q4⟩ := cell_open rd
  simp -dsimp
  rw [push_set rfl, push_set (by simp)]
  generalize hB2 : Array.push (Array.push h1 _) _ = h2
  have e1 := k1.size
  have k2 : Keep none_ h1 h2 := by rw [← hB2]; exact ((Keep.refl none_ h1).pushed _).pushed _
  have hz2 : h2.size = h1.size + 2 := by rw [← hB2]; simp
  have hO : h2[h1.size]? = some (.cells #[.slice none 0 0, .int .i64 c.count, .slice sa' c.sum.length sc', .slice na' c.mn.length nc', .slice xa' c.mx.length xc'] 65 (0, 0)) := by rw [← hB2]; exact push_at (push_new _ _)
  have hA : h2[h1.size + 1]? = some (.cells #[.int .i64 0] 3 (0, 0)) := by rw [← hB2]; exact push_get (by simp)
  refine call_by (dims_spec a h2) ?_
  rintro _ h3 ⟨rfl, e3⟩
  simp -dsimp
  have k3 : Keep none_ h2 h3 := by rw [e3]; exact .push _ _ _
  have hz3 : h3.size = h2.size + 1 := by rw [e3]; simp
  have hD : h3[h2.size]? = some (.cells #[.int .i64 a] 3 (0, 0)) := by rw [e3]; exact push_new _ _
  clear e3
  have hC3 := k3.at (k2.at (k1.at hC (fun h => h)) (fun h => h)) (fun h => h)
  have hb3 := k3.at (k2.at (k1.at hb0 (fun h => h)) (fun h => h)) (fun h => h)
  have hz3' := k3.at (k2.at (k1.at hz (fun h => h)) (fun h => h)) (fun h => h)
  have hO3 := k3.at hO (fun h => h)
  have hA3 := k3.at hA (fun h => h)
  obtain ⟨I, hI⟩ : ∃ I : List Nat → (Nat → Prop) → Heap → Prop, ∀ xs M h', I xs M h' ↔ ((M h1.size ∧ M (h1.size + 1)) ∧ (∀ b, M b → b < h'.size) ∧ ∃ kv own, h'[h1.size]? = some (.cells #[kv, .int .i64 c.count, .slice sa' c.sum.length sc', .slice na' c.mn.length nc', .slice xa' c.mx.length xc'] 65 (0, 0)) ∧
      h'[h1.size + 1]? = some (.cells #[.int .i64 xs.length] 3 (0, 0)) ∧ Gr rInt 3 h.size M h' kv (pickN b xs c.key) own ∧ ∀ bk, own = some bk → h3.size + 2 ≤ bk) := ⟨_, fun _ _ _ => Iff.rfl⟩
  have hO' := lt_of_blk hO3
  have k03 : Keep none_ h h3 := ((k0.trans k1 fun _ _ h => h).trans k2 fun _ _ h => h).trans k3 fun _ _ h => h
  refine range_m (val := fun i : Nat => #[.int .i64 (i : Int)]) (first := #[]) (by simp) (by simp) (dims_iter hD) I
    ?_ ?_ (fun b => b = h1.size ∨ b = h1.size + 1) ?_ ?_ (by kernel_rfl) (by kernel_rfl) (fun _ => rfl) (by intro p hp; simp at hp; subst hp; decide) ?_ ?_
  · exact fun hi => ((hI _ _ _).1 hi).2.1
  · intro xs M h4 h5 hi m1 m2 k
    obtain ⟨hM, hlt, kv, own, w1, w2, g, ho⟩ := (hI _ _ _).1 hi
    exact (hI _ _ _).2 ⟨hM, fun b hb => Nat.lt_of_lt_of_le (hlt b hb) k.size, kv, own, k.at w1 (by omega), k.at w2 (by omega), g.lp hlt m2 (fun e => by have := ho _ e; omega) k, ho⟩
  · rintro b rfl
    exact ⟨by omega, by omega⟩
  · intro h4 k4 hz4
    exact (hI _ _ _).2 ⟨⟨.inl (.inl rfl), .inl (.inr rfl)⟩, by omega, _, none, k4.at hO3 (fun h => h), k4.at hA3 (fun h => h), by rw [pickN_nil']; exact .nil _ _ _ _ _, fun b hb => by cases hb⟩
  · rintro xs i M h4 hi4 ⟨hxs, hi, hbi⟩ hz4 m1 m2 t
    simp -dsimp
    refine ⟨.refl _ _, fun h5 k5 e5 => ?_⟩
    obtain ⟨⟨hM1, hM2⟩, hlt, kv, own, w1, w2, g, ho⟩ := (hI _ _ _).1 hi4
    have t5 := Tr.lp hlt m2 k5
    have u5 := t.trans t5
    have T5 := Tr.from_ k03 u5 (fun b hb => by omega)
    have g5 := g.lp hlt m2 (fun e => by have := ho _ e; omega) k5
    have w1' := k5.at w1 (by omega)
    have w2' := k5.at w2 (by omega)
    have hC5 := u5.at hC3 (by omega)
    have hb5 := u5.at hb3 (by omega)
    have hsn := pickN_snoc b i xs c.key
    have hxl : xs.length ≤ 4 := by rw [hxs]; exact Nat.le_trans (List.length_filter_le _ _) (by simp; omega)
    have wk := wrap_succ (k := xs.length) (by omega)
    have hw2 := lt_of_blk w2'
    have ho2 : h1.size < h5.size := lt_of_blk w1'
    have htl : (xs ++ [i]).length = xs.length + 1 := by simp
    -- behind the number is written
    have fin : ∀ (h6 : Heap) (kv' : Value) (own' : Option Nat) (M' : Nat → Prop), Tr M M' h4 h6 → (∀ b, M b → M' b) → h6[h3.size]? = h5[h3.size]? → h6[h3.size + 1]? = h5[h3.size + 1]? → h3.size + 2 ≤ h6.size →
        h6[h1.size]? = some (.cells #[kv', .int .i64 c.count, .slice sa' c.sum.length sc', .slice na' c.mn.length nc', .slice xa' c.mx.length xc'] 65 (0, 0)) →
        Gr rInt 3 h.size M' h6 kv' (pickN b (xs ++ [i]) c.key) own' → (∀ bk, own' = some bk → h3.size + 2 ≤ bk) →
        bodyM h3.size M h4 h5 I (xs ++ [i]) ⟨⟩ (h6.setIfInBounds (h1.size + 1) (.cells #[.int .i64 ((xs.length + 1 : Nat) : Int)] 3)) := by
      intro h6 kv' own' M' t6 hM' d1 d2 hz6 v1 g6 ho6
      refine ⟨M', (hI _ _ _).2 ⟨⟨hM' _ hM1, hM' _ hM2⟩, fun b hb => by simpa using t6.lt b hb, kv', own', (set_other _ (by omega)).trans v1, ?_, g6.set _ (hM' _ hM2) (fun e => by have := ho6 _ e; omega), ho6⟩, t6.set _ (hM' _ hM2), hM' _ m1, hM' _ m2, (set_other _ (by omega)).trans d1, (set_other _ (by omega)).trans d2⟩
      rw [htl]
      exact set_same _ (by omega)
    have t45 : Tr M M h4 h5 := t5
    have skip : ∀ (e : pickN b (xs ++ [i]) c.key = pickN b xs c.key), bodyM h3.size M h4 h5 I (xs ++ [i]) ⟨⟩ (h5.setIfInBounds (h1.size + 1) (.cells #[.int .i64 ((xs.length + 1 : Nat) : Int)] 3)) :=
      fun e => fin h5 kv own M t45 (fun _ h => h) rfl rfl (by omega) w1' (by rw [e]; exact g5) ho
    simp -dsimp [hb5, shr_i (show i < 64 by omega), bit_op]
    cases hbb : bitM b i with
    | false =>
      simp -dsimp [w2', wk]
      refine skip ?_
      rw [hsn, hbb]
      split <;> simp
    | true =>
      simp -dsimp [hC5, w2']
      by_cases hxk : xs.length < c.key.length
      · have hw1p : ∀ o, (h5.push o)[h1.size]? = _ := fun o => push_at w1'
        have rk := r1.mono (T5.ft (Nat.le_refl 0))
        obtain ⟨b1, o1, eka, _, hc1⟩ := rk.int_at xs.length hxk
        obtain ⟨va, vn, vc, rfl, hvn⟩ := g5.vals
        have hpl := pickN_le b xs c.key
        have hkl := hc.key
        simp -dsimp [hxk]
        refine drawn_by [⟨0, true, []⟩, ⟨1, true, []⟩, ⟨2, true, []⟩, ⟨3, true, []⟩, ⟨4, true, []⟩, ⟨5, true, []⟩, ⟨6, true, []⟩, ⟨7, false, [0, 1]⟩, ⟨8, false, []⟩, ⟨9, true, []⟩, ⟨10, false, []⟩] (by kernel_rfl) (by kernel_rfl) ?_
        simp -dsimp [hC5, w1', w2', hw1p, eka, hc1, idxV_nat hxk, elSz_eq, again_cons]
        refine gr_app1 (x := c.key[xs.length]) rfl intT g5 t5.lt rfl rfl (by omega) (by omega) ?_
        intro v' h6 own' g6 t6 k6 ho6
        have v1 := k6.at w1' (fun e => by have := ho _ e; omega)
        have v2 := k6.at w2' (fun e => by have := ho _ e; omega)
        have ho6' : ∀ b, own' = some b → h3.size + 2 ≤ b := fun b e => (ho6 _ e).elim (ho b) (by omega)
        have hl1 := lt_of_blk v1
        have hl2 := lt_of_blk v2
        obtain ⟨va', vn', vc', rfl, hvn'⟩ := g6.vals
        simp -dsimp [v1, set_other _ (show h1.size ≠ h1.size + 1 by omega), v2, wk]
        refine fin _ _ own' (fun b => M b ∨ own' = some b) ((t45.trans t6).set _ (.inl hM1)) (fun _ h => .inl h) ((set_other _ (by omega)).trans (k6.blk _ (by omega) fun e => by have := ho _ e; omega)) ((set_other _ (by omega)).trans (k6.blk _ (by omega) fun e => by have := ho _ e; omega)) (by have := k6.size; simp; omega) (set_same _ hl1) ?_ ho6'
        rw [hsn, dif_pos hxk, hbb, if_pos rfl]
        exact g6.set _ (.inl hM1) (fun e => by have := ho6' _ e; omega)
      · simp -dsimp [hxk, w2', wk]
        refine skip ?_
        rw [hsn, dif_neg hxk, List.append_nil]
  · rintro xs M h4 rfl hi4 hdm hz4 m1 m2 t
    obtain ⟨⟨hM1, hM2⟩, hlt, kv, own, w1, w2, g, ho⟩ := (hI _ _ _).1 hi4
    have T4 := Tr.from_ k03 t (fun b hb => by omega)
    obtain ⟨va, vn, vc, rfl, hvn⟩ := g.vals
    have hpl := pickN_le b (dimsM a) c.key
    have hkl := hc.key
    simp -dsimp [w1]
    refine call_by (cloneInt_spec g.grow.ints g.own_lt (by omega)) ?_
    rintro _ h5 ⟨own5, g5, k5, ho5⟩
    obtain ⟨a5, c5, rfl⟩ := g5.val
    have w5 := k5.at w1 (fun h => h)
    have T5 := T4.call k5
    have hz5 := k5.at (t.at hz3' (by omega)) (fun h => h)
    have hd5 := k5.at hdm (fun h => h)
    have hl1 := lt_of_blk w5
    have hl2 := lt_of_blk hz5
    have hl3 := lt_of_blk hd5
    have s5 := k5.size
    have hne : h1.size ≠ h.size + 2 := by omega
    simp -dsimp [w5, set_same _ hl1, set_other _ hne, hz5]
    generalize hH : Array.setIfInBounds (Array.setIfInBounds h5 _ _) _ _ = h6
    have hold : ∀ bk, bk ≠ h1.size → bk ≠ h.size + 2 → h6[bk]? = h5[bk]? := fun bk n1 n2 => by rw [← hH, set_other _ (fun e => n2 e.symm), set_other _ (fun e => n1 e.symm)]
    have hres : h6[h.size + 2]? = some (.cells #[.slice a5 (pickN b (dimsM a) c.key).length c5, .int .i64 c.count, .slice sa' c.sum.length sc', .slice na' c.mn.length nc', .slice xa' c.mx.length xc'] 65 (0, 0)) := by rw [← hH]; exact set_same _ (by simpa using hl2)
    have hz6 : h6.size = h5.size := by rw [← hH]; simp
    rw [takeS_cons ((hold _ (by omega) (by omega)).trans hd5)]
    have hne3 : h3.size ≠ h.size + 2 := by omega
    simp -dsimp [set_other _ hne3, hres]
    have hold7 : ∀ bk, bk ≠ h1.size → bk ≠ h.size + 2 → bk ≠ h3.size → (h6.setIfInBounds h3.size (.deferred none))[bk]? = h5[bk]? := fun bk n1 n2 n3 => by rw [set_other _ (fun e => n3 e.symm), hold bk n1 n2]
    have hz7 : (h6.setIfInBounds h3.size (.deferred none)).size = h5.size := by simp [hz6]
    generalize h6.setIfInBounds h3.size (.deferred none) = h7 at hold7 hz7 ⊢
    have hq : ∀ bk, Ft h0.size none_ h1 bk → Ft h.size none_ h7 bk ∧ h7[bk]? = h1[bk]? := fun bk hb => by
      have l1 := hb.1.1
      have l2 := hb.2.1
      have e : h7[bk]? = h1[bk]? := by
        rw [hold7 bk (by omega) (by omega) (by omega), k5.blk bk (by have := t.size; omega) (fun h => h), t.keep.blk bk (by omega) (by omega), k3.blk bk (by omega) (fun h => h), k2.blk bk l2 (fun h => h)]
      exact ⟨⟨hb.1.at (by omega) e, by have := T5.size; have := t.size; omega, fun h => h⟩, e⟩
    refine hK _ _ ⟨_, rfl, ⟨_, _, _, _, rfl, ?_, q2.mono hq, q3.mono hq, q4.mono hq⟩, ⟨by have := T5.size; omega, fun bk hb _ => by rw [hold7 bk (by omega) (by omega) (by omega), T5.keep.blk bk hb (fun h => h)]⟩⟩
    refine g5.ints.mono fun bk hb => ?_
    have l1 := ho5 bk hb
    have l2 := g5.own_lt bk hb
    have l3 := t.size
    have e := hold7 bk (by omega) (by omega) (by omega)
    exact ⟨⟨⟨by omega, fun _ => (g5.thaw bk hb).at e⟩, by omega, fun h => h⟩, e⟩

theorem wrap_u64s {k : Nat} (hk : k < 1000) : IntKind.u64.wrap ((k : Int) + 1) = ((k + 1 : Nat) : Int) := by
  have : IntKind.u64.wrap ((k : Int) + 1) = ((k : Int) + 1) % 18446744073709551616 := rfl
  rw [this]; omega

set_option maxHeartbeats 4000000 in
set_option maxRecDepth 10000 in
theorem rnarrow_spec {h : Heap} {cs : List Value} {c : CellM} (a b : Int) (hr : rCell.rep (Old h) h cs c) (hc : CellSmall c) (hle : c.key.length = (dimsM a).length) :
    CallH Tryz.prog 29 #[.agg cs.toArray, .int .i64 a, .int .i64 b] h fun r h' => ∃ ds, r = .agg ds.toArray ∧ rCell.rep (Ft h.size none_ h') h' ds (narrowC a b c) ∧ Keep none_ h h' := by
  refine callH_by fun K hK => ?_
  refine enter [.cell 6 65] Tryz.func29 rfl rfl (by kernel_rfl) rfl ?_
  obtain ⟨ka, kc, sa, sc, na, nc, xa, xc, rfl, r1, r2, r3, r4⟩ := cell_open hr
  simp -dsimp [boxS_eq]
  generalize hB : Array.push (Array.push h _) _ = h0
  have k0 : Keep none_ h h0 := by rw [← hB]; exact ((Keep.refl none_ h).pushed _).pushed _
  have hz0 : h0.size = h.size + 2 := by rw [← hB]; simp
  have hC : h0[h.size]? = some (.cells #[.slice ka c.key.length kc, .int .i64 c.count, .slice sa c.sum.length sc, .slice na c.mn.length nc, .slice xa c.mx.length xc] 65 (0, 0)) := by rw [← hB]; exact push_at (push_new _ _)
  have hz : h0[h.size + 1]? = some (.cells #[.slice none 0 0, .int .i64 0, .slice none 0 0, .slice none 0 0, .slice none 0 0] 65 (0, 0)) := by rw [← hB]; exact push_get (by simp)
  simp -dsimp [hC]
  refine call_by (rcopy_new (rCell.mono hr ((Tr.of k0).ft (Nat.le_refl 0))) hc) ?_
  rintro _ h1 ⟨ds, rfl, rd, k1⟩
  obtain ⟨ka', kc', sa', sc', na', nc', xa', xc', rfl, q1, q2, q3, q4⟩ := cell_open rd
  simp -dsimp
  rw [push_set rfl]
  generalize hB2 : Array.push h1 _ = h2
  have e1 := k1.size
  have k2 : Keep none_ h1 h2 := by rw [← hB2]; exact .push _ _ _
  have hz2 : h2.size = h1.size + 1 := by rw [← hB2]; simp
  have hO : h2[h1.size]? = some (.cells #[.slice none 0 0, .int .i64 c.count, .slice sa' c.sum.length sc', .slice na' c.mn.length nc', .slice xa' c.mx.length xc'] 65 (0, 0)) := by rw [← hB2]; exact push_new _ _
  have k02 : Keep none_ h h2 := (k0.trans k1 fun _ _ h => h).trans k2 fun _ _ h => h
  have hz3 := k2.at (k1.at hz (fun h => h)) (fun h => h)
  have hC3 := k2.at (k1.at hC (fun h => h)) (fun h => h)
  have hkl := hc.key
  have htl : ∀ i, ((List.range i).filter (bitM a)).length ≤ i := fun i => Nat.le_trans (List.length_filter_le _ _) (by simp)
  have hdl : ∀ i, i < 4 → bitM a i = true → ((List.range i).filter (bitM a)).length < (dimsM a).length := fun i hi hb => by
    have h1 := range_snoc (bitM a) i
    rw [if_pos hb] at h1
    have h2 : (List.range (i + 1)).filter (bitM a) <+: dimsM a := by
      unfold dimsM
      refine List.IsPrefix.filter _ ?_
      have : ∀ j : Fin 4, List.range (j.val + 1) <+: List.range 4 := by decide
      exact this ⟨i, hi⟩
    have h3 := h2.length_le
    rw [h1, List.length_append] at h3
    simp at h3
    omega
  refine loopc (σ := Nat × Value) (fun t => [(1, .int .i64 a), (2, .int .i64 b), (3, .pointer (some ⟨h.size, 0, none⟩)), (6, .pointer (some ⟨h.size + 1, 0, none⟩)), (7, .pointer (some ⟨h1.size, 0, none⟩)), (8, .int .i64 ((List.range t.1).filter (bitM a)).length), (9, .int .u64 t.1)])
    (fun t h3 => t.1 ≤ 4 ∧ ∃ M own, Tr (fun b => b = h1.size) M h2 h3 ∧ M h1.size ∧ h3[h1.size]? = some (.cells #[t.2, .int .i64 c.count, .slice sa' c.sum.length sc', .slice na' c.mn.length nc', .slice xa' c.mx.length xc'] 65 (0, 0)) ∧
      Gr rInt 3 h.size M h3 t.2 (pickN b ((List.range t.1).filter (bitM a)) c.key) own ∧ ∀ bk, own = some bk → h2.size ≤ bk)
    (fun t => 4 - t.1) (0, .slice none 0 0) 0 (fun t _ => t.1 = 4) noRet noRet_le (by simp) ?_ (by kernel_rfl) ?_ ?_
  · exact ⟨by omega, _, none, ⟨.refl _ _, fun _ h => .inl h, fun b hb => by omega⟩, rfl, hO, by rw [List.range_zero, List.filter_nil, pickN_nil']; exact .nil _ _ _ _ _, fun b hb => by cases hb⟩
  · rintro ⟨i, v⟩ h3 g ⟨hi, M, own, t, hM, w1, g3, ho⟩
    simp only at hi w1 g3
    have T3 := Tr.from_ k02 t (fun b hb => by omega)
    have hrs := range_snoc (bitM a) i
    have hti := htl i
    have hC4 := t.at hC3 (by omega)
    have hl1 := lt_of_blk w1
    obtain ⟨va, vn, vc, rfl, hvn⟩ := g3.vals
    by_cases hl : i < 4
    · have hl' : (i : Int) < 4 := by omega
      have wk := wrap_u64s (k := i) (by omega)
      simp -dsimp [hl', shr_i (show i < 64 by omega), bit_op]
      cases hba : bitM a i with
      | false =>
        rw [hba, if_neg (by decide), List.append_nil] at hrs
        simp -dsimp [wk]
        exact ⟨(i + 1, _), by simp [hrs], rfl, ⟨by omega, M, own, t, hM, w1, by rw [hrs]; exact g3, ho⟩, by show 4 - (i + 1) < 4 - i; omega⟩
      | true =>
        rw [hba, if_pos rfl] at hrs
        have hxk := hdl i hl hba
        rw [← hle] at hxk
        have wk2 := wrap_succ (k := ((List.range i).filter (bitM a)).length) (by omega)
        have hlen : ((List.range (i + 1)).filter (bitM a)).length = ((List.range i).filter (bitM a)).length + 1 := by rw [hrs]; simp
        have hsn := pickN_snoc b i ((List.range i).filter (bitM a)) c.key
        rw [← hrs, dif_pos hxk] at hsn
        simp -dsimp [shr_i (show i < 64 by omega), bit_op]
        cases hbb : bitM b i with
        | false =>
          rw [hbb, if_neg (by decide), List.append_nil] at hsn
          simp -dsimp [wk, wk2]
          exact ⟨(i + 1, _), by simp [hlen], rfl, ⟨by omega, M, own, t, hM, w1, by rw [hsn]; exact g3, ho⟩, by show 4 - (i + 1) < 4 - i; omega⟩
        | true =>
          rw [hbb, if_pos rfl] at hsn
          have hw1p : ∀ o, (h3.push o)[h1.size]? = _ := fun o => push_at w1
          have rk := r1.mono (T3.ft (Nat.le_refl 0))
          obtain ⟨b1, o1, eka, _, hc1⟩ := rk.int_at _ hxk
          have hpl := pickN_le b ((List.range i).filter (bitM a)) c.key
          simp -dsimp
          refine drawn_by [⟨0, true, []⟩, ⟨1, true, []⟩, ⟨2, true, []⟩, ⟨3, true, []⟩, ⟨4, true, []⟩, ⟨5, true, []⟩, ⟨6, true, []⟩, ⟨7, false, [0, 1]⟩, ⟨8, false, []⟩, ⟨9, true, []⟩, ⟨10, false, []⟩] (by kernel_rfl) (by kernel_rfl) ?_
          simp -dsimp [hC4, w1, hw1p, eka, hc1, idxV_nat hxk, elSz_eq, again_cons]
          refine gr_app1 (x := c.key[((List.range i).filter (bitM a)).length]) rfl intT g3 t.lt rfl rfl (by omega) (by omega) ?_
          intro v' h6 own' g6 t6 k6 ho6
          have v1 := k6.at w1 (fun e => by have := ho _ e; omega)
          have ho6' : ∀ b, own' = some b → h2.size ≤ b := fun b e => (ho6 _ e).elim (ho b) (by have := t.size; omega)
          have hl2 := lt_of_blk v1
          obtain ⟨va', vn', vc', rfl, hvn'⟩ := g6.vals
          simp -dsimp [v1, wk, wk2]
          refine ⟨(i + 1, _), by simp [hlen], rfl, ⟨by omega, _, own', (t.trans t6).set _ (.inl hM), .inl hM, set_same _ hl2, ?_, ho6'⟩, by show 4 - (i + 1) < 4 - i; omega⟩
          rw [hsn]
          exact g6.set _ (.inl hM) (fun e => by have := ho6' _ e; omega)
    · have hl' : ¬ (i : Int) < 4 := by omega
      simp -dsimp [hl']
      exact ⟨rfl, (i, _), by simp, rfl, ⟨hi, M, own, t, hM, w1, g3, ho⟩, by show i = 4; omega⟩
  · rintro ⟨i, v⟩ h3 g ⟨hi, M, own, t, hM, w1, g3, ho⟩ hi4
    simp only at hi w1 g3 hi4
    subst hi4
    have T3 := Tr.from_ k02 t (fun b hb => by omega)
    have hz4 := t.at hz3 (by omega)
    have hl1 := lt_of_blk hz4
    obtain ⟨va, vn, vc, rfl, hvn⟩ := g3.vals
    simp -dsimp [w1, hz4]
    generalize hH : Array.setIfInBounds h3 _ _ = h4
    have hres : h4[h.size + 1]? = some (.cells #[.slice va vn vc, .int .i64 c.count, .slice sa' c.sum.length sc', .slice na' c.mn.length nc', .slice xa' c.mx.length xc'] 65 (0, 0)) := by rw [← hH]; exact set_same _ hl1
    have hold : ∀ bk, bk ≠ h.size + 1 → h4[bk]? = h3[bk]? := fun bk n => by rw [← hH, set_other _ (fun e => n e.symm)]
    have hz5 : h4.size = h3.size := by rw [← hH]; simp
    simp -dsimp [hres]
    have hq : ∀ bk, Ft h0.size none_ h1 bk → Ft h.size none_ h4 bk ∧ h4[bk]? = h1[bk]? := fun bk hb => by
      have l1 := hb.1.1
      have l2 := hb.2.1
      have e : h4[bk]? = h1[bk]? := by
        rw [hold bk (by omega), t.keep.blk bk (by omega) (by omega), k2.blk bk l2 (fun h => h)]
      exact ⟨⟨hb.1.at (by omega) e, by have := t.size; omega, fun h => h⟩, e⟩
    refine hK _ _ ⟨_, rfl, ⟨_, _, _, _, rfl, ?_, q2.mono hq, q3.mono hq, q4.mono hq⟩, ⟨by have := T3.size; omega, fun bk hb _ => by rw [hold bk (by omega), T3.keep.blk bk hb (fun h => h)]⟩⟩
    refine g3.grow.ints.mono fun bk hb => ?_
    have l1 := ho bk hb
    have l2 := g3.own_lt bk hb
    have e := hold bk (by omega)
    exact ⟨⟨⟨by omega, fun _ => (g3.thaw bk hb).at e⟩, by omega, fun h => h⟩, e⟩
end Go.Proofs

/-
  Cells by fewer dimensions, one by one, collected: the program's.
-/
namespace Go.HC
/-- Cells that come one by one, in memory of their own. -/
def cellsA (n0 : Nat) (l : List CellM) (xs : List (List Value)) (cs : List Value) (M : Nat → Prop) (h : Heap) : Prop := ∃ hk : xs.length < l.length, rCell.rep (Ft n0 M h) h cs l[xs.length]
theorem IterM.keep {α : Type} {P : Program} {f : FuncId} {first caps : Array Value} {val : α → Array Value} {A : List α → α → (Nat → Prop) → Heap → Prop} {Done : List α → Prop} {Fp : Nat → Prop} {h0 h1 : Heap} (hit : IterM P f first caps val A Done Fp h0) (hF : ∀ b, Fp b → b < h0.size) (k : Keep none_ h0 h1) : IterM P f first caps val A Done Fp h1 := by
  intro y J M h hyv hy hJ hsz hFp
  refine hit y J M h hyv hy hJ (Nat.le_trans k.size hsz) fun b hb => ?_
  obtain ⟨_, g2, g3⟩ := hFp b hb
  exact ⟨hF b hb, g2, g3.trans (k.blk b (hF b hb) (fun h => h))⟩
end Go.HC
namespace Go.Proofs
open Go Go.HC

end Go.Proofs

/-
  Two rows of rising cells made one: the program's.
-/
namespace Go.HC
/-- A row of cells in memory of its own that is not among what may be changed. -/
def NewCM (e n0 : Nat) (M : Nat → Prop) (h : Heap) (v : Value) (l : List CellM) : Prop := ∃ F own, Grow rCell e F h v l own ∧ (∀ b, F b → Nw n0 h b ∧ b < h.size ∧ ¬ M b) ∧ ∀ b, own = some b → n0 ≤ b ∧ ¬ M b
theorem NewCM.mono {e n0 : Nat} {M M' : Nat → Prop} {h h' : Heap} {v : Value} {l : List CellM} (g : NewCM e n0 M h v l) (t : Tr M M' h h') : NewCM e n0 M' h' v l := by
  obtain ⟨F, own, g, hF, ho⟩ := g
  have hlt := g.own_lt
  have hnf := g.notF
  have key : ∀ b, b < h.size → ¬ M b → ¬ M' b := fun b h1 h2 hm => (t.new b hm).elim h2 fun h => by omega
  exact ⟨F, own, g.mono (fun b hb => ⟨hb, t.keep.blk b (hF b hb).2.1 (hF b hb).2.2⟩) fun b hb => ⟨hnf b hb, t.keep.blk b (hlt b hb) (ho b hb).2⟩,
    fun b hb => ⟨(hF b hb).1.at (Nat.le_refl _) (t.keep.blk b (hF b hb).2.1 (hF b hb).2.2), Nat.lt_of_lt_of_le (hF b hb).2.1 t.size, key b (hF b hb).2.1 (hF b hb).2.2⟩, fun b hb => ⟨(ho b hb).1, key b (hlt b hb) (ho b hb).2⟩⟩
theorem NewCM.newC {e n0 : Nat} {M : Nat → Prop} {h : Heap} {v : Value} {l : List CellM} (g : NewCM e n0 M h v l) : NewC e n0 h v l := by
  obtain ⟨F, own, g, hF, ho⟩ := g
  exact ⟨F, own, g, fun b hb => ⟨(hF b hb).1, (hF b hb).2.1⟩, fun b hb => (ho b hb).1⟩
theorem NewCM.rep {e n0 n : Nat} {M : Nat → Prop} {h : Heap} {v : Value} {l : List CellM} (g : NewCM e n0 M h v l) (hn : n ≤ n0) : SlRep rCell (Ft n M h) h v l := by
  obtain ⟨F, own, g, hF, ho⟩ := g
  exact g.rep.mono fun b hb => ⟨hb.elim (fun h => ⟨(hF b h).1.less hn, (hF b h).2.1, (hF b h).2.2⟩) fun h => ⟨⟨Nat.le_trans hn (ho b h).1, fun _ => g.thaw b h⟩, g.own_lt b h, (ho b h).2⟩, rfl⟩
/-- What is changed may be more than it was. -/
theorem Tr.more {M M' N : Nat → Prop} {h h' : Heap} (t : Tr M M' h h') (hN : ∀ b, N b → (M b ∨ h.size ≤ b) ∧ b < h'.size) : Tr M (fun b => M' b ∨ N b) h h' :=
  ⟨t.keep, fun b hb => hb.elim (t.new b) fun h => (hN b h).1, fun b hb => hb.elim (t.lt b) fun h => (hN b h).2⟩
end Go.HC
namespace Go.Proofs
open Go Go.HC

end Go.Proofs

/-
  Two rows of rising cells made one: the program's, whole.
-/
namespace Go.HC
/-- A slice that grows and a number, in variables of their own. -/
def TwoJ (tS tC tI n0 B5 B6 lim : Nat) (M : Nat → Prop) (h : Heap) (j : Nat) (out : List CellM) : Prop :=
  ∃ v own, h[B5]? = some (.cells #[v] tS (0, 0)) ∧ h[B6]? = some (.cells #[.int .i64 j] tI (0, 0)) ∧ Gr rCell tC n0 M h v out own ∧ (∀ b, own = some b → lim ≤ b) ∧ M B5 ∧ M B6 ∧ ∀ b, M b → b < h.size
section
variable {tS tC tI n0 B5 B6 lim j j' : Nat} {M M' : Nat → Prop} {h h' : Heap} {out : List CellM}
theorem TwoJ.call (t : TwoJ tS tC tI n0 B5 B6 lim M h j out) (k : Keep none_ h h') : TwoJ tS tC tI n0 B5 B6 lim M h' j out := by
  obtain ⟨v, own, w1, w2, g, ho, m1, m2, hl⟩ := t
  exact ⟨v, own, k.at w1 (fun h => h), k.at w2 (fun h => h), g.call k, ho, m1, m2, fun b hb => Nat.lt_of_lt_of_le (hl b hb) k.size⟩
theorem TwoJ.lp {lp : Nat} (t : TwoJ tS tC tI n0 B5 B6 lim M h j out) (m : M lp) (h1 : lp < lim) (h2 : B5 ≠ lp) (h3 : B6 ≠ lp) (k : Keep (fun b => b = lp) h h') : TwoJ tS tC tI n0 B5 B6 lim M h' j out := by
  obtain ⟨v, own, w1, w2, g, ho, m1, m2, hl⟩ := t
  exact ⟨v, own, k.at w1 h2, k.at w2 h3, g.lp hl m (fun e => by have := ho _ e; omega) k, ho, m1, m2, fun b hb => Nat.lt_of_lt_of_le (hl b hb) k.size⟩
/-- A cell has been appended, and is written; the number too. -/
theorem TwoJ.put {c : CellM} {v' : Value} {own' : Option Nat} (g : Gr rCell tC n0 M' h v' (out ++ [c]) own') (ho : ∀ b, own' = some b → lim ≤ b) (m1 : M' B5) (m2 : M' B6) (hl : ∀ b, M' b → b < h.size)
    (h1 : B5 < lim) (h2 : B6 < lim) (h3 : B5 ≠ B6) : TwoJ tS tC tI n0 B5 B6 lim M' ((h.setIfInBounds B5 (.cells #[v'] tS)).setIfInBounds B6 (.cells #[.int .i64 j'] tI)) j' (out ++ [c]) :=
  ⟨v', own', (set_other _ (fun e => h3 e.symm)).trans (set_same _ (hl _ m1)), set_same _ (by simpa using hl _ m2), (g.set _ m1 (fun e => by have := ho _ e; omega)).set _ m2 (fun e => by have := ho _ e; omega), ho, m1, m2, fun b hb => by simpa using hl b hb⟩
end
end Go.HC
namespace Go.Proofs
open Go Go.HC

end Go.Proofs

/-
  Rows of rising cells made one, one by one; rows in pieces: the program's.
-/
namespace Go.HC
end Go.HC
namespace Go.Proofs
open Go Go.HC

end Go.Proofs

/-
  All rows made one: the program's.
-/
namespace Go.HC
section
variable {n : Nat} {ls : List (List CellM)}
end
end Go.HC
namespace Go.Proofs
open Go Go.HC

end Go.Proofs

/-
  How many cells a part comes to at most: the program's.
-/
namespace Go.HC
end Go.HC
namespace Go.Proofs
open Go Go.HC

end Go.Proofs

/-
  Plans carried out: the program's.
-/
namespace Go.HC
theorem NewC.vals {e n0 : Nat} {h : Heap} {v : Value} {l : List CellM} (g : NewC e n0 h v l) : ∃ a n c, v = .slice a n c := by
  obtain ⟨F, own, g, _⟩ := g
  obtain ⟨a, c, rfl⟩ := g.val
  exact ⟨_, _, _, rfl⟩
/-- Other blocks are written. -/
theorem NewC.keepS {e n0 : Nat} {h h' : Heap} {S : Nat → Prop} {v : Value} {l : List CellM} (g : NewC e n0 h v l) (k : Keep S h h') (hS : ∀ b, S b → b < n0) : NewC e n0 h' v l := by
  obtain ⟨F, own, g, hF, ho⟩ := g
  have hl := g.own_lt
  have hs : ∀ b, n0 ≤ b → ¬ S b := fun b h1 h2 => by have := hS b h2; omega
  exact ⟨F, own, g.mono (fun b hb => ⟨hb, k.blk b (hF b hb).2 (hs b (hF b hb).1.1)⟩) fun b hb => ⟨g.notF b hb, k.blk b (hl b hb) (hs b (ho b hb))⟩, fun b hb => ⟨(hF b hb).1.at (Nat.le_refl _) (k.blk b (hF b hb).2 (hs b (hF b hb).1.1)), Nat.lt_of_lt_of_le (hF b hb).2 k.size⟩, ho⟩
end Go.HC
namespace Go.Proofs
open Go Go.HC

end Go.Proofs

/-
  Runs of cells: the document's.
-/
namespace Go.HC
end Go.HC
namespace Go.Proofs
open Go Go.HC

end Go.Proofs

/-
  Rows of rising cells made one: the document's.
-/
namespace Go.Proofs
open Go Go.HC

end Go.Proofs

/-
  Plans carried out: the document's.
-/
namespace Go.HC
end Go.HC
namespace Go.Proofs
open Go Go.HC

end Go.Proofs

/-
  Plans carried out: the document's, whole.
-/
namespace Go.Proofs
open Go Go.HC

end Go.Proofs

/-
  hypercubelaw12: what its statements share.
-/
namespace Go.HC
end Go.HC
namespace Go.Proofs
open Go Go.HC

end Go.Proofs

/-
  hypercubelaw12: what its statements share, plainly.
-/
namespace Go.HC
theorem dims_le {n : Nat} {a : Int} (hn : n ≤ 4) (h0 : 0 ≤ a) (ha : a < 2 ^ n) : a < 16 ∧ lvlM a 0 n = (dimsM a).length := by
  have h16 : (2 : Int) ^ n ≤ 2 ^ 4 := pow2_le hn
  have e16 : (2 : Int) ^ 4 = 16 := by decide
  have hlt : a < 16 := by omega
  refine ⟨hlt, ?_⟩
  obtain ⟨m, rfl⟩ : ∃ m : Nat, a = m := ⟨a.toNat, by omega⟩
  have := lvl_dims ⟨n, by omega⟩ ⟨m, by omega⟩ (by
    have h : ((m : Nat) : Int) < ((2 ^ n : Nat) : Int) := by rw [Int.natCast_pow]; exact ha
    exact Int.ofNat_lt.1 h)
  exact this
/-- Cells of facts, by a set of their dimensions. -/
theorem FactsOk.cells {s : SchM} {rows : List RowM} (h : FactsOk s rows) {b : Int} (h0 : 0 ≤ b) (hb : b < 2 ^ s.cards.length) : b < 16 ∧ ∀ c ∈ rows.map (ofM b), CellOk s.ms.toNat (dimsM b).length c := by
  obtain ⟨h1, h2⟩ := dims_le h.dims.2 h0 hb
  exact ⟨h1, fun c hc => by rw [← h2]; exact h.cell b c hc⟩
/-- A set within a set. -/
structure Within (a b : Int) (n : Nat) : Prop where
  a0 : 0 ≤ a
  a1 : a < 2 ^ n
  b0 : 0 ≤ b
  b1 : b < 2 ^ n
  sub : ∀ i, i < 4 → bitM b i = true → bitM a i = true
theorem bit_zero (i : Nat) : bitM 0 i = false := by
  unfold bitM
  rw [Int.zero_fdiv]; rfl
theorem Within.zero {a : Int} {n : Nat} (h0 : 0 ≤ a) (ha : a < 2 ^ n) : Within a 0 n := ⟨h0, ha, Int.le_refl _, by omega, fun i _ h => by rw [bit_zero] at h; cases h⟩
theorem Within.trans {a b c : Int} {n : Nat} (h : Within a b n) (h' : Within b c n) : Within a c n := ⟨h.a0, h.a1, h'.b0, h'.b1, fun i hi hc => h.sub i hi (h'.sub i hi hc)⟩
theorem and_op (x y : Int) : intRes .and .i64 x y = some (.int .i64 (andM x y)) := _root_.id rfl
end Go.HC

/-
  Cuboids as bytes, plainly: which cells a set's file may hold; what stands where in it.
-/
namespace Go.HC
/-- A cell's bytes. -/
def cellB (c : CellM) : List UInt8 := c.key.map byteM ++ w2 c.count ++ (List.range c.sum.length).flatMap fun k => w8 (c.sum.getD k 0) ++ w8 (c.mn.getD k 0) ++ w8 (c.mx.getD k 0)
theorem encC_eq (set : Int) (l : List CellM) : encC set l = [byteM set] ++ w2 l.length ++ l.flatMap cellB := rfl
def I64 (x : Int) : Prop := -9223372036854775808 ≤ x ∧ x < 9223372036854775808
/-- A cell of a set, of facts of a schema. -/
structure CelOk (s : SchM) (k : Int) (c : CellM) : Prop where
  klen : c.key.length = (dimsM k).length
  key : ∀ (j : Nat) (h : j < c.key.length) (h' : j < (dimsM k).length), 0 ≤ c.key[j] ∧ c.key[j] < s.cards.getD (dimsM k)[j] 0
  sum : c.sum.length = s.ms.toNat
  mn : c.mn.length = s.ms.toNat
  mx : c.mx.length = s.ms.toNat
  i64 : ∀ j, I64 (c.sum.getD j 0) ∧ I64 (c.mn.getD j 0) ∧ I64 (c.mx.getD j 0)
  le : ∀ j, c.mn.getD j 0 ≤ c.mx.getD j 0
/-- Cells that a set's file may hold. -/
structure CubOk (s : SchM) (k : Int) (l : List CellM) : Prop where
  sch : SchOk s
  set : 0 ≤ k ∧ k < 2 ^ s.cards.length
  len : l.length ≤ 300
  srt : Srt l
  cel : ∀ c ∈ l, CelOk s k c
  count : ∀ c ∈ l, 1 ≤ c.count ∧ c.count ≤ 300
theorem zip_getD {f : Int → Int → Int} (h0 : f 0 0 = 0) : ∀ {xs ys : List Int}, xs.length = ys.length → ∀ j, (List.zipWith f xs ys).getD j 0 = f (xs.getD j 0) (ys.getD j 0)
  | [], [], _, j => by simp [h0]
  | x :: xs, y :: ys, h, 0 => rfl
  | x :: xs, y :: ys, h, j + 1 => by
    have := zip_getD h0 (xs := xs) (ys := ys) (by simpa using h) j
    simpa using this
theorem wrap_i64_in (x : Int) : I64 (IntKind.i64.wrap x) := by
  unfold I64
  rw [wrap_eq]
  split <;> omega
theorem CelOk.join {s : SchM} {k : Int} {a b : CellM} (ha : CelOk s k a) (hb : CelOk s k b) : CelOk s k (joinC a b) := by
  have e1 : a.sum.length = b.sum.length := by rw [ha.sum, hb.sum]
  have e2 : a.mn.length = b.mn.length := by rw [ha.mn, hb.mn]
  have e3 : a.mx.length = b.mx.length := by rw [ha.mx, hb.mx]
  refine ⟨ha.klen, ha.key, ?_, ?_, ?_, fun j => ?_, fun j => ?_⟩
  · simp [joinC, ha.sum, hb.sum]
  · simp [joinC, ha.mn, hb.mn]
  · simp [joinC, ha.mx, hb.mx]
  · have h1 := ha.i64 j
    have h2 := hb.i64 j
    simp only [joinC]
    rw [zip_getD (by decide) e1, zip_getD (by decide) e2, zip_getD (by decide) e3]
    refine ⟨wrap_i64_in _, ?_, ?_⟩
    · unfold I64 at *; omega
    · unfold I64 at *; omega
  · have h1 := ha.le j
    have h2 := hb.le j
    simp only [joinC]
    rw [zip_getD (by decide) e2, zip_getD (by decide) e3]
    omega
def totC (l : List CellM) : Int := (l.map (·.count)).sum
theorem tot_put : ∀ {o : List CellM} {c : CellM}, (∀ d ∈ o, 1 ≤ d.count) → 1 ≤ c.count → totC o + c.count < 9223372036854775808 → totC (putC o c) = totC o + c.count ∧ ∀ d ∈ putC o c, 1 ≤ d.count
  | [], c, _, hc, _ => by
    refine ⟨by simp [totC, putC], fun d hd => ?_⟩
    rw [putC, List.mem_singleton] at hd
    rw [hd]; exact hc
  | x :: o, c, ho, hc, hlt => by
    have hx := ho x List.mem_cons_self
    have ho' : ∀ d ∈ o, 1 ≤ d.count := fun d hd => ho d (List.mem_cons_of_mem _ hd)
    have hpos : ∀ (o : List CellM), (∀ d ∈ o, 1 ≤ d.count) → 0 ≤ totC o := by
      intro o
      induction o with
      | nil => intro _; simp [totC]
      | cons y o ih =>
        intro h
        have h1 := h y List.mem_cons_self
        have h2 := ih fun d hd => h d (List.mem_cons_of_mem _ hd)
        simp only [totC, List.map_cons, List.sum_cons] at *
        omega
    have h0 := hpos o ho'
    have e : totC (x :: o) = x.count + totC o := by simp [totC]
    rw [e] at hlt ⊢
    rw [putC]
    split
    · have ih := tot_put ho' hc (by omega)
      refine ⟨?_, fun d hd => ?_⟩
      · have : totC (x :: putC o c) = x.count + totC (putC o c) := by simp [totC]
        rw [this, ih.1]; omega
      · rcases List.mem_cons.1 hd with rfl | hd
        · exact hx
        · exact ih.2 d hd
    · split
      · have hj : (joinC x c).count = x.count + c.count := by
          simp only [joinC]
          exact wrap_i64 (by omega) (by omega)
        refine ⟨?_, fun d hd => ?_⟩
        · have : totC (joinC x c :: o) = (joinC x c).count + totC o := by simp [totC]
          rw [this, hj]; omega
        · rcases List.mem_cons.1 hd with rfl | hd
          · omega
          · exact ho' d hd
      · refine ⟨?_, fun d hd => ?_⟩
        · simp only [totC, List.map_cons, List.sum_cons] at *
          omega
        · rcases List.mem_cons.1 hd with rfl | hd
          · exact hc
          · exact ho d hd
theorem tot_fold : ∀ (l o : List CellM), (∀ d ∈ o, 1 ≤ d.count) → (∀ d ∈ l, d.count = 1) → totC o + l.length < 9223372036854775808 → totC (l.foldl putC o) = totC o + l.length ∧ ∀ d ∈ l.foldl putC o, 1 ≤ d.count
  | [], o, ho, _, _ => ⟨by simp, ho⟩
  | c :: l, o, ho, hl, hlt => by
    have hc := hl c List.mem_cons_self
    simp only [List.length_cons] at hlt ⊢
    obtain ⟨h1, h2⟩ := tot_put (o := o) (c := c) ho (by omega) (by omega)
    have := tot_fold l (putC o c) h2 (fun d hd => hl d (List.mem_cons_of_mem _ hd)) (by omega)
    refine ⟨?_, this.2⟩
    rw [List.foldl_cons, this.1, h1]
    omega
theorem tot_mem : ∀ {l : List CellM}, (∀ d ∈ l, 1 ≤ d.count) → ∀ d ∈ l, d.count ≤ totC l
  | [], _, d, hd => by cases hd
  | x :: l, h, d, hd => by
    have hx := h x List.mem_cons_self
    have hl : ∀ d ∈ l, 1 ≤ d.count := fun d hd => h d (List.mem_cons_of_mem _ hd)
    have e : totC (x :: l) = x.count + totC l := by simp [totC]
    rcases List.mem_cons.1 hd with rfl | hd
    · cases l with
      | nil => simp [totC]
      | cons y l =>
        have h1 := tot_mem hl y List.mem_cons_self
        have h2 := hl y List.mem_cons_self
        omega
    · have := tot_mem hl d hd
      omega
theorem filter_at {p : Nat → Bool} {n i : Nat} (hi : i < n) (hp : p i = true) : ((List.range n).filter p)[((List.range i).filter p).length]? = some i := by
  obtain ⟨m, rfl⟩ : ∃ m, n = i + 1 + m := ⟨n - (i + 1), by omega⟩
  have e : (List.range (i + 1 + m)).filter p = (List.range i).filter p ++ i :: ((List.range' (i + 1) m).filter p) := by
    have h1 : List.range (i + 1 + m) = List.range i ++ (i :: List.range' (i + 1) m) := by
      rw [List.range_eq_range', List.range_eq_range', ← List.range'_append_1 (s := 0) (m := i + 1) (n := m), List.range'_1_concat]
      simp
    rw [h1, List.filter_append, List.filter_cons, if_pos hp]
  rw [e, List.getElem?_append_right (Nat.le_refl _), Nat.sub_self]
  rfl
/-- The values of a set's dimensions, by their places. -/
theorem pick_map {k : Int} : ∀ (xs : List Int) (i : Nat), pickM k i xs = ((List.range' i xs.length).filter (bitM k)).map fun q => xs.getD (q - i) 0
  | [], i => by simp [pickM]
  | x :: xs, i => by
    have ih := pick_map (k := k) xs (i + 1)
    have e : ((List.range' (i + 1) xs.length).filter (bitM k)).map (fun q => (x :: xs).getD (q - i) 0) = ((List.range' (i + 1) xs.length).filter (bitM k)).map fun q => xs.getD (q - (i + 1)) 0 := by
      apply List.map_congr_left
      intro q hq
      have hq := (List.mem_filter.1 hq).1
      rw [List.mem_range'_1] at hq
      rw [show q - i = (q - (i + 1)) + 1 by omega, List.getD_cons_succ]
    rw [pickM, List.length_cons, List.range'_succ, List.filter_cons]
    by_cases hb : bitM k i = true
    · rw [if_pos hb, if_pos hb, List.map_cons, e, ih, Nat.sub_self]
      rfl
    · rw [if_neg hb, if_neg hb, e, ih]
theorem bit_high {k : Int} {d i : Nat} (h0 : 0 ≤ k) (h : k < 2 ^ d) (hi : d ≤ i) : bitM k i = false := by
  unfold bitM
  have hp : (2 : Int) ^ d ≤ 2 ^ i := pow2_le hi
  rw [Int.fdiv_eq_ediv_of_nonneg _ (by omega), Int.ediv_eq_zero_of_lt h0 (by omega)]
  rfl
theorem dims_range {k : Int} {d : Nat} (h0 : 0 ≤ k) (h : k < 2 ^ d) (hd : d ≤ 4) : dimsM k = (List.range d).filter (bitM k) := by
  unfold dimsM
  obtain ⟨m, e⟩ : ∃ m, 4 = d + m := ⟨4 - d, by omega⟩
  rw [e, List.range_add, List.filter_append]
  have : ((List.range m).map (d + ·)).filter (bitM k) = [] := by
    rw [List.filter_eq_nil_iff]
    intro q hq
    obtain ⟨i, _, rfl⟩ := List.mem_map.1 hq
    rw [bit_high h0 h (by omega)]
    simp
  rw [this, List.append_nil]
theorem cel_of {s : SchM} {rows : List RowM} (ok : FactsOk s rows) {k : Int} (h0 : 0 ≤ k) (h : k < 2 ^ s.cards.length) {r : RowM} (hr : r ∈ rows) : CelOk s k (ofM k r) := by
  have hk := ok.key r hr
  have hm := ok.m r hr
  have hd := dims_range h0 h ok.dims.2
  have hp : pickM k 0 r.key = (dimsM k).map fun q => r.key.getD q 0 := by
    rw [pick_map, hd, hk.1, ← List.range_eq_range']
    rfl
  refine ⟨by simp only [ofM]; rw [hp, List.length_map], fun j hj hj' => ?_, hm.1, hm.1, hm.1, fun j => ?_, fun j => Int.le_refl _⟩
  · simp only [ofM]
    have hq : (dimsM k)[j] < s.cards.length := by
      have := List.getElem_mem hj'
      have h2 : (dimsM k)[j] ∈ (List.range s.cards.length).filter (bitM k) := by rw [← hd]; exact this
      exact List.mem_range.1 (List.mem_filter.1 h2).1
    have hv : (pickM k 0 r.key)[j]'(by rw [hp]; simpa using hj') = r.key[(dimsM k)[j]]'(by omega) := by
      simp only [hp, List.getElem_map]
      rw [List.getD_eq_getElem?_getD, List.getElem?_eq_getElem (by omega)]
      rfl
    rw [hv, List.getD_eq_getElem?_getD, List.getElem?_eq_getElem hq]
    exact hk.2 _ (by omega) hq
  · simp only [ofM]
    have : I64 (r.m.getD j 0) := by
      by_cases hj : j < r.m.length
      · rw [List.getD_eq_getElem?_getD, List.getElem?_eq_getElem hj]
        exact hm.2 _ (List.getElem_mem hj)
      · rw [List.getD_eq_getElem?_getD, List.getElem?_eq_none (by omega)]
        unfold I64
        simp
    exact ⟨this, this, this⟩
/-- The cuboid of facts is one that its file may hold. -/
theorem cub_ok {s : SchM} {rows : List RowM} (ok : FactsOk s rows) {k : Int} (h0 : 0 ≤ k) (h : k < 2 ^ s.cards.length) : CubOk s k (groupC (rows.map (ofM k))) := by
  have hle := groupC_le (rows.map (ofM k))
  rw [List.length_map] at hle
  have hlen := ok.len
  have ht := tot_fold (rows.map (ofM k)) [] (fun d hd => by cases hd) (fun d hd => by
    obtain ⟨r, _, rfl⟩ := List.mem_map.1 hd
    rfl) (by rw [List.length_map]; simp [totC]; omega)
  rw [List.length_map] at ht
  refine ⟨ok.sch, ⟨h0, h⟩, by omega, (grp_group _).srt, group_all (fun _ _ h1 h2 => h1.join h2) fun c hc => ?_, fun c hc => ?_⟩
  · obtain ⟨r, hr, rfl⟩ := List.mem_map.1 hc
    exact cel_of ok h0 h hr
  · have h1 := ht.2 c hc
    have h2 := tot_mem ht.2 c hc
    rw [ht.1] at h2
    simp only [totC, List.map_nil, List.sum_nil] at h2
    omega
theorem three_len (x y z : Int) : (w8 x ++ w8 y ++ w8 z).length = 24 := by simp [w8_len]
theorem cellB_len {s : SchM} {k : Int} {c : CellM} (h : CelOk s k c) : (cellB c).length = (dimsM k).length + 2 + 24 * s.ms.toNat := by
  unfold cellB w2
  rw [List.length_append, List.length_append, List.length_map, flat_size (w := 24) (fun x _ => three_len _ _ _), h.klen, List.length_range, h.sum]
  simp only [List.length_cons, List.length_nil]
  omega
/-- What stands where in a cell's bytes. -/
structure CelAt (c : CellM) (B : List UInt8) : Prop where
  key : ∀ (j : Nat) (h : j < c.key.length), B[j]? = some (byteM c.key[j])
  count : (B.drop c.key.length).take 2 = w2 c.count
  sum : ∀ j, j < c.sum.length → (B.drop (c.key.length + 2 + 24 * j)).take 8 = w8 (c.sum.getD j 0)
  mn : ∀ j, j < c.sum.length → (B.drop (c.key.length + 2 + 24 * j + 8)).take 8 = w8 (c.mn.getD j 0)
  mx : ∀ j, j < c.sum.length → (B.drop (c.key.length + 2 + 24 * j + 16)).take 8 = w8 (c.mx.getD j 0)
theorem cel_at (c : CellM) : CelAt c (cellB c) := by
  have h3 : ∀ j, j < c.sum.length → (((List.range c.sum.length).flatMap fun k => w8 (c.sum.getD k 0) ++ w8 (c.mn.getD k 0) ++ w8 (c.mx.getD k 0)).drop (j * 24)).take 24 = w8 (c.sum.getD j 0) ++ w8 (c.mn.getD j 0) ++ w8 (c.mx.getD j 0) := fun j hj => by
    have := flat_piece (l := List.range c.sum.length) (w := 24) (f := fun k => w8 (c.sum.getD k 0) ++ w8 (c.mn.getD k 0) ++ w8 (c.mx.getD k 0)) (fun x _ => three_len _ _ _) j (by simpa using hj)
    rw [List.getElem_range] at this
    exact this
  have hk : (c.key.map byteM).length = c.key.length := List.length_map ..
  have h2l : ∀ x : Int, (w2 x).length = 2 := fun x => rfl
  have hB : ∀ j q, q + 8 ≤ 24 → ((cellB c).drop (c.key.length + 2 + 24 * j + q)).take 8 = (((((List.range c.sum.length).flatMap fun k => w8 (c.sum.getD k 0) ++ w8 (c.mn.getD k 0) ++ w8 (c.mx.getD k 0)).drop (j * 24)).take 24).drop q).take 8 := fun j q hq => by
    unfold cellB
    rw [List.append_assoc, List.drop_append, List.drop_of_length_le (by omega), List.nil_append, hk, List.drop_append, List.drop_of_length_le (by rw [h2l]; omega), List.nil_append, h2l, List.drop_take, List.drop_drop, List.take_take, Nat.min_eq_left (by omega)]
    congr 2
    omega
  refine ⟨fun j hj => ?_, ?_, fun j hj => ?_, fun j hj => ?_, fun j hj => ?_⟩
  · unfold cellB
    rw [List.append_assoc, List.getElem?_append_left (by omega), List.getElem?_map, List.getElem?_eq_getElem hj]
    rfl
  · unfold cellB
    rw [List.append_assoc, List.drop_append, List.drop_of_length_le (by omega), List.nil_append, hk, Nat.sub_self, List.drop_zero, List.take_append_of_le_length (by rw [h2l]; exact Nat.le_refl _), List.take_of_length_le (by rw [h2l]; exact Nat.le_refl _)]
  · have := hB j 0 (by omega)
    rw [Nat.add_zero] at this
    rw [this, h3 j hj, List.drop_zero, List.append_assoc, List.take_append_of_le_length (by rw [w8_len]; exact Nat.le_refl _), List.take_of_length_le (by rw [w8_len]; exact Nat.le_refl _)]
  · rw [hB j 8 (by omega), h3 j hj, List.append_assoc, List.drop_append, List.drop_of_length_le (by rw [w8_len]; exact Nat.le_refl _), List.nil_append, w8_len, List.drop_zero, List.take_append_of_le_length (by rw [w8_len]; exact Nat.le_refl _), List.take_of_length_le (by rw [w8_len]; exact Nat.le_refl _)]
  · rw [hB j 16 (by omega), h3 j hj, List.drop_append, List.drop_of_length_le (by simp [w8_len]), List.nil_append, List.length_append, w8_len, w8_len, List.drop_zero, List.take_of_length_le (by rw [w8_len]; exact Nat.le_refl _)]
end Go.HC

/-
  Cells out of bytes: what both share; levels.
-/
namespace Go.HC
variable {P : Program} {ty : TypeId} {K : Value → Heap → Prop}
/-- One of several slices grows; a block that tells of them is written. -/
theorem grs_step {α : Type} {R : Rp α} {T e by_ n n0 b5 i : Nat} {cs : Array Bool} {M B : Nat → Prop} {h1 : Heap} {l : List (GI α)} {t : GI α} {x : α} {c : List Value} {arr : Array Value} {ob : Obj}
    (hn0 : n0 = h1.size) (hT : ElemT P T e R by_) (gg : Grs R e n M h1 B l) (hi : l[i]? = some t) (hM : ∀ b, M b → b < h1.size) (hr : R.rep (Ft n M h1) h1 c x) (hc : arr.toList = c)
    (hbig : (t.xs.length + 1) * by_ ≤ 140737488355328) (h63 : t.xs.length + 1 < 9223372036854775808) (hB : ∀ b, B b → b < h1.size) (hn : n ≤ h1.size) (hb : h1[b5]? = some ob) (m5 : M b5) (B5 : B b5)
    (hk : ∀ a m c' y N p, y[b5]? = some ob → (∀ o, ∃ z, z = y.setIfInBounds b5 o ∧ Tr M N h1 z ∧ Grs R e n N z B (l.set i ⟨.slice a m c', t.xs ++ [x], p⟩) ∧ z[b5]? = some o ∧ (∀ b, M b → N b) ∧ ∀ b ob', b ≠ b5 → B b → h1[b]? = some ob' → z[b]? = some ob') → K (.slice a m c') y) :
    builtinS P .append #[T, T] ty cs #[t.v, .slice (some ⟨n0, 0, none⟩) 1 1] (h1.push (.cells arr e)) K := by
  refine gr_app1 hn0 hT (gg.at hi) hM hr hc hbig h63 ?_
  intro v' y p g u k ho
  obtain ⟨a, m, c', rfl, _⟩ := g.vals
  have hno : ∀ b, B b → t.o ≠ some b := fun b hb e => ((gg.gr t (List.mem_of_getElem? hi)).2 b e).1 hb
  have hy := k.at hb (hno b5 B5)
  refine hk a m c' y (fun b => M b ∨ p = some b) p hy fun o => ⟨_, rfl, u.set o (.inl m5), ?_, set_same _ (lt_of_blk hy), fun _ h => .inl h, fun b ob' hne hBb hob => (set_other _ (fun e => hne e.symm)).trans (k.at hob (hno b hBb))⟩
  exact (gg.app hi g u k ho hB hn (fun b hb => .inl hb)).wr o (.inl m5) B5
/-- One of several slices grows by what lies somewhere. -/
theorem grs_at {α : Type} {R : Rp α} {T e by_ n e0 i : Nat} {cs : Array Bool} {M B : Nat → Prop} {h1 : Heap} {l : List (GI α)} {t : GI α} {x : α} {c : List Value} {arr : Array Value}
    (he : h1[e0]? = some (.cells arr e (0, 0))) (hT : ElemT P T e R by_) (gg : Grs R e n M h1 B l) (hi : l[i]? = some t) (hM : ∀ b, M b → b < h1.size) (hr : R.rep (Ft n M h1) h1 c x) (hc : arr.toList = c)
    (hbig : (t.xs.length + 1) * by_ ≤ 140737488355328) (h63 : t.xs.length + 1 < 9223372036854775808) (hB : ∀ b, B b → b < h1.size) (hn : n ≤ h1.size)
    (hk : ∀ a m c' y N p, Keep (fun b => t.o = some b) h1 y → Tr M N h1 y → Grs R e n N y B (l.set i ⟨.slice a m c', t.xs ++ [x], p⟩) → (∀ b, M b → N b) → K (.slice a m c') y) :
    builtinS P .append #[T, T] ty cs #[t.v, .slice (some ⟨e0, 0, none⟩) 1 1] h1 K := by
  subst hc
  refine gr_append (F2 := fun b => b = e0) (ys := [x]) (news := arr.toList) hT (gg.at hi) hM rfl (.inr ⟨e0, 0, _, _, _, rfl, rfl, he, by rw [List.drop_zero, List.take_of_length_le (Nat.le_refl _)]⟩) (.single hr) hbig h63 ?_
  intro v' y p g u k ho
  obtain ⟨a, m, c', rfl, _⟩ := g.vals
  exact hk a m c' y (fun b => M b ∨ p = some b) p k u (gg.app hi g u k ho hB hn (fun b hb => .inl hb)) fun b hb => .inl hb
theorem Grs.over {α : Type} {R : Rp α} {e n : Nat} {M M' B S : Nat → Prop} {h h' : Heap} {l : List (GI α)} (g : Grs R e n M h B l) (t : Tr M M' h h') (k : Keep S h h') (hS : ∀ b, S b → b < h.size → B b) (hM : ∀ b, M b → M' b) : Grs R e n M' h' B l :=
  ⟨fun s hs => ⟨(g.gr s hs).1.mono t (Nat.le_refl _) fun b hb => ⟨hM b ((g.gr s hs).1.mu b hb), k.blk b ((g.gr s hs).1.own_lt b hb) fun h1 => ((g.gr s hs).2 b hb).1 (hS b h1 ((g.gr s hs).1.own_lt b hb))⟩, (g.gr s hs).2⟩, g.sep⟩
/-- How many of a set's dimensions stand ahead of one. -/
def cntD (k : Int) (i : Nat) : Nat := ((List.range i).filter (bitM k)).length
theorem cntD_succ (k : Int) (i : Nat) : cntD k (i + 1) = cntD k i + if bitM k i = true then 1 else 0 := by
  unfold cntD
  rw [List.range_succ, List.filter_append, List.length_append, List.filter_cons]
  split <;> simp
theorem cntD_le (k : Int) (i : Nat) : cntD k i ≤ i := by
  unfold cntD
  have := List.length_filter_le (bitM k) (List.range i)
  simpa using this
theorem bit_val (s : Int) (i : Nat) : (s.fdiv (2 ^ i)) % 2 = if bitM s i = true then 1 else 0 := by
  unfold bitM
  split
  · rename_i h; simpa using h
  · rename_i h
    have h : ¬ (s.fdiv (2 ^ i)) % 2 = 1 := by simpa using h
    omega
end Go.HC
namespace Go.Proofs
open Go Go.HC

set_option maxHeartbeats 4000000 in
set_option maxRecDepth 10000 in
theorem rlevel_spec (s : Int) (h : Heap) : CallH Tryz.prog 28 #[.int .i64 s] h fun r h' => r = .int .i64 (dimsM s).length ∧ h' = h := by
  refine callH_by fun K hK => ?_
  refine enter [.tmp 2] Tryz.func28 rfl rfl (by kernel_rfl) rfl ?_
  simp -dsimp
  refine loopc (σ := Nat) (fun i => [(0, .int .i64 s), (3, .int .i64 (cntD s i)), (4, .int .u64 i)])
    (fun i y => y = h ∧ i ≤ 4) (fun i => 4 - i) 0 0 (fun i _ => i = 4) noRet noRet_le (by simp [cntD]) ⟨rfl, Nat.zero_le _⟩ (by kernel_rfl) ?_ ?_
  · rintro i y g ⟨rfl, hi⟩
    by_cases hl : i < 4
    · have hl' : (i : Int) < 4 := by omega
      have wk := wrap_u64s (k := i) (by omega)
      have hsb : intRes .shr .i64 s (i : Int) = some (.int .i64 (s.fdiv (2 ^ i))) := shr_i (by omega)
      have hc := cntD_le s i
      have e := cntD_succ s i
      have wc : IntKind.i64.wrap ((cntD s i : Int) + if bitM s i = true then 1 else 0) = cntD s (i + 1) := by
        rw [e]
        split <;> rw [wrap_i64 (by omega) (by omega)] <;> omega
      simp -dsimp [hl', hsb, bit_val, wc, wk]
      exact ⟨i + 1, by simp, rfl, ⟨rfl, by omega⟩, by show 4 - (i + 1) < 4 - i; omega⟩
    · have hl' : ¬ (i : Int) < 4 := by omega
      simp -dsimp [hl']
      exact ⟨rfl, i, by simp, rfl, ⟨rfl, hi⟩, by show i = 4; omega⟩
  · rintro i y g ⟨rfl, hi⟩ hil
    have hil : i = 4 := hil
    subst hil
    simp -dsimp
    exact hK _ _ ⟨rfl, rfl⟩
end Go.Proofs

/-
  How many bits are set: numbers below 16.
-/
namespace Go.Proofs
open Go Go.HC

set_option maxHeartbeats 4000000 in
set_option maxRecDepth 10000 in
theorem ones64_spec (x : Fin 16) (h : Heap) : CallH Tryz.prog 157 #[.int .u64 (x.val : Int)] h fun r h' => r = .int .i64 (dimsM (x.val : Int)).length ∧ h' = h := by
  refine callH_by fun K hK => ?_
  refine enter [.tmp 2] Tryz.func157 rfl rfl (by kernel_rfl) rfl ?_
  simp -dsimp
  refine hK _ _ ⟨congrArg (Value.int .i64) ?_, rfl⟩
  clear hK
  revert x
  decide +kernel

set_option maxHeartbeats 4000000 in
set_option maxRecDepth 10000 in
theorem ones_spec {k : Int} (h0 : 0 ≤ k) (hk : k < 16) (h : Heap) : CallH Tryz.prog 126 #[.int .u64 k] h fun r h' => r = .int .i64 (dimsM k).length ∧ h' = h := by
  obtain ⟨x, rfl⟩ : ∃ x : Fin 16, k = (x.val : Int) := ⟨⟨k.toNat, by omega⟩, by simp; omega⟩
  refine callH_by fun K hK => ?_
  refine enter [.tmp 2] Tryz.func126 rfl rfl (by kernel_rfl) rfl ?_
  simp -dsimp
  refine call_by (ones64_spec x h) ?_
  rintro _ h1 ⟨rfl, hh⟩
  subst h1
  simp -dsimp
  exact hK _ _ ⟨rfl, rfl⟩
end Go.Proofs

/-
  The program's sets of dimensions, in their order.
-/
namespace Go.HC
def levK (k : Int) : Nat := (dimsM k).length
def swapL (l : List Int) (j : Nat) : List Int := (l.set (j + 1) (l.getD j 0)).set j (l.getD (j + 1) 0)
/-- One is moved ahead, past those of lower level. -/
def bubL (l : List Int) : Nat → List Int
  | 0 => l
  | j + 1 => if levK (l.getD j 0) < levK (l.getD (j + 1) 0) then bubL (swapL l j) j else l
def insL (l : List Int) : Nat → List Int
  | 0 => l
  | i + 1 => bubL (insL l i) (i + 1)
theorem swapL_len (l : List Int) (j : Nat) : (swapL l j).length = l.length := by simp [swapL]
theorem bubL_len : ∀ (j : Nat) (l : List Int), (bubL l j).length = l.length
  | 0, _ => rfl
  | j + 1, l => by
    rw [bubL]
    split
    · rw [bubL_len j, swapL_len]
    · rfl
theorem insL_len (l : List Int) : ∀ i, (insL l i).length = l.length
  | 0 => rfl
  | i + 1 => by rw [insL, bubL_len, insL_len l i]
def InL (l : List Int) : Prop := ∀ x ∈ l, 0 ≤ x ∧ x < 16
theorem swapL_in {l : List Int} {j : Nat} (h : InL l) (hj : j + 1 < l.length) : InL (swapL l j) := by
  intro x hx
  have g : ∀ i, i < l.length → 0 ≤ l.getD i 0 ∧ l.getD i 0 < 16 := fun i hi => by
    rw [List.getD_eq_getElem?_getD, List.getElem?_eq_getElem hi]
    exact h _ (List.getElem_mem hi)
  unfold swapL at hx
  rcases List.mem_or_eq_of_mem_set hx with hx | rfl
  · rcases List.mem_or_eq_of_mem_set hx with hx | rfl
    · exact h x hx
    · exact g _ (by omega)
  · exact g _ (by omega)
theorem bubL_in : ∀ (j : Nat) {l : List Int}, InL l → j < l.length → InL (bubL l j)
  | 0, _, h, _ => h
  | j + 1, l, h, hj => by
    rw [bubL]
    split
    · exact bubL_in j (swapL_in h hj) (by rw [swapL_len]; omega)
    · exact h
theorem insL_in {l : List Int} (h : InL l) : ∀ i, i < l.length → InL (insL l i)
  | 0, _ => h
  | i + 1, hi => bubL_in (i + 1) (insL_in h i (by omega)) (by rw [insL_len]; exact hi)
/-- All sets of so many dimensions. -/
def numsL (n : Nat) : List Int := (List.range n).map fun (i : Nat) => (i : Int)
def setsL (d : Nat) : List Int := insL (numsL (2 ^ d)) (2 ^ d - 1)
theorem numsL_in {d : Nat} (hd : d ≤ 4) : InL (numsL (2 ^ d)) := by
  intro x hx
  obtain ⟨i, hi, rfl⟩ := List.mem_map.1 hx
  have := List.mem_range.1 hi
  have : 2 ^ d ≤ 2 ^ 4 := Nat.pow_le_pow_right (by decide) hd
  omega
theorem numsL_len (n : Nat) : (numsL n).length = n := by simp [numsL]
theorem Grow.ints_own {e : TypeId} {F : Nat → Prop} {h : Heap} {v : Value} {xs : List Int} {own : Option Nat} (hg : Grow rInt e F h v xs own) : Grow rInt e none_ h v xs own := by
  rcases hg with h0 | ⟨bk, c, arr, cs, h0, h1, h2, h3, h4, h5, h6, h7, h8⟩
  · exact .inl h0
  · exact .inr ⟨bk, c, arr, cs, h0, h1, h2, (fun h => h), h4, h5, h6, h7, ints_map.2 (ints_map.1 h8)⟩
end Go.HC
namespace Go.Proofs
open Go Go.HC

set_option maxRecDepth 10000 in
theorem plevel_spec {k : Int} (h0 : 0 ≤ k) (hk : k < 16) (h : Heap) : CallH Tryz.prog 120 #[.int .i64 k] h fun r h' => r = .int .i64 (levK k) ∧ h' = h := by
  refine callH_by fun K hK => ?_
  refine enter [.tmp 2] Tryz.func120 rfl rfl (by kernel_rfl) rfl ?_
  have wu : IntKind.u64.wrap k = k := by simp [IntKind.wrap, IntKind.bits, IntKind.signed]; omega
  simp -dsimp [wu]
  refine call_by (ones_spec h0 hk h) ?_
  rintro _ y ⟨rfl, hh⟩
  subst y
  simp -dsimp
  exact hK _ _ ⟨rfl, rfl⟩

set_option maxRecDepth 10000 in
theorem before_spec {a b : Int} (ha : 0 ≤ a ∧ a < 16) (hb : 0 ≤ b ∧ b < 16) (h : Heap) : CallH Tryz.prog 118 #[.int .i64 a, .int .i64 b] h fun r h' => (∃ c : Int, r = .int .i64 c ∧ (c < 0 ↔ levK b < levK a)) ∧ h' = h := by
  refine callH_by fun K hK => ?_
  refine enter [.tmp 4] Tryz.func118 rfl rfl (by kernel_rfl) rfl ?_
  simp -dsimp
  refine call_by (plevel_spec hb.1 hb.2 h) ?_
  rintro _ y ⟨rfl, hh⟩
  subst y
  simp -dsimp
  refine call_by (plevel_spec ha.1 ha.2 h) ?_
  rintro _ y ⟨rfl, hh⟩
  subst y
  simp -dsimp
  refine call_by (cmpInt_spec _ _ h) ?_
  rintro _ y ⟨rfl, hh⟩
  subst y
  simp -dsimp
  refine hK _ _ ⟨⟨_, rfl, ?_⟩, rfl⟩
  split
  · omega
  · split <;> omega

set_option maxHeartbeats 4000000 in
set_option maxRecDepth 10000 in
theorem insort_spec {h : Heap} {v : Value} {l : List Int} {own : Option Nat} (g : Grow rInt 3 none_ h v l own) (hl : 0 < l.length) (hin : InL l) (hn : l.length < 1000) :
    CallH Tryz.prog 171 #[v, .int .i64 0, .int .i64 l.length, .func (.func 118) #[] #[]] h fun r h' => r = .tuple #[] ∧ Grow rInt 3 none_ h' v (insL l (l.length - 1)) own ∧ Keep (fun b => own = some b) h h' := by
  refine callH_by fun K hK => ?_
  refine enter [] Tryz.func171 rfl rfl (by kernel_rfl) rfl ?_
  obtain ⟨a0, c0, rfl⟩ := g.val
  simp -dsimp
  refine loopc (σ := Nat) (fun i => [(0, .slice a0 l.length c0), (1, .int .i64 0), (2, .int .i64 l.length), (3, .func (.func 118) #[] #[]), (8, .int .i64 i)])
    (fun i y => 1 ≤ i ∧ i ≤ l.length ∧ Grow rInt 3 none_ y (.slice a0 l.length c0) (insL l (i - 1)) own ∧ Keep (fun b => own = some b) h y) (fun i => l.length - i) 1 0 (fun i _ => i = l.length) noRet noRet_le (by simp) ⟨Nat.le_refl _, hl, g, .refl _ _⟩ (by kernel_rfl) ?_ ?_
  case refine_1 =>
    rintro i y g0 ⟨h1, hi, gy, ky⟩
    by_cases hil : i < l.length
    · have wi := wrap_succ (k := i) (by omega)
      simp -dsimp [hil]
      refine loopc (σ := Nat) (fun j => [(0, .slice a0 l.length c0), (1, .int .i64 0), (2, .int .i64 l.length), (3, .func (.func 118) #[] #[]), (8, .int .i64 i), (9, .int .i64 j)])
        (fun j z => j ≤ i ∧ ∃ m, m.length = l.length ∧ InL m ∧ bubL m j = insL l i ∧ Grow rInt 3 none_ z (.slice a0 l.length c0) m own ∧ Keep (fun b => own = some b) h z) (fun j => j) i 2 (fun j z => Grow rInt 3 none_ z (.slice a0 l.length c0) (insL l i) own) noRet noRet_le (by simp)
        ⟨Nat.le_refl _, insL l (i - 1), insL_len _ _, insL_in hin _ (by omega), by obtain ⟨p, rfl⟩ : ∃ p, i = p + 1 := ⟨i - 1, by omega⟩; rfl, gy, ky⟩ (by kernel_rfl) ?_ ?_
      case refine_1 =>
        rintro j z g1 ⟨hj, m, hm, him, hb, gz, kz⟩
        cases j with
        | zero =>
          simp -dsimp
          refine drawn_by [⟨0, true, []⟩, ⟨1, true, []⟩, ⟨2, true, []⟩, ⟨3, true, []⟩, ⟨4, true, []⟩, ⟨5, true, []⟩, ⟨6, true, []⟩, ⟨7, true, []⟩, ⟨8, true, []⟩, ⟨9, true, []⟩, ⟨10, true, []⟩, ⟨11, true, []⟩, ⟨12, true, []⟩, ⟨13, true, []⟩, ⟨14, false, []⟩, ⟨15, true, []⟩, ⟨16, true, []⟩] (by kernel_rfl) (by kernel_rfl) ?_
          simp -dsimp
          exact ⟨rfl, 0, by simp, rfl, ⟨⟨hj, m, hm, him, hb, gz, kz⟩, by rw [← hb]; exact gz⟩⟩
        | succ j =>
          have hj0 : (0 : Int) < ((j + 1 : Nat) : Int) := by omega
          have hjm1 : j + 1 < m.length := by omega
          have hjm : j < m.length := by omega
          have w1 : IntKind.i64.wrap (((j + 1 : Nat) : Int) - 1) = (j : Int) := by rw [wrap_i64 (by omega) (by omega)]; omega
          have w1' : IntKind.i64.wrap ((j : Int) + 1 - 1) = (j : Int) := by rw [wrap_i64 (by omega) (by omega)]; omega
          obtain ⟨bk, cs1, eva, eown, e1, hc1⟩ := gz.elem (j + 1) hjm1
          obtain ⟨bk2, cs2, eva2, _, e2, hc2⟩ := gz.elem j hjm
          subst eva
          cases eva2
          have e1 : cs1 = [.int .i64 m[j + 1]] := e1
          have e2 : cs2 = [.int .i64 m[j]] := e2
          subst e1 e2
          have c1 : HC.cellIn z[bk]? (j + 1) = some (.int .i64 m[j + 1]) := by
            have := cellsIn_cell (d := 0) hc1 (by decide)
            simpa [rInt] using this
          have c2 : HC.cellIn z[bk]? j = some (.int .i64 m[j]) := by
            have := cellsIn_cell (d := 0) hc2 (by decide)
            simpa [rInt] using this
          have i1 : j + 1 < l.length := by omega
          have i2 : j < l.length := by omega
          have ix1 : ∀ sz ar, idxV sz ar (.slice (some ⟨bk, 0, none⟩) l.length c0) (.int .i64 ((j : Int) + 1)) = sz.map fun s => .pointer (some ⟨bk, 0 + (j + 1) * s, none⟩) := fun sz ar =>
            idxV_nat (sz := sz) (ar := ar) (bk := bk) (off := 0) (n := l.length) (c := c0) (i := j + 1) (k := .i64) i1
          have gd1 : m.getD (j + 1) 0 = m[j + 1] := by rw [List.getD_eq_getElem?_getD, List.getElem?_eq_getElem hjm1]; rfl
          have gd2 : m.getD j 0 = m[j] := by rw [List.getD_eq_getElem?_getD, List.getElem?_eq_getElem hjm]; rfl
          simp -dsimp
          refine drawn_by [⟨0, true, []⟩, ⟨1, true, []⟩, ⟨2, true, []⟩, ⟨3, true, []⟩, ⟨4, true, []⟩, ⟨5, true, []⟩, ⟨6, true, []⟩, ⟨7, true, []⟩, ⟨8, true, []⟩, ⟨9, true, []⟩, ⟨10, true, []⟩, ⟨11, true, []⟩, ⟨12, true, []⟩, ⟨13, true, []⟩, ⟨14, false, []⟩, ⟨15, true, []⟩, ⟨16, true, []⟩] (by kernel_rfl) (by kernel_rfl) ?_
          have wj0 : IntKind.i64.wrap (j : Int) = (j : Int) := wrap_i64 (by omega) (by omega)
          simp -dsimp [wj0, ix1, idxV_nat i2, elSz_eq, c1, c2]
          refine call_by (before_spec (him _ (List.getElem_mem hjm1)) (him _ (List.getElem_mem hjm)) z) ?_
          rintro _ z2 ⟨⟨cc, rfl, hcc⟩, hh⟩
          subst z2
          rw [bubL, gd1, gd2] at hb
          by_cases hlev : levK m[j] < levK m[j + 1]
          · have hcn : cc < 0 := hcc.2 hlev
            rw [if_pos hlev] at hb
            simp -dsimp [hcn, wj0, ix1, idxV_nat i2, elSz_eq, c1, c2, again_cons]
            refine drawn_by [⟨0, true, []⟩, ⟨1, true, []⟩, ⟨2, true, []⟩, ⟨3, true, []⟩, ⟨4, true, []⟩, ⟨5, true, []⟩, ⟨6, true, []⟩, ⟨7, true, []⟩, ⟨8, true, []⟩, ⟨9, true, []⟩, ⟨10, true, []⟩, ⟨11, true, []⟩, ⟨12, true, []⟩, ⟨13, true, []⟩, ⟨14, true, []⟩, ⟨15, false, [2, 3, 4]⟩, ⟨16, true, []⟩, ⟨17, false, []⟩] (by kernel_rfl) (by kernel_rfl) ?_
            obtain ⟨bk', c', o1, e1, e2, hw1, gz1⟩ := gz.setE (i := j + 1) (x := m[j]) (news := [.int .i64 m[j]]) hjm1 rfl
            rw [hm] at e1
            cases e1
            rw [eown] at e2
            cases e2
            obtain ⟨bk'', c'', o2, e3, e4, hw2, gz2⟩ := gz1.setE (i := j) (x := m[j + 1]) (news := [.int .i64 m[j + 1]]) (by rw [List.length_set]; exact hjm) rfl
            rw [List.length_set, hm] at e3
            cases e3
            rw [eown] at e4
            cases e4
            have hw1' : writeIn z[bk]? (j + 1) [.int .i64 m[j]] = some o1 := by simpa [rInt] using hw1
            have hw2' : writeIn (z.setIfInBounds bk o1)[bk]? j [.int .i64 m[j + 1]] = some o2 := by simpa [rInt] using hw2
            simp -dsimp [wj0, ix1, idxV_nat i2, elSz_eq, c1, c2, hw1', hw2', again_cons]
            rw [Array.setIfInBounds_setIfInBounds] at gz2
            have e5 : (m.set (j + 1) m[j]).set j m[j + 1] = swapL m j := by unfold swapL; rw [gd1, gd2]
            rw [e5] at gz2
            exact ⟨j, by simp, rfl, ⟨by omega, swapL m j, by rw [swapL_len]; exact hm, swapL_in him hjm1, hb, gz2, kz.setted _ fun _ => eown⟩, by show j < j + 1; omega⟩
          · have hcn : ¬ cc < 0 := fun e => hlev (hcc.1 e)
            rw [if_neg hlev] at hb
            simp -dsimp [hcn]
            exact ⟨rfl, j + 1, by simp, rfl, ⟨⟨hj, m, hm, him, by rw [bubL, gd1, gd2, if_neg hlev]; exact hb, gz, kz⟩, by rw [← hb]; exact gz⟩⟩
      rintro j z g1 ⟨hj, m, hm, him, hb, gz, kz⟩ hq
      simp -dsimp [wi]
      exact ⟨i + 1, by simp, rfl, ⟨by omega, hil, by rw [Nat.add_sub_cancel]; exact hq, kz⟩, by show l.length - (i + 1) < l.length - i; omega⟩
    · simp -dsimp [hil]
      exact ⟨rfl, i, by simp, rfl, ⟨h1, hi, gy, ky⟩, by show i = _; omega⟩
  rintro i y g0 ⟨h1, hi, gy, ky⟩ hil
  have hil : i = l.length := hil
  subst hil
  simp -dsimp
  exact hK _ _ ⟨rfl, gy, ky⟩

set_option maxHeartbeats 4000000 in
set_option maxRecDepth 10000 in
theorem stable_spec {h : Heap} {v : Value} {l : List Int} {own : Option Nat} (g : Grow rInt 3 none_ h v l own) (hl : 0 < l.length) (hin : InL l) (hn : l.length < 20) :
    CallH Tryz.prog 117 #[v, .func (.func 118) #[] #[]] h fun r h' => r = .tuple #[] ∧ Grow rInt 3 none_ h' v (insL l (l.length - 1)) own ∧ Keep (fun b => own = some b) h h' := by
  refine callH_by fun K hK => ?_
  refine enter [] Tryz.func117 rfl rfl (by kernel_rfl) rfl ?_
  obtain ⟨a0, c0, rfl⟩ := g.val
  simp -dsimp
  refine call_by (K' := fun r h' => r = .tuple #[] ∧ Grow rInt 3 none_ h' (.slice a0 l.length c0) (insL l (l.length - 1)) own ∧ Keep (fun b => own = some b) h h') ?_ ?_
  · refine callH_by fun K hK => ?_
    refine enter [] Tryz.func142 rfl rfl (by kernel_rfl) rfl ?_
    have q1 : ¬ (20 : Int) ≤ l.length := by omega
    have q1' : decide ((20 : Int) ≤ (l.length : Int)) = false := decide_eq_false q1
    have q2' : decide ((20 : Int) < (l.length : Int)) = false := decide_eq_false (by omega)
    simp -dsimp
    refine loopc (σ := Unit) (fun _ => [(0, .slice a0 l.length c0), (1, .int .i64 l.length), (2, .func (.func 118) #[] #[]), (6, .int .i64 20), (7, .int .i64 0), (8, .int .i64 20)])
      (fun _ y => y = h) (fun _ => 0) () 0 (fun _ _ => True) noRet noRet_le (by simp) rfl (by kernel_rfl) ?_ ?_
    · rintro _ y g0 rfl
      simp -dsimp [q1']
      exact ⟨rfl, (), by simp, rfl, rfl, trivial⟩
    rintro _ y g0 rfl _
    simp -dsimp
    refine call_by (insort_spec g hl hin (by omega)) ?_
    rintro _ z ⟨rfl, gz, kz⟩
    simp -dsimp
    refine loopc (σ := Unit) (fun _ => [(0, .slice a0 l.length c0), (1, .int .i64 l.length), (2, .func (.func 118) #[] #[]), (6, .int .i64 20)])
      (fun _ y => y = z) (fun _ => 0) () 2 (fun _ _ => True) noRet noRet_le (by simp) rfl (by kernel_rfl) ?_ ?_
    · rintro _ y' g0 rfl
      simp -dsimp [q2']
      exact ⟨rfl, (), by simp, rfl, rfl, trivial⟩
    rintro _ y' g0 rfl _
    simp -dsimp
    exact hK _ _ ⟨rfl, gz, kz⟩
  rintro _ z ⟨rfl, gz, kz⟩
  simp -dsimp
  exact hK _ _ ⟨rfl, gz, kz⟩

set_option maxRecDepth 10000 in
theorem below_iter {h0 : Heap} {bx n : Nat} {fz : Nat × Nat} (hbx : h0[bx]? = some (.cells #[.int .i64 n] 3 fz)) (hn : n < 1000) :
    IterM Tryz.prog 141 #[] #[.pointer (some ⟨bx, 0, none⟩)] (fun i : Nat => #[.int .i64 (i : Int)]) (fun xs i _ _ => xs = List.range i ∧ i < n) (fun xs => xs = List.range n) (fun b => b = bx) h0 := by
  intro y J M0 h ⟨yf, yu, yv', hyf⟩ hy hJ hsz hFp
  subst hyf
  have hlt := lt_of_blk hbx
  obtain ⟨_, hMb, hbe⟩ := hFp bx rfl
  have hbx' := hbe.trans hbx
  refine callH_by fun K hK => ?_
  refine enter [] Tryz.func141 rfl rfl (by kernel_rfl) rfl ?_
  simp -dsimp [hbx']
  refine loopc (σ := Nat) (fun i => [(0, .func yf yu yv'), (4, .int .i64 n), (5, .int .i64 i)]) (fun i h1 => i ≤ n ∧ ∃ M, J (List.range i) M h1 ∧ Tr M0 M h h1) (fun i => n - i) 0 0 (fun i _ => i = n) noRet noRet_le (by simp)
    ⟨by omega, M0, hJ, ⟨.refl _ _, fun _ h => .inl h, fun b hb => hy.lt hJ b hb⟩⟩ (by kernel_rfl) ?_ ?_
  · rintro i h1 g ⟨hi, M, hJ1, t⟩
    by_cases hl : i < n
    · have wk := wrap_succ (k := i) (by omega)
      simp -dsimp [hl]
      refine callV_by (hy.step (x := i) hJ1 ⟨rfl, hl⟩) ?_
      rintro _ h2 ⟨rfl, M', hJ2, t2⟩
      simp -dsimp [wk]
      exact ⟨i + 1, by simp, rfl, ⟨by omega, M', by rw [List.range_succ]; exact hJ2, t.trans t2⟩, by show n - (i + 1) < n - i; omega⟩
    · simp -dsimp [hl]
      exact ⟨rfl, i, by simp, rfl, ⟨hi, M, hJ1, t⟩, by show i = n; omega⟩
  · rintro i h1 g ⟨hi, M, hJ1, t⟩ rfl
    simp -dsimp
    exact hK _ _ ⟨_, M, rfl, hJ1, t⟩

theorem numsL_snoc (i : Nat) : numsL (i + 1) = numsL i ++ [(i : Int)] := by
  unfold numsL
  rw [List.range_succ, List.map_append]
  rfl

set_option maxHeartbeats 4000000 in
set_option maxRecDepth 10000 in
theorem collectI_spec {h : Heap} {bx n : Nat} {fz : Nat × Nat} (hbx : h[bx]? = some (.cells #[.int .i64 n] 3 fz)) (hn : n < 1000) :
    CallH Tryz.prog 114 #[.func (.func 141) #[] #[.pointer (some ⟨bx, 0, none⟩)]] h fun r h' => ∃ own, Grow rInt 3 none_ h' r (numsL n) own ∧ Keep none_ h h' ∧ ∀ b, own = some b → h.size ≤ b := by
  refine callH_by fun K hK => ?_
  refine enter [.tmp 2] Tryz.func114 rfl rfl (by kernel_rfl) rfl ?_
  simp -dsimp
  refine call_by (K' := fun r h' => ∃ own, Grow rInt 3 none_ h' r (numsL n) own ∧ Keep none_ h h' ∧ ∀ b, own = some b → h.size ≤ b) ?_ ?_
  · refine callH_by fun K hK => ?_
    refine enter [.tmp 4] Tryz.func140 rfl rfl (by kernel_rfl) rfl ?_
    simp -dsimp [boxS_eq]
    generalize hB : Array.push h _ = h1
    have k1 : Keep none_ h h1 := by rw [← hB]; exact .push _ _ _
    have hz1 : h1.size = h.size + 1 := by rw [← hB]; simp
    have hO : h1[h.size]? = some (.cells #[.slice none 0 0] 22 (0, 0)) := by rw [← hB]; exact push_new _ _
    have hbl := lt_of_blk hbx
    obtain ⟨I, hI⟩ : ∃ I : List Nat → (Nat → Prop) → Heap → Prop, ∀ xs M h', I xs M h' ↔ (M h.size ∧ (∀ b, M b → b < h'.size) ∧ xs.length ≤ n ∧ ∃ v own, h'[h.size]? = some (.cells #[v] 22 (0, 0)) ∧
        Gr rInt 3 h.size M h' v (numsL xs.length) own ∧ ∀ bk, own = some bk → h1.size + 2 ≤ bk) := ⟨_, fun _ _ _ => Iff.rfl⟩
    refine range_m (val := fun i : Nat => #[.int .i64 (i : Int)]) (first := #[]) (by simp) (by simp) (below_iter (k1.at hbx (fun h => h)) hn) I
      ?_ ?_ (fun b => b = h.size) ?_ ?_ (by kernel_rfl) (by kernel_rfl) (fun _ => rfl) (by intro p hp; simp at hp; subst hp; decide) ?_ ?_
    · exact fun hi => ((hI _ _ _).1 hi).2.1
    · intro xs M h4 h5 hi m1 m2 k
      obtain ⟨hM, hlt, hx, v, own, w1, g, ho⟩ := (hI _ _ _).1 hi
      exact (hI _ _ _).2 ⟨hM, fun b hb => Nat.lt_of_lt_of_le (hlt b hb) k.size, hx, v, own, k.at w1 (by omega), g.lp hlt m2 (fun e => by have := ho _ e; omega) k, ho⟩
    · rintro b rfl
      exact ⟨by omega, by omega⟩
    · intro h4 k4 hz4
      exact (hI _ _ _).2 ⟨.inl rfl, by omega, Nat.zero_le _, _, none, k4.at hO (fun h => h), .nil _ _ _ _ _, fun b hb => by cases hb⟩
    · rintro xs i M h4 hi4 ⟨hxs, hin⟩ hz4 m1 m2 t
      obtain ⟨hM, hlt, hx, v, own, w1, g, ho⟩ := (hI _ _ _).1 hi4
      have hxl : xs.length = i := by rw [hxs]; simp
      simp -dsimp
      refine ⟨.refl _ _, fun h6 k6 hz6 => ?_⟩
      have l4 := lt_of_blk w1
      have t46 : Tr M M h4 h6 := .lp hlt m2 k6
      have g6 := g.lp hlt m2 (fun e => by have := ho _ e; omega) k6
      have w6 := k6.at w1 (by omega)
      obtain ⟨va, vn, vc, rfl, hvn⟩ := g6.vals
      have hnl := numsL_len xs.length
      simp -dsimp [w6]
      refine gr_app1 (x := (i : Int)) rfl intT g6 t46.lt rfl rfl (by omega) (by omega) ?_
      intro v' h7 own' g7 t7 k7 ho7
      have w7 := k7.at w6 (fun e => by have := ho _ e; omega)
      have ho7' : ∀ b, own' = some b → h1.size + 2 ≤ b := fun b e => (ho7 _ e).elim (ho b) (by omega)
      obtain ⟨va', vn', vc', rfl, hvn'⟩ := g7.vals
      have hl7 := lt_of_blk w7
      simp -dsimp [w7]
      have t8 := (t46.trans t7).set (.cells #[.slice va' vn' vc'] 22) (.inl hM)
      refine ⟨_, (hI _ _ _).2 ⟨.inl hM, t8.lt, by simp; omega, _, own', set_same _ hl7, ?_, ho7'⟩, t8, .inl m1, .inl m2, (set_other _ (by omega)).trans (k7.blk _ (by omega) fun e => by have := ho _ e; omega), (set_other _ (by omega)).trans (k7.blk _ (by omega) fun e => by have := ho _ e; omega)⟩
      rw [List.length_append, List.length_singleton, numsL_snoc]
      rw [← hxl] at g7
      exact g7.set _ (.inl hM) (fun e => by have := ho7' _ e; omega)
    · rintro xs M h4 hxl hi4 hdm hz4 m1 m2 t
      obtain ⟨hM, hlt, hx, v, own, w1, g, ho⟩ := (hI _ _ _).1 hi4
      have T4 := Tr.from_ k1 t (fun b hb => by omega)
      have hxl' : xs.length = n := by rw [hxl]; simp
      rw [hxl'] at g
      obtain ⟨va, vn, vc, rfl, hvn⟩ := g.vals
      simp -dsimp [w1]
      rw [takeS_cons hdm]
      simp -dsimp
      have u := T4.set (.deferred none) m1
      exact hK _ _ ⟨own, Grow.ints_own (g.set _ m1 (fun e => by have := ho _ e; omega)).grow, u.keep, fun b hb => by have := ho b hb; omega⟩
  rintro v z ⟨own, gz, kz, ho⟩
  obtain ⟨va, vc, rfl⟩ := gz.val
  simp -dsimp
  exact hK _ _ ⟨own, gz, kz, ho⟩

set_option maxHeartbeats 4000000 in
set_option maxRecDepth 10000 in
theorem psets_spec {d : Nat} (hd : d ≤ 4) (h : Heap) : CallH Tryz.prog 82 #[.int .i64 d] h fun r h' => ∃ own, Grow rInt 3 none_ h' r (setsL d) own ∧ Keep none_ h h' ∧ ∀ b, own = some b → h.size ≤ b := by
  refine callH_by fun K hK => ?_
  refine enter [.tmp 2] Tryz.func82 rfl rfl (by kernel_rfl) rfl ?_
  have hp : 2 ^ d ≤ 2 ^ 4 := Nat.pow_le_pow_right (by decide) hd
  have hp0 : 0 < 2 ^ d := Nat.pow_pos (by decide)
  simp -dsimp
  refine call_by (K' := fun r h' => r = .int .i64 ((2 ^ d : Nat) : Int) ∧ h' = h) ?_ ?_
  · refine callH_by fun K hK => ?_
    refine enter [.tmp 2] Tryz.func116 rfl rfl (by kernel_rfl) rfl ?_
    have e1 : max (d : Int) 0 = d := by omega
    have e2 : min (d : Int) 4 = d := by omega
    have e3 : intRes .shl .i64 1 (d : Int) = some (.int .i64 ((2 ^ d : Nat) : Int)) := by
      have h2 : min ((d : Int).toNat) IntKind.i64.bits = d := by
        show min ((d : Int).toNat) 64 = d
        omega
      have h3 : (2 : Int) ^ d ≤ 2 ^ 4 := pow2_le hd
      have h4 := pow2_pos d
      have h5 : (2 : Int) ^ 4 = 16 := by decide
      rw [intRes_shl _ _ _ (by omega), h2, Int.one_mul, wrap_i64 (by omega) (by omega), Int.natCast_pow]
      rfl
    simp -dsimp [-intRes_shl, e1, e2, e3]
    exact hK _ _ ⟨by rw [Int.natCast_pow]; rfl, rfl⟩
  rintro _ y ⟨rfl, hh⟩
  subst y
  simp -dsimp
  refine call_by (K' := fun r h' => r = .func (.func 141) #[] #[.pointer (some ⟨h.size, 0, none⟩)] ∧ h' = h.push (.cells #[.int .i64 ((2 ^ d : Nat) : Int)] 3)) ?_ ?_
  · refine callH_by fun K hK => ?_
    refine enter [.tmp 2] Tryz.func115 rfl rfl (by kernel_rfl) rfl ?_
    simp -dsimp [boxS_eq]
    exact hK _ _ ⟨rfl, by simp⟩
  rintro _ h1 ⟨rfl, e1⟩
  have k1 : Keep none_ h h1 := by rw [e1]; exact .push _ _ _
  have z1 : h1.size = h.size + 1 := by rw [e1]; simp
  have w1 : h1[h.size]? = some (.cells #[.int .i64 ((2 ^ d : Nat) : Int)] 3 (0, 0)) := by rw [e1]; exact push_new _ _
  clear e1
  simp -dsimp
  refine call_by (collectI_spec w1 (by omega)) ?_
  rintro v h2 ⟨own2, g2, k2, ho2⟩
  have hnl := numsL_len (2 ^ d)
  have g2' := g2
  obtain ⟨va, vc, rfl⟩ := g2.val
  rw [hnl] at g2 ⊢
  simp -dsimp
  refine call_by (stable_spec g2 (by omega) (numsL_in hd) (by omega)) ?_
  rintro _ h3 ⟨rfl, g3, k3⟩
  rw [hnl] at g3
  simp -dsimp
  refine call_by (cloneInt_spec (F := fun b => own2 = some b) (by exact g3.rep.mono fun b hb => ⟨hb.elim (fun h => h.elim) id, rfl⟩) (fun b hb => by have := g3.own_lt b hb; exact this) (by rw [insL_len]; omega)) ?_
  rintro v4 h4 ⟨own4, g4, k4, ho4⟩
  obtain ⟨va4, vc4, rfl⟩ := g4.val
  simp -dsimp
  have s2 := k2.size
  have s3 := k3.size
  refine hK _ _ ⟨own4, g4, ⟨by have := k4.size; omega, fun b hb _ => ?_⟩, fun b e => by have := ho4 b e; omega⟩
  rw [k4.blk b (by omega) (fun h => h), k3.blk b (by omega) (fun e => by have := ho2 b e; omega), k2.blk b (by omega) (fun h => h), k1.blk b hb (fun h => h)]
end Go.Proofs

/-
  The bridge from a contract on heaps to a row: what an argument that is a slice of numbers is, in memory.
-/
namespace Go.HC
open Go.ChangeShapes Go.WideShapes Go.ChangeAt Go.RowKit

theorem cells_of {w : World} {a : Addr} {vs : List Value} (hc : ∀ i (hi : i < vs.length), w.cell? (a.add i) = some vs[i]) : Cells (fun b => b < w.heap.size) w.heap (some a) vs := by
  by_cases hne : vs = []
  · exact .inl hne
  · have hpos : 0 < vs.length := List.length_pos_iff.2 hne
    obtain ⟨bk, off, spot⟩ := a
    have h0 := hc 0 hpos
    rw [cellH_eq] at h0
    unfold cellH at h0
    simp only [Addr.add, if_true] at h0
    cases hb : w.heap[bk]? with
    | none => rw [hb] at h0; cases h0
    | some o =>
      rw [hb] at h0
      cases o with
      | cells c e fz =>
        simp only at h0
        have hsp : spot = none := by
          cases spot with
          | none => rfl
          | some s => simp at h0
        subst hsp
        refine .inr ⟨bk, off, c, e, fz, rfl, lt_of_blk hb, hb, ?_⟩
        apply List.ext_getElem?
        intro i
        by_cases hi : i < vs.length
        · have h1 := hc i hi
          rw [cellH_eq] at h1
          unfold cellH at h1
          rw [add_mk] at h1
          simp only [hb, Option.isSome_none, Bool.false_eq_true, if_false] at h1
          rw [List.getElem?_take, if_pos hi, List.getElem?_drop, Array.getElem?_toList, h1, List.getElem?_eq_getElem hi]
        · rw [List.getElem?_take, if_neg hi, List.getElem?_eq_none (by omega)]
      | _ => cases h0

variable {H : Type} {enc : TypeId × Value → H} {P : Program} {W : World} {base : Nat}
theorem open_rep {t e : TypeId} {k : IntKind} {v : Value} {d : DataW H} {p : List MemPlace} (ht : P.underlying t = some (.slice e)) (he : P.underlying e = some (.int k)) (hc : P.cellsOf e = 1)
    (hval : Value.okWide P W .any base t v) (hd : DataW.Trod enc P W 0 (fun _ => true) true t v d p) :
    ∃ (a : Option Addr) (n c : Nat) (zs : List Int), v = .slice a n c ∧ zs.length = n ∧ n ≤ c ∧ c < 9223372036854775808 ∧ Cells (fun b => b < W.heap.size) W.heap a (zs.map (.int k)) ∧ ∀ z ∈ zs, (Lit.int k z).wf = true := by
  obtain ⟨a0, len, cap, rfl⟩ := okWide_slice ht hval
  obtain ⟨fuel, hf⟩ := hd
  rcases open_ints ht he hc hf with ⟨hcs, hx⟩ | ⟨a, len', cap', zs, hcs, _, hl, hm, hz, hx, hcell, hwz⟩
  · simp [Value.cells] at hcs
    obtain ⟨rfl, rfl, rfl⟩ := hcs
    exact ⟨none, 0, 0, [], rfl, rfl, Nat.le_refl _, by decide, .inl rfl, by simp⟩
  · simp [Value.cells] at hcs
    obtain ⟨rfl, rfl, rfl⟩ := hcs
    simp only [if_true] at hz
    have hm' : maxLen = 9223372036854775807 := rfl
    refine ⟨some a, len, cap, zs.take len, rfl, by simp; omega, hl, by omega, cells_of fun i hi => ?_, fun z hz => hwz z (List.mem_of_mem_take hz)⟩
    simp only [List.length_map, List.length_take] at hi
    rw [hcell i (by omega)]
    simp [List.getElem_map, List.getElem_take, List.getD, List.getElem?_eq_getElem (show i < zs.length by omega)]
theorem open_intRep {t e : TypeId} {v : Value} {d : DataW H} {p : List MemPlace} (ht : P.underlying t = some (.slice e)) (he : P.underlying e = some (.int .i64)) (hc : P.cellsOf e = 1)
    (hval : Value.okWide P W .any base t v) (hd : DataW.Trod enc P W 0 (fun _ => true) true t v d p) : ∃ xs : List Int, SlRep rInt (fun b => b < W.heap.size) W.heap v xs := by
  obtain ⟨a, n, c, zs, rfl, rfl, h1, h2, h3, _⟩ := open_rep ht he hc hval hd
  exact ⟨zs, a, c, _, rfl, h1, h2, h3, ints_map.2 rfl⟩
/-- A contract, as the row's walk. -/
theorem below_of {w w' : World} (h : Same w w') (k : Keep none_ w.heap w'.heap) : Below w.heap.size w w' :=
  ⟨h.os, h.tape, h.output, k.size, fun i hi => k.blk i hi (fun h => h)⟩
theorem calls_of {f : FuncId} {args : Array Value} {w : World} (h : CallH P f args w.heap fun r h' => r = .bool true ∧ Keep none_ w.heap h') : Calls P f args w fun e w' => e = .returned (.bool true) ∧ Below w.heap.size w w' :=
  (h w rfl).mono fun e w' ⟨v, he, hs, hv, hk⟩ => ⟨by rw [he, hv], below_of hs hk⟩
end Go.HC

/-
  The bridge: arguments that stay as they were, all at once.
-/
namespace Go.HC
open Go.ChangeShapes Go.WideShapes Go.ChangeAt Go.RowKit Go.ChangeMaps
theorem below_trodAll {H : Type} {enc : TypeId × Value → H} {P : Program} (hl : laidOutB P = true) {W W' : World} (hb : Below W.heap.size W W') :
    ∀ {ts : List TypeId} {vs : List Value} {ds : List (DataW H)} {ps : List MemPlace}, (ts.all fun t => P.readableRec t && decide (t < P.types.size)) = true →
      DataW.TrodAll enc P W 0 (fun _ => true) true ts vs ds ps → (∀ x ∈ ps, x.block < W.heap.size) → DataW.TrodAll enc P W' 0 (fun b => decide (b < W.heap.size)) true ts vs ds ps
  | [], vs, ds, ps, _, h, _ => by
    obtain ⟨rfl, rfl, rfl⟩ := trodAll_nil h
    exact trodAll_mk0
  | t :: ts, vs, ds, ps, ht, h, hlt => by
    rw [List.all_cons, Bool.and_eq_true, Bool.and_eq_true] at ht
    obtain ⟨⟨h1, h2⟩, h3⟩ := ht
    obtain ⟨v, vs', d, ds', p, q, rfl, rfl, rfl, hd, hs⟩ := trodAll_cons h
    exact trodAll_cons_mk (Below.trod hl h1 (of_decide_eq_true h2) hd hb fun x hx => hlt x (List.mem_append.2 (.inl hx))) (below_trodAll hl hb h3 hs fun x hx => hlt x (List.mem_append.2 (.inr hx)))
end Go.HC

/-
  The bridge: an argument that is a struct, field by field.
-/
namespace Go.HC
open Go.ChangeShapes Go.WideShapes Go.ChangeAt Go.RowKit Go.ChangeMaps
variable {H : Type} {enc : TypeId × Value → H} {P : Program} {W : World} {base : Nat}
theorem fld_int {t : TypeId} {fuel : Nat} {v : Value} {y : DataW H × List MemPlace} (ht : P.underlying t = some (.int .i64)) (h : DataW.trod enc P W 0 (fun _ => true) true fuel t [v] = some y) :
    ∃ a : Int, v = .int .i64 a ∧ (Lit.int .i64 a).wf = true := by
  obtain ⟨n, h1, _, h3⟩ := DataW.trod_int ht h
  cases h1
  exact ⟨n, rfl, h3⟩
theorem fld_ints {t e : TypeId} {fuel : Nat} {v : Value} {y : DataW H × List MemPlace} (ht : P.underlying t = some (.slice e)) (he : P.underlying e = some (.int .i64)) (hc : P.cellsOf e = 1)
    (h : DataW.trod enc P W 0 (fun _ => true) true fuel t [v] = some y) : ∃ xs : List Int, SlRep rInt (fun b => b < W.heap.size) W.heap v xs := by
  rcases open_ints ht he hc h with ⟨hcs, hx⟩ | ⟨a, len, cap, zs, hcs, _, hl, hm, hz, hx, hcell, hwz⟩
  · cases hcs
    exact ⟨[], none, 0, [], rfl, Nat.le_refl _, by decide, .inl rfl, rfl⟩
  · cases hcs
    simp only [if_true] at hz
    have hm' : maxLen = 9223372036854775807 := rfl
    refine ⟨zs.take len, some a, cap, (zs.take len).map (.int .i64), by rw [List.length_take, Nat.min_eq_left (by omega)], by rw [List.length_take]; omega, by omega, cells_of fun i hi => ?_, ints_map.2 rfl⟩
    simp only [List.length_map, List.length_take] at hi
    rw [hcell i (by omega)]
    simp [List.getElem_map, List.getElem_take, List.getD, List.getElem?_eq_getElem (show i < zs.length by omega)]
/-- What a query asks of a dimension. -/
structure FilM where
  dim : Int
  lo : Int
  hi : Int
def rFil : Rp FilM where
  sz := 3
  pos := by decide
  rep _ _ cs x := cs = [.int .i64 x.dim, .int .i64 x.lo, .int .i64 x.hi]
  len h := by subst h; rfl
  one h := by subst h; rfl
  mono h _ := h
/-- A struct's fields: each by its cells. -/
theorem flds {t : TypeId} {fs : Array Field} {L : Array (TypeId × Nat)} {v : Value} {d : DataW H} {ps : List MemPlace} {m : Nat} (ht : P.underlying t = some (.struct fs)) (hct : P.cellsOf t = m) (hL : fs.map (fun f => (f.type, f.offset)) = L)
    (hval : Value.okWide P W .any base t v) (hd : DataW.Trod enc P W 0 (fun _ => true) true t v d ps) :
    ∃ cs : Array Value, v = .agg cs ∧ cs.size = m ∧ ∀ (i : Nat) (u : TypeId × Nat), L[i]? = some u → ∃ fuel y, DataW.trod enc P W 0 (fun _ => true) true fuel u.1 ((cs.toList.drop u.2).take (P.cellsOf u.1)) = some y := by
  obtain ⟨cs, rfl, hcs⟩ := okWide_struct ht hval
  obtain ⟨fuel, hf⟩ := hd
  obtain ⟨xs, n, _, _, hl, hlen, hp⟩ := DataW.trod_struct ht hf
  refine ⟨cs, rfl, by rw [hcs, hct], fun i u hu => ?_⟩
  rw [← hL, Array.getElem?_map] at hu
  cases hfi : fs[i]? with
  | none => rw [hfi] at hu; cases hu
  | some f =>
    rw [hfi] at hu
    cases hu
    have h1 := hp i f hfi
    have hi : i < fs.size := by
      rcases Nat.lt_or_ge i fs.size with h | h
      · exact h
      · rw [Array.getElem?_eq_none h] at hfi; cases hfi
    rw [List.getElem?_eq_getElem (by omega)] at h1
    exact ⟨n, _, h1⟩
/-- Facts, a config, by numbers. -/
theorem open_shape {t ti ts : TypeId} {fs : Array Field} {v : Value} {d : DataW H} {ps : List MemPlace} (ht : P.underlying t = some (.struct fs)) (hct : P.cellsOf t = 6) (hL : fs.map (fun f => (f.type, f.offset)) = #[(ti, 0), (ti, 1), (ti, 2), (ti, 3), (ts, 4), (ts, 5)])
    (hi : P.underlying ti = some (.int .i64)) (hci : P.cellsOf ti = 1) (hs : P.underlying ts = some (.slice ti)) (hcs : P.cellsOf ts = 1) (hval : Value.okWide P W .any base t v) (hd : DataW.Trod enc P W 0 (fun _ => true) true t v d ps) :
    ∃ (a b c e : Int) (v4 v5 : Value) (xs ys : List Int), v = .agg #[.int .i64 a, .int .i64 b, .int .i64 c, .int .i64 e, v4, v5] ∧ SlRep rInt (fun b => b < W.heap.size) W.heap v4 xs ∧ SlRep rInt (fun b => b < W.heap.size) W.heap v5 ys := by
  obtain ⟨cs, rfl, hsz, hf⟩ := flds ht hct hL hval hd
  obtain ⟨v0, v1, v2, v3, v4, v5, rfl⟩ : ∃ a b c d e f, cs = #[a, b, c, d, e, f] := by
    obtain ⟨l⟩ := cs
    match l, hsz with
    | [a, b, c, d, e, f], _ => exact ⟨a, b, c, d, e, f, rfl⟩
  obtain ⟨f0, y0, h0⟩ := hf 0 (ti, 0) rfl
  obtain ⟨f1, y1, h1⟩ := hf 1 (ti, 1) rfl
  obtain ⟨f2, y2, h2⟩ := hf 2 (ti, 2) rfl
  obtain ⟨f3, y3, h3⟩ := hf 3 (ti, 3) rfl
  obtain ⟨f4, y4, h4⟩ := hf 4 (ts, 4) rfl
  obtain ⟨f5, y5, h5⟩ := hf 5 (ts, 5) rfl
  simp only [hci, hcs] at h0 h1 h2 h3 h4 h5
  obtain ⟨a, rfl, _⟩ := fld_int hi h0
  obtain ⟨b, rfl, _⟩ := fld_int hi h1
  obtain ⟨c, rfl, _⟩ := fld_int hi h2
  obtain ⟨e, rfl, _⟩ := fld_int hi h3
  obtain ⟨xs, hx⟩ := fld_ints hs hi hci h4
  obtain ⟨ys, hy⟩ := fld_ints hs hi hci h5
  exact ⟨a, b, c, e, v4, v5, xs, ys, rfl, hx, hy⟩
end Go.HC

/-
  Queries, plainly.
-/
namespace Go.HC
theorem atKey_filter (P : List Int → Bool) (key : List Int) (l : List CellM) : atKey key (l.filter fun c => P c.key) = if P key = true then atKey key l else none := by
  unfold atKey
  rw [List.filter_filter]
  by_cases hp : P key = true
  · rw [if_pos hp]
    congr 1
    apply List.filter_congr
    intro c _
    by_cases hk : c.key = key
    · rw [hk, hp]; simp
    · simp [hk]
  · rw [if_neg hp]
    have : l.filter (fun c => decide (c.key = key) && P c.key) = [] := by
      rw [List.filter_eq_nil_iff]
      intro c _ h
      rw [Bool.and_eq_true, decide_eq_true_eq] at h
      rw [h.1] at h
      exact hp h.2
    rw [this]
    rfl
/-- Cells let by, by their keys: ahead of the group-by or behind it. -/
theorem group_filter (P : List Int → Bool) (l : List CellM) : (groupC l).filter (fun c => P c.key) = groupC (l.filter fun c => P c.key) := by
  apply Grp.eq
  have h := grp_group l
  refine ⟨h.srt.sublist List.filter_sublist, fun c => ?_⟩
  rw [List.mem_filter, h.mem, atKey_filter]
  by_cases hp : P c.key = true
  · simp [hp]
  · simp [hp]
/-- Do filters let a key of a set by? -/
def letM (a : Int) (fs : List FilM) (key : List Int) : Bool := fs.all fun f => match pickN (2 ^ f.dim.toNat) (dimsM a) key with
  | [v] => decide (f.lo ≤ v) && decide (v ≤ f.hi)
  | _ => false
/-- Do filters let a fact by? -/
def rowBy (fs : List FilM) (r : RowM) : Bool := fs.all fun f => match r.key[f.dim.toNat]? with
  | some v => decide (f.lo ≤ v) && decide (v ≤ f.hi)
  | none => false
def askM (a : Int) (cells : List CellM) (set : Int) (fs : List FilM) : List CellM := groupC ((cells.filter fun c => letM a fs c.key).map (narrowC a set))
theorem bit_pow {d i : Nat} (hd : d < 4) (hi : i < 4) : bitM (2 ^ d) i = decide (i = d) := by
  have : ∀ d i : Fin 4, bitM (2 ^ d.val) i.val = decide (i.val = d.val) := by decide
  exact this ⟨d, hd⟩ ⟨i, hi⟩
theorem pick_one (d : Nat) (hd : d < 4) : ∀ (xs : List Int) (i : Nat), i + xs.length ≤ 4 → pickM (2 ^ d) i xs = if h : i ≤ d ∧ d < i + xs.length then [xs[d - i]'(by omega)] else []
  | [], i, _ => by rw [pickM, dif_neg (by simp <;> omega)]
  | x :: xs, i, h => by
    have hl : i + 1 + xs.length ≤ 4 := by simp at h; omega
    rw [pickM, bit_pow hd (by omega), pick_one d hd xs (i + 1) hl]
    by_cases e : i = d
    · subst e
      rw [if_pos (by simp), dif_neg (by omega), dif_pos ⟨Nat.le_refl _, by simp⟩]
      simp
    · rw [if_neg (by simpa using e)]
      by_cases h2 : i + 1 ≤ d ∧ d < i + 1 + xs.length
      · rw [dif_pos h2, dif_pos ⟨by omega, by simp; omega⟩]
        have e2 : d - i = (d - (i + 1)) + 1 := by omega
        simp only [e2, List.getElem_cons_succ]
      · rw [dif_neg h2, dif_neg (by simp; omega)]
/-- What filters let by of facts' cells are the facts' that they let by. -/
theorem let_row {s : SchM} {rows : List RowM} (h : FactsOk s rows) {a : Int} {fs : List FilM} (hf : ∀ f ∈ fs, 0 ≤ f.dim ∧ f.dim < 4 ∧ bitM a f.dim.toNat = true) {r : RowM} (hr : r ∈ rows) : letM a fs (ofM a r).key = rowBy fs r := by
  have hk := (h.key r hr).1
  have hd := h.dims.2
  unfold letM rowBy
  have key : ∀ f ∈ fs, (match pickN (2 ^ f.dim.toNat) (dimsM a) (ofM a r).key with | [v] => decide (f.lo ≤ v) && decide (v ≤ f.hi) | _ => false) = (match r.key[f.dim.toNat]? with | some v => decide (f.lo ≤ v) && decide (v ≤ f.hi) | none => false) := by
    intro f hff
    obtain ⟨h1, h2, h3⟩ := hf f hff
    have hn := congrArg CellM.key (narrow_of (a := a) (b := 2 ^ f.dim.toNat) (fun i hi hb => by
      rw [bit_pow (by omega) hi, decide_eq_true_eq] at hb
      rw [hb]; exact h3) r (by omega))
    have e : pickN (2 ^ f.dim.toNat) (dimsM a) (ofM a r).key = pickM (2 ^ f.dim.toNat) 0 r.key := hn
    rw [e, pick_one _ (by omega) r.key 0 (by omega)]
    by_cases hlt : f.dim.toNat < r.key.length
    · rw [dif_pos ⟨Nat.zero_le _, by omega⟩, List.getElem?_eq_getElem hlt]
      simp
    · rw [dif_neg (by omega), List.getElem?_eq_none (by omega)]
  have gen : ∀ (l : List FilM) (P Q : FilM → Bool), (∀ f ∈ l, P f = Q f) → l.all P = l.all Q := by
    intro l P Q
    induction l with
    | nil => intro _; rfl
    | cons x l ih => intro h; rw [List.all_cons, List.all_cons, h x List.mem_cons_self, ih fun f hf => h f (List.mem_cons_of_mem _ hf)]
  exact gen fs _ _ key
/-- A query's answer, whichever set serves it: the group-by of the facts that its filters let by. -/
theorem ask_rows {s : SchM} {rows : List RowM} (h : FactsOk s rows) {a set : Int} {fs : List FilM} (w : Within a set s.cards.length) (hf : ∀ f ∈ fs, 0 ≤ f.dim ∧ f.dim < 4 ∧ bitM a f.dim.toNat = true) :
    askM a (groupC (rows.map (ofM a))) set fs = groupC ((rows.filter (rowBy fs)).map (ofM set)) := by
  unfold askM
  rw [group_filter (letM a fs), group_narrow, List.filter_map, List.map_map]
  congr 1
  have e : rows.filter ((fun c => letM a fs c.key) ∘ ofM a) = rows.filter (rowBy fs) := List.filter_congr fun r hr => let_row h hf hr
  rw [e]
  apply List.map_congr_left
  intro r hr
  have := (h.key r (List.mem_filter.1 hr).1).1
  exact narrow_of w.sub r (by have := h.dims.2; omega)
end Go.HC

/-
  Queries, plainly: which may be, which set serves.
-/
namespace Go.HC
/-- One set or the other's dimensions. -/
def orM (x y : Int) : Int := IntKind.i64.wrap ((BitVec.ofInt IntKind.i64.bits x ||| BitVec.ofInt IntKind.i64.bits y).toNat)
theorem or_op (x y : Int) : intRes .or .i64 x y = some (.int .i64 (orM x y)) := _root_.id rfl
theorem or_bits : ∀ x y : Fin 16, (0 ≤ orM x.val y.val ∧ orM x.val y.val < 16) ∧ ∀ i : Fin 4, bitM (orM x.val y.val) i.val = (bitM x.val i.val || bitM y.val i.val) := by decide +kernel
theorem or_ok {x y : Int} (hx : 0 ≤ x ∧ x < 16) (hy : 0 ≤ y ∧ y < 16) : (0 ≤ orM x y ∧ orM x y < 16) ∧ ∀ i, i < 4 → bitM (orM x y) i = (bitM x i || bitM y i) := by
  obtain ⟨m, rfl⟩ : ∃ m : Nat, x = m := ⟨x.toNat, by omega⟩
  obtain ⟨n, rfl⟩ : ∃ n : Nat, y = n := ⟨y.toNat, by omega⟩
  have h := or_bits ⟨m, by omega⟩ ⟨n, by omega⟩
  exact ⟨h.1, fun i hi => h.2 ⟨i, hi⟩⟩
theorem and_all : ∀ x y : Fin 16, (andM x.val y.val = y.val) ↔ ∀ i : Fin 4, bitM y.val i.val = true → bitM x.val i.val = true := by decide +kernel
theorem and_iff {x y : Int} (hx : 0 ≤ x ∧ x < 16) (hy : 0 ≤ y ∧ y < 16) : andM x y = y ↔ ∀ i, i < 4 → bitM y i = true → bitM x i = true := by
  obtain ⟨m, rfl⟩ : ∃ m : Nat, x = m := ⟨x.toNat, by omega⟩
  obtain ⟨n, rfl⟩ : ∃ n : Nat, y = n := ⟨y.toNat, by omega⟩
  have h := and_all ⟨m, by omega⟩ ⟨n, by omega⟩
  exact ⟨fun e i hi => h.1 e ⟨i, hi⟩, fun e => h.2 fun i => e i.val i.isLt⟩
theorem pow_lt16 {d : Nat} (h : d < 4) : 0 ≤ (2 : Int) ^ d ∧ (2 : Int) ^ d < 16 := by
  rcases d with _ | _ | _ | _ | d <;> first | decide | omega
/-- All dimensions that a query names. -/
def needM (set : Int) (fs : List FilM) : Int := fs.foldl (fun n f => orM n (2 ^ f.dim.toNat)) set
theorem need_ok : ∀ (fs : List FilM) {set : Int}, (0 ≤ set ∧ set < 16) → (∀ f ∈ fs, 0 ≤ f.dim ∧ f.dim < 4) →
    (0 ≤ needM set fs ∧ needM set fs < 16) ∧ ∀ i, i < 4 → (bitM (needM set fs) i = true ↔ bitM set i = true ∨ ∃ f ∈ fs, f.dim.toNat = i)
  | [], set, h, _ => ⟨h, fun i _ => by simp [needM]⟩
  | f :: fs, set, h, hf => by
    have h1 := hf f List.mem_cons_self
    have ho := or_ok h (pow_lt16 (d := f.dim.toNat) (by omega))
    have ih := need_ok fs ho.1 fun g hg => hf g (List.mem_cons_of_mem _ hg)
    refine ⟨ih.1, fun i hi => ?_⟩
    have e : needM set (f :: fs) = needM (orM set (2 ^ f.dim.toNat)) fs := rfl
    rw [e, ih.2 i hi, ho.2 i hi, Bool.or_eq_true, bit_pow (by omega) hi, decide_eq_true_eq]
    constructor
    · rintro ((h | h) | ⟨g, hg, h⟩)
      · exact .inl h
      · exact .inr ⟨f, List.mem_cons_self, h.symm⟩
      · exact .inr ⟨g, List.mem_cons_of_mem _ hg, h⟩
    · rintro (h | ⟨g, hg, h⟩)
      · exact .inl (.inl h)
      · rcases List.mem_cons.1 hg with rfl | hg
        · exact .inl (.inr h.symm)
        · exact .inr ⟨g, hg, h⟩
def cardAt (cards : List Int) (d : Int) : Int := (cards[d.toNat]?).getD 0
/-- May filters be, beside those that were seen? -/
def rightF (cards : List Int) : Int → List FilM → Bool
  | _, [] => true
  | seen, f :: fs => if f.dim < 0 ∨ (cards.length : Int) ≤ f.dim ∨ f.lo < 0 ∨ f.hi < f.lo ∨ cardAt cards f.dim ≤ f.hi ∨ bitM seen f.dim.toNat = true then false else rightF cards (orM seen (2 ^ f.dim.toNat)) fs
def rightM (cards : List Int) (set : Int) (fs : List FilM) : Bool := if set < 0 ∨ 2 ^ cards.length ≤ set then false else rightF cards 0 fs
theorem rightF_ok {cards : List Int} : ∀ {fs : List FilM} {seen : Int}, rightF cards seen fs = true → ∀ f ∈ fs, 0 ≤ f.dim ∧ f.dim < cards.length ∧ 0 ≤ f.lo ∧ f.lo ≤ f.hi ∧ f.hi < cardAt cards f.dim
  | [], _, _, f, hf => by cases hf
  | g :: fs, seen, h, f, hf => by
    rw [rightF] at h
    split at h
    · cases h
    · rename_i hn
      rcases List.mem_cons.1 hf with rfl | hf
      · omega
      · exact rightF_ok h f hf
/-- Which set serves: the first of the fewest cells. -/
def stepM (com : Nat → Option (List CellM)) (need : Int) (best : Option (Nat × List CellM)) (x : Nat) : Option (Nat × List CellM) :=
  if andM x need = need then match com x with
    | none => best
    | some l => match best with
      | none => some (x, l)
      | some b => if l.length < b.2.length then some (x, l) else some b
  else best
def serveM (com : Nat → Option (List CellM)) (need : Int) (n : Nat) : Option (Nat × List CellM) := (List.range n).foldl (stepM com need) none
theorem serve_succ (com : Nat → Option (List CellM)) (need : Int) (n : Nat) : serveM com need (n + 1) = stepM com need (serveM com need n) n := by
  unfold serveM
  rw [List.range_succ, List.foldl_append]
  rfl
theorem serve_some {com : Nat → Option (List CellM)} {need : Int} : ∀ {n : Nat} {x : Nat} {l : List CellM}, serveM com need n = some (x, l) → x < n ∧ com x = some l ∧ andM x need = need
  | 0, x, l, h => by cases h
  | n + 1, x, l, h => by
    rw [serve_succ, stepM] at h
    split at h
    · rename_i hn
      cases hc : com n with
      | none =>
        rw [hc] at h
        have := serve_some h
        exact ⟨by omega, this.2⟩
      | some l' =>
        rw [hc] at h
        cases hs : serveM com need n with
        | none =>
          rw [hs] at h
          cases h
          exact ⟨by omega, hc, hn⟩
        | some b =>
          rw [hs] at h
          simp only at h
          split at h
          · cases h
            exact ⟨by omega, hc, hn⟩
          · cases h
            have := serve_some hs
            exact ⟨by omega, this.2⟩
    · have := serve_some h
      exact ⟨by omega, this.2⟩
theorem serve_none {com : Nat → Option (List CellM)} {need : Int} : ∀ {n : Nat}, serveM com need n = none ↔ ∀ x, x < n → andM x need = need → com x = none
  | 0 => ⟨fun _ x h => by omega, fun _ => rfl⟩
  | n + 1 => by
    rw [serve_succ, stepM]
    have ih := serve_none (com := com) (need := need) (n := n)
    by_cases hn : andM (n : Int) need = need
    · rw [if_pos hn]
      cases hc : com n with
      | none =>
        simp only
        rw [ih]
        refine ⟨fun h x hx ha => ?_, fun h x hx ha => h x (by omega) ha⟩
        by_cases e : x = n
        · subst e; exact hc
        · exact h x (by omega) ha
      | some l =>
        have hne : (match serveM com need n with | none => some (n, l) | some b => if l.length < b.2.length then some (n, l) else some b) ≠ none := by
          cases serveM com need n with
          | none => simp
          | some b => simp only; split <;> simp
        refine ⟨fun h => absurd h hne, fun h => ?_⟩
        have := h n (by omega) hn
        rw [hc] at this
        cases this
    · rw [if_neg hn, ih]
      refine ⟨fun h x hx ha => ?_, fun h x hx ha => h x (by omega) ha⟩
      by_cases e : x = n
      · subst e; exact absurd ha hn
      · exact h x (by omega) ha
end Go.HC

/-
  Queries that may be; what they need: both.
-/
namespace Go.HC
theorem shl_int {k : Nat} (hk : k ≤ 62) : intRes .shl .i64 1 (k : Int) = some (.int .i64 (2 ^ k)) := by
  have h2 : min ((k : Int).toNat) IntKind.i64.bits = k := by
    show min ((k : Int).toNat) 64 = k
    omega
  have h3 : (2 : Int) ^ k ≤ 2 ^ 62 := pow2_le hk
  have h4 := pow2_pos k
  have h5 : (2 : Int) ^ 62 = 4611686018427387904 := by decide
  rw [intRes_shl _ _ _ (by omega), h2, Int.one_mul, wrap_i64 (by omega) (by omega)]
end Go.HC
namespace Go.Proofs
open Go Go.HC

set_option maxHeartbeats 8000000 in
set_option maxRecDepth 10000 in
theorem pqright_spec {h : Heap} {cv fv : Value} {s : SchM} {a : Int} {fs : List FilM} (hcv : SlRep rInt (Old h) h cv s.cards) (hf : SlRep rFil (Old h) h fv fs) (hd : s.cards.length ≤ 4) :
    CallH Tryz.prog 81 #[.agg #[cv, .int .i64 s.ms], .agg #[.int .i64 a, fv]] h fun r h' => r = .bool (rightM s.cards a fs) ∧ Keep none_ h h' := by
  refine callH_by fun K hK => ?_
  refine enter [.tmp 4] Tryz.func81 rfl rfl (by kernel_rfl) rfl ?_
  have hcv0 := hcv
  have hf0 := hf
  obtain ⟨a0, c0, rfl, _, _⟩ := hcv.val
  obtain ⟨fa, fc, rfl, hfc, hfc'⟩ := hf.val
  simp -dsimp [boxS_eq]
  generalize hB : Array.push (Array.push h _) _ = h1
  have k1 : Keep none_ h h1 := by rw [← hB]; exact ((Keep.refl none_ h).pushed _).pushed _
  have z1 : h1.size = h.size + 2 := by rw [← hB]; simp
  have w1 : h1[h.size]? = some (.cells #[.slice a0 s.cards.length c0, .int .i64 s.ms] 30 (0, 0)) := by rw [← hB]; exact push_at (push_new _ _)
  have w2 : h1[h.size + 1]? = some (.cells #[.int .i64 a, .slice fa fs.length fc] 27 (0, 0)) := by rw [← hB]; exact push_get (by simp)
  have hsh := shl_int (k := s.cards.length) (by omega)
  by_cases q1 : a < 0
  · have e : rightM s.cards a fs = false := by unfold rightM; rw [if_pos (.inl q1)]
    rw [e] at hK
    simp -dsimp [w1]
    refine drawn_by [⟨0, true, []⟩, ⟨1, true, []⟩, ⟨2, true, []⟩, ⟨3, true, []⟩, ⟨4, true, []⟩, ⟨5, true, []⟩, ⟨6, true, []⟩, ⟨7, true, []⟩, ⟨8, true, []⟩, ⟨9, true, []⟩] (by kernel_rfl) (by kernel_rfl) ?_
    simp -dsimp [w2, q1]
    exact hK _ _ ⟨rfl, k1⟩
  by_cases q2 : 2 ^ s.cards.length ≤ a
  · have e : rightM s.cards a fs = false := by unfold rightM; rw [if_pos (.inr q2)]
    rw [e] at hK
    simp -dsimp [w1]
    refine drawn_by [⟨0, true, []⟩, ⟨1, true, []⟩, ⟨2, true, []⟩, ⟨3, true, []⟩, ⟨4, true, []⟩, ⟨5, true, []⟩, ⟨6, true, []⟩, ⟨7, true, []⟩, ⟨8, true, []⟩, ⟨9, true, []⟩] (by kernel_rfl) (by kernel_rfl) ?_
    simp -dsimp [-intRes_shl, w2, q1, hsh, q2]
    exact hK _ _ ⟨rfl, k1⟩
  have e : rightM s.cards a fs = rightF s.cards 0 fs := by unfold rightM; rw [if_neg (by omega)]
  rw [e] at hK
  simp -dsimp [w1]
  refine drawn_by [⟨0, true, []⟩, ⟨1, true, []⟩, ⟨2, true, []⟩, ⟨3, true, []⟩, ⟨4, true, []⟩, ⟨5, true, []⟩, ⟨6, true, []⟩, ⟨7, true, []⟩, ⟨8, true, []⟩, ⟨9, true, []⟩] (by kernel_rfl) (by kernel_rfl) ?_
  simp -dsimp [-intRes_shl, w2, q1, hsh, q2]
  refine loopc (σ := Nat × Int) (fun t => [(2, .pointer (some ⟨h.size, 0, none⟩)), (5, .int .i64 s.cards.length), (6, .int .i64 t.2), (23, .slice fa fs.length fc), (24, .int .i64 fs.length), (25, .int .i64 t.1)])
    (fun t y => Keep none_ h1 y ∧ t.1 ≤ fs.length ∧ (0 ≤ t.2 ∧ t.2 < 16) ∧ rightF s.cards t.2 (fs.drop t.1) = rightF s.cards 0 fs) (fun t => fs.length - t.1) (0, 0) 0 (fun t _ => t.1 = fs.length) (endR Tryz.prog [.tmp 4] K).rt (fun _ _ _ h => h) (by simp) ⟨.refl _ _, Nat.zero_le _, by decide, rfl⟩ (by kernel_rfl) ?_ ?_
  case refine_1 =>
    rintro ⟨i, sn⟩ y g ⟨ky, hi, hsn, hr⟩
    simp only at hi hsn hr
    have v1 := ky.at w1 (fun h => h)
    have v2 := ky.at w2 (fun h => h)
    have k0y : Keep none_ h y := k1.trans ky fun _ _ h => h
    by_cases hil : i < fs.length
    · have wi := wrap_succ (k := i) (by omega)
      obtain ⟨bk, off, cs, rfl, hfb, hrep, hcs⟩ := (hf0.mono ((Tr.of k0y).ft (Nat.le_refl 0))).get i hil
      obtain rfl : cs = [.int .i64 fs[i].dim, .int .i64 fs[i].lo, .int .i64 fs[i].hi] := hrep
      have hcs : HC.cellsIn y[bk]? (off + i * 3) 3 = some [.int .i64 fs[i].dim, .int .i64 fs[i].lo, .int .i64 fs[i].hi] := hcs
      rw [List.drop_eq_getElem_cons hil, rightF] at hr
      obtain ⟨f, ef⟩ : ∃ f, f = fs[i] := ⟨_, rfl⟩
      rw [← ef] at hcs hr
      simp -dsimp [hil, idxA_nat hil, hcs]
      rw [push_set rfl]
      generalize hP : Array.push y _ = y2
      have k2 : Keep none_ y y2 := by rw [← hP]; exact .push _ _ _
      have wF : y2[y.size]? = some (.cells #[.int .i64 f.dim, .int .i64 f.lo, .int .i64 f.hi] 57 (0, 0)) := by rw [← hP]; exact push_new _ _
      have u1 := k2.at v1 (fun h => h)
      have u2 := k2.at v2 (fun h => h)
      have k02 : Keep none_ h y2 := k0y.trans k2 fun _ _ h => h
      refine drawn_by [⟨0, true, []⟩, ⟨1, true, []⟩, ⟨2, true, []⟩, ⟨3, true, []⟩, ⟨4, true, []⟩, ⟨5, true, []⟩, ⟨6, true, []⟩, ⟨7, true, []⟩, ⟨8, true, []⟩, ⟨9, true, []⟩, ⟨10, true, []⟩, ⟨11, true, []⟩, ⟨12, true, []⟩, ⟨13, true, []⟩, ⟨14, true, []⟩, ⟨15, true, []⟩, ⟨16, true, []⟩, ⟨17, true, []⟩, ⟨18, true, []⟩, ⟨19, true, []⟩, ⟨20, true, []⟩, ⟨21, true, []⟩, ⟨22, true, []⟩, ⟨23, true, []⟩, ⟨24, true, []⟩, ⟨25, true, []⟩, ⟨26, true, []⟩, ⟨27, true, []⟩, ⟨28, true, []⟩, ⟨29, true, []⟩, ⟨30, true, []⟩, ⟨31, true, []⟩, ⟨32, true, []⟩, ⟨33, true, []⟩, ⟨34, true, []⟩, ⟨35, true, []⟩, ⟨36, true, []⟩, ⟨37, true, []⟩, ⟨38, true, []⟩, ⟨39, true, []⟩] (by kernel_rfl) (by kernel_rfl) ?_
      by_cases c1 : f.dim < 0
      · rw [if_pos (by omega)] at hr
        simp -dsimp [wF, c1]
        exact hK _ _ ⟨by rw [← hr], k02⟩
      by_cases c2 : (s.cards.length : Int) ≤ f.dim
      · rw [if_pos (by omega)] at hr
        simp -dsimp [wF, c1, c2]
        exact hK _ _ ⟨by rw [← hr], k02⟩
      by_cases c3 : f.lo < 0
      · rw [if_pos (by omega)] at hr
        simp -dsimp [wF, c1, c2, c3]
        exact hK _ _ ⟨by rw [← hr], k02⟩
      by_cases c4 : f.hi < f.lo
      · rw [if_pos (by omega)] at hr
        simp -dsimp [wF, c1, c2, c3, c4]
        exact hK _ _ ⟨by rw [← hr], k02⟩
      obtain ⟨D, eD⟩ : ∃ D : Nat, f.dim = D := ⟨f.dim.toNat, by omega⟩
      have hDl : D < s.cards.length := by omega
      have ca : cardAt s.cards f.dim = s.cards[D] := by unfold cardAt; rw [eD, Int.toNat_natCast, List.getElem?_eq_getElem hDl]; rfl
      obtain ⟨b5, o5, e5, _, hc5⟩ := (hcv0.mono ((Tr.of k02).ft (Nat.le_refl 0))).int_at D hDl
      subst e5
      rw [ca] at hr
      rw [eD] at wF hr
      have c1' : ¬ ((D : Int) < 0) := by omega
      have c2' : ¬ ((s.cards.length : Int) ≤ (D : Int)) := by omega
      have c2'' : ¬ (s.cards.length ≤ D) := by omega
      have eT : ((D : Int)).toNat = D := Int.toNat_natCast D
      rw [eT] at hr
      have ix : ∀ sz ar, idxV sz ar (.slice (some ⟨b5, o5, none⟩) s.cards.length c0) (.int .i64 (D : Int)) = sz.map fun s => .pointer (some ⟨b5, o5 + D * s, none⟩) := fun sz ar => idxV_nat hDl
      by_cases c5 : s.cards[D] ≤ f.hi
      · rw [if_pos (by omega)] at hr
        simp -dsimp [wF, u1, c1', c2', c3, c4, ix, elSz_eq, hc5, c5]
        exact hK _ _ ⟨by rw [← hr], k02⟩
      have hshr := shr_i (s := sn) (k := D) (by omega)
      have hshl := shl_int (k := D) (by omega)
      by_cases c6 : bitM sn D = true
      · rw [if_pos (.inr (.inr (.inr (.inr (.inr c6)))))] at hr
        simp -dsimp [-intRes_shr, wF, u1, c1', c2', c3, c4, ix, elSz_eq, hc5, c5, hshr, bit_op, c6]
        exact hK _ _ ⟨by rw [← hr], k02⟩
      have c6' : bitM sn D = false := by simpa using c6
      rw [if_neg (fun hh => by rcases hh with hh | hh | hh | hh | hh | hh; all_goals first | omega | exact c6 hh)] at hr
      simp -dsimp [-intRes_shr, -intRes_shl, -intRes_or, wF, u1, c1', c2', c3, c4, ix, elSz_eq, hc5, c5, hshr, hshl, or_op, bit_op, c6', wi]
      have ho := or_ok hsn (pow_lt16 (d := D) (by omega))
      exact ⟨(i + 1, orM sn (2 ^ D)), by simp, rfl, ⟨ky.trans k2 fun _ _ h => h, hil, ho.1, hr⟩, by show fs.length - (i + 1) < fs.length - i; omega⟩
    · simp -dsimp [hil]
      exact ⟨rfl, (i, sn), by simp, rfl, ⟨ky, hi, hsn, hr⟩, by show i = _; omega⟩
  rintro ⟨i, sn⟩ y g ⟨ky, hi, hsn, hr⟩ hil
  simp only at hi hsn hr hil
  rw [hil, List.drop_length, rightF] at hr
  simp -dsimp
  exact hK _ _ ⟨by rw [← hr], k1.trans ky fun _ _ h => h⟩

set_option maxHeartbeats 8000000 in
set_option maxRecDepth 10000 in
theorem rqright_spec {h : Heap} {cv fv : Value} {s : SchM} {a : Int} {fs : List FilM} (hcv : SlRep rInt (Old h) h cv s.cards) (hf : SlRep rFil (Old h) h fv fs) (hd : s.cards.length ≤ 4) :
    CallH Tryz.prog 50 #[.agg #[cv, .int .i64 s.ms], .agg #[.int .i64 a, fv]] h fun r h' => r = .bool (rightM s.cards a fs) ∧ Keep none_ h h' := by
  refine callH_by fun K hK => ?_
  refine enter [.tmp 4] Tryz.func50 rfl rfl (by kernel_rfl) rfl ?_
  have hcv0 := hcv
  have hf0 := hf
  obtain ⟨a0, c0, rfl, _, _⟩ := hcv.val
  obtain ⟨fa, fc, rfl, hfc, hfc'⟩ := hf.val
  simp -dsimp [boxS_eq]
  generalize hB : Array.push (Array.push h _) _ = h1
  have k1 : Keep none_ h h1 := by rw [← hB]; exact ((Keep.refl none_ h).pushed _).pushed _
  have z1 : h1.size = h.size + 2 := by rw [← hB]; simp
  have w1 : h1[h.size]? = some (.cells #[.slice a0 s.cards.length c0, .int .i64 s.ms] 30 (0, 0)) := by rw [← hB]; exact push_at (push_new _ _)
  have w2 : h1[h.size + 1]? = some (.cells #[.int .i64 a, .slice fa fs.length fc] 27 (0, 0)) := by rw [← hB]; exact push_get (by simp)
  have hsh := shl_one (k := s.cards.length) (by omega)
  by_cases q1 : a < 0
  · have e : rightM s.cards a fs = false := by unfold rightM; rw [if_pos (.inl q1)]
    rw [e] at hK
    simp -dsimp [q1]
    exact hK _ _ ⟨rfl, k1⟩
  by_cases q2 : 2 ^ s.cards.length ≤ a
  · have e : rightM s.cards a fs = false := by unfold rightM; rw [if_pos (.inr q2)]
    rw [e] at hK
    simp -dsimp [-intRes_shl, w1, w2, q1, hsh, q2]
    exact hK _ _ ⟨rfl, k1⟩
  have e : rightM s.cards a fs = rightF s.cards 0 fs := by unfold rightM; rw [if_neg (by omega)]
  rw [e] at hK
  simp -dsimp [-intRes_shl, w1, w2, q1, hsh, q2]
  refine loopc (σ := Nat × Int) (fun t => [(2, .pointer (some ⟨h.size, 0, none⟩)), (3, .pointer (some ⟨h.size + 1, 0, none⟩)), (5, .int .i64 t.2), (6, .int .i64 t.1)])
    (fun t y => Keep none_ h1 y ∧ t.1 ≤ fs.length ∧ (0 ≤ t.2 ∧ t.2 < 16) ∧ rightF s.cards t.2 (fs.drop t.1) = rightF s.cards 0 fs) (fun t => fs.length - t.1) (0, 0) 0 (fun t _ => t.1 = fs.length) (endR Tryz.prog [.tmp 4] K).rt (fun _ _ _ h => h) (by simp) ⟨.refl _ _, Nat.zero_le _, by decide, rfl⟩ (by kernel_rfl) ?_ ?_
  case refine_1 =>
    rintro ⟨i, sn⟩ y g ⟨ky, hi, hsn, hr⟩
    simp only at hi hsn hr
    have v1 := ky.at w1 (fun h => h)
    have v2 := ky.at w2 (fun h => h)
    have k0y : Keep none_ h y := k1.trans ky fun _ _ h => h
    by_cases hil : i < fs.length
    · have wi := wrap_succ (k := i) (by omega)
      obtain ⟨bk, off, cs, rfl, hfb, hrep, hcs⟩ := (hf0.mono ((Tr.of k0y).ft (Nat.le_refl 0))).get i hil
      obtain rfl : cs = [.int .i64 fs[i].dim, .int .i64 fs[i].lo, .int .i64 fs[i].hi] := hrep
      have hcs : HC.cellsIn y[bk]? (off + i * 3) 3 = some [.int .i64 fs[i].dim, .int .i64 fs[i].lo, .int .i64 fs[i].hi] := hcs
      rw [List.drop_eq_getElem_cons hil, rightF] at hr
      obtain ⟨f, ef⟩ : ∃ f, f = fs[i] := ⟨_, rfl⟩
      rw [← ef] at hcs hr
      simp -dsimp [v2, hil, idxA_nat hil, hcs]
      rw [push_set rfl]
      generalize hP : Array.push y _ = y2
      have k2 : Keep none_ y y2 := by rw [← hP]; exact .push _ _ _
      have wF : y2[y.size]? = some (.cells #[.int .i64 f.dim, .int .i64 f.lo, .int .i64 f.hi] 57 (0, 0)) := by rw [← hP]; exact push_new _ _
      have u1 := k2.at v1 (fun h => h)
      have u2 := k2.at v2 (fun h => h)
      have k02 : Keep none_ h y2 := k0y.trans k2 fun _ _ h => h
      refine drawn_by [⟨0, true, []⟩, ⟨1, true, []⟩, ⟨2, true, []⟩, ⟨3, true, []⟩, ⟨4, true, []⟩, ⟨5, true, []⟩, ⟨6, true, []⟩, ⟨7, true, []⟩, ⟨8, true, []⟩, ⟨9, true, []⟩, ⟨10, true, []⟩, ⟨11, true, []⟩, ⟨12, true, []⟩, ⟨13, true, []⟩, ⟨14, true, []⟩, ⟨15, true, []⟩, ⟨16, true, []⟩, ⟨17, true, []⟩, ⟨18, true, []⟩, ⟨19, true, []⟩, ⟨20, true, []⟩, ⟨21, true, []⟩, ⟨22, true, []⟩, ⟨23, true, []⟩, ⟨24, true, []⟩, ⟨25, true, []⟩, ⟨26, true, []⟩, ⟨27, true, []⟩, ⟨28, true, []⟩, ⟨29, true, []⟩, ⟨30, true, []⟩, ⟨31, true, []⟩, ⟨32, true, []⟩, ⟨33, true, []⟩, ⟨34, true, []⟩, ⟨35, true, []⟩, ⟨36, true, []⟩, ⟨37, true, []⟩, ⟨38, true, []⟩, ⟨39, true, []⟩, ⟨40, true, []⟩, ⟨41, true, []⟩, ⟨42, true, []⟩] (by kernel_rfl) (by kernel_rfl) ?_
      by_cases c1 : f.dim < 0
      · rw [if_pos (by omega)] at hr
        simp -dsimp [wF, c1]
        exact hK _ _ ⟨by rw [← hr], k02⟩
      by_cases c2 : (s.cards.length : Int) ≤ f.dim
      · rw [if_pos (by omega)] at hr
        simp -dsimp [wF, u1, c1, c2]
        exact hK _ _ ⟨by rw [← hr], k02⟩
      by_cases c3 : f.lo < 0
      · rw [if_pos (by omega)] at hr
        simp -dsimp [wF, u1, c1, c2, c3]
        exact hK _ _ ⟨by rw [← hr], k02⟩
      by_cases c4 : f.hi < f.lo
      · rw [if_pos (by omega)] at hr
        simp -dsimp [wF, u1, c1, c2, c3, c4]
        exact hK _ _ ⟨by rw [← hr], k02⟩
      obtain ⟨D, eD⟩ : ∃ D : Nat, f.dim = D := ⟨f.dim.toNat, by omega⟩
      have hDl : D < s.cards.length := by omega
      have ca : cardAt s.cards f.dim = s.cards[D] := by unfold cardAt; rw [eD, Int.toNat_natCast, List.getElem?_eq_getElem hDl]; rfl
      obtain ⟨b5, o5, e5, _, hc5⟩ := (hcv0.mono ((Tr.of k02).ft (Nat.le_refl 0))).int_at D hDl
      subst e5
      rw [ca] at hr
      rw [eD] at wF hr
      have c1' : ¬ ((D : Int) < 0) := by omega
      have c2' : ¬ ((s.cards.length : Int) ≤ (D : Int)) := by omega
      have c2'' : ¬ (s.cards.length ≤ D) := by omega
      have eT : ((D : Int)).toNat = D := Int.toNat_natCast D
      rw [eT] at hr
      have ix : ∀ sz ar, idxV sz ar (.slice (some ⟨b5, o5, none⟩) s.cards.length c0) (.int .i64 (D : Int)) = sz.map fun s => .pointer (some ⟨b5, o5 + D * s, none⟩) := fun sz ar => idxV_nat hDl
      by_cases c5 : s.cards[D] ≤ f.hi
      · rw [if_pos (by omega)] at hr
        simp -dsimp [wF, u1, c1', c2', c3, c4, ix, elSz_eq, hc5, c5]
        exact hK _ _ ⟨by rw [← hr], k02⟩
      have hshr : binV Tryz.prog .shr 3 (.int .i64 sn) (.int .u64 (IntKind.u64.wrap (D : Int))) = some (.int .i64 (sn.fdiv (2 ^ D))) := shr_bit (s := sn) (k := D) (by omega)
      have hshl := shl_one (k := D) (by omega)
      by_cases c6 : bitM sn D = true
      · rw [if_pos (.inr (.inr (.inr (.inr (.inr c6)))))] at hr
        simp -dsimp [-intRes_shr, wF, u1, c1', c2', c3, c4, ix, elSz_eq, hc5, c5, hshr, bit_op, c6]
        exact hK _ _ ⟨by rw [← hr], k02⟩
      have c6' : bitM sn D = false := by simpa using c6
      rw [if_neg (fun hh => by rcases hh with hh | hh | hh | hh | hh | hh; all_goals first | omega | exact c6 hh)] at hr
      simp -dsimp [-intRes_shr, -intRes_shl, -intRes_or, wF, u1, c1', c2', c3, c4, ix, elSz_eq, hc5, c5, hshr, hshl, or_op, bit_op, c6', wi]
      have ho := or_ok hsn (pow_lt16 (d := D) (by omega))
      exact ⟨(i + 1, orM sn (2 ^ D)), by simp, rfl, ⟨ky.trans k2 fun _ _ h => h, hil, ho.1, hr⟩, by show fs.length - (i + 1) < fs.length - i; omega⟩
    · simp -dsimp [v2, hil]
      exact ⟨rfl, (i, sn), by simp, rfl, ⟨ky, hi, hsn, hr⟩, by show i = _; omega⟩
  rintro ⟨i, sn⟩ y g ⟨ky, hi, hsn, hr⟩ hil
  simp only at hi hsn hr hil
  rw [hil, List.drop_length, rightF] at hr
  simp -dsimp
  exact hK _ _ ⟨by rw [← hr], k1.trans ky fun _ _ h => h⟩

set_option maxHeartbeats 8000000 in
set_option maxRecDepth 10000 in
theorem pneeds_spec {h : Heap} {fv : Value} {a : Int} {fs : List FilM} (hf : SlRep rFil (Old h) h fv fs) (hfs : ∀ f ∈ fs, 0 ≤ f.dim ∧ f.dim < 4) :
    CallH Tryz.prog 86 #[.agg #[.int .i64 a, fv]] h fun r h' => r = .int .i64 (needM a fs) ∧ Keep none_ h h' := by
  refine callH_by fun K hK => ?_
  refine enter [.tmp 2] Tryz.func86 rfl rfl (by kernel_rfl) rfl ?_
  have hf0 := hf
  obtain ⟨fa, fc, rfl, hfc, hfc'⟩ := hf.val
  simp -dsimp [boxS_eq]
  generalize hB : Array.push h _ = h1
  have k1 : Keep none_ h h1 := by rw [← hB]; exact .push _ _ _
  have w1 : h1[h.size]? = some (.cells #[.int .i64 a, .slice fa fs.length fc] 27 (0, 0)) := by rw [← hB]; exact push_new _ _
  try simp -dsimp [w1]
  refine loopc (σ := Nat) (fun i => [(3, .int .i64 (needM a (fs.take i))), (9, .slice fa fs.length fc), (10, .int .i64 fs.length), (11, .int .i64 i)])
    (fun i y => Keep none_ h1 y ∧ i ≤ fs.length) (fun i => fs.length - i) 0 0 (fun i _ => i = fs.length) noRet noRet_le (by simp [needM]) ⟨.refl _ _, Nat.zero_le _⟩ (by kernel_rfl) ?_ ?_
  case refine_1 =>
    rintro i y g ⟨ky, hi⟩
    have v1 := ky.at w1 (fun h => h)
    have k0y : Keep none_ h y := k1.trans ky fun _ _ h => h
    by_cases hil : i < fs.length
    · have wi := wrap_succ (k := i) (by omega)
      obtain ⟨bk, off, cs, rfl, hfb, hrep, hcs⟩ := (hf0.mono ((Tr.of k0y).ft (Nat.le_refl 0))).get i hil
      obtain rfl : cs = [.int .i64 fs[i].dim, .int .i64 fs[i].lo, .int .i64 fs[i].hi] := hrep
      have hcs : HC.cellsIn y[bk]? (off + i * 3) 3 = some [.int .i64 fs[i].dim, .int .i64 fs[i].lo, .int .i64 fs[i].hi] := hcs
      have hd := hfs _ (List.getElem_mem hil)
      have hnx : needM a (fs.take (i + 1)) = orM (needM a (fs.take i)) (2 ^ fs[i].dim.toNat) := by
        unfold needM
        rw [List.take_add_one, List.getElem?_eq_getElem hil, Option.toList_some, List.foldl_append]
        rfl
      obtain ⟨D, eD⟩ : ∃ D : Nat, fs[i].dim = D := ⟨fs[i].dim.toNat, by omega⟩
      have hshl := shl_int (k := D) (by omega)
      have c0 : HC.cellIn y[bk]? (off + i * 3) = some (.int .i64 fs[i].dim) := by
        have := cellsIn_cell (d := 0) hcs (by decide)
        simpa using this
      rw [eD] at hcs
      simp -dsimp [-intRes_shl, -intRes_or, hil, idxA_nat hil, hcs]
      rw [push_set rfl]
      generalize hP : Array.push y _ = y2
      have k2 : Keep none_ y y2 := by rw [← hP]; exact .push _ _ _
      have wF : y2[y.size]? = some (.cells #[.int .i64 D, .int .i64 fs[i].lo, .int .i64 fs[i].hi] 57 (0, 0)) := by rw [← hP]; exact push_new _ _
      simp -dsimp [-intRes_shl, -intRes_or, hshl, or_op, wi]
      exact ⟨i + 1, by simp [hnx, eD], rfl, ⟨ky.trans k2 fun _ _ h => h, hil⟩, by show fs.length - (i + 1) < fs.length - i; omega⟩
    · simp -dsimp [hil]
      exact ⟨rfl, i, by simp, rfl, ⟨ky, hi⟩, by show i = _; omega⟩
  rintro i y g ⟨ky, hi⟩ hil
  have hil : i = fs.length := hil
  subst hil
  simp -dsimp
  exact hK _ _ ⟨rfl, k1.trans ky fun _ _ h => h⟩

set_option maxHeartbeats 8000000 in
set_option maxRecDepth 10000 in
theorem rneed_spec {h : Heap} {fv : Value} {a : Int} {fs : List FilM} (hf : SlRep rFil (Old h) h fv fs) (hfs : ∀ f ∈ fs, 0 ≤ f.dim ∧ f.dim < 4) :
    CallH Tryz.prog 54 #[.agg #[.int .i64 a, fv]] h fun r h' => r = .int .i64 (needM a fs) ∧ Keep none_ h h' := by
  refine callH_by fun K hK => ?_
  refine enter [.tmp 2] Tryz.func54 rfl rfl (by kernel_rfl) rfl ?_
  have hf0 := hf
  obtain ⟨fa, fc, rfl, hfc, hfc'⟩ := hf.val
  simp -dsimp [boxS_eq]
  generalize hB : Array.push h _ = h1
  have k1 : Keep none_ h h1 := by rw [← hB]; exact .push _ _ _
  have w1 : h1[h.size]? = some (.cells #[.int .i64 a, .slice fa fs.length fc] 27 (0, 0)) := by rw [← hB]; exact push_new _ _
  try simp -dsimp [w1]
  refine loopc (σ := Nat) (fun i => [(1, .pointer (some ⟨h.size, 0, none⟩)), (3, .int .i64 (needM a (fs.take i))), (4, .int .i64 i)])
    (fun i y => Keep none_ h1 y ∧ i ≤ fs.length) (fun i => fs.length - i) 0 0 (fun i _ => i = fs.length) noRet noRet_le (by simp [needM]) ⟨.refl _ _, Nat.zero_le _⟩ (by kernel_rfl) ?_ ?_
  case refine_1 =>
    rintro i y g ⟨ky, hi⟩
    have v1 := ky.at w1 (fun h => h)
    have k0y : Keep none_ h y := k1.trans ky fun _ _ h => h
    by_cases hil : i < fs.length
    · have wi := wrap_succ (k := i) (by omega)
      obtain ⟨bk, off, cs, rfl, hfb, hrep, hcs⟩ := (hf0.mono ((Tr.of k0y).ft (Nat.le_refl 0))).get i hil
      obtain rfl : cs = [.int .i64 fs[i].dim, .int .i64 fs[i].lo, .int .i64 fs[i].hi] := hrep
      have hcs : HC.cellsIn y[bk]? (off + i * 3) 3 = some [.int .i64 fs[i].dim, .int .i64 fs[i].lo, .int .i64 fs[i].hi] := hcs
      have hd := hfs _ (List.getElem_mem hil)
      have hnx : needM a (fs.take (i + 1)) = orM (needM a (fs.take i)) (2 ^ fs[i].dim.toNat) := by
        unfold needM
        rw [List.take_add_one, List.getElem?_eq_getElem hil, Option.toList_some, List.foldl_append]
        rfl
      obtain ⟨D, eD⟩ : ∃ D : Nat, fs[i].dim = D := ⟨fs[i].dim.toNat, by omega⟩
      have hshl := shl_one (k := D) (by omega)
      have c0 : HC.cellIn y[bk]? (off + i * 3) = some (.int .i64 fs[i].dim) := by
        have := cellsIn_cell (d := 0) hcs (by decide)
        simpa using this
      simp -dsimp [-intRes_shl, -intRes_or, v1, hil, idxA_nat hil, c0, eD, hshl, or_op, wi]
      exact ⟨i + 1, by simp [hnx, eD], rfl, ⟨ky, hil⟩, by show fs.length - (i + 1) < fs.length - i; omega⟩
    · simp -dsimp [v1, hil]
      exact ⟨rfl, i, by simp, rfl, ⟨ky, hi⟩, by show i = _; omega⟩
  rintro i y g ⟨ky, hi⟩ hil
  have hil : i = fs.length := hil
  subst hil
  simp -dsimp
  exact hK _ _ ⟨rfl, k1.trans ky fun _ _ h => h⟩
end Go.Proofs

/-
  The program's sets that would serve, one by one.
-/
namespace Go.Proofs
open Go Go.HC

set_option maxHeartbeats 2000000 in
set_option maxRecDepth 10000 in
theorem pkeep_spec {h : Heap} {bq : Nat} {fv : Value} {x a : Int} {fs : List FilM} (hbq : h[bq]? = some (.cells #[.int .i64 a, fv] 27 (0, 0))) (hf : SlRep rFil (Old h) h fv fs) (hfs : ∀ f ∈ fs, 0 ≤ f.dim ∧ f.dim < 4) :
    CallH Tryz.prog 85 #[.int .i64 x, .pointer (some ⟨bq, 0, none⟩)] h fun r h' => r = .bool (decide (andM x (needM a fs) = needM a fs)) ∧ Keep none_ h h' := by
  refine callH_by fun K hK => ?_
  refine enter [.tmp 3] Tryz.func85 rfl rfl (by kernel_rfl) rfl ?_
  have hf0 := hf
  obtain ⟨fa, fc, rfl, hfc, hfc'⟩ := hf.val
  simp -dsimp
  refine drawn_by [⟨0, true, []⟩, ⟨1, true, []⟩, ⟨4, true, []⟩, ⟨2, false, [0, 4]⟩, ⟨3, true, []⟩, ⟨5, false, [0, 3]⟩, ⟨6, true, []⟩, ⟨7, true, []⟩] (by kernel_rfl) (by kernel_rfl) ?_
  simp -dsimp [hbq]
  refine call_by (pneeds_spec hf0 hfs) ?_
  rintro _ h1 ⟨rfl, k1⟩
  have w1 := k1.at hbq (fun h => h)
  simp -dsimp [-intRes_and, again_cons, w1, and_op]
  refine call_by (pneeds_spec (hf0.mono ((Tr.of k1).ft (Nat.le_refl 0))) hfs) ?_
  rintro _ h2 ⟨rfl, k2⟩
  have w2 := k2.at w1 (fun h => h)
  simp -dsimp [-intRes_and, again_cons, w2, and_op]
  exact hK _ _ ⟨congrArg Value.bool (by rw [Bool.eq_iff_iff, beq_iff_eq, decide_eq_true_iff]), k1.trans k2 fun _ _ h => h⟩

set_option maxHeartbeats 2000000 in
set_option maxRecDepth 10000 in
theorem keptI_iter {h0 : Heap} {b1 b2 bq n : Nat} {lv fv : Value} {a : Int} {fs : List FilM} {F G : Nat → Prop} (hb1 : h0[b1]? = some (.cells #[lv] 22 (0, 0))) (hl : SlRep rInt F h0 lv (numsL n)) (hb2 : h0[b2]? = some (.cells #[.func (.func 85) #[] #[.pointer (some ⟨bq, 0, none⟩)]] 150 (0, 0)))
    (hbq : h0[bq]? = some (.cells #[.int .i64 a, fv] 27 (0, 0))) (hf : SlRep rFil G h0 fv fs) (hfs : ∀ f ∈ fs, 0 ≤ f.dim ∧ f.dim < 4) (hn : n < 1000) :
    IterM Tryz.prog 123 #[] #[.pointer (some ⟨b1, 0, none⟩), .pointer (some ⟨b2, 0, none⟩)] (fun i : Nat => #[.int .i64 (i : Int)]) (fun xs i _ _ => xs = (List.range i).filter (fun (j : Nat) => decide (andM (j : Int) (needM a fs) = needM a fs)) ∧ i < n ∧ andM (i : Int) (needM a fs) = needM a fs)
      (fun xs => xs = (List.range n).filter (fun (j : Nat) => decide (andM (j : Int) (needM a fs) = needM a fs))) (fun b => b = b1 ∨ b = b2 ∨ b = bq ∨ F b ∨ G b) h0 := by
  intro y J M0 h ⟨yf, yu, yv', hyf⟩ hy hJ hsz hFp
  subst hyf
  obtain ⟨p, ep⟩ : ∃ p : Nat → Bool, p = fun (j : Nat) => decide (andM (j : Int) (needM a fs) = needM a fs) := ⟨_, rfl⟩
  rw [← ep]
  have hp : ∀ j : Nat, p j = true ↔ andM (j : Int) (needM a fs) = needM a fs := fun j => by rw [ep]; exact decide_eq_true_iff
  have w1 := (hFp b1 (.inl rfl)).2.2.trans hb1
  have w2 := (hFp b2 (.inr (.inl rfl))).2.2.trans hb2
  have w3 := (hFp bq (.inr (.inr (.inl rfl)))).2.2.trans hbq
  have n1 := (hFp b1 (.inl rfl)).2.1
  have n2 := (hFp b2 (.inr (.inl rfl))).2.1
  have n3 := (hFp bq (.inr (.inr (.inl rfl)))).2.1
  have hlh : SlRep rInt (Ft 0 M0 h) h lv (numsL n) := hl.mono fun x hx => by
    obtain ⟨g1, g2, g3⟩ := hFp x (.inr (.inr (.inr (.inl hx))))
    exact ⟨⟨nz, by omega, g2⟩, g3⟩
  have hfh : SlRep rFil (Ft 0 M0 h) h fv fs := hf.mono fun x hx => by
    obtain ⟨g1, g2, g3⟩ := hFp x (.inr (.inr (.inr (.inr hx))))
    exact ⟨⟨nz, by omega, g2⟩, g3⟩
  have hnl := numsL_len n
  obtain ⟨a0, c0, rfl, _, _⟩ := hl.val
  rw [hnl] at w1
  refine callH_by fun K hK => ?_
  refine enter [] Tryz.func123 rfl rfl (by kernel_rfl) rfl ?_
  simp -dsimp [w1]
  refine loopc (σ := Nat) (fun i => [(0, .func yf yu yv'), (1, .pointer (some ⟨b1, 0, none⟩)), (2, .pointer (some ⟨b2, 0, none⟩)), (6, .slice a0 n c0), (7, .int .i64 n), (8, .int .i64 i)]) (fun i h1 => i ≤ n ∧ ∃ M, J ((List.range i).filter p) M h1 ∧ Tr M0 M h h1) (fun i => n - i) 0 0 (fun i _ => i = n) noRet noRet_le (by simp)
    ⟨by omega, M0, hJ, ⟨.refl _ _, fun _ h => .inl h, fun b hb => hy.lt hJ b hb⟩⟩ (by kernel_rfl) ?_ ?_
  · rintro i h1 g ⟨hi, M, hJ1, t⟩
    have v2 := t.at w2 n2
    have v3 := t.at w3 n3
    have hrs := range_snoc p i
    by_cases hl' : i < n
    · have wk := wrap_succ (k := i) (by omega)
      have hil : i < (numsL n).length := by omega
      obtain ⟨b5, o5, e5, _, hc5⟩ := (hlh.mono (t.ft (Nat.le_refl 0))).int_at i hil
      have ev : (numsL n)[i] = (i : Int) := by simp [numsL]
      rw [ev] at hc5
      subst e5
      simp -dsimp [hl', idxA_nat hl', hc5, v2]
      refine call_by (pkeep_spec v3 ((hfh.mono (t.ft (Nat.le_refl 0))).mono (Ft.free (Nat.le_refl 0))) hfs) ?_
      rintro _ h2 ⟨rfl, k2⟩
      have hJ2 := hy.call hJ1 k2
      by_cases hk : andM (i : Int) (needM a fs) = needM a fs
      · rw [(hp i).2 hk, if_pos rfl] at hrs
        simp -dsimp [hk]
        refine callV_by (hy.step (x := i) hJ2 ⟨by rw [ep], hl', hk⟩) ?_
        rintro _ h3 ⟨rfl, M', hJ3, t3⟩
        simp -dsimp [wk]
        exact ⟨i + 1, by simp, rfl, ⟨by omega, M', by rw [hrs]; exact hJ3, (t.call k2).trans t3⟩, by show n - (i + 1) < n - i; omega⟩
      · have hpf : p i = false := by
          cases hpi : p i with
          | false => rfl
          | true => exact absurd ((hp i).1 hpi) hk
        rw [hpf, if_neg (by decide), List.append_nil] at hrs
        simp -dsimp [hk, wk]
        exact ⟨i + 1, by simp, rfl, ⟨by omega, M, by rw [hrs]; exact hJ2, t.call k2⟩, by show n - (i + 1) < n - i; omega⟩
    · simp -dsimp [hl']
      exact ⟨rfl, i, by simp, rfl, ⟨hi, M, hJ1, t⟩, by show i = n; omega⟩
  · rintro i h1 g ⟨hi, M, hJ1, t⟩ rfl
    simp -dsimp
    exact hK _ _ ⟨_, M, rfl, hJ1, t⟩
end Go.Proofs

/-
  The program's reader, plainly.
-/
namespace Go.HC
theorem take_step {α : Type} {l : List α} {k : Nat} (hk : k < l.length) : l.take (k + 1) = l.take k ++ [l[k]] := by
  rw [List.take_add_one, List.getElem?_eq_getElem hk]
  rfl
/-- What a reader takes. -/
def tkX (n : Nat) (left : List UInt8) : Int := if left.length < n then 0 else backM (left.take n)
def tkL (n : Nat) (left : List UInt8) : List UInt8 := if left.length < n then [] else left.drop n
def tkB (n : Nat) (left : List UInt8) (bad : Bool) : Bool := bad || decide (left.length < n)
/-- What a reader lists. -/
def lsX (c n : Nat) (left : List UInt8) : List Int := (List.range c).map fun i => backM ((left.drop (i * n)).take n)

theorem lsX_succ (c n : Nat) (left : List UInt8) : lsX (c + 1) n left = lsX c n left ++ [backM ((left.drop (c * n)).take n)] := by
  unfold lsX
  rw [List.range_succ, List.map_append]
  rfl

/-- A reader behind a list. -/
structure LsAt (c n : Nat) (left : List UInt8) (bad : Bool) (xs : List Int) (left' : List UInt8) (bad' : Bool) : Prop where
  good : bad' = false → bad = false ∧ c * n ≤ left.length ∧ left' = left.drop (c * n) ∧ xs = lsX c n left
  ill : bad' = true → bad = true ∨ left.length < c * n

theorem bytes_ints {n : Nat} {l : List UInt8} (h : n ≤ l.length) : lsX n 1 l = (l.take n).map intB := by
  unfold lsX
  apply List.ext_getElem
  · simp; omega
  · intro i h1 h2
    have hi : i < n := by simpa using h1
    have hil : i < l.length := by omega
    rw [List.getElem_map, List.getElem_range, List.getElem_map, List.getElem_take, Nat.mul_one, List.drop_eq_getElem_cons hil, List.take_succ_cons, List.take_zero]
    unfold backM intB
    rw [List.foldl_cons, List.foldl_nil]
    have := l[i].toNat_lt
    rw [wrap_i64 (by omega) (by omega)]
    omega
theorem tkX_one {l : List UInt8} (h : 1 ≤ l.length) : tkX 1 l = intB (l.getD 0 0) := by
  obtain ⟨c, l, rfl⟩ : ∃ c m, l = c :: m := by
    cases l with
    | nil => simp at h
    | cons c m => exact ⟨c, m, rfl⟩
  unfold tkX backM intB
  rw [if_neg (by omega)]
  have := c.toNat_lt
  simp only [List.take_succ_cons, List.take_zero, List.foldl_cons, List.foldl_nil, List.getD_cons_zero]
  rw [wrap_i64 (by omega) (by omega)]
  omega
theorem tkX_two {l : List UInt8} (h : 2 ≤ l.length) : tkX 2 l = ((l.getD 0 0).toNat * 256 + (l.getD 1 0).toNat : Nat) := by
  obtain ⟨c, d, l, rfl⟩ : ∃ c d m, l = c :: d :: m := by
    match l, h with
    | c :: d :: m, _ => exact ⟨c, d, m, rfl⟩
  unfold tkX backM
  rw [if_neg (by omega)]
  have := c.toNat_lt
  have := d.toNat_lt
  simp only [List.take_succ_cons, List.take_zero, List.foldl_cons, List.foldl_nil, List.getD_cons_zero, List.getD_cons_succ]
  rw [wrap_i64 (x := 0 * 256 + (c.toNat : Int)) (by omega) (by omega), wrap_i64 (by omega) (by omega)]
  omega
theorem getD_drop {l : List UInt8} (k i : Nat) : (l.drop k).getD i 0 = l.getD (k + i) 0 := by
  rw [List.getD_eq_getElem?_getD, List.getD_eq_getElem?_getD, List.getElem?_drop]
/-- What a reader takes of a head. -/
theorem head_read {b l2 : List UInt8} {c : Nat} {xs : List Int} {bad2 bad4 : Bool} (hl : 4 ≤ b.length) (hc : tkX 1 (b.drop 4) = c)
    (ls : LsAt c 1 (tkL 1 (b.drop 4)) (tkB 1 (b.drop 4) false) xs l2 bad2) (h4 : bad4 = tkB 2 (tkL 1 l2) (tkB 1 l2 bad2)) :
    (bad4 = false → 8 + dimB b ≤ b.length ∧ xs = (schB b).cards ∧ tkX 1 l2 = (schB b).ms ∧ tkX 2 (tkL 1 l2) = cntB b ∧ tkL 2 (tkL 1 l2) = restB b) ∧ (bad4 = true → ¬ 8 + dimB b ≤ b.length) := by
  have hdl : (b.drop 4).length = b.length - 4 := List.length_drop ..
  by_cases h1 : (b.drop 4).length < 1
  · have e0 : tkB 1 (b.drop 4) false = true := by unfold tkB; rw [decide_eq_true h1]; rfl
    have e2 : bad2 = true := by
      cases hb : bad2 with
      | true => rfl
      | false =>
        have := (ls.good hb).1
        rw [e0] at this
        cases this
    refine ⟨fun h => ?_, fun _ => by omega⟩
    rw [h4, e2] at h
    unfold tkB at h
    simp at h
  · have ec : c = dimB b := by
      have := tkX_one (l := b.drop 4) (by omega)
      rw [hc, getD_drop] at this
      unfold intB at this
      unfold dimB
      exact Int.ofNat_inj.1 this
    have e0 : tkB 1 (b.drop 4) false = false := by unfold tkB; rw [decide_eq_false h1]; rfl
    have e1 : tkL 1 (b.drop 4) = b.drop 5 := by unfold tkL; rw [if_neg h1, List.drop_drop]
    rw [e0, e1, ec] at ls
    have hd5 : (b.drop 5).length = b.length - 5 := List.length_drop ..
    by_cases h2 : bad2 = true
    · rcases ls.ill h2 with h | h
      · cases h
      · refine ⟨fun h' => ?_, fun _ => by omega⟩
        rw [h4, h2] at h'
        unfold tkB at h'
        simp at h'
    · have h2 : bad2 = false := by simpa using h2
      obtain ⟨_, g1, g2, g3⟩ := ls.good h2
      rw [Nat.mul_one] at g1 g2
      rw [List.drop_drop] at g2
      have hl2 : l2.length = b.length - (5 + dimB b) := by rw [g2, List.length_drop]
      by_cases h3 : l2.length < 1
      · refine ⟨fun h' => ?_, fun _ => by omega⟩
        rw [h4, h2] at h'
        unfold tkB at h'
        simp [h3] at h'
      · have e3 : tkL 1 l2 = b.drop (6 + dimB b) := by
          unfold tkL
          rw [if_neg h3, g2, List.drop_drop]
          congr 1
          omega
        have hl3 : (tkL 1 l2).length = b.length - (6 + dimB b) := by rw [e3, List.length_drop]
        by_cases h5 : (tkL 1 l2).length < 2
        · refine ⟨fun h' => ?_, fun _ => by omega⟩
          rw [h4, h2] at h'
          unfold tkB at h'
          simp [h5] at h'
        · refine ⟨fun _ => ⟨by omega, ?_, ?_, ?_, ?_⟩, fun h' => ?_⟩
          · rw [g3, bytes_ints (by omega)]
            rfl
          · rw [tkX_one (by omega), g2, getD_drop]
            rfl
          · rw [tkX_two (by omega), e3, getD_drop, getD_drop]
            unfold cntB
            rw [Nat.add_zero, show 6 + dimB b + 1 = 7 + dimB b by omega]
          · unfold tkL at h5 ⊢
            rw [if_neg h3] at h5 ⊢
            rw [if_neg h5, g2, List.drop_drop, List.drop_drop]
            unfold restB
            congr 1
            omega
          · rw [h4, h2] at h'
            unfold tkB at h'
            simp [h3, h5] at h'
/-- What a reader takes of a row. -/
theorem row_read {rest l1 l2 : List UInt8} {d m w i : Nat} {xs ys : List Int} {bad1 bad2 : Bool} (hw : w = d + 8 * m) (hi : i * w ≤ rest.length)
    (h1 : LsAt d 1 (rest.drop (i * w)) false xs l1 bad1) (h2 : LsAt m 8 l1 bad1 ys l2 bad2) :
    (bad2 = false → xs = (rowX d m ((rest.drop (i * w)).take w)).key ∧ ys = (rowX d m ((rest.drop (i * w)).take w)).m ∧ l2 = rest.drop ((i + 1) * w) ∧ (i + 1) * w ≤ rest.length) ∧ (bad2 = true → rest.length < (i + 1) * w) := by
  have hs : (i + 1) * w = i * w + w := Nat.succ_mul i w
  have hdl : (rest.drop (i * w)).length = rest.length - i * w := List.length_drop ..
  refine ⟨fun hb => ?_, fun hb => ?_⟩
  · obtain ⟨e1, g1, g2, g3⟩ := h2.good hb
    obtain ⟨_, f1, f2, f3⟩ := h1.good e1
    rw [Nat.mul_one] at f1 f2
    rw [f2, List.length_drop] at g1
    refine ⟨?_, ?_, ?_, by omega⟩
    · rw [f3, bytes_ints f1]
      unfold rowX
      rw [List.take_take, Nat.min_eq_left (by omega)]
    · rw [g3, f2]
      unfold rowX lsX
      apply List.map_congr_left
      intro k hk
      have hk := List.mem_range.1 hk
      rw [List.drop_drop]
      congr 1
      rw [List.drop_take, List.take_take, Nat.min_eq_left (by omega), List.drop_drop, List.drop_drop, Nat.mul_comm 8 k]
    · rw [g2, f2, List.drop_drop, List.drop_drop]
      congr 1
      omega
  · rcases h2.ill hb with e | e
    · rcases h1.ill e with e | e
      · cases e
      · omega
    · cases hb1 : bad1 with
      | true =>
        rcases h1.ill hb1 with e | e
        · cases e
        · omega
      | false =>
        obtain ⟨_, f1, f2, f3⟩ := h1.good hb1
        rw [f2, List.length_drop] at e
        omega
end Go.HC

/-
  The program's reader of facts: take, list.
-/
namespace Go.Proofs
open Go Go.HC

set_option maxHeartbeats 4000000 in
set_option maxRecDepth 10000 in
theorem take_spec {h : Heap} {bp n : Nat} {v : Value} {left : List UInt8} {bad : Bool} {F : Nat → Prop} (hb : h[bp]? = some (.cells #[v, .bool bad] 169 (0, 0))) (hs : SlRep rByte F h v left) (hF : ∀ b, F b → b ≠ bp) (hn : n ≤ 8) :
    CallH Tryz.prog 110 #[.pointer (some ⟨bp, 0, none⟩), .int .i64 n] h fun r h' => r = .int .i64 (tkX n left) ∧ ∃ v', h' = h.setIfInBounds bp (.cells #[v', .bool (tkB n left bad)] 169 (0, 0)) ∧ SlRep rByte F h' v' (tkL n left) := by
  refine callH_by fun K hK => ?_
  refine enter [.tmp 4] Tryz.func110 rfl rfl (by kernel_rfl) rfl ?_
  obtain ⟨a0, c0, rfl, hc0, hc1⟩ := hs.val
  have hlb := lt_of_blk hb
  by_cases hlt : left.length < n
  · have q1 : ((left.length : Int) < n) := by omega
    simp -dsimp [hb, q1, set_same _ hlb, Array.setIfInBounds_setIfInBounds]
    refine hK _ _ ⟨by unfold tkX; rw [if_pos hlt], .slice none 0 0, by unfold tkB; rw [decide_eq_true hlt, Bool.or_true], ?_⟩
    unfold tkL
    rw [if_pos hlt]
    exact SlRep.nil _ _ _
  · have q1 : ¬ ((left.length : Int) < n) := by omega
    have hT : ((elS Tryz.prog 66).bind (szS Tryz.prog)).isSome = true := by kernel_rfl
    have hsl : ∀ {y : Heap} K, sliceS Tryz.prog 66 (.slice a0 left.length c0) none (some (.int .i64 n)) none y K = K (.slice (piece a0 0 c0 1) n c0) y := fun K => sliceS_to (P := Tryz.prog) (T := 66) (k := .i64) hT (by omega)
    have hsf : ∀ {y : Heap} K, sliceS Tryz.prog 66 (.slice a0 left.length c0) (some (.int .i64 n)) none none y K = K (.slice (piece a0 n c0 1) (left.length - n) (c0 - n)) y := fun K => sliceS_from (P := Tryz.prog) (T := 66) (k := .i64) hT (by omega) hc0
    have hcut := hs.cut (i := 0) (j := n) (m := c0) (by omega) (by omega) (by omega) (Nat.le_refl _)
    rw [List.drop_zero, Nat.sub_zero] at hcut
    have hnl : (left.take n).length = n := by rw [List.length_take]; omega
    obtain ⟨a1, ea⟩ : ∃ a1, a1 = piece a0 0 c0 1 := ⟨_, rfl⟩
    have hcut : SlRep rByte F h (.slice a1 n (c0 - 0)) (left.take n) := by rw [ea]; exact hcut
    simp -dsimp [hb, q1, hsl]
    rw [← ea]
    refine loopc (σ := Nat) (fun i => [(0, .pointer (some ⟨bp, 0, none⟩)), (1, .int .i64 n), (5, .int .i64 (backM ((left.take n).take i))), (26, .slice a1 n c0), (27, .int .i64 n), (28, .int .i64 i)])
      (fun i y => y = h ∧ i ≤ n) (fun i => n - i) 0 0 (fun i _ => i = n) noRet noRet_le (by simp [backM]) ⟨rfl, Nat.zero_le _⟩ (by kernel_rfl) ?_ ?_
    · rintro i y g ⟨rfl, hi⟩
      have wi := wrap_succ (k := i) (by omega)
      by_cases hil : i < n
      · have hib : i < (left.take n).length := by omega
        obtain ⟨bk, off, rfl, _, hc⟩ := hcut.byte_at i hib
        have hlt8 : (left.take n)[i].toNat < 256 := (left.take n)[i].toNat_lt
        have hcw : IntKind.i64.wrap ((left.take n)[i].toNat : Int) = ((left.take n)[i].toNat : Int) := wrap_i64 (by omega) (by omega)
        simp -dsimp [-intRes_shl, -intRes_or, -List.getElem_take, hil, idxA_nat hil, hc, hcw, shl8, or8 _ hlt8, wi]
        exact ⟨i + 1, by simp [-List.getElem_take, back_snoc hib], rfl, ⟨rfl, by omega⟩, by show n - (i + 1) < n - i; omega⟩
      · simp -dsimp [hil]
        exact ⟨rfl, i, by simp, rfl, ⟨rfl, hi⟩, by show i = n; omega⟩
    · rintro i y g ⟨rfl, hi⟩ hil
      have hil : i = n := hil
      subst hil
      simp -dsimp [hb, hsf]
      refine hK _ _ ⟨by unfold tkX; rw [if_neg hlt, List.take_take, Nat.min_self], _, by unfold tkB; rw [decide_eq_false hlt, Bool.or_false], ?_⟩
      have hcut2 := hs.cut (i := i) (j := left.length) (m := c0) (by omega) (Nat.le_refl _) hc0 (Nat.le_refl _)
      rw [List.take_of_length_le (by rw [List.length_drop]; omega)] at hcut2
      unfold tkL
      rw [if_neg hlt]
      exact hcut2.mono fun b hb' => ⟨hb', set_other _ fun e => hF b hb' e.symm⟩

/-- What stands in a reader. -/
structure RdAt (h : Heap) (bp : Nat) (F : Nat → Prop) (left : List UInt8) (bad : Bool) : Prop where
  ex : ∃ v, h[bp]? = some (.cells #[v, .bool bad] 169 (0, 0)) ∧ SlRep rByte F h v left

theorem RdAt.keep {h h' : Heap} {bp : Nat} {F S : Nat → Prop} {left : List UInt8} {bad : Bool} (r : RdAt h bp F left bad) (k : Keep S h h') (hF : ∀ b, F b → b < h.size ∧ ¬ S b) (hS : ¬ S bp) : RdAt h' bp F left bad := by
  obtain ⟨v, h1, h2⟩ := r.ex
  exact ⟨v, k.at h1 hS, h2.mono fun b hb => ⟨hb, k.blk b (hF b hb).1 (hF b hb).2⟩⟩

theorem take_at {h : Heap} {bp n : Nat} {left : List UInt8} {bad : Bool} {F : Nat → Prop} (r : RdAt h bp F left bad) (hF : ∀ b, F b → b ≠ bp) (hn : n ≤ 8) :
    CallH Tryz.prog 110 #[.pointer (some ⟨bp, 0, none⟩), .int .i64 n] h fun r h' => r = .int .i64 (tkX n left) ∧ RdAt h' bp F (tkL n left) (tkB n left bad) ∧ Keep (fun b => b = bp) h h' ∧ h'.size = h.size := by
  obtain ⟨v, h1, h2⟩ := r.ex
  refine (take_spec h1 h2 hF hn).mono ?_
  rintro _ h' ⟨rfl, v', rfl, h3⟩
  exact ⟨rfl, ⟨v', set_same _ (lt_of_blk h1), h3⟩, (Keep.refl _ _).setted _ fun _ => rfl, by simp⟩

set_option maxHeartbeats 4000000 in
set_option maxRecDepth 10000 in
theorem list_spec {h : Heap} {bp c n : Nat} {left : List UInt8} {bad : Bool} {F : Nat → Prop} (r : RdAt h bp F left bad) (hF : ∀ b, F b → b ≠ bp ∧ b < h.size) (hn : n ≤ 8) (hc : c < 1000) :
    CallH Tryz.prog 109 #[.pointer (some ⟨bp, 0, none⟩), .int .i64 c, .int .i64 n] h fun r h' => ∃ xs left' bad', SlRep rInt (Ft h.size none_ h') h' r xs ∧ RdAt h' bp F left' bad' ∧ LsAt c n left bad xs left' bad' ∧ xs.length ≤ c ∧ Keep (fun b => b = bp) h h' := by
  refine callH_by fun K hK => ?_
  refine enter [.tmp 6] Tryz.func109 rfl rfl (by kernel_rfl) rfl ?_
  have hlb : bp < h.size := by obtain ⟨v, h1, _⟩ := r.ex; exact lt_of_blk h1
  obtain ⟨M1, eM⟩ : ∃ M1 : Nat → Prop, M1 = fun b => b = bp := ⟨_, rfl⟩
  have hM1 : ∀ b, M1 b ↔ b = bp := fun b => by rw [eM]
  simp -dsimp
  refine loopc (σ := Nat × Value) (fun t => [(0, .pointer (some ⟨bp, 0, none⟩)), (2, .int .i64 n), (7, t.2), (8, .int .i64 c), (9, .int .i64 t.1)])
    (fun t y => ∃ M own xs left' bad', Tr M1 M h y ∧ M bp ∧ (∀ b, own = some b → h.size ≤ b) ∧ t.1 ≤ c ∧ xs.length = t.1 ∧ Gr rInt 3 h.size M y t.2 xs own ∧ RdAt y bp F left' bad' ∧ LsAt t.1 n left bad xs left' bad')
    (fun t => c - t.1) (0, .slice none 0 0) 0 (fun t _ => t.1 = c) (endR Tryz.prog [.tmp 6] K).rt (fun _ _ _ h => h) (by simp) ⟨M1, none, [], left, bad, ⟨.refl _ _, fun b hb => .inl hb, fun b hb => by rw [(hM1 b).1 hb]; exact hlb⟩, (hM1 _).2 rfl, (fun _ h => by cases h), Nat.zero_le _, rfl, .nil _ _ _ _ _, r, ⟨fun e => ⟨e, by omega, by simp, rfl⟩, fun e => .inl e⟩⟩ (by kernel_rfl) ?_ ?_
  · rintro ⟨d, v⟩ y g ⟨M, own, xs, left', bad', t, hM, ho, hd, hl, gv, hr, hls⟩
    simp only at hd hl gv hls
    by_cases hlt : d < c
    · obtain ⟨v1, hv1, hv2⟩ := hr.ex
      have wd := wrap_succ (k := d) (by omega)
      have hKp : Keep (fun b => b = bp) h y := t.keep.weaken fun b _ hb => (hM1 b).1 hb
      cases bad' with
      | true =>
        simp -dsimp [hlt, hv1]
        refine hK _ _ ⟨[], left', true, .nil _ _ _, hr, ⟨(by intro e; cases e), fun _ => ?_⟩, Nat.zero_le _, hKp⟩
        rcases hls.ill rfl with e | e
        · exact .inl e
        · exact .inr (Nat.lt_of_lt_of_le e (Nat.mul_le_mul hd (Nat.le_refl _)))
      | false =>
        obtain ⟨e1, e2, e3, e4⟩ := hls.good rfl
        have hFy : ∀ b, F b → b < y.size ∧ ¬ (b = bp) := fun b hb => ⟨by have := (hF b hb).2; have := t.size; omega, (hF b hb).1⟩
        simp -dsimp [hlt, hv1]
        refine call_by (take_at hr (fun b hb => (hF b hb).1) hn) ?_
        rintro _ y2 ⟨rfl, hr2, k2, z2⟩
        have hob : own ≠ some bp := fun e => by have := ho _ e; omega
        have t2 : Tr M M y y2 := Tr.lp t.lt hM k2
        have gv2 := gv.lp t.lt hM hob k2
        simp -dsimp
        refine gr_app1 rfl intT gv2 t2.lt rfl rfl (by omega) (by omega) ?_
        intro v5 h5 own5 g5 t5 k5 ho5
        simp -dsimp [wd]
        refine ⟨(d + 1, v5), by simp, rfl, ⟨_, own5, _, _, _, (t.trans t2).trans t5, .inl hM, (fun b e => (ho5 b e).elim (ho b) (by have := t.size; omega)), by omega, by simp [hl], g5, hr2.keep k5 (fun b hb => ⟨by have := (hFy b hb).1; omega, fun e => by have := ho _ e; have := (hF b hb).2; omega⟩) hob, ?_⟩, by show c - (d + 1) < c - d; omega⟩
        have hdn : (d + 1) * n = d * n + n := Nat.succ_mul d n
        have hll : left'.length = left.length - d * n := by rw [e3, List.length_drop]
        by_cases hw : left'.length < n
        · refine ⟨fun e => ?_, fun _ => .inr (by show left.length < (d + 1) * n; omega)⟩
          unfold tkB at e
          rw [decide_eq_true hw] at e
          cases e
        · refine ⟨fun _ => ⟨e1, by show (d + 1) * n ≤ left.length; omega, ?_, ?_⟩, fun e => ?_⟩
          · unfold tkL
            rw [if_neg hw, e3, List.drop_drop]
            show _ = List.drop ((d + 1) * n) left
            rw [hdn]
          · show _ = lsX (d + 1) n left
            rw [lsX_succ, e4]
            unfold tkX
            rw [if_neg hw, e3]
          · unfold tkB at e
            rw [decide_eq_false hw] at e
            cases e
    · simp -dsimp [hlt]
      exact ⟨rfl, (d, v), by simp, rfl, ⟨M, own, xs, left', bad', t, hM, ho, hd, hl, gv, hr, hls⟩, by show d = c; omega⟩
  · rintro ⟨d, v⟩ y g ⟨M, own, xs, left', bad', t, hM, ho, hd, hl, gv, hr, hls⟩ hdc
    simp only at hd hl gv hls hdc
    subst hdc
    have hKp : Keep (fun b => b = bp) h y := t.keep.weaken fun b _ hb => (hM1 b).1 hb
    obtain ⟨va, vc, rfl⟩ := gv.val
    have hv : SlRep rInt (Ft h.size none_ y) y (.slice va xs.length vc) xs := gv.rep (Nat.le_refl _) ho
    obtain ⟨cs, _, q2, q3, q4, q5⟩ := hv.open_
    simp -dsimp
    refine gr_append (R := rInt) (e := 3) (n := h.size) (M := fun b => b = bp) (xs := []) (own := none) intT (.nil _ _ _ _ _) (fun b hb => by have := t.size; omega) rfl q4 (ints_map.2 (ints_map.1 q5)) (by simp; omega) (by simp; omega) ?_
    intro v' h' own' g' t' k' ho'
    simp -dsimp
    rw [List.nil_append] at g'
    have hr' := hr.keep k' (fun b hb => ⟨by have := (hF b hb).2; have := t.size; omega, by simp⟩) (by simp)
    exact hK _ _ ⟨xs, left', bad', g'.rep (Nat.le_refl _) (fun b e => (ho' b e).elim (by simp) (by have := t.size; omega)), hr', hls, by omega, hKp.trans k' (by simp)⟩
end Go.Proofs

/-
  The program's schemas, rows that may be.
-/
namespace Go.Proofs
open Go Go.HC

set_option maxRecDepth 10000 in
theorem outside_spec {h : Heap} {b1 b2 : Nat} {lo hi : Int} {fz fz' : Nat × Nat} (x : Int) (h1 : h[b1]? = some (.cells #[.int .i64 lo] 3 fz)) (h2 : h[b2]? = some (.cells #[.int .i64 hi] 3 fz')) :
    CallH Tryz.prog 170 #[.int .i64 x, .pointer (some ⟨b1, 0, none⟩), .pointer (some ⟨b2, 0, none⟩)] h fun r h' => r = .bool (decide (x < lo ∨ hi < x)) ∧ h' = h := by
  refine callH_by fun K hK => ?_
  refine enter [.tmp 4] Tryz.func170 rfl rfl (by kernel_rfl) rfl ?_
  by_cases q1 : x < lo
  · simp -dsimp [h1, q1]
    exact hK _ _ ⟨by simp [q1], rfl⟩
  · by_cases q2 : hi < x
    · simp -dsimp [h1, h2, q1, q2]
      exact hK _ _ ⟨by simp [q2], rfl⟩
    · simp -dsimp [h1, h2, q1, q2]
      exact hK _ _ ⟨by simp [q1, q2], rfl⟩

set_option maxHeartbeats 4000000 in
set_option maxRecDepth 10000 in
theorem indexOut_spec {h : Heap} {b1 b2 : Nat} {lo hi : Int} {fz fz' : Nat × Nat} {v : Value} {xs : List Int} {F : Nat → Prop} (h1 : h[b1]? = some (.cells #[.int .i64 lo] 3 fz)) (h2 : h[b2]? = some (.cells #[.int .i64 hi] 3 fz')) (hs : SlRep rInt F h v xs) :
    CallH Tryz.prog 184 #[v, .func (.func 170) #[] #[.pointer (some ⟨b1, 0, none⟩), .pointer (some ⟨b2, 0, none⟩)]] h fun r h' => (∃ k : Int, r = .int .i64 k ∧ (0 ≤ k ↔ ∃ x ∈ xs, x < lo ∨ hi < x)) ∧ h' = h := by
  refine callH_by fun K hK => ?_
  refine enter [.tmp 4] Tryz.func184 rfl rfl (by kernel_rfl) rfl ?_
  obtain ⟨a0, c0, rfl, hc0, hc1⟩ := hs.val
  simp -dsimp
  refine loopc (σ := Nat) (fun i => [(0, .slice a0 xs.length c0), (1, .func (.func 170) #[] #[.pointer (some ⟨b1, 0, none⟩), .pointer (some ⟨b2, 0, none⟩)]), (7, .int .i64 xs.length), (8, .int .i64 i)])
    (fun i y => y = h ∧ i ≤ xs.length ∧ ∀ x ∈ xs.take i, ¬ (x < lo ∨ hi < x)) (fun i => xs.length - i) 0 0 (fun i _ => i = xs.length) (endR Tryz.prog [.tmp 4] K).rt (fun _ _ _ h => h) (by simp) ⟨rfl, Nat.zero_le _, fun x hx => by simp at hx⟩ (by kernel_rfl) ?_ ?_
  · rintro i y g ⟨rfl, hi', hno⟩
    by_cases hil : i < xs.length
    · have wi := wrap_succ (k := i) (by omega)
      obtain ⟨b5, o5, rfl, _, hc5⟩ := hs.int_at i hil
      simp -dsimp [hil, idxA_nat hil, hc5]
      refine call_by (outside_spec xs[i] h1 h2) ?_
      rintro _ h2' ⟨rfl, hh⟩
      obtain rfl := hh.symm
      by_cases hx : xs[i] < lo ∨ hi < xs[i]
      · simp -dsimp [hx]
        exact hK _ _ ⟨⟨_, rfl, ⟨fun _ => ⟨_, List.getElem_mem hil, hx⟩, fun _ => by omega⟩⟩, rfl⟩
      · simp -dsimp [hx, wi]
        refine ⟨i + 1, by simp, rfl, ⟨rfl, by omega, fun x hx' => ?_⟩, by show xs.length - (i + 1) < xs.length - i; omega⟩
        rw [take_step hil] at hx'
        rcases List.mem_append.1 hx' with hd | hd
        · exact hno x hd
        · rw [List.mem_singleton] at hd
          rw [hd]
          exact hx
    · simp -dsimp [hil]
      exact ⟨rfl, i, by simp, rfl, ⟨rfl, hi', hno⟩, by show i = xs.length; omega⟩
  · rintro i y g ⟨rfl, hi', hno⟩ hil
    have hil : i = xs.length := hil
    subst hil
    rw [List.take_length] at hno
    simp -dsimp
    exact hK _ _ ⟨⟨_, rfl, ⟨(fun h => by omega), fun ⟨x, hx, h⟩ => absurd h (hno x hx)⟩⟩, rfl⟩

set_option maxHeartbeats 4000000 in
set_option maxRecDepth 10000 in
theorem pwithin_spec {h : Heap} {lo hi : Int} {v : Value} {xs : List Int} (hs : SlRep rInt (Old h) h v xs) :
    CallH Tryz.prog 139 #[v, .int .i64 lo, .int .i64 hi] h fun r h' => (∃ t : Bool, r = .bool t ∧ (t = true ↔ ∀ x ∈ xs, lo ≤ x ∧ x ≤ hi)) ∧ Keep none_ h h' := by
  refine callH_by fun K hK => ?_
  refine enter [.tmp 6] Tryz.func139 rfl rfl (by kernel_rfl) rfl ?_
  have hs0 := hs
  obtain ⟨a0, c0, rfl, hc0, hc1⟩ := hs.val
  simp -dsimp [boxS_eq]
  generalize hB : Array.push (Array.push h _) _ = h1
  have k1 : Keep none_ h h1 := by rw [← hB]; exact ((Keep.refl none_ h).pushed _).pushed _
  have w1 : h1[h.size]? = some (.cells #[.int .i64 lo] 3 (0, 0)) := by rw [← hB]; exact push_at (push_new _ _)
  have w2 : h1[h.size + 1]? = some (.cells #[.int .i64 hi] 3 (0, 0)) := by rw [← hB]; exact push_get (by simp)
  have hs1 := hs0.mono ((Tr.of k1).ft (Nat.le_refl 0))
  refine call_by (K' := fun r h' => (∃ t : Bool, r = .bool t ∧ (t = true ↔ ∃ x ∈ xs, x < lo ∨ hi < x)) ∧ h' = h1) ?_ ?_
  · refine callH_by fun K hK => ?_
    refine enter [.tmp 4] Tryz.func169 rfl rfl (by kernel_rfl) rfl ?_
    simp -dsimp
    refine call_by (indexOut_spec w1 w2 hs1) ?_
    rintro _ y ⟨⟨k, rfl, hk⟩, hh⟩
    obtain rfl := hh.symm
    simp -dsimp
    refine hK _ _ ⟨⟨_, rfl, ?_⟩, rfl⟩
    rw [decide_eq_true_iff]
    exact hk
  · rintro _ y ⟨⟨t, rfl, ht⟩, hh⟩
    obtain rfl := hh.symm
    simp -dsimp
    refine hK _ _ ⟨⟨_, rfl, ?_⟩, k1⟩
    cases t with
    | true =>
      obtain ⟨x, hx, h⟩ := ht.1 rfl
      refine ⟨(fun h => nomatch h), fun h' => ?_⟩
      have := h' x hx
      omega
    | false =>
      refine ⟨fun _ x hx => ?_, fun _ => rfl⟩
      have : ¬ (x < lo ∨ hi < x) := fun h => by have := ht.2 ⟨x, hx, h⟩; cases this
      omega

set_option maxHeartbeats 4000000 in
set_option maxRecDepth 10000 in
theorem pcheck_spec {h : Heap} {cv : Value} {s : SchM} (hc : SlRep rInt (Old h) h cv s.cards) :
    CallH Tryz.prog 111 #[.agg #[cv, .int .i64 s.ms]] h fun r h' => (∃ t : Bool, r = .bool t ∧ (t = true ↔ SchOk s)) ∧ Keep none_ h h' := by
  refine callH_by fun K hK => ?_
  refine enter [.tmp 2] Tryz.func111 rfl rfl (by kernel_rfl) rfl ?_
  have hc0 := hc
  obtain ⟨a0, c0, rfl, _, _⟩ := hc.val
  simp -dsimp [boxS_eq]
  generalize hB : Array.push h _ = h1
  have k1 : Keep none_ h h1 := by rw [← hB]; exact .push _ _ _
  have w1 : h1[h.size]? = some (.cells #[.slice a0 s.cards.length c0, .int .i64 s.ms] 30 (0, 0)) := by rw [← hB]; exact push_new _ _
  have hc1 := hc0.mono ((Tr.of k1).ft (Nat.le_refl 0))
  by_cases p1 : (1 : Int) ≤ s.cards.length
  · by_cases p2 : (s.cards.length : Int) ≤ 4
    · simp -dsimp [w1, p1, p2]
      refine call_by (pwithin_spec hc1) ?_
      rintro _ y ⟨⟨t, rfl, ht⟩, ky⟩
      have w2 := ky.at w1 (fun h => h)
      cases t with
      | true =>
        by_cases p3 : 0 ≤ s.ms
        · by_cases p4 : s.ms ≤ 2
          · simp -dsimp [w2, p3, p4]
            exact hK _ _ ⟨⟨_, rfl, ⟨fun _ => ⟨by omega, ht.1 rfl, by omega⟩, fun _ => rfl⟩⟩, k1.trans ky fun _ _ h => h⟩
          · simp -dsimp [w2, p3, p4]
            exact hK _ _ ⟨⟨_, rfl, ⟨(fun h => nomatch h), fun h => absurd h.ms.2 p4⟩⟩, k1.trans ky fun _ _ h => h⟩
        · simp -dsimp [w2, p3]
          exact hK _ _ ⟨⟨_, rfl, ⟨(fun h => nomatch h), fun h => absurd h.ms.1 p3⟩⟩, k1.trans ky fun _ _ h => h⟩
      | false =>
        simp -dsimp
        exact hK _ _ ⟨⟨_, rfl, ⟨(fun h => nomatch h), fun h => ht.2 h.cards⟩⟩, k1.trans ky fun _ _ h => h⟩
    · simp -dsimp [w1, p1, p2]
      exact hK _ _ ⟨⟨_, rfl, ⟨(fun h => nomatch h), fun h => by have := h.dims.2; omega⟩⟩, k1⟩
  · simp -dsimp [p1]
    exact hK _ _ ⟨⟨_, rfl, ⟨(fun h => nomatch h), fun h => by have := h.dims.1; omega⟩⟩, k1⟩

set_option maxHeartbeats 4000000 in
set_option maxRecDepth 10000 in
theorem pright_spec {h : Heap} {cv kv mv : Value} {cards key m : List Int} {ms : Int} (hc : SlRep rInt (Old h) h cv cards) (hk : SlRep rInt (Old h) h kv key) (hm : SlRep rInt (Old h) h mv m) (hl : key.length = cards.length) (hl4 : cards.length ≤ 4) (hml : (m.length : Int) = ms) :
    CallH Tryz.prog 112 #[.agg #[cv, .int .i64 ms], .agg #[kv, mv]] h fun r h' => (∃ t : Bool, r = .bool t ∧ (t = true ↔ FitR cards key)) ∧ Keep none_ h h' := by
  refine callH_by fun K hK => ?_
  refine enter [.tmp 4] Tryz.func112 rfl rfl (by kernel_rfl) rfl ?_
  have hc0 := hc
  have hk0 := hk
  obtain ⟨a0, c0, rfl, _, _⟩ := hc.val
  obtain ⟨a1, c1, rfl, _, _⟩ := hk.val
  obtain ⟨a2, c2, rfl, _, _⟩ := hm.val
  subst hml
  rw [hl]
  simp -dsimp [boxS_eq]
  generalize hB : Array.push (Array.push h _) _ = h1
  have k1 : Keep none_ h h1 := by rw [← hB]; exact ((Keep.refl none_ h).pushed _).pushed _
  have w1 : h1[h.size]? = some (.cells #[.slice a0 cards.length c0, .int .i64 m.length] 30 (0, 0)) := by rw [← hB]; exact push_at (push_new _ _)
  have w2 : h1[h.size + 1]? = some (.cells #[.slice a1 cards.length c1, .slice a2 m.length c2] 62 (0, 0)) := by rw [← hB]; exact push_get (by simp)
  have hc1 := hc0.mono ((Tr.of k1).ft (Nat.le_refl 0))
  have hk1 := hk0.mono ((Tr.of k1).ft (Nat.le_refl 0))
  simp -dsimp [w1, w2]
  refine loopc (σ := Nat) (fun i => [(2, .pointer (some ⟨h.size, 0, none⟩)), (23, .slice a1 cards.length c1), (24, .int .i64 cards.length), (25, .int .i64 i)])
    (fun i y => y = h1 ∧ i ≤ cards.length ∧ ∀ (j : Nat) (h : j < key.length) (h' : j < cards.length), j < i → 0 ≤ key[j] ∧ key[j] < cards[j]) (fun i => cards.length - i) 0 0 (fun i _ => i = cards.length) (endR Tryz.prog [.tmp 4] K).rt (fun _ _ _ h => h) (by simp) ⟨rfl, Nat.zero_le _, fun j _ _ h => by omega⟩ (by kernel_rfl) ?_ ?_
  · rintro i y g ⟨rfl, hi, hno⟩
    have wi := wrap_succ (k := i) (by omega)
    by_cases hil : i < cards.length
    · have hik : i < key.length := by omega
      obtain ⟨b5, o5, rfl, _, hc5⟩ := hc1.int_at i hil
      obtain ⟨b6, o6, rfl, _, hc6⟩ := hk1.int_at i hik
      by_cases r1 : key[i] < 0
      · simp -dsimp [hil, idxA_nat hil, hc6, r1]
        exact hK _ _ ⟨⟨_, rfl, ⟨(fun h => nomatch h), fun h => by have := h i hik hil; omega⟩⟩, k1⟩
      · by_cases r2 : cards[i] ≤ key[i]
        · simp -dsimp [w1, hil, idxA_nat hil, hc5, hc6, r1, r2]
          exact hK _ _ ⟨⟨_, rfl, ⟨(fun h => nomatch h), fun h => by have := h i hik hil; omega⟩⟩, k1⟩
        · simp -dsimp [w1, hil, idxA_nat hil, hc5, hc6, r1, r2, wi]
          refine ⟨i + 1, by simp, rfl, ⟨rfl, by omega, fun j hj hj' hji => ?_⟩, by show cards.length - (i + 1) < cards.length - i; omega⟩
          by_cases e : j = i
          · subst e; omega
          · exact hno j hj hj' (by omega)
    · simp -dsimp [hil]
      exact ⟨rfl, i, by simp, rfl, ⟨rfl, hi, hno⟩, by show i = cards.length; omega⟩
  · rintro i y g ⟨rfl, hi, hno⟩ hil
    have hil : i = cards.length := hil
    subst hil
    simp -dsimp
    exact hK _ _ ⟨⟨_, rfl, ⟨fun _ j h h' => hno j h h' (by omega), fun _ => rfl⟩⟩, k1⟩
end Go.Proofs

/-
  The program's facts out of bytes.
-/
namespace Go.Proofs
open Go Go.HC

set_option maxHeartbeats 4000000 in
set_option maxRecDepth 10000 in
theorem cloneRow_spec {n : Nat} {M : Nat → Prop} {h : Heap} {v : Value} {xs : List RowM} {own : Option Nat} (g : Gr rRow 62 n M h v xs own) (hM : ∀ b, M b → b < h.size) (hn0 : n ≤ h.size) (hn : xs.length < 1000000) :
    CallH Tryz.prog 113 #[v] h fun r h' => SlRep rRow (Ft n M h') h' r xs ∧ Keep none_ h h' := by
  refine enter [.tmp 2] Tryz.func113 rfl rfl (by kernel_rfl) rfl ?_
  have gg := g.grow
  rcases g.grow with ⟨rfl, rfl, rfl⟩ | ⟨bk, c, arr, cs, rfl, rfl, h1, h2, h3, h4, h5, h6, h7⟩
  · simp -dsimp
    exact ⟨.nil _ _ _, .refl _ _⟩
  · obtain ⟨cs', _, hq1, hq2, hcel, hel⟩ := gg.cells
    simp -dsimp
    refine clone_cells (F := Ft n M h) (F2 := fun b => some bk = some b) rowT (fun b hb => hb.lt) gg.own_lt rfl hcel hel (by omega) (by omega) ?_
    intro v' h' own' hg' hk ho hz
    obtain ⟨a', c', rfl⟩ := hg'.val
    simp -dsimp
    have tt : Tr M M h h' := (⟨.refl _ _, fun _ h => .inl h, hM⟩ : Tr M M h h).call hk
    refine ⟨hg'.rep.mono fun b hb => ?_, hk⟩
    rcases hb with hb | hb
    · exact ⟨(tt.ft (Nat.le_refl _) b hb).1, rfl⟩
    · have h1 := ho b hb
      exact ⟨⟨⟨by omega, fun _ => hg'.thaw b hb⟩, hg'.own_lt b hb, fun hm => by have := hM b hm; omega⟩, rfl⟩

set_option maxHeartbeats 8000000 in
set_option maxRecDepth 10000 in
theorem pdecode_spec {h : Heap} {bv : Value} {b : List UInt8} (hb : SlRep rByte (Old h) h bv b) (hbl : b.length < 1000000) :
    CallH Tryz.prog 80 #[bv] h fun r h' => ∃ cv ms rv e, r = .tuple #[.agg #[cv, .int .i64 ms], rv, .int .i64 e] ∧ Keep none_ h h' ∧
      ((DecOk b ∧ e = 0 ∧ ms = (schB b).ms ∧ SlRep rInt (Ft h.size none_ h') h' cv (schB b).cards ∧ SlRep rRow (Ft h.size none_ h') h' rv (rowsB b)) ∨ (¬ DecOk b ∧ e = 1 ∧ cv = .slice none 0 0 ∧ ms = 0 ∧ rv = .slice none 0 0)) := by
  refine callH_by fun K hK => ?_
  refine enter [.cell 2 30, .tmp 3, .tmp 4] Tryz.func80 rfl rfl (by kernel_rfl) rfl ?_
  obtain ⟨a0, c0, rfl, hc0, hc1⟩ := hb.val
  simp -dsimp
  generalize hB : Array.push h _ = h1
  have k1 : Keep none_ h h1 := by rw [← hB]; exact .push _ _ _
  have z1 : h1.size = h.size + 1 := by rw [← hB]; simp
  have wR : h1[h.size]? = some (.cells #[.slice none 0 0, .int .i64 0] 30 (0, 0)) := by rw [← hB]; exact push_new _ _
  have hb1 := hb.mono ((Tr.of k1).ft (Nat.le_refl 0))
  have hlz := lt_of_blk wR
  have hfail : ¬ DecOk b → ∀ (y : Heap), Keep none_ h y → K (.tuple #[.agg #[.slice none 0 0, .int .i64 0], .slice none 0 0, .int .i64 1]) (y.setIfInBounds h.size (.cells #[.slice none 0 0, .int .i64 0] 30 (0, 0))) := fun hno y ky =>
    hK _ _ ⟨_, _, _, _, rfl, ky.setted _ fun hh => absurd hh (Nat.lt_irrefl _), .inr ⟨hno, rfl, rfl, rfl, rfl⟩⟩
  by_cases q1 : (b.length : Int) < 4
  · simp -dsimp [q1, wR, set_same _ hlz]
    refine hfail (fun hd => ?_) _ k1
    have := hd.head.len
    omega
  · have hT : ((elS Tryz.prog 66).bind (szS Tryz.prog)).isSome = true := by kernel_rfl
    have hsl : ∀ {y : Heap} K, sliceS Tryz.prog 66 (.slice a0 b.length c0) none (some (.int .i64 4)) none y K = K (.slice (piece a0 0 c0 1) 4 c0) y := fun K => sliceS_to (P := Tryz.prog) (T := 66) (j := 4) (k := .i64) hT (by omega)
    have hsf : ∀ {y : Heap} K, sliceS Tryz.prog 66 (.slice a0 b.length c0) (some (.int .i64 4)) none none y K = K (.slice (piece a0 4 c0 1) (b.length - 4) (c0 - 4)) y := fun K => sliceS_from (P := Tryz.prog) (T := 66) (i := 4) (k := .i64) hT (by omega) hc0
    have hcut : SlRep rByte (Old h1) h1 (.slice (piece a0 0 c0 1) 4 c0) (b.take 4) := by
      have := hb1.cut (i := 0) (j := 4) (m := c0) (by omega) (by omega) (by omega) (Nat.le_refl _)
      rw [List.drop_zero, Nat.sub_zero] at this
      exact this
    simp -dsimp [q1, hsl]
    rw [conv_bytes_str Tryz.elS66 (by kernel_rfl) (by kernel_rfl) hcut]
    by_cases hm : b.take 4 = [67, 85, 66, 49]
    · have e1 := strOf_mark.2 hm
      obtain ⟨bp, ebp⟩ : ∃ bp, bp = h1.size := ⟨_, rfl⟩
      simp -dsimp [e1, hsf, boxS_eq]
      rw [← ebp]
      generalize hC : Array.push h1 _ = h2
      have k2 : Keep none_ h1 h2 := by rw [← hC]; exact .push _ _ _
      have z2 : h2.size = h1.size + 1 := by rw [← hC]; simp
      have k02 : Keep none_ h h2 := k1.trans k2 fun _ _ h => h
      have wS2 := k2.at wR (fun h => h)
      have r2 : RdAt h2 bp (Old h) (b.drop 4) false := by
        refine ⟨.slice (piece a0 4 c0 1) (b.length - 4) (c0 - 4), by rw [← hC, ebp]; exact push_new _ _, ?_⟩
        have := hb.cut (i := 4) (j := b.length) (m := c0) (by omega) (Nat.le_refl _) hc0 (Nat.le_refl _)
        rw [List.take_of_length_le (by rw [List.length_drop]; exact Nat.le_refl _)] at this
        exact this.mono fun b hb => ⟨hb, k02.blk b hb.2.1 (fun h => h)⟩
      have hFb : ∀ b, Old h b → b ≠ bp := fun b hb => by have := hb.2.1; omega
      obtain ⟨M2, eM⟩ : ∃ M2 : Nat → Prop, M2 = fun b => b = h.size ∨ b = bp := ⟨_, rfl⟩
      have hM2 : ∀ b, M2 b ↔ b = h.size ∨ b = bp := fun b => by rw [eM]
      have mR : M2 h.size := (hM2 _).2 (.inl rfl)
      have mB : M2 bp := (hM2 _).2 (.inr rfl)
      have t2 : Tr none_ M2 h h2 := ⟨k02, fun b hb => .inr (by rcases (hM2 b).1 hb with e | e <;> omega), fun b hb => by rcases (hM2 b).1 hb with e | e <;> omega⟩
      have hFk : ∀ {y y' : Heap} {M : Nat → Prop}, Tr none_ M h y → Keep M y y' → ∀ b, Old h b → b < y.size ∧ ¬ M b := fun t _ b hb => ⟨by have := t.size; have := hb.2.1; omega, fun hm => by have := t.fresh b hm; have := hb.2.1; omega⟩
      refine call_by (take_at (n := 1) r2 hFb (by omega)) ?_
      rintro _ h3 ⟨rfl, r3, k3, z3⟩
      have t3 := t2.trans (Tr.lp t2.lt mB k3)
      obtain ⟨c, ec, hcb⟩ : ∃ c : Nat, tkX 1 (b.drop 4) = c ∧ c < 256 := by
        unfold tkX
        split
        · exact ⟨0, rfl, by omega⟩
        · rename_i hn
          have := tkX_one (l := b.drop 4) (by omega)
          unfold tkX at this
          rw [if_neg hn] at this
          exact ⟨((b.drop 4).getD 0 0).toNat, this, UInt8.toNat_lt _⟩
      rw [ec]
      simp -dsimp
      refine call_by (list_spec (c := c) (n := 1) r3 (fun b hb => ⟨hFb b hb, by have := hb.2.1; omega⟩) (by omega) (by omega)) ?_
      rintro cv h4 ⟨xs, l4, bad4, hcv, r4, ls, hxl, k4⟩
      obtain ⟨ca, cc, rfl, _, _⟩ := hcv.val
      have t4 := t3.trans (Tr.lp t3.lt mB k4)
      have hcv4 : SlRep rInt (Ft h.size M2 h4) h4 (.slice ca xs.length cc) xs := hcv.mono (t3.ret (by have := t3.size; omega))
      have wS4 := k4.at (k3.at wS2 (by omega)) (by omega)
      simp -dsimp [wS4]
      generalize hD : Array.setIfInBounds h4 h.size _ = h5
      have k5 : Tr M2 M2 h4 h5 := by rw [← hD]; exact t4.here.set _ mR
      have t5 := t4.trans k5
      have wS5 : h5[h.size]? = some (.cells #[.slice ca xs.length cc, .int .i64 0] 30 (0, 0)) := by rw [← hD]; exact set_same _ (lt_of_blk wS4)
      have r5 : RdAt h5 bp (Old h) l4 bad4 := by
        refine r4.keep (S := fun b => b = h.size) (by rw [← hD]; exact (Keep.refl _ _).setted _ fun _ => rfl) (fun b hb => ⟨by have := t4.size; have := hb.2.1; omega, by have := hb.2.1; omega⟩) (by omega)
      have hcv5 := hcv4.mono (k5.ft (Nat.le_refl _))
      refine call_by (take_at (n := 1) r5 hFb (by omega)) ?_
      rintro _ h6 ⟨rfl, r6, k6, z6⟩
      have t6 := t5.trans (Tr.lp t5.lt mB k6)
      have wS6 := k6.at wS5 (by omega)
      have hcv6 := hcv5.mono ((Tr.lp t5.lt mB k6).ft (Nat.le_refl _))
      simp -dsimp [wS6]
      generalize hE : Array.setIfInBounds h6 h.size _ = h7
      have k7 : Tr M2 M2 h6 h7 := by rw [← hE]; exact t6.here.set _ mR
      have t7 := t6.trans k7
      have wS7 : h7[h.size]? = some (.cells #[.slice ca xs.length cc, .int .i64 (tkX 1 l4)] 30 (0, 0)) := by rw [← hE]; exact set_same _ (lt_of_blk wS6)
      have r7 : RdAt h7 bp (Old h) (tkL 1 l4) (tkB 1 l4 bad4) := by
        refine r6.keep (S := fun b => b = h.size) (by rw [← hE]; exact (Keep.refl _ _).setted _ fun _ => rfl) (fun b hb => ⟨by have := t6.size; have := hb.2.1; omega, by have := hb.2.1; omega⟩) (by omega)
      have hcv7 := hcv6.mono (k7.ft (Nat.le_refl _))
      refine call_by (take_at (n := 2) r7 hFb (by omega)) ?_
      rintro _ h8 ⟨rfl, r8, k8, z8⟩
      have t8 := t7.trans (Tr.lp t7.lt mB k8)
      have wS8 := k8.at wS7 (by omega)
      have hcv8 := hcv7.mono ((Tr.lp t7.lt mB k8).ft (Nat.le_refl _))
      obtain ⟨bad, eb⟩ : ∃ bad, bad = tkB 2 (tkL 1 l4) (tkB 1 l4 bad4) := ⟨_, rfl⟩
      have hread := head_read (by omega) ec ls eb
      rw [← eb] at r8
      obtain ⟨v8, hv8, hv8s⟩ := r8.ex
      cases bad with
      | true =>
        simp -dsimp [hv8, wS8, set_same _ (lt_of_blk wS8)]
        exact hfail (fun hd => hread.2 rfl hd.head.len) _ t8.keep
      | false =>
        obtain ⟨g1, g2, g3, g4, g5⟩ := hread.1 rfl
        rw [g2, g3] at wS8
        rw [g2] at hcv8
        rw [g5] at r8 hv8s
        simp -dsimp [hv8, wS8]
        refine call_by (pcheck_spec (s := schB b) (hcv8.mono (Ft.free (Nat.zero_le _)))) ?_
        rintro _ h9 ⟨⟨t, rfl, ht⟩, k9⟩
        have wS9 := k9.at wS8 (fun h => h)
        have t9 := t8.call k9
        cases t with
        | false =>
          simp -dsimp [wS9, set_same _ (lt_of_blk wS9)]
          exact hfail (fun hd => nomatch (ht.2 hd.head.sch)) _ t9.keep
        | true =>
          have hsch := ht.1 rfl
          have hhead : HeadOk b := ⟨hm, g1, hsch⟩
          have hcl := hhead.cards_len
          have hd4 := hsch.dims.2
          have hms := hsch.ms
          rw [g4]
          by_cases hn : cntB b ≤ 300
          · have q3 : ¬ ((300 : Int) < cntB b) := by omega
            have hcv9 := hcv8.mono ((t8.here.call k9).ft (Nat.le_refl h.size))
            have r9 : RdAt h9 bp (Old h) (restB b) false := r8.keep k9 (fun b hb => ⟨by have := t8.size; have := hb.2.1; omega, fun h => h⟩) (fun h => h)
            obtain ⟨m, em⟩ : ∃ m : Nat, (schB b).ms = m := ⟨(schB b).ms.toNat, by omega⟩
            have emn : (schB b).ms.toNat = m := by omega
            obtain ⟨w, ew⟩ : ∃ w, w = widB b := ⟨_, rfl⟩
            have ew2 : w = dimB b + 8 * m := by rw [ew]; unfold widB; rw [emn]
            obtain ⟨cards, ecards⟩ : ∃ cards, cards = (schB b).cards := ⟨_, rfl⟩
            rw [← ecards] at wS9 hcv9 hcl hd4 ⊢
            rw [em] at wS9
            have mR9 : (fun b => b = h.size ∨ b = bp) h.size := .inl rfl
            simp -dsimp [q3]
            refine loopc (σ := Nat × Value) (fun t => [(2, .pointer (some ⟨h.size, 0, none⟩)), (3, t.2), (5, .pointer (some ⟨bp, 0, none⟩)), (46, .int .i64 (cntB b)), (47, .int .i64 t.1)])
              (fun t y => ∃ M own, Tr M2 M h9 y ∧ M h.size ∧ M bp ∧ (∀ b, own = some b → h9.size ≤ b) ∧ t.1 ≤ cntB b ∧ t.1 * w ≤ (restB b).length ∧ (∀ j, j < t.1 → FitR cards (rowB1 b j).key) ∧ y[h.size]? = some (.cells #[.slice ca cards.length cc, .int .i64 m] 30 (0, 0)) ∧ RdAt y bp (Old h) ((restB b).drop (t.1 * w)) false ∧ Gr rRow 62 h.size M y t.2 ((List.range t.1).map (rowB1 b)) own)
              (fun t => cntB b - t.1) (0, .slice none 0 0) 0 (fun t _ => t.1 = cntB b) (endR Tryz.prog [.cell 2 30, .tmp 3, .tmp 4] K).rt (fun _ _ _ h => h) (by simp) ⟨M2, none, t9.here, mR, mB, (fun _ h => by cases h), Nat.zero_le _, by omega, (fun j hj => by simp at hj), wS9, by simpa using r9, .nil _ _ _ _ _⟩ (by kernel_rfl) ?_ ?_
            case refine_1 =>
              rintro ⟨i, v⟩ y g ⟨M, own, t, mR', mB', ho, hin, hiw, hfit, wSy, ry, gv⟩
              simp only at hin hiw hfit ry gv
              by_cases hlt : i < cntB b
              · have wi := wrap_succ (k := i) (by omega)
                have t0 := t9.trans t
                simp -dsimp [hlt, wSy]
                refine call_by (list_spec (c := cards.length) (n := 1) ry (fun b hb => ⟨hFb b hb, by have := t0.size; have := hb.2.1; omega⟩) (by omega) (by omega)) ?_
                rintro kv y1 ⟨xs1, l1, bad1, hkv, ry1, ls1, hx1, ky1⟩
                have tt1 : Tr M M y y1 := Tr.lp t.lt mB' ky1
                obtain ⟨ka, kc, rfl, _, _⟩ := hkv.val
                have tt1 : Tr M M y y1 := Tr.lp t.lt mB' ky1
                have wS1 := ky1.at wSy (by omega)
                simp -dsimp
                rw [push_set rfl]
                obtain ⟨bx, ebx⟩ : ∃ bx, bx = y1.size := ⟨_, rfl⟩
                rw [← ebx]
                generalize hF : Array.push y1 _ = y2
                have kk2 : Keep none_ y1 y2 := by rw [← hF]; exact .push _ _ _
                have zz2 : y2.size = y1.size + 1 := by rw [← hF]; simp
                have wX2 : y2[bx]? = some (.cells #[.slice ka xs1.length kc, .slice none 0 0] 62 (0, 0)) := by rw [← hF, ebx]; exact push_new _ _
                have wS2' := kk2.at wS1 (fun h => h)
                have u2 : Tr M (fun b => M b ∨ b = y1.size) y1 y2 := by rw [← hF]; exact tt1.here.pushM _
                have tt2 := tt1.trans u2
                have ry2 : RdAt y2 bp (Old h) l1 bad1 := ry1.keep kk2 (fun b hb => ⟨by have := t0.size; have := tt1.size; have := hb.2.1; omega, fun h => h⟩) (fun h => h)
                simp -dsimp [wS2']
                refine call_by (list_spec (c := m) (n := 8) ry2 (fun b hb => ⟨hFb b hb, by have := t0.size; have := tt2.size; have := hb.2.1; omega⟩) (by omega) (by omega)) ?_
                rintro mv y3 ⟨ys1, l2, bad2, hmv, ry3, ls2, hy1, ky3⟩
                obtain ⟨ma, mc, rfl, _, _⟩ := hmv.val
                have hbpx : bx ≠ bp := by have := lt_of_blk (r9.ex.choose_spec.1); have := t.size; have := tt1.size; omega
                have hxR : bx ≠ h.size := by have := lt_of_blk wS1; omega
                have u23 := Tr.lp u2.lt (.inl mB') ky3
                have u3 := u2.trans u23
                have tt3 := tt1.trans u3
                have wX3 := ky3.at wX2 hbpx
                have wS3' := ky3.at wS2' (by omega)
                simp -dsimp [wX3]
                generalize hG : Array.setIfInBounds y3 bx _ = y4
                have kk4 : Keep (fun b => b = bx) y3 y4 := by rw [← hG]; exact (Keep.refl _ _).setted _ fun _ => rfl
                have wX4 : y4[bx]? = some (.cells #[.slice ka xs1.length kc, .slice ma ys1.length mc] 62 (0, 0)) := by rw [← hG]; exact set_same _ (lt_of_blk wX3)
                have wS4' := kk4.at wS3' (by omega)
                have u34 : Tr (fun b => M b ∨ b = y1.size) (fun b => M b ∨ b = y1.size) y3 y4 := by rw [← hG]; exact u3.here.set _ (.inr ebx)
                have u4 := u3.trans u34
                have tt4 := tt1.trans u4
                have ry4 : RdAt y4 bp (Old h) l2 bad2 := ry3.keep kk4 (fun b hb => ⟨by have := t0.size; have := tt3.size; have := hb.2.1; omega, by have := t0.size; have := tt1.size; have := hb.2.1; omega⟩) (by omega)
                have hrr := row_read ew2 hiw (by rw [hcl] at ls1; exact ls1) ls2
                obtain ⟨v4, hv4, hv4s⟩ := ry4.ex
                have t04 := t0.trans tt4
                have hnn : (i + 1) * w ≤ cntB b * w := Nat.mul_le_mul hlt (Nat.le_refl _)
                cases bad2 with
                | true =>
                  simp -dsimp [hv4, wS4', set_same _ (lt_of_blk wS4')]
                  refine hfail (fun hd => ?_) _ t04.keep
                  have := hrr.2 rfl
                  have h2 := hd.len
                  rw [← ew] at h2
                  omega
                | false =>
                  obtain ⟨f1, f2, f3, f4⟩ := hrr.1 rfl
                  have hrow : rowB1 b i = ⟨xs1, ys1⟩ := by
                    unfold rowB1
                    rw [emn, ← ew, f1, f2]
                  have hxl1 : xs1.length = cards.length := by
                    have := (ls1.good (ls2.good rfl).1).2.2.2
                    rw [this]
                    unfold lsX
                    simp
                  have hyl1 : ys1.length = m := by
                    have := (ls2.good rfl).2.2.2
                    rw [this]
                    unfold lsX
                    simp
                  have hcvy : SlRep rInt (Ft h.size M y) y (.slice ca cards.length cc) cards := hcv9.mono (t.ft (Nat.le_refl _))
                  have hcv4 := hcvy.mono (tt4.ft (Nat.le_refl _))
                  have hk1 : SlRep rInt (Ft h.size M y1) y1 (.slice ka xs1.length kc) xs1 := hkv.mono (t.here.ret (by have := t0.size; omega))
                  have hk4 := hk1.mono (u4.ft (Nat.le_refl _))
                  have hm3 : SlRep rInt (Ft h.size (fun b => M b ∨ b = y1.size) y3) y3 (.slice ma ys1.length mc) ys1 := hmv.mono (u2.ret (by have := t0.size; have := tt2.size; omega))
                  have hm4 := hm3.mono (u34.ft (Nat.le_refl _))
                  simp -dsimp [hv4, wS4', wX4]
                  refine call_by (pright_spec (hcv4.mono (Ft.free (Nat.zero_le _))) (hk4.mono (Ft.free (Nat.zero_le _))) (hm4.mono (Ft.free (Nat.zero_le _))) hxl1 hd4 (by omega)) ?_
                  rintro _ y5 ⟨⟨tf, rfl, htf⟩, k5'⟩
                  have wS5' := k5'.at wS4' (fun h => h)
                  have wX5 := k5'.at wX4 (fun h => h)
                  cases tf with
                  | false =>
                    simp -dsimp [wS5', set_same _ (lt_of_blk wS5')]
                    refine hfail (fun hd => ?_) _ (t04.call k5').keep
                    have := hd.fit i hlt
                    rw [hrow, ← ecards] at this
                    exact nomatch (htf.2 this)
                  | true =>
                    have hob : ∀ b, own = some b → b ≠ bp ∧ b < y.size := fun b e => ⟨by have := ho b e; have := lt_of_blk (r9.ex.choose_spec.1); omega, gv.own_lt b e⟩
                    have gv4 := (gv.lp t.lt mB' (fun e => (hob _ e).1 rfl) ky1).mono u4 (Nat.le_refl _) (fun b e => ⟨.inl (gv.mu b e), by
                      have h1 := hob b e
                      have h2 := tt1.size
                      rw [kk4.blk b (by have := u3.size; omega) (by omega), ky3.blk b (by have := u2.size; omega) h1.1, kk2.blk b (by omega) (fun h => h)]⟩)
                    have gv5 := gv4.call k5'
                    have hk5 := hk4.mono ((u4.here.call k5').ft (Nat.le_refl _))
                    have hm5 := hm4.mono ((u4.here.call k5').ft (Nat.le_refl _))
                    simp -dsimp [wX5]
                    have hll : ((List.range i).map (rowB1 b)).length = i := by simp
                    refine gr_app1 rfl rowT gv5 (u4.here.call k5').lt (x := rowB1 b i) (c := [.slice ka xs1.length kc, .slice ma ys1.length mc]) ?_ rfl (by omega) (by omega) ?_
                    · rw [hrow]; exact ⟨_, _, rfl, hk5, hm5⟩
                    intro v6 h6' own6 g6 t6' k6' ho6
                    simp -dsimp [wi]
                    have hoR : ∀ b, own = some b → h9.size ≤ b := ho
                    have hlz9 := lt_of_blk wS9
                    have hlb9 := lt_of_blk (r9.ex.choose_spec.1)
                    have wS6' := k6'.at wS5' (fun e => by have := ho _ e; omega)
                    have r6' := (ry4.keep k5' (fun b hb => ⟨by have := t04.size; have := hb.2.1; omega, fun h => h⟩) (fun h => h)).keep k6' (fun b hb => ⟨by have := t04.size; have := hb.2.1; have := k5'.size; omega, fun e => by have := ho _ e; have := hb.2.1; have := t9.size; omega⟩) (fun e => by have := ho _ e; omega)
                    refine ⟨(i + 1, v6), by simp, rfl, ⟨_, own6, (t.trans (tt4.call k5')).trans t6', .inl (.inl mR'), .inl (.inl mB'), (fun b e => (ho6 b e).elim (ho b) (by have := t.size; have := tt4.size; have := k5'.size; omega)), hlt, f4, ?_, wS6', ?_, ?_⟩, by show cntB b - (i + 1) < cntB b - i; omega⟩
                    · intro j hj
                      by_cases e : j = i
                      · subst e
                        rw [hrow]
                        exact htf.1 rfl
                      · exact hfit j (by omega)
                    · rw [← f3]; exact r6'
                    · rw [List.range_succ, List.map_append]
                      exact g6
              · simp -dsimp [hlt]
                exact ⟨rfl, (i, v), by simp, rfl, ⟨M, own, t, mR', mB', ho, hin, hiw, hfit, wSy, ry, gv⟩, by show i = _; omega⟩
            rintro ⟨i, v⟩ y g ⟨M, own, t, mR', mB', ho, hin, hiw, hfit, wSy, ry, gv⟩ hic
            simp only at hin hiw hfit ry gv hic
            subst hic
            obtain ⟨v4, hv4, hv4s⟩ := ry.ex
            obtain ⟨va, vc, rfl, _, _⟩ := hv4s.val
            have t0 := t9.trans t
            simp -dsimp [hv4]
            by_cases hz : (restB b).length = cntB b * w
            · have q4 : ¬ (0 < (restB b).length - cntB b * w) := by omega
              have hdec : DecOk b := ⟨hhead, hn, by rw [← ew]; exact hz, fun i hi => by rw [← ecards]; exact hfit i hi⟩
              simp -dsimp [q4]
              refine drawn_by [⟨0, true, []⟩, ⟨1, true, []⟩, ⟨2, false, [0]⟩, ⟨3, false, []⟩, ⟨4, true, []⟩, ⟨5, true, []⟩] (by kernel_rfl) (by kernel_rfl) ?_
              simp -dsimp [wSy]
              refine call_by (cloneRow_spec gv t.lt (by have := t0.size; omega) (by simp; omega)) ?_
              rintro rv y2 ⟨hrv, kz⟩
              obtain ⟨ra, rc, rfl, _, _⟩ := hrv.val
              have wS2' := kz.at wSy (fun h => h)
              simp -dsimp [wS2', again_cons, set_same _ (lt_of_blk wS2')]
              have tz := t.here.call kz
              have u5 := tz.set (.cells #[.slice ca cards.length cc, .int .i64 m] 30 (0, 0)) mR'
              have hcvz := (hcv9.mono (t.ft (Nat.le_refl _))).mono (u5.ft (Nat.le_refl _))
              have hrvz := hrv.mono ((tz.here.set (.cells #[.slice ca cards.length cc, .int .i64 m] 30 (0, 0)) mR').ft (Nat.le_refl _))
              refine hK _ _ ⟨_, _, _, _, rfl, (t0.call kz).keep.setted _ fun hh => absurd hh (Nat.lt_irrefl _), .inl ⟨hdec, rfl, em.symm, ?_, ?_⟩⟩
              · rw [← ecards]; exact hcvz.mono (Ft.free (Nat.le_refl _))
              · have := hrvz.mono (Ft.free (Nat.le_refl _))
                rw [List.length_map, List.length_range] at this
                exact this
            · have q4 : (0 < (restB b).length - cntB b * w) := by omega
              simp -dsimp [q4, wSy, set_same _ (lt_of_blk wSy)]
              exact hfail (fun hd => hz (by rw [ew]; exact hd.len)) _ t0.keep
          · have q3 : ((300 : Int) < cntB b) := by omega
            simp -dsimp [wS9, q3, set_same _ (lt_of_blk wS9)]
            exact hfail (fun hd => hn hd.cnt) _ t9.keep
    · have e1 : strOf (b.take 4) ≠ ⟨#[67, 85, 66, 49]⟩ := fun e => hm (strOf_mark.1 e)
      simp -dsimp [e1, wR, set_same _ hlz]
      refine hfail (fun hd => hm hd.head.mark) _ k1
end Go.Proofs

/-
  The program's cell out of bytes.
-/
namespace Go.Proofs
open Go Go.HC

set_option maxHeartbeats 4000000 in
set_option maxRecDepth 10000 in
theorem get_spec {h : Heap} {bv : Value} {bs : List UInt8} {F : Nat → Prop} {n : Nat} (hs : SlRep rByte F h bv bs) (hn : n ≤ 8) (hl : n ≤ bs.length) :
    CallH Tryz.prog 125 #[bv, .int .i64 n] h fun r h' => (∃ v', r = .tuple #[.int .i64 (backM (bs.take n)), v'] ∧ SlRep rByte F h v' (bs.drop n)) ∧ h' = h := by
  refine callH_by fun K hK => ?_
  refine enter [.tmp 4, .tmp 5] Tryz.func125 rfl rfl (by kernel_rfl) rfl ?_
  obtain ⟨a0, c0, rfl, hc0, hc1⟩ := hs.val
  have hT : ((elS Tryz.prog 66).bind (szS Tryz.prog)).isSome = true := by kernel_rfl
  have hsl : ∀ {y : Heap} K, sliceS Tryz.prog 66 (.slice a0 bs.length c0) none (some (.int .i64 n)) none y K = K (.slice (piece a0 0 c0 1) n c0) y := fun K => sliceS_to (P := Tryz.prog) (T := 66) (k := .i64) hT (by omega)
  have hcut := hs.cut (i := 0) (j := n) (m := c0) (by omega) (by omega) (by omega) (Nat.le_refl _)
  rw [List.drop_zero, Nat.sub_zero] at hcut
  have hnl : (bs.take n).length = n := by rw [List.length_take]; omega
  obtain ⟨a1, ea⟩ : ∃ a1, a1 = piece a0 0 c0 1 := ⟨_, rfl⟩
  have hcut : SlRep rByte F h (.slice a1 n (c0 - 0)) (bs.take n) := by rw [ea]; exact hcut
  simp -dsimp [hsl]
  rw [← ea]
  refine loopc (σ := Nat) (fun i => [(0, .slice a0 bs.length c0), (1, .int .i64 n), (6, .int .i64 (backM ((bs.take n).take i))), (11, .slice a1 n c0), (12, .int .i64 n), (13, .int .i64 i)])
    (fun i y => y = h ∧ i ≤ n) (fun i => n - i) 0 0 (fun i _ => i = n) noRet noRet_le (by simp [backM]) ⟨rfl, Nat.zero_le _⟩ (by kernel_rfl) ?_ ?_
  · rintro i y g ⟨rfl, hi⟩
    have wi := wrap_succ (k := i) (by omega)
    by_cases hil : i < n
    · have hib : i < (bs.take n).length := by omega
      obtain ⟨bk, off, rfl, _, hc⟩ := hcut.byte_at i hib
      have hlt8 : (bs.take n)[i].toNat < 256 := (bs.take n)[i].toNat_lt
      have hcw : IntKind.i64.wrap ((bs.take n)[i].toNat : Int) = ((bs.take n)[i].toNat : Int) := wrap_i64 (by omega) (by omega)
      simp -dsimp [-intRes_shl, -intRes_or, -List.getElem_take, hil, idxA_nat hil, hc, hcw, shl8, or8 _ hlt8, wi]
      exact ⟨i + 1, by simp [-List.getElem_take, back_snoc hib], rfl, ⟨rfl, by omega⟩, by show n - (i + 1) < n - i; omega⟩
    · simp -dsimp [hil]
      exact ⟨rfl, i, by simp, rfl, ⟨rfl, hi⟩, by show i = n; omega⟩
  · rintro i y g ⟨rfl, hi⟩ hil
    have hil : i = n := hil
    subst hil
    have hpc : pieceV (some 1) (some (.int .i64 (i : Int))) none (.slice a0 bs.length c0) = some (.slice (piece a0 i c0 1) (bs.length - i) (c0 - i)) := by
      have e3 : (0 : Int) ≤ (i : Int) := by omega
      unfold pieceV
      simp only [natV, e3, Option.bind_some, if_true, Int.toNat_natCast]
      rw [if_pos ⟨by omega, by omega⟩]
    simp -dsimp
    refine drawn_by [⟨0, true, []⟩, ⟨1, true, []⟩, ⟨2, true, []⟩, ⟨3, true, []⟩, ⟨4, true, []⟩, ⟨5, true, []⟩] (by kernel_rfl) (by kernel_rfl) ?_
    simp -dsimp [elSz_eq, hpc]
    have hcut2 := hs.cut (i := i) (j := bs.length) (m := c0) (by omega) (Nat.le_refl _) hc0 (Nat.le_refl _)
    rw [List.take_of_length_le (by rw [List.length_drop]; exact Nat.le_refl _)] at hcut2
    exact hK _ _ ⟨⟨_, by rw [List.take_take, Nat.min_self]; rfl, hcut2⟩, rfl⟩

set_option maxHeartbeats 8000000 in
set_option maxRecDepth 10000 in
theorem pone_spec {h : Heap} {cv bv : Value} {s : SchM} {k : Int} {c : CellM} {bs : List UInt8} {w : Nat} (hcv : SlRep rInt (Old h) h cv s.cards) {F : Nat → Prop} (hF : ∀ b, F b → b < h.size) (hb : SlRep rByte F h bv bs) (hs : SchOk s) (hk : 0 ≤ k ∧ k < 2 ^ s.cards.length) (hc : CelOk s k c) (hn : 1 ≤ c.count ∧ c.count ≤ 300) (hw : w = (dimsM k).length + 2 + 24 * s.ms.toNat) (hwl : w ≤ bs.length) (hB : bs.take w = cellB c) :
    CallH Tryz.prog 127 #[.agg #[cv, .int .i64 s.ms], .int .i64 k, bv] h fun r h' => ∃ ds bv', r = .tuple #[.agg ds.toArray, bv', .bool true] ∧ rCell.rep (Ft h.size none_ h') h' ds c ∧ SlRep rByte F h' bv' (bs.drop w) ∧ Keep none_ h h' := by
  refine callH_by fun K hK => ?_
  refine enter [.cell 6 65, .cell 7 66, .cell 8 4] Tryz.func127 rfl rfl (by kernel_rfl) rfl ?_
  have C := cel_at c
  rw [← hB] at C
  have hcv0 := hcv
  have hb0 := hb
  obtain ⟨a0, c0, rfl, _, _⟩ := hcv.val
  obtain ⟨xa, xc, rfl, hxc, _⟩ := hb.val
  have hd4 := hs.dims.2
  have hms := hs.ms
  obtain ⟨m, em⟩ : ∃ m : Nat, s.ms = m := ⟨s.ms.toNat, by omega⟩
  have emn : s.ms.toNat = m := by omega
  have hsl : c.sum.length = m := by rw [hc.sum, emn]
  have hdl : (dimsM k).length ≤ 4 := cntD_le k 4
  have hkl := hc.klen
  rw [emn, ← hkl] at hw
  -- a piece of what is left
  have hpe : ∀ (q n : Nat), q + n ≤ w → (bs.drop q).take n = ((bs.take w).drop q).take n := fun q n hq => by
    rw [List.drop_take, List.take_take, Nat.min_eq_left (by omega)]
  rw [em]
  simp -dsimp [boxS_eq]
  rw [show h.size + 1 + 1 + 1 + 1 = h.size + 4 from rfl, show h.size + 1 + 1 + 1 = h.size + 3 from rfl, show h.size + 1 + 1 = h.size + 2 from rfl]
  generalize hH : Array.push (Array.push (Array.push (Array.push (Array.push h _) _) _) _) _ = h0
  have k0 : Keep none_ h h0 := by rw [← hH]; exact (((((Keep.refl none_ h).pushed _).pushed _).pushed _).pushed _).pushed _
  have z0 : h0.size = h.size + 5 := by rw [← hH]; simp
  have wS : h0[h.size]? = some (.cells #[.slice a0 s.cards.length c0, .int .i64 m] 30 (0, 0)) := by rw [← hH]; exact push_at (push_at (push_at (push_at (push_new _ _))))
  have wB : h0[h.size + 1]? = some (.cells #[.slice xa bs.length xc] 66 (0, 0)) := by rw [← hH]; exact push_at (push_at (push_at (push_get (by simp))))
  have wC : h0[h.size + 2]? = some (.cells #[.slice none 0 0, .int .i64 0, .slice none 0 0, .slice none 0 0, .slice none 0 0] 65 (0, 0)) := by rw [← hH]; exact push_at (push_at (push_get (by simp)))
  have wL : h0[h.size + 3]? = some (.cells #[.slice none 0 0] 66 (0, 0)) := by rw [← hH]; exact push_at (push_get (by simp))
  have wT : h0[h.size + 4]? = some (.cells #[.bool false] 4 (0, 0)) := by rw [← hH]; exact push_get (by simp)
  refine call_by (dims_spec k h0) ?_
  rintro _ h3 ⟨rfl, e3⟩
  simp -dsimp
  have k3 : Keep none_ h0 h3 := by rw [e3]; exact .push _ _ _
  have hz3 : h3.size = h0.size + 1 := by rw [e3]; simp
  have hD : h3[h0.size]? = some (.cells #[.int .i64 k] 3 (0, 0)) := by rw [e3]; exact push_new _ _
  clear e3
  have k03 : Keep none_ h h3 := k0.trans k3 fun _ _ h => h
  have wS3 := k3.at wS (fun h => h)
  obtain ⟨N, eN⟩ : ∃ N : Nat → Prop, N = fun b => b = h.size + 1 ∨ b = h.size + 2 := ⟨_, rfl⟩
  have hN : ∀ b, N b ↔ b = h.size + 1 ∨ b = h.size + 2 := fun b => by rw [eN]
  obtain ⟨I, hI⟩ : ∃ I : List Nat → (Nat → Prop) → Heap → Prop, ∀ xs M h', I xs M h' ↔ ((∀ b, N b → M b) ∧ (∀ b, M b → b < h'.size ∧ h.size + 1 ≤ b) ∧ ∃ bv kv own, h'[h.size + 1]? = some (.cells #[bv] 66 (0, 0)) ∧ SlRep rByte F h' bv (bs.drop xs.length) ∧
      h'[h.size + 2]? = some (.cells #[kv, .int .i64 0, .slice none 0 0, .slice none 0 0, .slice none 0 0] 65 (0, 0)) ∧ h'[h.size + 3]? = some (.cells #[.slice none 0 0] 66 (0, 0)) ∧ h'[h.size + 4]? = some (.cells #[.bool false] 4 (0, 0)) ∧
      Gr rInt 3 h.size M h' kv (c.key.take xs.length) own ∧ ∀ bk, own = some bk → h3.size + 2 ≤ bk) := ⟨_, fun _ _ _ => Iff.rfl⟩
  refine range_m (val := fun i : Nat => #[.int .i64 (i : Int)]) (first := #[]) (by simp) (by simp) (dims_iter hD) I
    ?_ ?_ N ?_ ?_ (by kernel_rfl) (by kernel_rfl) (fun _ => rfl) (by intro p hp; simp at hp; subst hp; decide) ?_ ?_
  · exact fun hi b hb => (((hI _ _ _).1 hi).2.1 b hb).1
  · intro xs M h4 h5 hi m1 m2 kk
    obtain ⟨hM, hlt, bv, kv, own, w1, r1, w2, w3, w4, g, ho⟩ := (hI _ _ _).1 hi
    exact (hI _ _ _).2 ⟨hM, fun b hb => ⟨Nat.lt_of_lt_of_le (hlt b hb).1 kk.size, (hlt b hb).2⟩, bv, kv, own, kk.at w1 (by omega), r1.mono (fun b hb => ⟨hb, kk.blk b (by have := (hlt _ m2).1; have := hF _ hb; omega) (by have := hF _ hb; omega)⟩), kk.at w2 (by omega), kk.at w3 (by omega), kk.at w4 (by omega), g.lp (fun b hb => (hlt b hb).1) m2 (fun e => by have := ho _ e; omega) kk, ho⟩
  · rintro b rfl
    exact ⟨by omega, fun e => by have := (hN _).1 e; omega⟩
  · intro h4 k4 hz4
    refine (hI _ _ _).2 ⟨fun b hb => .inl hb, fun b hb => ?_, .slice xa bs.length xc, .slice none 0 0, none, k4.at (k3.at wB (fun h => h)) (fun h => h), ?_, k4.at (k3.at wC (fun h => h)) (fun h => h), k4.at (k3.at wL (fun h => h)) (fun h => h), k4.at (k3.at wT (fun h => h)) (fun h => h), .nil _ _ _ _ _, fun b hb => by cases hb⟩
    · rcases hb with hb | hb | hb
      · have := (hN _).1 hb; omega
      · omega
      · omega
    · exact hb0.mono fun b hb => ⟨hb, (k03.trans k4 fun _ _ h => h).blk b (hF _ hb) (fun h => h)⟩
  · rintro xs i M h4 hi4 ⟨hxs, hi, hbi⟩ hz4 m1 m2 t
    simp -dsimp
    refine ⟨.refl _ _, fun h5 k5 e5 => ?_⟩
    obtain ⟨hM, hlt, bv, kv, own, w1, r1, w2, w3, w4, g, ho⟩ := (hI _ _ _).1 hi4
    have hlt' : ∀ b, M b → b < h4.size := fun b hb => (hlt b hb).1
    have t5 := Tr.lp hlt' m2 k5
    have u5 := t.trans t5
    have T5 := Tr.from_ k03 u5 (fun b hb => by have := (hN _).1 hb; omega)
    have g5 := g.lp hlt' m2 (fun e => by have := ho _ e; omega) k5
    have w1' := k5.at w1 (by omega)
    have w2' := k5.at w2 (by omega)
    have w3' := k5.at w3 (by omega)
    have w4' := k5.at w4 (by omega)
    have wS5 := u5.at wS3 (fun hb => by have := (hN _).1 hb; omega)
    have r1' : SlRep rByte F h5 bv (bs.drop xs.length) := r1.mono fun b hb => ⟨hb, k5.blk b (by have := (hlt _ m2).1; have := hF _ hb; omega) (by have := hF _ hb; omega)⟩
    have mB := hM _ ((hN (h.size + 1)).2 (.inl rfl))
    have mC := hM _ ((hN (h.size + 2)).2 (.inr rfl))
    have hid : i < s.cards.length := by
      rcases Nat.lt_or_ge i s.cards.length with h' | h'
      · exact h'
      · rw [bit_high hk.1 hk.2 h'] at hbi; cases hbi
    have hdi : (dimsM k)[xs.length]? = some i := by
      rw [hxs]
      unfold dimsM
      exact filter_at (by omega) hbi
    obtain ⟨hcj, hdv⟩ := List.getElem?_eq_some_iff.1 hdi
    have hjk : xs.length < c.key.length := by omega
    have hkv := hc.key _ hjk hcj
    rw [hdv, List.getD_eq_getElem?_getD, List.getElem?_eq_getElem hid, Option.getD_some] at hkv
    have hv16 := hs.cards _ (List.getElem_mem hid)
    have hb1 : (bs.drop xs.length).take 1 = [byteM c.key[xs.length]] := by
      have h1 := C.key xs.length hjk
      rw [List.getElem?_take_of_lt (by omega)] at h1
      obtain ⟨hlt1, e1⟩ := List.getElem?_eq_some_iff.1 h1
      rw [List.drop_eq_getElem_cons hlt1, List.take_succ_cons, List.take_zero, e1]
    have hx1 : backM [byteM c.key[xs.length]] = c.key[xs.length] := by
      unfold backM
      rw [List.foldl_cons, List.foldl_nil, byteM_small (by omega) (by omega), wrap_i64 (by omega) (by omega)]
      omega
    obtain ⟨b5, o5, rfl, hf5, hc5⟩ := (hcv0.mono (T5.ft (Nat.le_refl 0))).int_at i hid
    have hnlt : ¬ (s.cards[i] ≤ c.key[xs.length]) := by omega
    obtain ⟨va, vn, vc, rfl, hvn⟩ := g5.vals
    simp -dsimp [w1']
    refine call_by (get_spec (n := 1) r1' (by omega) (by rw [List.length_drop]; omega)) ?_
    rintro _ h6 ⟨⟨v', rfl, r6⟩, hh⟩
    subst h6
    rw [hb1, hx1]
    rw [List.drop_drop] at r6
    obtain ⟨va6, vn6, vc6, rfl⟩ : ∃ a n c, v' = .slice a n c := by obtain ⟨a, c, e, _⟩ := r6.val; exact ⟨_, _, _, e⟩
    simp -dsimp [w1']
    generalize hE : Array.setIfInBounds h5 (h.size + 1) _ = h6
    have u6 : Tr M M h5 h6 := by
      rw [← hE]
      exact (⟨.refl _ _, fun _ h => .inl h, fun b hb => by have := hlt' b hb; omega⟩ : Tr M M h5 h5).set _ mB
    have hold : ∀ b, b ≠ h.size + 1 → h6[b]? = h5[b]? := fun b hb => by rw [← hE]; exact set_other _ (fun e => hb e.symm)
    have w6 : h6[h.size + 1]? = some (.cells #[.slice va6 vn6 vc6] 66 (0, 0)) := by rw [← hE]; exact set_same _ (lt_of_blk w1')
    have wS6 := (hold _ (by omega)).trans wS5
    have w2'' := (hold _ (by omega)).trans w2'
    have hne5 : b5 ≠ h.size + 1 := fun e => hf5.2.2 (e ▸ mB)
    have hc6 := hc5
    rw [← hold _ hne5] at hc6
    have g6 : Gr rInt 3 h.size M h6 (.slice va vn vc) (c.key.take xs.length) own := by rw [← hE]; exact g5.set _ mB (fun e => by have := ho _ e; omega)
    simp -dsimp [wS5, idxA_nat hid, hc6, hnlt, w2'']
    have hlk : (c.key.take xs.length).length = xs.length := by rw [List.length_take]; omega
    refine gr_app1 rfl intT g6 u6.lt rfl rfl (by omega) (by omega) ?_
    intro v7 h7 own7 g7 t7 k7 ho7
    have w27 := k7.at w2'' (fun e => by have := ho _ e; omega)
    obtain ⟨va7, vn7, vc7, ev7, _⟩ := g7.vals
    subst ev7
    have s6 := u6.size
    have ho7' : ∀ b, own7 = some b → h3.size + 2 ≤ b := fun b e => (ho7 _ e).elim (ho b) (by omega)
    have k7' : ∀ b, b < h6.size → own ≠ some b → h7[b]? = h6[b]? := fun b hb hno => k7.blk b hb hno
    simp -dsimp [w27]
    have hl7 := t7.size
    have tk : c.key.take (xs ++ [i]).length = c.key.take xs.length ++ [c.key[xs.length]] := by
      rw [List.length_append, List.length_singleton, List.take_add_one, List.getElem?_eq_getElem hjk]
      rfl
    have ho_ne : ∀ b, b < h3.size + 2 → own ≠ some b := fun b hb e => by have := ho _ e; omega
    have ne2 : ∀ {b : Nat} (o : Obj), b ≠ h.size + 2 → (h7.setIfInBounds (h.size + 2) o)[b]? = h7[b]? := fun o hb => set_other o (fun e => hb e.symm)
    refine ⟨fun b => M b ∨ own7 = some b, (hI _ _ _).2 ⟨fun b hb => .inl (hM b hb), fun b hb => ?_, .slice va6 vn6 vc6, .slice va7 vn7 vc7, own7, ?_, ?_, set_same _ (lt_of_blk w27), ?_, ?_, ?_, ho7'⟩, ((t5.trans u6).trans t7).set _ (.inl mC), .inl m1, .inl m2, ?_, ?_⟩
    · have e : (h7.setIfInBounds (h.size + 2) (.cells #[.slice va7 vn7 vc7, .int .i64 0, .slice none 0 0, .slice none 0 0, .slice none 0 0] 65)).size = h7.size := by simp
      rw [e]
      refine ⟨t7.lt b hb, ?_⟩
      rcases hb with hb | hb
      · exact (hlt b hb).2
      · have := ho7' b hb; omega
    · rw [ne2 _ (by omega), k7' _ (by omega) (ho_ne _ (by omega))]; exact w6
    · rw [List.length_append, List.length_singleton]
      refine r6.mono fun b hb => ⟨hb, ?_⟩
      have h1 := hF _ hb
      rw [ne2 _ (by omega), k7' _ (by omega) (ho_ne _ (by omega)), hold _ (by omega)]
    · rw [ne2 _ (by omega), k7' _ (by omega) (ho_ne _ (by omega)), hold _ (by omega)]; exact w3'
    · rw [ne2 _ (by omega), k7' _ (by omega) (ho_ne _ (by omega)), hold _ (by omega)]; exact w4'
    · rw [tk]
      exact g7.set _ (.inl mC) (fun e => by have := ho7' _ e; omega)
    · rw [ne2 _ (by omega), k7' _ (by omega) (ho_ne _ (by omega)), hold _ (by omega)]
    · rw [ne2 _ (by omega), k7' _ (by omega) (ho_ne _ (by omega)), hold _ (by omega)]
  · rintro xs M h4 rfl hi4 hdm hz4 m1 m2 t
    obtain ⟨hM, hlt, bv, kv, own, x1, r1, x2, x3, x4, g, ho⟩ := (hI _ _ _).1 hi4
    have T4 := Tr.from_ k03 t (fun b hb => by have := (hN _).1 hb; omega)
    have mB := hM _ ((hN (h.size + 1)).2 (.inl rfl))
    have mC := hM _ ((hN (h.size + 2)).2 (.inr rfl))
    rw [← hkl] at r1 g
    rw [List.take_length] at g
    have wS4 := t.at wS3 (fun hb => by have := (hN _).1 hb; omega)
    obtain ⟨va, vc, rfl⟩ := g.val
    have hc2 : (bs.drop c.key.length).take 2 = w2 c.count := by rw [hpe _ _ (by omega)]; exact C.count
    simp -dsimp [x1]
    refine call_by (get_spec (n := 2) r1 (by omega) (by rw [List.length_drop]; omega)) ?_
    rintro _ h5 ⟨⟨v', rfl, r5⟩, hh⟩
    subst h5
    rw [hc2, back2 (by omega) (by omega)]
    rw [List.drop_drop] at r5
    obtain ⟨va5, vn5, vc5, rfl⟩ : ∃ a n c, v' = .slice a n c := by obtain ⟨a, c, e, _⟩ := r5.val; exact ⟨_, _, _, e⟩
    have hne21 : h.size + 2 ≠ h.size + 1 := by omega
    have hne12 : h.size + 1 ≠ h.size + 2 := by omega
    simp -dsimp [x1, x2, set_other _ hne21, wS4]
    generalize hE : Array.setIfInBounds (Array.setIfInBounds h4 _ _) _ _ = y0
    have tN : Tr M M h4 h4 := ⟨.refl _ _, fun _ h => .inl h, fun b hb => (hlt b hb).1⟩
    have u0 : Tr M N h4 y0 := by
      have := ((tN.set (.cells #[.slice va c.key.length vc, .int .i64 c.count, .slice none 0 0, .slice none 0 0, .slice none 0 0] 65) mC).set (.cells #[.slice va5 vn5 vc5] 66) mB).less hM
      rw [← hE]; exact this
    have hold : ∀ b, b ≠ h.size + 1 → b ≠ h.size + 2 → y0[b]? = h4[b]? := fun b n1 n2 => by rw [← hE, set_other _ (fun e => n1 e.symm), set_other _ (fun e => n2 e.symm)]
    have tt0 : Tr none_ N h y0 := Tr.from_ k03 (t.trans u0) (fun b hb => by have := (hN _).1 hb; omega)
    have wB0 : y0[h.size + 1]? = some (.cells #[.slice va5 vn5 vc5] 66 (0, 0)) := by rw [← hE]; exact set_same _ (by have := lt_of_blk x1; simpa using this)
    have wC0 : y0[h.size + 2]? = some (.cells #[.slice va c.key.length vc, .int .i64 c.count, .slice none 0 0, .slice none 0 0, .slice none 0 0] 65 (0, 0)) := by rw [← hE, set_other _ hne12]; exact set_same _ (lt_of_blk x2)
    have wL0 := (hold (h.size + 3) (by omega) (by omega)).trans x3
    have wT0 := (hold (h.size + 4) (by omega) (by omega)).trans x4
    have wD0 := (hold h3.size (by omega) (by omega)).trans hdm
    have r0 : SlRep rByte F y0 (.slice va5 vn5 vc5) (bs.drop (c.key.length + 2)) := r5.mono fun b hb => ⟨hb, by have := hF _ hb; exact hold b (by omega) (by omega)⟩
    have gk : SlRep rInt (Ft h.size N y0) y0 (.slice va c.key.length vc) c.key := g.grow.ints.mono fun b hb => by
      have h1 := ho b hb
      have h2 := g.own_lt b hb
      have e := hold b (by omega) (by omega)
      exact ⟨⟨⟨by omega, fun _ => (g.thaw b hb).at e⟩, by have := u0.size; omega, fun hm => by have := (hN _).1 hm; omega⟩, e⟩
    have hs3 : h3.size + 2 ≤ y0.size := by have := u0.size; omega
    have l8 : ∀ q, q + 8 ≤ w → ((bs.drop q).take 8).length = 8 := fun q hq => by rw [List.length_take, List.length_drop]; omega
    refine loopc (σ := Nat × Value × Value × Value) (fun t => [(5, .pointer (some ⟨h.size + 1, 0, none⟩)), (6, .pointer (some ⟨h.size + 2, 0, none⟩)), (7, .pointer (some ⟨h.size + 3, 0, none⟩)), (8, .pointer (some ⟨h.size + 4, 0, none⟩)), (42, .int .i64 m), (43, .int .i64 t.1)])
      (fun t z => ∃ N1 bv o2 o3 o4, Tr N N1 y0 z ∧ (∀ b, N b → N1 b) ∧ t.1 ≤ m ∧ z[h.size + 1]? = some (.cells #[bv] 66 (0, 0)) ∧ SlRep rByte F z bv (bs.drop (c.key.length + 2 + 24 * t.1)) ∧
        z[h.size + 2]? = some (.cells #[.slice va c.key.length vc, .int .i64 c.count, t.2.1, t.2.2.1, t.2.2.2] 65 (0, 0)) ∧
        Grs rInt 3 h.size N1 z N [⟨t.2.1, c.sum.take t.1, o2⟩, ⟨t.2.2.1, c.mn.take t.1, o3⟩, ⟨t.2.2.2, c.mx.take t.1, o4⟩])
      (fun t => m - t.1) (0, .slice none 0 0, .slice none 0 0, .slice none 0 0) 2 (fun t _ => t.1 = m) noRet noRet_le (by simp) ⟨N, _, none, none, none, u0.here, fun _ h => h, Nat.zero_le _, wB0, r0, wC0, Grs.nils 3⟩ (by kernel_rfl) ?_ ?_
    case refine_1 =>
      rintro ⟨j, v2, v3, v4⟩ z g ⟨N1, bv, o2, o3, o4, tz, hN1, hj, wBz, rz, wCz, gg⟩
      simp only at hj rz wCz gg
      have wj := wrap_succ (k := j) (by omega)
      obtain ⟨va2, vn2, vc2, rfl, _⟩ := (gg.at (i := 0) rfl).vals
      obtain ⟨va3, vn3, vc3, rfl, _⟩ := (gg.at (i := 1) rfl).vals
      obtain ⟨va4, vn4, vc4, rfl, _⟩ := (gg.at (i := 2) rfl).vals
      by_cases hjl : j < m
      · have hjl' : (j : Int) < m := by omega
        obtain ⟨q, eq⟩ : ∃ q, q = c.key.length + 2 + 24 * j := ⟨_, rfl⟩
        have hqw : q + 24 ≤ w := by omega
        rw [← eq] at rz
        have b0 : backM ((bs.drop q).take 8) = c.sum.getD j 0 := by
          rw [hpe _ _ (by omega), eq, C.sum j (by omega)]; exact back8 (hc.i64 j).1.1 (hc.i64 j).1.2
        have b1 : backM ((bs.drop (q + 8)).take 8) = c.mn.getD j 0 := by
          rw [hpe _ _ (by omega), eq, C.mn j (by omega)]; exact back8 (hc.i64 j).2.1.1 (hc.i64 j).2.1.2
        have b2 : backM ((bs.drop (q + 16)).take 8) = c.mx.getD j 0 := by
          rw [hpe _ _ (by omega), eq, C.mx j (by omega)]; exact back8 (hc.i64 j).2.2.1 (hc.i64 j).2.2.2
        obtain ⟨vS, evS⟩ : ∃ x, x = c.sum.getD j 0 := ⟨_, rfl⟩
        obtain ⟨vN, evN⟩ : ∃ x, x = c.mn.getD j 0 := ⟨_, rfl⟩
        obtain ⟨vX, evX⟩ : ∃ x, x = c.mx.getD j 0 := ⟨_, rfl⟩
        rw [← evS] at b0
        rw [← evN] at b1
        rw [← evX] at b2
        simp -dsimp [hjl']
        obtain ⟨ba, eba⟩ : ∃ ba, ba = z.size := ⟨_, rfl⟩
        rw [← eba]
        generalize hPz : Array.push z _ = z1
        have kz1 : Keep none_ z z1 := by rw [← hPz]; exact .push _ _ _
        have zz1 : z1.size = z.size + 1 := by rw [← hPz]; simp
        have wA : z1[ba]? = some (.cells #[.int .i64 0, .int .i64 0, .int .i64 0] 202 (0, 0)) := by rw [← hPz, eba]; exact push_new _ _
        have wB1 := kz1.at wBz (fun h => h)
        have r1z : SlRep rByte F z1 bv (bs.drop (q + 8 * 0)) := rz.mono fun b hb => ⟨hb, kz1.blk b (by have := hF _ hb; have := tt0.size; have := tz.size; omega) (fun h => h)⟩
        have hbl := lt_of_blk wBz
        have hab : ba ≠ h.size + 1 := by omega
        have hba : h.size + 1 ≠ ba := by omega
        have harT := fun (i : Int) (h0 : 0 ≤ i) (h1 : i < (3 : Nat)) (K : Value → Heap → Prop) (hh : Heap) => indexAddrS_array (P := Tryz.prog) (T := 202) (bk := ba) (off := 0) (n := 3) (s := 1) (k := .i64) (i := i) (K := K) (h := hh) (by simp) h0 h1
        refine loopc (σ := Nat) (fun i => [(5, .pointer (some ⟨h.size + 1, 0, none⟩)), (6, .pointer (some ⟨h.size + 2, 0, none⟩)), (7, .pointer (some ⟨h.size + 3, 0, none⟩)), (8, .pointer (some ⟨h.size + 4, 0, none⟩)), (11, .pointer (some ⟨ba, 0, none⟩)), (42, .int .i64 m), (43, .int .i64 j), (45, .int .i64 i)])
          (fun i y => ∃ bv, Keep (fun b => b = h.size + 1 ∨ b = ba) z1 y ∧ i ≤ 3 ∧ y[h.size + 1]? = some (.cells #[bv] 66 (0, 0)) ∧ SlRep rByte F y bv (bs.drop (q + 8 * i)) ∧
            y[ba]? = some (.cells #[.int .i64 (if 0 < i then vS else 0), .int .i64 (if 1 < i then vN else 0), .int .i64 (if 2 < i then vX else 0)] 202 (0, 0)))
          (fun i => 3 - i) 0 4 (fun i _ => i = 3) noRet noRet_le (by simp) ⟨bv, .refl _ _, by omega, wB1, r1z, by simpa using wA⟩ (by kernel_rfl) ?_ ?_
        case refine_1 =>
          rintro i y g ⟨bv, ky, hi3, wBy, ry, wAy⟩
          have wi := wrap_succ (k := i) (by omega)
          have fin : ∀ (va6 : Option Addr) (vn6 vc6 : Nat) (arr : Array Value), i < 3 → SlRep rByte F y (.slice va6 vn6 vc6) (bs.drop (q + 8 * (i + 1))) → arr = #[.int .i64 (if 0 < i + 1 then vS else 0), .int .i64 (if 1 < i + 1 then vN else 0), .int .i64 (if 2 < i + 1 then vX else 0)] →
              ∃ bv, Keep (fun b => b = h.size + 1 ∨ b = ba) z1 ((y.setIfInBounds ba (.cells arr 202 (0, 0))).setIfInBounds (h.size + 1) (.cells #[.slice va6 vn6 vc6] 66 (0, 0))) ∧ i + 1 ≤ 3 ∧ ((y.setIfInBounds ba (.cells arr 202 (0, 0))).setIfInBounds (h.size + 1) (.cells #[.slice va6 vn6 vc6] 66 (0, 0)))[h.size + 1]? = some (.cells #[bv] 66 (0, 0)) ∧
                SlRep rByte F ((y.setIfInBounds ba (.cells arr 202 (0, 0))).setIfInBounds (h.size + 1) (.cells #[.slice va6 vn6 vc6] 66 (0, 0))) bv (bs.drop (q + 8 * (i + 1))) ∧
                ((y.setIfInBounds ba (.cells arr 202 (0, 0))).setIfInBounds (h.size + 1) (.cells #[.slice va6 vn6 vc6] 66 (0, 0)))[ba]? = some (.cells #[.int .i64 (if 0 < i + 1 then vS else 0), .int .i64 (if 1 < i + 1 then vN else 0), .int .i64 (if 2 < i + 1 then vX else 0)] 202 (0, 0)) := by
            intro va6 vn6 vc6 arr hi r6 ea
            have h1 := lt_of_blk wBy
            have h2 := lt_of_blk wAy
            refine ⟨_, (ky.setted _ fun _ => .inr rfl).setted _ fun _ => .inl rfl, hi, set_same _ (by simpa using h1), r6.mono fun b hb => ⟨hb, ?_⟩, ?_⟩
            · have := hF _ hb
              have := tt0.size
              have := tz.size
              rw [set_other _ (by omega), set_other _ (by omega)]
            · rw [set_other _ hba, set_same _ h2, ea]
          by_cases e0 : i = 0
          · subst e0
            replace ry : SlRep rByte F y bv (bs.drop (q)) := ry
            simp -dsimp [wBy]
            refine call_by (get_spec (n := 8) ry (by omega) (by rw [List.length_drop]; omega)) ?_
            rintro _ y2 ⟨⟨v', rfl, r6⟩, hh⟩
            subst y2
            rw [b0]
            rw [List.drop_drop] at r6
            obtain ⟨va6, vn6, vc6, rfl⟩ : ∃ a n c, v' = .slice a n c := by obtain ⟨a, c, e, _⟩ := r6.val; exact ⟨_, _, _, e⟩
            simp -dsimp [harT 0 (by omega) (by omega), wAy, wBy, set_other _ hab]
            exact ⟨1, by simp, rfl, fin va6 vn6 vc6 _ (by omega) r6 (by simp), by show 3 - (1) < 3 - 0; omega⟩
          by_cases e1 : i = 1
          · subst e1
            replace ry : SlRep rByte F y bv (bs.drop (q + 8)) := ry
            simp -dsimp [wBy]
            refine call_by (get_spec (n := 8) ry (by omega) (by rw [List.length_drop]; omega)) ?_
            rintro _ y2 ⟨⟨v', rfl, r6⟩, hh⟩
            subst y2
            rw [b1]
            rw [List.drop_drop] at r6
            obtain ⟨va6, vn6, vc6, rfl⟩ : ∃ a n c, v' = .slice a n c := by obtain ⟨a, c, e, _⟩ := r6.val; exact ⟨_, _, _, e⟩
            simp -dsimp [harT 1 (by omega) (by omega), wAy, wBy, set_other _ hab]
            exact ⟨2, by simp, rfl, fin va6 vn6 vc6 _ (by omega) r6 (by simp), by show 3 - (2) < 3 - 1; omega⟩
          by_cases e2 : i = 2
          · subst e2
            replace ry : SlRep rByte F y bv (bs.drop (q + 16)) := ry
            simp -dsimp [wBy]
            refine call_by (get_spec (n := 8) ry (by omega) (by rw [List.length_drop]; omega)) ?_
            rintro _ y2 ⟨⟨v', rfl, r6⟩, hh⟩
            subst y2
            rw [b2]
            rw [List.drop_drop] at r6
            obtain ⟨va6, vn6, vc6, rfl⟩ : ∃ a n c, v' = .slice a n c := by obtain ⟨a, c, e, _⟩ := r6.val; exact ⟨_, _, _, e⟩
            simp -dsimp [harT 2 (by omega) (by omega), wAy, wBy, set_other _ hab]
            exact ⟨3, by simp, rfl, fin va6 vn6 vc6 _ (by omega) r6 (by simp), by show 3 - (3) < 3 - 2; omega⟩
          have hi' : ¬ (i : Int) < 3 := by omega
          simp -dsimp [hi']
          exact ⟨rfl, i, by simp, rfl, ⟨bv, ky, hi3, wBy, ry, wAy⟩, by show i = 3; omega⟩
        rintro i y g ⟨bv, ky, hi3, wBy, ry, wAy⟩ hi
        have hi : i = 3 := hi
        subst hi
        obtain ⟨Y, eY⟩ : ∃ Y, Y = y := ⟨_, rfl⟩
        rw [← eY] at ky wBy ry wAy ⊢
        have wAY : Y[ba]? = some (.cells #[.int .i64 vS, .int .i64 vN, .int .i64 vX] 202 (0, 0)) := wAy
        have wBY := wBy
        have ry : SlRep rByte F Y bv (bs.drop (q + 24)) := ry
        obtain ⟨N2, eN2⟩ : ∃ N2 : Nat → Prop, N2 = fun b => N1 b ∨ b = z.size := ⟨_, rfl⟩
        have hN2' : ∀ b, N2 b ↔ N1 b ∨ b = z.size := fun b => by rw [eN2]
        have tz1 : Tr N1 N2 z z1 := by rw [eN2, ← hPz]; exact tz.here.pushM _
        have t1Y : Tr N2 N2 z1 Y := ⟨ky.weaken fun b _ hb => (hN2' b).2 (hb.elim (fun e => .inl (hN1 _ ((hN _).2 (.inl e)))) (fun e => .inr (e.trans eba))), fun _ h => .inl h, fun b hb => Nat.lt_of_lt_of_le (tz1.lt b hb) ky.size⟩
        have tY := tz1.trans t1Y
        have kzY : Keep (fun b => b = h.size + 1 ∨ b = ba) z Y := (kz1.none : Keep (fun b => b = h.size + 1 ∨ b = ba) z z1).trans ky fun b _ hb => hb
        have wCY := kzY.at wCz (by have := lt_of_blk wCz; omega)
        have GY : Grs rInt 3 h.size N2 Y N [⟨.slice va2 vn2 vc2, c.sum.take j, o2⟩, ⟨.slice va3 vn3 vc3, c.mn.take j, o3⟩, ⟨.slice va4 vn4 vc4, c.mx.take j, o4⟩] := gg.over tY kzY (fun b hb hbz => hb.elim (fun e => (hN _).2 (.inl e)) (fun e => by omega)) fun b hb => (hN2' b).2 (.inl hb)
        have hNlt : ∀ b, N b → b < z.size := fun b hb => tz.lt b (hN1 b hb)
        have hN2 : ∀ b, N2 b → N2 b := fun _ h => h
        have hoz := fun (i : Nat) (t : GI Int) (hi : [(⟨.slice va2 vn2 vc2, c.sum.take j, o2⟩ : GI Int), ⟨.slice va3 vn3 vc3, c.mn.take j, o3⟩, ⟨.slice va4 vn4 vc4, c.mx.take j, o4⟩][i]? = some t) (b : Nat) (hb : (b = h.size + 1 ∨ b = h.size + 2) ∨ z.size ≤ b) => show t.o ≠ some b from fun e => by
          have h1 := (gg.gr t (List.mem_of_getElem? hi)).2 b e
          have h2 := (gg.at hi).own_lt b e
          rcases hb with (hb | hb) | hb
          · exact h1.1 ((hN b).2 (.inl hb))
          · exact h1.1 ((hN b).2 (.inr hb))
          · omega
        have hno0 : ∀ b, (b = h.size + 1 ∨ b = h.size + 2) ∨ z.size ≤ b → o2 ≠ some b := hoz 0 _ rfl
        have hno1 : ∀ b, (b = h.size + 1 ∨ b = h.size + 2) ∨ z.size ≤ b → o3 ≠ some b := hoz 1 _ rfl
        have hno2 : ∀ b, (b = h.size + 1 ∨ b = h.size + 2) ∨ z.size ≤ b → o4 ≠ some b := hoz 2 _ rfl
        have ll : ∀ f : List Int, (f.take j).length ≤ j := fun f => by rw [List.length_take]; omega
        have wCp1 : ∀ {y : Heap} {b : Nat} {ob : Obj}, y[b]? = some ob → ∀ o, (y.push o)[b]? = some ob := fun w o => push_at w
        have wCp2 : ∀ {y : Heap} {b : Nat} {ob : Obj}, y[b]? = some ob → ∀ o o', ((y.push o).push o')[b]? = some ob := fun w o o' => push_at (push_at w)
        have wCp3 : ∀ {y : Heap} {b : Nat} {ob : Obj}, y[b]? = some ob → ∀ o o' o'', (((y.push o).push o').push o'')[b]? = some ob := fun w o o' o'' => push_at (push_at (push_at w))
        have hgt : ¬ (vX < vN) := by rw [evX, evN]; have := hc.le j; omega
        have htk : ∀ (l : List Int), j < l.length → l.take (j + 1) = l.take j ++ [l.getD j 0] := fun l hl => by
          rw [List.take_add_one, List.getElem?_eq_getElem hl, List.getD_eq_getElem?_getD, List.getElem?_eq_getElem hl]
          rfl
        simp -dsimp [harT 1 (by omega) (by omega), harT 2 (by omega) (by omega), wAY, hgt]
        have idA0 : ∀ sz, idxV sz (some (3, 1)) (.pointer (some ⟨ba, 0, none⟩)) (.int .i64 0) = some (.pointer (some ⟨ba, 0, none⟩)) := fun sz => by simp [idxV]
        have idA1 : ∀ sz, idxV sz (some (3, 1)) (.pointer (some ⟨ba, 0, none⟩)) (.int .i64 1) = some (.pointer (some ⟨ba, 1, none⟩)) := fun sz => by simp [idxV]
        have idA2 : ∀ sz, idxV sz (some (3, 1)) (.pointer (some ⟨ba, 0, none⟩)) (.int .i64 2) = some (.pointer (some ⟨ba, 2, none⟩)) := fun sz => by simp [idxV]
        have hb1 : h.size + 1 < Y.size := lt_of_blk wBY
        have fin : ∀ (y : Heap) (M : Nat → Prop) (r0 : Option Addr) (n0 c0' : Nat) (r1 : Option Addr) (n1 c1 : Nat) (r2 : Option Addr) (n2 c2 : Nat) (p0 p1 p2 : Option Nat), Tr N1 M z y → (∀ b, N2 b → M b) → Grs rInt 3 h.size M y N [⟨.slice r0 n0 c0', c.sum.take j ++ [vS], p0⟩, ⟨.slice r1 n1 c1, c.mn.take j ++ [vN], p1⟩, ⟨.slice r2 n2 c2, c.mx.take j ++ [vX], p2⟩] →
            y[h.size + 1]? = some (.cells #[bv] 66 (0, 0)) → y[h.size + 2]? = some (.cells #[.slice va c.key.length vc, .int .i64 c.count, .slice va2 vn2 vc2, .slice va3 vn3 vc3, .slice va4 vn4 vc4] 65 (0, 0)) → Tr N2 M Y y →
            ∃ N1 bv o2 o3 o4, Tr N N1 y0 (y.setIfInBounds (h.size + 2) (.cells #[.slice va c.key.length vc, .int .i64 c.count, .slice r0 n0 c0', .slice r1 n1 c1, .slice r2 n2 c2] 65 (0, 0))) ∧ (∀ b, N b → N1 b) ∧ j + 1 ≤ m ∧ (y.setIfInBounds (h.size + 2) (.cells #[.slice va c.key.length vc, .int .i64 c.count, .slice r0 n0 c0', .slice r1 n1 c1, .slice r2 n2 c2] 65 (0, 0)))[h.size + 1]? = some (.cells #[bv] 66 (0, 0)) ∧
              SlRep rByte F (y.setIfInBounds (h.size + 2) (.cells #[.slice va c.key.length vc, .int .i64 c.count, .slice r0 n0 c0', .slice r1 n1 c1, .slice r2 n2 c2] 65 (0, 0))) bv (bs.drop (c.key.length + 2 + 24 * (j + 1))) ∧
              (y.setIfInBounds (h.size + 2) (.cells #[.slice va c.key.length vc, .int .i64 c.count, .slice r0 n0 c0', .slice r1 n1 c1, .slice r2 n2 c2] 65 (0, 0)))[h.size + 2]? = some (.cells #[.slice va c.key.length vc, .int .i64 c.count, .slice r0 n0 c0', .slice r1 n1 c1, .slice r2 n2 c2] 65 (0, 0)) ∧
              Grs rInt 3 h.size N1 (y.setIfInBounds (h.size + 2) (.cells #[.slice va c.key.length vc, .int .i64 c.count, .slice r0 n0 c0', .slice r1 n1 c1, .slice r2 n2 c2] 65 (0, 0))) N [⟨.slice r0 n0 c0', c.sum.take (j + 1), o2⟩, ⟨.slice r1 n1 c1, c.mn.take (j + 1), o3⟩, ⟨.slice r2 n2 c2, c.mx.take (j + 1), o4⟩] := by
          intro y M r0 n0 c0' r1 n1 c1 r2 n2 c2 p0 p1 p2 tr hm G wB wC tYy
          have hNM : ∀ b, N b → M b := fun b hb => hm b ((hN2' b).2 (.inl (hN1 b hb)))
          have hNC := (hN (h.size + 2)).2 (.inr rfl)
          refine ⟨M, bv, p0, p1, p2, (tz.trans tr).set _ (hNM _ hNC), hNM, hjl, (set_other _ (by omega)).trans wB, ?_, set_same _ (lt_of_blk wC), ?_⟩
          · have e : c.key.length + 2 + 24 * (j + 1) = q + 24 := by omega
            rw [e]
            refine ry.mono fun b hb => ⟨hb, ?_⟩
            have h1 := hF _ hb
            have h2 := tt0.size
            have h3 := tz.size
            have h4 := tY.size
            rw [set_other _ (by omega), tYy.keep.blk b (by omega) fun h5 => ?_]
            rcases (hN2' b).1 h5 with h6 | h6
            · have := (tt0.trans tz).fresh b h6; omega
            · omega
          · rw [htk c.sum (by omega), htk c.mn (by rw [hc.mn]; omega), htk c.mx (by rw [hc.mx]; omega), ← evS, ← evN, ← evX]
            exact G.wr _ (hNM _ hNC) hNC
        refine drawn_byT (.node 4 10 (.node 4 16 (.node 5 10 (.node 5 16 (.node 10 16 (.node 11 16 (.leaf [⟨0, true, []⟩, ⟨1, true, []⟩, ⟨2, true, []⟩, ⟨3, true, []⟩, ⟨6, true, []⟩, ⟨7, true, []⟩, ⟨8, true, []⟩, ⟨9, true, []⟩, ⟨12, true, []⟩, ⟨13, true, []⟩, ⟨14, true, []⟩, ⟨15, true, []⟩, ⟨4, false, [0, 1, 6, 7, 8, 9, 12, 13, 14, 15]⟩, ⟨5, false, [6, 7, 8, 9, 12, 13, 14, 15]⟩, ⟨18, true, []⟩, ⟨10, false, [6, 7, 12, 13, 14, 15, 18]⟩, ⟨11, false, [12, 13, 14, 15, 18]⟩, ⟨16, false, [12, 13, 18]⟩, ⟨17, false, [18]⟩, ⟨19, false, []⟩, ⟨20, true, []⟩, ⟨21, false, []⟩, ⟨22, true, []⟩, ⟨23, false, []⟩]) (.leaf [⟨0, true, []⟩, ⟨1, true, []⟩, ⟨2, true, []⟩, ⟨3, true, []⟩, ⟨6, true, []⟩, ⟨7, true, []⟩, ⟨8, true, []⟩, ⟨9, true, []⟩, ⟨12, true, []⟩, ⟨13, true, []⟩, ⟨14, true, []⟩, ⟨15, true, []⟩, ⟨4, false, [0, 1, 6, 7, 8, 9, 12, 13, 14, 15]⟩, ⟨5, false, [6, 7, 8, 9, 12, 13, 14, 15]⟩, ⟨18, true, []⟩, ⟨10, false, [6, 7, 12, 13, 14, 15, 18]⟩, ⟨16, false, [6, 7, 12, 13, 18]⟩, ⟨11, false, [12, 13, 18]⟩, ⟨17, false, [18]⟩, ⟨19, false, []⟩, ⟨20, true, []⟩, ⟨21, false, []⟩, ⟨22, true, []⟩, ⟨23, false, []⟩])) (.leaf [⟨0, true, []⟩, ⟨1, true, []⟩, ⟨2, true, []⟩, ⟨3, true, []⟩, ⟨6, true, []⟩, ⟨7, true, []⟩, ⟨8, true, []⟩, ⟨9, true, []⟩, ⟨12, true, []⟩, ⟨13, true, []⟩, ⟨14, true, []⟩, ⟨15, true, []⟩, ⟨4, false, [0, 1, 6, 7, 8, 9, 12, 13, 14, 15]⟩, ⟨5, false, [6, 7, 8, 9, 12, 13, 14, 15]⟩, ⟨18, true, []⟩, ⟨16, false, [6, 7, 8, 9, 12, 13, 18]⟩, ⟨10, false, [6, 7, 12, 13, 18]⟩, ⟨11, false, [12, 13, 18]⟩, ⟨17, false, [18]⟩, ⟨19, false, []⟩, ⟨20, true, []⟩, ⟨21, false, []⟩, ⟨22, true, []⟩, ⟨23, false, []⟩])) (.leaf [⟨0, true, []⟩, ⟨1, true, []⟩, ⟨2, true, []⟩, ⟨3, true, []⟩, ⟨6, true, []⟩, ⟨7, true, []⟩, ⟨8, true, []⟩, ⟨9, true, []⟩, ⟨12, true, []⟩, ⟨13, true, []⟩, ⟨14, true, []⟩, ⟨15, true, []⟩, ⟨4, false, [0, 1, 6, 7, 8, 9, 12, 13, 14, 15]⟩, ⟨16, false, [0, 1, 6, 7, 8, 9, 12, 13]⟩, ⟨5, false, [6, 7, 8, 9, 12, 13]⟩, ⟨18, true, []⟩, ⟨10, false, [6, 7, 12, 13, 18]⟩, ⟨11, false, [12, 13, 18]⟩, ⟨17, false, [18]⟩, ⟨19, false, []⟩, ⟨20, true, []⟩, ⟨21, false, []⟩, ⟨22, true, []⟩, ⟨23, false, []⟩])) (.node 10 16 (.node 5 16 (.node 11 16 (.leaf [⟨0, true, []⟩, ⟨1, true, []⟩, ⟨2, true, []⟩, ⟨3, true, []⟩, ⟨6, true, []⟩, ⟨7, true, []⟩, ⟨8, true, []⟩, ⟨9, true, []⟩, ⟨12, true, []⟩, ⟨13, true, []⟩, ⟨14, true, []⟩, ⟨15, true, []⟩, ⟨4, false, [0, 1, 6, 7, 8, 9, 12, 13, 14, 15]⟩, ⟨10, false, [0, 1, 6, 7, 12, 13, 14, 15]⟩, ⟨5, false, [6, 7, 12, 13, 14, 15]⟩, ⟨18, true, []⟩, ⟨11, false, [12, 13, 14, 15, 18]⟩, ⟨16, false, [12, 13, 18]⟩, ⟨17, false, [18]⟩, ⟨19, false, []⟩, ⟨20, true, []⟩, ⟨21, false, []⟩, ⟨22, true, []⟩, ⟨23, false, []⟩]) (.leaf [⟨0, true, []⟩, ⟨1, true, []⟩, ⟨2, true, []⟩, ⟨3, true, []⟩, ⟨6, true, []⟩, ⟨7, true, []⟩, ⟨8, true, []⟩, ⟨9, true, []⟩, ⟨12, true, []⟩, ⟨13, true, []⟩, ⟨14, true, []⟩, ⟨15, true, []⟩, ⟨4, false, [0, 1, 6, 7, 8, 9, 12, 13, 14, 15]⟩, ⟨10, false, [0, 1, 6, 7, 12, 13, 14, 15]⟩, ⟨5, false, [6, 7, 12, 13, 14, 15]⟩, ⟨18, true, []⟩, ⟨16, false, [6, 7, 12, 13, 18]⟩, ⟨11, false, [12, 13, 18]⟩, ⟨17, false, [18]⟩, ⟨19, false, []⟩, ⟨20, true, []⟩, ⟨21, false, []⟩, ⟨22, true, []⟩, ⟨23, false, []⟩])) (.leaf [⟨0, true, []⟩, ⟨1, true, []⟩, ⟨2, true, []⟩, ⟨3, true, []⟩, ⟨6, true, []⟩, ⟨7, true, []⟩, ⟨8, true, []⟩, ⟨9, true, []⟩, ⟨12, true, []⟩, ⟨13, true, []⟩, ⟨14, true, []⟩, ⟨15, true, []⟩, ⟨4, false, [0, 1, 6, 7, 8, 9, 12, 13, 14, 15]⟩, ⟨10, false, [0, 1, 6, 7, 12, 13, 14, 15]⟩, ⟨16, false, [0, 1, 6, 7, 12, 13]⟩, ⟨5, false, [6, 7, 12, 13]⟩, ⟨18, true, []⟩, ⟨11, false, [12, 13, 18]⟩, ⟨17, false, [18]⟩, ⟨19, false, []⟩, ⟨20, true, []⟩, ⟨21, false, []⟩, ⟨22, true, []⟩, ⟨23, false, []⟩])) (.leaf [⟨0, true, []⟩, ⟨1, true, []⟩, ⟨2, true, []⟩, ⟨3, true, []⟩, ⟨6, true, []⟩, ⟨7, true, []⟩, ⟨8, true, []⟩, ⟨9, true, []⟩, ⟨12, true, []⟩, ⟨13, true, []⟩, ⟨14, true, []⟩, ⟨15, true, []⟩, ⟨4, false, [0, 1, 6, 7, 8, 9, 12, 13, 14, 15]⟩, ⟨16, false, [0, 1, 6, 7, 8, 9, 12, 13]⟩, ⟨10, false, [0, 1, 6, 7, 12, 13]⟩, ⟨5, false, [6, 7, 12, 13]⟩, ⟨18, true, []⟩, ⟨11, false, [12, 13, 18]⟩, ⟨17, false, [18]⟩, ⟨19, false, []⟩, ⟨20, true, []⟩, ⟨21, false, []⟩, ⟨22, true, []⟩, ⟨23, false, []⟩]))) (.node 5 10 (.leaf [⟨0, true, []⟩, ⟨1, true, []⟩, ⟨2, true, []⟩, ⟨3, true, []⟩, ⟨6, true, []⟩, ⟨7, true, []⟩, ⟨8, true, []⟩, ⟨9, true, []⟩, ⟨12, true, []⟩, ⟨13, true, []⟩, ⟨14, true, []⟩, ⟨15, true, []⟩, ⟨16, false, [0, 1, 2, 3, 6, 7, 8, 9, 12, 13]⟩, ⟨4, false, [0, 1, 6, 7, 8, 9, 12, 13]⟩, ⟨5, false, [6, 7, 8, 9, 12, 13]⟩, ⟨18, true, []⟩, ⟨10, false, [6, 7, 12, 13, 18]⟩, ⟨11, false, [12, 13, 18]⟩, ⟨17, false, [18]⟩, ⟨19, false, []⟩, ⟨20, true, []⟩, ⟨21, false, []⟩, ⟨22, true, []⟩, ⟨23, false, []⟩]) (.leaf [⟨0, true, []⟩, ⟨1, true, []⟩, ⟨2, true, []⟩, ⟨3, true, []⟩, ⟨6, true, []⟩, ⟨7, true, []⟩, ⟨8, true, []⟩, ⟨9, true, []⟩, ⟨12, true, []⟩, ⟨13, true, []⟩, ⟨14, true, []⟩, ⟨15, true, []⟩, ⟨16, false, [0, 1, 2, 3, 6, 7, 8, 9, 12, 13]⟩, ⟨4, false, [0, 1, 6, 7, 8, 9, 12, 13]⟩, ⟨10, false, [0, 1, 6, 7, 12, 13]⟩, ⟨5, false, [6, 7, 12, 13]⟩, ⟨18, true, []⟩, ⟨11, false, [12, 13, 18]⟩, ⟨17, false, [18]⟩, ⟨19, false, []⟩, ⟨20, true, []⟩, ⟨21, false, []⟩, ⟨22, true, []⟩, ⟨23, false, []⟩]))) (.node 10 16 (.node 4 16 (.node 5 16 (.node 11 16 (.leaf [⟨0, true, []⟩, ⟨1, true, []⟩, ⟨2, true, []⟩, ⟨3, true, []⟩, ⟨6, true, []⟩, ⟨7, true, []⟩, ⟨8, true, []⟩, ⟨9, true, []⟩, ⟨12, true, []⟩, ⟨13, true, []⟩, ⟨14, true, []⟩, ⟨15, true, []⟩, ⟨10, false, [0, 1, 2, 3, 6, 7, 12, 13, 14, 15]⟩, ⟨4, false, [0, 1, 6, 7, 12, 13, 14, 15]⟩, ⟨5, false, [6, 7, 12, 13, 14, 15]⟩, ⟨18, true, []⟩, ⟨11, false, [12, 13, 14, 15, 18]⟩, ⟨16, false, [12, 13, 18]⟩, ⟨17, false, [18]⟩, ⟨19, false, []⟩, ⟨20, true, []⟩, ⟨21, false, []⟩, ⟨22, true, []⟩, ⟨23, false, []⟩]) (.leaf [⟨0, true, []⟩, ⟨1, true, []⟩, ⟨2, true, []⟩, ⟨3, true, []⟩, ⟨6, true, []⟩, ⟨7, true, []⟩, ⟨8, true, []⟩, ⟨9, true, []⟩, ⟨12, true, []⟩, ⟨13, true, []⟩, ⟨14, true, []⟩, ⟨15, true, []⟩, ⟨10, false, [0, 1, 2, 3, 6, 7, 12, 13, 14, 15]⟩, ⟨4, false, [0, 1, 6, 7, 12, 13, 14, 15]⟩, ⟨5, false, [6, 7, 12, 13, 14, 15]⟩, ⟨18, true, []⟩, ⟨16, false, [6, 7, 12, 13, 18]⟩, ⟨11, false, [12, 13, 18]⟩, ⟨17, false, [18]⟩, ⟨19, false, []⟩, ⟨20, true, []⟩, ⟨21, false, []⟩, ⟨22, true, []⟩, ⟨23, false, []⟩])) (.leaf [⟨0, true, []⟩, ⟨1, true, []⟩, ⟨2, true, []⟩, ⟨3, true, []⟩, ⟨6, true, []⟩, ⟨7, true, []⟩, ⟨8, true, []⟩, ⟨9, true, []⟩, ⟨12, true, []⟩, ⟨13, true, []⟩, ⟨14, true, []⟩, ⟨15, true, []⟩, ⟨10, false, [0, 1, 2, 3, 6, 7, 12, 13, 14, 15]⟩, ⟨4, false, [0, 1, 6, 7, 12, 13, 14, 15]⟩, ⟨16, false, [0, 1, 6, 7, 12, 13]⟩, ⟨5, false, [6, 7, 12, 13]⟩, ⟨18, true, []⟩, ⟨11, false, [12, 13, 18]⟩, ⟨17, false, [18]⟩, ⟨19, false, []⟩, ⟨20, true, []⟩, ⟨21, false, []⟩, ⟨22, true, []⟩, ⟨23, false, []⟩])) (.leaf [⟨0, true, []⟩, ⟨1, true, []⟩, ⟨2, true, []⟩, ⟨3, true, []⟩, ⟨6, true, []⟩, ⟨7, true, []⟩, ⟨8, true, []⟩, ⟨9, true, []⟩, ⟨12, true, []⟩, ⟨13, true, []⟩, ⟨14, true, []⟩, ⟨15, true, []⟩, ⟨10, false, [0, 1, 2, 3, 6, 7, 12, 13, 14, 15]⟩, ⟨16, false, [0, 1, 2, 3, 6, 7, 12, 13]⟩, ⟨4, false, [0, 1, 6, 7, 12, 13]⟩, ⟨5, false, [6, 7, 12, 13]⟩, ⟨18, true, []⟩, ⟨11, false, [12, 13, 18]⟩, ⟨17, false, [18]⟩, ⟨19, false, []⟩, ⟨20, true, []⟩, ⟨21, false, []⟩, ⟨22, true, []⟩, ⟨23, false, []⟩])) (.leaf [⟨0, true, []⟩, ⟨1, true, []⟩, ⟨2, true, []⟩, ⟨3, true, []⟩, ⟨6, true, []⟩, ⟨7, true, []⟩, ⟨8, true, []⟩, ⟨9, true, []⟩, ⟨12, true, []⟩, ⟨13, true, []⟩, ⟨14, true, []⟩, ⟨15, true, []⟩, ⟨16, false, [0, 1, 2, 3, 6, 7, 8, 9, 12, 13]⟩, ⟨10, false, [0, 1, 2, 3, 6, 7, 12, 13]⟩, ⟨4, false, [0, 1, 6, 7, 12, 13]⟩, ⟨5, false, [6, 7, 12, 13]⟩, ⟨18, true, []⟩, ⟨11, false, [12, 13, 18]⟩, ⟨17, false, [18]⟩, ⟨19, false, []⟩, ⟨20, true, []⟩, ⟨21, false, []⟩, ⟨22, true, []⟩, ⟨23, false, []⟩]))) (by kernel_rfl) (by kernel_rfl) ⟨⟨⟨⟨⟨⟨?L0, ?L1⟩, ?L2⟩, ?L3⟩, ⟨⟨⟨?L4, ?L5⟩, ?L6⟩, ?L7⟩⟩, ⟨?L8, ?L9⟩⟩, ⟨⟨⟨⟨?L10, ?L11⟩, ?L12⟩, ?L13⟩, ?L14⟩⟩
        case' L0 =>
          rw [treeW_leaf]
          simp -dsimp [wCY, wCp1 wCY, wAY, wCp1 wAY, idA0, idA1, idA2, again_cons]
          generalize hP1 : Array.push Y _ = Y1
          have kp1 : Keep none_ Y Y1 := by rw [← hP1]; exact (Keep.refl none_ Y).pushed _
          have wE0 : Y1[Y.size]? = some (.cells #[.int .i64 vS] 3 (0, 0)) := by rw [← hP1]; exact push_new _ _
          have wB1 := kp1.at wBY (fun h => h)
          have wC1 := kp1.at wCY (fun h => h)
          have wA1 := kp1.at wAY (fun h => h)
          have t1 := tY.call kp1
          have v1 := tY.here.call kp1
          have G1 := GY.call kp1
          refine grs_at (i := 0) (t := ⟨.slice va2 vn2 vc2, c.sum.take j, o2⟩) (x := vS) (c := [.int .i64 vS]) wE0 intT G1 rfl t1.lt rfl rfl (by show ((c.sum.take j).length + 1) * 8 ≤ _; have := ll c.sum; omega) (by show (c.sum.take j).length + 1 < _; have := ll c.sum; omega) (fun b hb => by have := t1.size; have := hNlt b hb; omega) (by have := t1.size; omega) ?_
          intro ra0 rn0 rc0 Y2 M2 p0 kp2 u2 G2 n2
          have t2 := t1.trans u2
          have v2 := v1.trans u2
          have wB2 := kp2.at wB1 (hno0 _ (by omega))
          have wC2 := kp2.at wC1 (hno0 _ (by omega))
          have wA2 := kp2.at wA1 (hno0 _ (by omega))
          have m2 : ∀ b, N2 b → M2 b := fun b hb => n2 b (hN2 b hb)
          simp -dsimp [wC2, wCp1 wC2, wA2, wCp1 wA2, idA0, idA1, idA2, again_cons]
          generalize hP3 : Array.push Y2 _ = Y3
          have kp3 : Keep none_ Y2 Y3 := by rw [← hP3]; exact (Keep.refl none_ Y2).pushed _
          have wE1 : Y3[Y2.size]? = some (.cells #[.int .i64 vN] 3 (0, 0)) := by rw [← hP3]; exact push_new _ _
          have wB3 := kp3.at wB2 (fun h => h)
          have wC3 := kp3.at wC2 (fun h => h)
          have wA3 := kp3.at wA2 (fun h => h)
          have t3 := t2.call kp3
          have v3 := v2.call kp3
          have G3 := G2.call kp3
          refine grs_at (i := 1) (t := ⟨.slice va3 vn3 vc3, c.mn.take j, o3⟩) (x := vN) (c := [.int .i64 vN]) wE1 intT G3 rfl t3.lt rfl rfl (by show ((c.mn.take j).length + 1) * 8 ≤ _; have := ll c.mn; omega) (by show (c.mn.take j).length + 1 < _; have := ll c.mn; omega) (fun b hb => by have := t3.size; have := hNlt b hb; omega) (by have := t3.size; omega) ?_
          intro ra1 rn1 rc1 Y4 M4 p1 kp4 u4 G4 n4
          have t4 := t3.trans u4
          have v4 := v3.trans u4
          have wB4 := kp4.at wB3 (hno1 _ (by omega))
          have wC4 := kp4.at wC3 (hno1 _ (by omega))
          have wA4 := kp4.at wA3 (hno1 _ (by omega))
          have m4 : ∀ b, N2 b → M4 b := fun b hb => n4 b (m2 b hb)
          simp -dsimp [wC4, wCp1 wC4, wA4, wCp1 wA4, idA0, idA1, idA2, again_cons]
          generalize hP5 : Array.push Y4 _ = Y5
          have kp5 : Keep none_ Y4 Y5 := by rw [← hP5]; exact (Keep.refl none_ Y4).pushed _
          have wE2 : Y5[Y4.size]? = some (.cells #[.int .i64 vX] 3 (0, 0)) := by rw [← hP5]; exact push_new _ _
          have wB5 := kp5.at wB4 (fun h => h)
          have wC5 := kp5.at wC4 (fun h => h)
          have wA5 := kp5.at wA4 (fun h => h)
          have t5 := t4.call kp5
          have v5 := v4.call kp5
          have G5 := G4.call kp5
          refine grs_at (i := 2) (t := ⟨.slice va4 vn4 vc4, c.mx.take j, o4⟩) (x := vX) (c := [.int .i64 vX]) wE2 intT G5 rfl t5.lt rfl rfl (by show ((c.mx.take j).length + 1) * 8 ≤ _; have := ll c.mx; omega) (by show (c.mx.take j).length + 1 < _; have := ll c.mx; omega) (fun b hb => by have := t5.size; have := hNlt b hb; omega) (by have := t5.size; omega) ?_
          intro ra2 rn2 rc2 Y6 M6 p2 kp6 u6 G6 n6
          have t6 := t5.trans u6
          have v6 := v5.trans u6
          have wB6 := kp6.at wB5 (hno2 _ (by omega))
          have wC6 := kp6.at wC5 (hno2 _ (by omega))
          have wA6 := kp6.at wA5 (hno2 _ (by omega))
          have m6 : ∀ b, N2 b → M6 b := fun b hb => n6 b (m4 b hb)
          simp -dsimp [wC6, set_same _ (lt_of_blk wC6), Array.setIfInBounds_setIfInBounds, wj, again_cons]
          exact ⟨(j + 1, _, _, _), by simp, rfl, fin Y6 M6 _ _ _ _ _ _ _ _ _ p0 p1 p2 t6 m6 G6 wB6 wC6 v6, by show m - (j + 1) < m - j; omega⟩
        case' L1 =>
          rw [treeW_leaf]
          simp -dsimp [wCY, wCp1 wCY, wAY, wCp1 wAY, idA0, idA1, idA2, again_cons]
          generalize hP1 : Array.push Y _ = Y1
          have kp1 : Keep none_ Y Y1 := by rw [← hP1]; exact (Keep.refl none_ Y).pushed _
          have wE0 : Y1[Y.size]? = some (.cells #[.int .i64 vS] 3 (0, 0)) := by rw [← hP1]; exact push_new _ _
          have wB1 := kp1.at wBY (fun h => h)
          have wC1 := kp1.at wCY (fun h => h)
          have wA1 := kp1.at wAY (fun h => h)
          have t1 := tY.call kp1
          have v1 := tY.here.call kp1
          have G1 := GY.call kp1
          refine grs_at (i := 0) (t := ⟨.slice va2 vn2 vc2, c.sum.take j, o2⟩) (x := vS) (c := [.int .i64 vS]) wE0 intT G1 rfl t1.lt rfl rfl (by show ((c.sum.take j).length + 1) * 8 ≤ _; have := ll c.sum; omega) (by show (c.sum.take j).length + 1 < _; have := ll c.sum; omega) (fun b hb => by have := t1.size; have := hNlt b hb; omega) (by have := t1.size; omega) ?_
          intro ra0 rn0 rc0 Y2 M2 p0 kp2 u2 G2 n2
          have t2 := t1.trans u2
          have v2 := v1.trans u2
          have wB2 := kp2.at wB1 (hno0 _ (by omega))
          have wC2 := kp2.at wC1 (hno0 _ (by omega))
          have wA2 := kp2.at wA1 (hno0 _ (by omega))
          have m2 : ∀ b, N2 b → M2 b := fun b hb => n2 b (hN2 b hb)
          simp -dsimp [wC2, wCp1 wC2, wCp2 wC2, wA2, wCp1 wA2, wCp2 wA2, idA0, idA1, idA2, again_cons]
          generalize hP3 : Array.push (Array.push Y2 _) _ = Y3
          have kp3 : Keep none_ Y2 Y3 := by rw [← hP3]; exact ((Keep.refl none_ Y2).pushed _).pushed _
          have wE1 : Y3[Y2.size]? = some (.cells #[.int .i64 vN] 3 (0, 0)) := by rw [← hP3]; exact push_at (push_new _ _)
          have wE2 : Y3[Y2.size + 1]? = some (.cells #[.int .i64 vX] 3 (0, 0)) := by rw [← hP3]; exact push_get (by simp)
          have wB3 := kp3.at wB2 (fun h => h)
          have wC3 := kp3.at wC2 (fun h => h)
          have wA3 := kp3.at wA2 (fun h => h)
          have t3 := t2.call kp3
          have v3 := v2.call kp3
          have G3 := G2.call kp3
          refine grs_at (i := 1) (t := ⟨.slice va3 vn3 vc3, c.mn.take j, o3⟩) (x := vN) (c := [.int .i64 vN]) wE1 intT G3 rfl t3.lt rfl rfl (by show ((c.mn.take j).length + 1) * 8 ≤ _; have := ll c.mn; omega) (by show (c.mn.take j).length + 1 < _; have := ll c.mn; omega) (fun b hb => by have := t3.size; have := hNlt b hb; omega) (by have := t3.size; omega) ?_
          intro ra1 rn1 rc1 Y4 M4 p1 kp4 u4 G4 n4
          have t4 := t3.trans u4
          have v4 := v3.trans u4
          have wB4 := kp4.at wB3 (hno1 _ (by omega))
          have wC4 := kp4.at wC3 (hno1 _ (by omega))
          have wA4 := kp4.at wA3 (hno1 _ (by omega))
          replace wE2 := kp4.at wE2 (hno1 _ (by have := t2.size; omega))
          have m4 : ∀ b, N2 b → M4 b := fun b hb => n4 b (m2 b hb)
          simp -dsimp [wC4, wA4, idA0, idA1, idA2, again_cons]
          refine grs_at (i := 2) (t := ⟨.slice va4 vn4 vc4, c.mx.take j, o4⟩) (x := vX) (c := [.int .i64 vX]) wE2 intT G4 rfl t4.lt rfl rfl (by show ((c.mx.take j).length + 1) * 8 ≤ _; have := ll c.mx; omega) (by show (c.mx.take j).length + 1 < _; have := ll c.mx; omega) (fun b hb => by have := t4.size; have := hNlt b hb; omega) (by have := t4.size; omega) ?_
          intro ra2 rn2 rc2 Y5 M5 p2 kp5 u5 G5 n5
          have t5 := t4.trans u5
          have v5 := v4.trans u5
          have wB5 := kp5.at wB4 (hno2 _ (by omega))
          have wC5 := kp5.at wC4 (hno2 _ (by omega))
          have wA5 := kp5.at wA4 (hno2 _ (by omega))
          have m5 : ∀ b, N2 b → M5 b := fun b hb => n5 b (m4 b hb)
          simp -dsimp [wC5, set_same _ (lt_of_blk wC5), Array.setIfInBounds_setIfInBounds, wj, again_cons]
          exact ⟨(j + 1, _, _, _), by simp, rfl, fin Y5 M5 _ _ _ _ _ _ _ _ _ p0 p1 p2 t5 m5 G5 wB5 wC5 v5, by show m - (j + 1) < m - j; omega⟩
        case' L2 =>
          rw [treeW_leaf]
          simp -dsimp [wCY, wCp1 wCY, wAY, wCp1 wAY, idA0, idA1, idA2, again_cons]
          generalize hP1 : Array.push Y _ = Y1
          have kp1 : Keep none_ Y Y1 := by rw [← hP1]; exact (Keep.refl none_ Y).pushed _
          have wE0 : Y1[Y.size]? = some (.cells #[.int .i64 vS] 3 (0, 0)) := by rw [← hP1]; exact push_new _ _
          have wB1 := kp1.at wBY (fun h => h)
          have wC1 := kp1.at wCY (fun h => h)
          have wA1 := kp1.at wAY (fun h => h)
          have t1 := tY.call kp1
          have v1 := tY.here.call kp1
          have G1 := GY.call kp1
          refine grs_at (i := 0) (t := ⟨.slice va2 vn2 vc2, c.sum.take j, o2⟩) (x := vS) (c := [.int .i64 vS]) wE0 intT G1 rfl t1.lt rfl rfl (by show ((c.sum.take j).length + 1) * 8 ≤ _; have := ll c.sum; omega) (by show (c.sum.take j).length + 1 < _; have := ll c.sum; omega) (fun b hb => by have := t1.size; have := hNlt b hb; omega) (by have := t1.size; omega) ?_
          intro ra0 rn0 rc0 Y2 M2 p0 kp2 u2 G2 n2
          have t2 := t1.trans u2
          have v2 := v1.trans u2
          have wB2 := kp2.at wB1 (hno0 _ (by omega))
          have wC2 := kp2.at wC1 (hno0 _ (by omega))
          have wA2 := kp2.at wA1 (hno0 _ (by omega))
          have m2 : ∀ b, N2 b → M2 b := fun b hb => n2 b (hN2 b hb)
          simp -dsimp [wC2, wCp1 wC2, wCp2 wC2, wA2, wCp1 wA2, wCp2 wA2, idA0, idA1, idA2, again_cons]
          generalize hP3 : Array.push (Array.push Y2 _) _ = Y3
          have kp3 : Keep none_ Y2 Y3 := by rw [← hP3]; exact ((Keep.refl none_ Y2).pushed _).pushed _
          have wE2 : Y3[Y2.size]? = some (.cells #[.int .i64 vX] 3 (0, 0)) := by rw [← hP3]; exact push_at (push_new _ _)
          have wE1 : Y3[Y2.size + 1]? = some (.cells #[.int .i64 vN] 3 (0, 0)) := by rw [← hP3]; exact push_get (by simp)
          have wB3 := kp3.at wB2 (fun h => h)
          have wC3 := kp3.at wC2 (fun h => h)
          have wA3 := kp3.at wA2 (fun h => h)
          have t3 := t2.call kp3
          have v3 := v2.call kp3
          have G3 := G2.call kp3
          refine grs_at (i := 1) (t := ⟨.slice va3 vn3 vc3, c.mn.take j, o3⟩) (x := vN) (c := [.int .i64 vN]) wE1 intT G3 rfl t3.lt rfl rfl (by show ((c.mn.take j).length + 1) * 8 ≤ _; have := ll c.mn; omega) (by show (c.mn.take j).length + 1 < _; have := ll c.mn; omega) (fun b hb => by have := t3.size; have := hNlt b hb; omega) (by have := t3.size; omega) ?_
          intro ra1 rn1 rc1 Y4 M4 p1 kp4 u4 G4 n4
          have t4 := t3.trans u4
          have v4 := v3.trans u4
          have wB4 := kp4.at wB3 (hno1 _ (by omega))
          have wC4 := kp4.at wC3 (hno1 _ (by omega))
          have wA4 := kp4.at wA3 (hno1 _ (by omega))
          replace wE2 := kp4.at wE2 (hno1 _ (by have := t2.size; omega))
          have m4 : ∀ b, N2 b → M4 b := fun b hb => n4 b (m2 b hb)
          simp -dsimp [wC4, wA4, idA0, idA1, idA2, again_cons]
          refine grs_at (i := 2) (t := ⟨.slice va4 vn4 vc4, c.mx.take j, o4⟩) (x := vX) (c := [.int .i64 vX]) wE2 intT G4 rfl t4.lt rfl rfl (by show ((c.mx.take j).length + 1) * 8 ≤ _; have := ll c.mx; omega) (by show (c.mx.take j).length + 1 < _; have := ll c.mx; omega) (fun b hb => by have := t4.size; have := hNlt b hb; omega) (by have := t4.size; omega) ?_
          intro ra2 rn2 rc2 Y5 M5 p2 kp5 u5 G5 n5
          have t5 := t4.trans u5
          have v5 := v4.trans u5
          have wB5 := kp5.at wB4 (hno2 _ (by omega))
          have wC5 := kp5.at wC4 (hno2 _ (by omega))
          have wA5 := kp5.at wA4 (hno2 _ (by omega))
          have m5 : ∀ b, N2 b → M5 b := fun b hb => n5 b (m4 b hb)
          simp -dsimp [wC5, set_same _ (lt_of_blk wC5), Array.setIfInBounds_setIfInBounds, wj, again_cons]
          exact ⟨(j + 1, _, _, _), by simp, rfl, fin Y5 M5 _ _ _ _ _ _ _ _ _ p0 p1 p2 t5 m5 G5 wB5 wC5 v5, by show m - (j + 1) < m - j; omega⟩
        case' L3 =>
          rw [treeW_leaf]
          simp -dsimp [wCY, wCp1 wCY, wCp2 wCY, wAY, wCp1 wAY, wCp2 wAY, idA0, idA1, idA2, again_cons]
          generalize hP1 : Array.push (Array.push Y _) _ = Y1
          have kp1 : Keep none_ Y Y1 := by rw [← hP1]; exact ((Keep.refl none_ Y).pushed _).pushed _
          have wE0 : Y1[Y.size]? = some (.cells #[.int .i64 vS] 3 (0, 0)) := by rw [← hP1]; exact push_at (push_new _ _)
          have wE2 : Y1[Y.size + 1]? = some (.cells #[.int .i64 vX] 3 (0, 0)) := by rw [← hP1]; exact push_get (by simp)
          have wB1 := kp1.at wBY (fun h => h)
          have wC1 := kp1.at wCY (fun h => h)
          have wA1 := kp1.at wAY (fun h => h)
          have t1 := tY.call kp1
          have v1 := tY.here.call kp1
          have G1 := GY.call kp1
          refine grs_at (i := 0) (t := ⟨.slice va2 vn2 vc2, c.sum.take j, o2⟩) (x := vS) (c := [.int .i64 vS]) wE0 intT G1 rfl t1.lt rfl rfl (by show ((c.sum.take j).length + 1) * 8 ≤ _; have := ll c.sum; omega) (by show (c.sum.take j).length + 1 < _; have := ll c.sum; omega) (fun b hb => by have := t1.size; have := hNlt b hb; omega) (by have := t1.size; omega) ?_
          intro ra0 rn0 rc0 Y2 M2 p0 kp2 u2 G2 n2
          have t2 := t1.trans u2
          have v2 := v1.trans u2
          have wB2 := kp2.at wB1 (hno0 _ (by omega))
          have wC2 := kp2.at wC1 (hno0 _ (by omega))
          have wA2 := kp2.at wA1 (hno0 _ (by omega))
          replace wE2 := kp2.at wE2 (hno0 _ (by have := tY.size; omega))
          have m2 : ∀ b, N2 b → M2 b := fun b hb => n2 b (hN2 b hb)
          simp -dsimp [wC2, wCp1 wC2, wA2, wCp1 wA2, idA0, idA1, idA2, again_cons]
          generalize hP3 : Array.push Y2 _ = Y3
          have kp3 : Keep none_ Y2 Y3 := by rw [← hP3]; exact (Keep.refl none_ Y2).pushed _
          have wE1 : Y3[Y2.size]? = some (.cells #[.int .i64 vN] 3 (0, 0)) := by rw [← hP3]; exact push_new _ _
          replace wE2 := kp3.at wE2 (fun h => h)
          have wB3 := kp3.at wB2 (fun h => h)
          have wC3 := kp3.at wC2 (fun h => h)
          have wA3 := kp3.at wA2 (fun h => h)
          have t3 := t2.call kp3
          have v3 := v2.call kp3
          have G3 := G2.call kp3
          refine grs_at (i := 1) (t := ⟨.slice va3 vn3 vc3, c.mn.take j, o3⟩) (x := vN) (c := [.int .i64 vN]) wE1 intT G3 rfl t3.lt rfl rfl (by show ((c.mn.take j).length + 1) * 8 ≤ _; have := ll c.mn; omega) (by show (c.mn.take j).length + 1 < _; have := ll c.mn; omega) (fun b hb => by have := t3.size; have := hNlt b hb; omega) (by have := t3.size; omega) ?_
          intro ra1 rn1 rc1 Y4 M4 p1 kp4 u4 G4 n4
          have t4 := t3.trans u4
          have v4 := v3.trans u4
          have wB4 := kp4.at wB3 (hno1 _ (by omega))
          have wC4 := kp4.at wC3 (hno1 _ (by omega))
          have wA4 := kp4.at wA3 (hno1 _ (by omega))
          replace wE2 := kp4.at wE2 (hno1 _ (by have := tY.size; omega))
          have m4 : ∀ b, N2 b → M4 b := fun b hb => n4 b (m2 b hb)
          simp -dsimp [wC4, wA4, idA0, idA1, idA2, again_cons]
          refine grs_at (i := 2) (t := ⟨.slice va4 vn4 vc4, c.mx.take j, o4⟩) (x := vX) (c := [.int .i64 vX]) wE2 intT G4 rfl t4.lt rfl rfl (by show ((c.mx.take j).length + 1) * 8 ≤ _; have := ll c.mx; omega) (by show (c.mx.take j).length + 1 < _; have := ll c.mx; omega) (fun b hb => by have := t4.size; have := hNlt b hb; omega) (by have := t4.size; omega) ?_
          intro ra2 rn2 rc2 Y5 M5 p2 kp5 u5 G5 n5
          have t5 := t4.trans u5
          have v5 := v4.trans u5
          have wB5 := kp5.at wB4 (hno2 _ (by omega))
          have wC5 := kp5.at wC4 (hno2 _ (by omega))
          have wA5 := kp5.at wA4 (hno2 _ (by omega))
          have m5 : ∀ b, N2 b → M5 b := fun b hb => n5 b (m4 b hb)
          simp -dsimp [wC5, set_same _ (lt_of_blk wC5), Array.setIfInBounds_setIfInBounds, wj, again_cons]
          exact ⟨(j + 1, _, _, _), by simp, rfl, fin Y5 M5 _ _ _ _ _ _ _ _ _ p0 p1 p2 t5 m5 G5 wB5 wC5 v5, by show m - (j + 1) < m - j; omega⟩
        case' L4 =>
          rw [treeW_leaf]
          simp -dsimp [wCY, wCp1 wCY, wCp2 wCY, wAY, wCp1 wAY, wCp2 wAY, idA0, idA1, idA2, again_cons]
          generalize hP1 : Array.push (Array.push Y _) _ = Y1
          have kp1 : Keep none_ Y Y1 := by rw [← hP1]; exact ((Keep.refl none_ Y).pushed _).pushed _
          have wE0 : Y1[Y.size]? = some (.cells #[.int .i64 vS] 3 (0, 0)) := by rw [← hP1]; exact push_at (push_new _ _)
          have wE1 : Y1[Y.size + 1]? = some (.cells #[.int .i64 vN] 3 (0, 0)) := by rw [← hP1]; exact push_get (by simp)
          have wB1 := kp1.at wBY (fun h => h)
          have wC1 := kp1.at wCY (fun h => h)
          have wA1 := kp1.at wAY (fun h => h)
          have t1 := tY.call kp1
          have v1 := tY.here.call kp1
          have G1 := GY.call kp1
          refine grs_at (i := 0) (t := ⟨.slice va2 vn2 vc2, c.sum.take j, o2⟩) (x := vS) (c := [.int .i64 vS]) wE0 intT G1 rfl t1.lt rfl rfl (by show ((c.sum.take j).length + 1) * 8 ≤ _; have := ll c.sum; omega) (by show (c.sum.take j).length + 1 < _; have := ll c.sum; omega) (fun b hb => by have := t1.size; have := hNlt b hb; omega) (by have := t1.size; omega) ?_
          intro ra0 rn0 rc0 Y2 M2 p0 kp2 u2 G2 n2
          have t2 := t1.trans u2
          have v2 := v1.trans u2
          have wB2 := kp2.at wB1 (hno0 _ (by omega))
          have wC2 := kp2.at wC1 (hno0 _ (by omega))
          have wA2 := kp2.at wA1 (hno0 _ (by omega))
          replace wE1 := kp2.at wE1 (hno0 _ (by have := tY.size; omega))
          have m2 : ∀ b, N2 b → M2 b := fun b hb => n2 b (hN2 b hb)
          simp -dsimp [wC2, wA2, idA0, idA1, idA2, again_cons]
          refine grs_at (i := 1) (t := ⟨.slice va3 vn3 vc3, c.mn.take j, o3⟩) (x := vN) (c := [.int .i64 vN]) wE1 intT G2 rfl t2.lt rfl rfl (by show ((c.mn.take j).length + 1) * 8 ≤ _; have := ll c.mn; omega) (by show (c.mn.take j).length + 1 < _; have := ll c.mn; omega) (fun b hb => by have := t2.size; have := hNlt b hb; omega) (by have := t2.size; omega) ?_
          intro ra1 rn1 rc1 Y3 M3 p1 kp3 u3 G3 n3
          have t3 := t2.trans u3
          have v3 := v2.trans u3
          have wB3 := kp3.at wB2 (hno1 _ (by omega))
          have wC3 := kp3.at wC2 (hno1 _ (by omega))
          have wA3 := kp3.at wA2 (hno1 _ (by omega))
          have m3 : ∀ b, N2 b → M3 b := fun b hb => n3 b (m2 b hb)
          simp -dsimp [wC3, wCp1 wC3, wA3, wCp1 wA3, idA0, idA1, idA2, again_cons]
          generalize hP4 : Array.push Y3 _ = Y4
          have kp4 : Keep none_ Y3 Y4 := by rw [← hP4]; exact (Keep.refl none_ Y3).pushed _
          have wE2 : Y4[Y3.size]? = some (.cells #[.int .i64 vX] 3 (0, 0)) := by rw [← hP4]; exact push_new _ _
          have wB4 := kp4.at wB3 (fun h => h)
          have wC4 := kp4.at wC3 (fun h => h)
          have wA4 := kp4.at wA3 (fun h => h)
          have t4 := t3.call kp4
          have v4 := v3.call kp4
          have G4 := G3.call kp4
          refine grs_at (i := 2) (t := ⟨.slice va4 vn4 vc4, c.mx.take j, o4⟩) (x := vX) (c := [.int .i64 vX]) wE2 intT G4 rfl t4.lt rfl rfl (by show ((c.mx.take j).length + 1) * 8 ≤ _; have := ll c.mx; omega) (by show (c.mx.take j).length + 1 < _; have := ll c.mx; omega) (fun b hb => by have := t4.size; have := hNlt b hb; omega) (by have := t4.size; omega) ?_
          intro ra2 rn2 rc2 Y5 M5 p2 kp5 u5 G5 n5
          have t5 := t4.trans u5
          have v5 := v4.trans u5
          have wB5 := kp5.at wB4 (hno2 _ (by omega))
          have wC5 := kp5.at wC4 (hno2 _ (by omega))
          have wA5 := kp5.at wA4 (hno2 _ (by omega))
          have m5 : ∀ b, N2 b → M5 b := fun b hb => n5 b (m3 b hb)
          simp -dsimp [wC5, set_same _ (lt_of_blk wC5), Array.setIfInBounds_setIfInBounds, wj, again_cons]
          exact ⟨(j + 1, _, _, _), by simp, rfl, fin Y5 M5 _ _ _ _ _ _ _ _ _ p0 p1 p2 t5 m5 G5 wB5 wC5 v5, by show m - (j + 1) < m - j; omega⟩
        case' L5 =>
          rw [treeW_leaf]
          simp -dsimp [wCY, wCp1 wCY, wCp2 wCY, wAY, wCp1 wAY, wCp2 wAY, idA0, idA1, idA2, again_cons]
          generalize hP1 : Array.push (Array.push Y _) _ = Y1
          have kp1 : Keep none_ Y Y1 := by rw [← hP1]; exact ((Keep.refl none_ Y).pushed _).pushed _
          have wE0 : Y1[Y.size]? = some (.cells #[.int .i64 vS] 3 (0, 0)) := by rw [← hP1]; exact push_at (push_new _ _)
          have wE1 : Y1[Y.size + 1]? = some (.cells #[.int .i64 vN] 3 (0, 0)) := by rw [← hP1]; exact push_get (by simp)
          have wB1 := kp1.at wBY (fun h => h)
          have wC1 := kp1.at wCY (fun h => h)
          have wA1 := kp1.at wAY (fun h => h)
          have t1 := tY.call kp1
          have v1 := tY.here.call kp1
          have G1 := GY.call kp1
          refine grs_at (i := 0) (t := ⟨.slice va2 vn2 vc2, c.sum.take j, o2⟩) (x := vS) (c := [.int .i64 vS]) wE0 intT G1 rfl t1.lt rfl rfl (by show ((c.sum.take j).length + 1) * 8 ≤ _; have := ll c.sum; omega) (by show (c.sum.take j).length + 1 < _; have := ll c.sum; omega) (fun b hb => by have := t1.size; have := hNlt b hb; omega) (by have := t1.size; omega) ?_
          intro ra0 rn0 rc0 Y2 M2 p0 kp2 u2 G2 n2
          have t2 := t1.trans u2
          have v2 := v1.trans u2
          have wB2 := kp2.at wB1 (hno0 _ (by omega))
          have wC2 := kp2.at wC1 (hno0 _ (by omega))
          have wA2 := kp2.at wA1 (hno0 _ (by omega))
          replace wE1 := kp2.at wE1 (hno0 _ (by have := tY.size; omega))
          have m2 : ∀ b, N2 b → M2 b := fun b hb => n2 b (hN2 b hb)
          simp -dsimp [wC2, wCp1 wC2, wA2, wCp1 wA2, idA0, idA1, idA2, again_cons]
          generalize hP3 : Array.push Y2 _ = Y3
          have kp3 : Keep none_ Y2 Y3 := by rw [← hP3]; exact (Keep.refl none_ Y2).pushed _
          have wE2 : Y3[Y2.size]? = some (.cells #[.int .i64 vX] 3 (0, 0)) := by rw [← hP3]; exact push_new _ _
          replace wE1 := kp3.at wE1 (fun h => h)
          have wB3 := kp3.at wB2 (fun h => h)
          have wC3 := kp3.at wC2 (fun h => h)
          have wA3 := kp3.at wA2 (fun h => h)
          have t3 := t2.call kp3
          have v3 := v2.call kp3
          have G3 := G2.call kp3
          refine grs_at (i := 1) (t := ⟨.slice va3 vn3 vc3, c.mn.take j, o3⟩) (x := vN) (c := [.int .i64 vN]) wE1 intT G3 rfl t3.lt rfl rfl (by show ((c.mn.take j).length + 1) * 8 ≤ _; have := ll c.mn; omega) (by show (c.mn.take j).length + 1 < _; have := ll c.mn; omega) (fun b hb => by have := t3.size; have := hNlt b hb; omega) (by have := t3.size; omega) ?_
          intro ra1 rn1 rc1 Y4 M4 p1 kp4 u4 G4 n4
          have t4 := t3.trans u4
          have v4 := v3.trans u4
          have wB4 := kp4.at wB3 (hno1 _ (by omega))
          have wC4 := kp4.at wC3 (hno1 _ (by omega))
          have wA4 := kp4.at wA3 (hno1 _ (by omega))
          replace wE2 := kp4.at wE2 (hno1 _ (by have := t2.size; omega))
          have m4 : ∀ b, N2 b → M4 b := fun b hb => n4 b (m2 b hb)
          simp -dsimp [wC4, wA4, idA0, idA1, idA2, again_cons]
          refine grs_at (i := 2) (t := ⟨.slice va4 vn4 vc4, c.mx.take j, o4⟩) (x := vX) (c := [.int .i64 vX]) wE2 intT G4 rfl t4.lt rfl rfl (by show ((c.mx.take j).length + 1) * 8 ≤ _; have := ll c.mx; omega) (by show (c.mx.take j).length + 1 < _; have := ll c.mx; omega) (fun b hb => by have := t4.size; have := hNlt b hb; omega) (by have := t4.size; omega) ?_
          intro ra2 rn2 rc2 Y5 M5 p2 kp5 u5 G5 n5
          have t5 := t4.trans u5
          have v5 := v4.trans u5
          have wB5 := kp5.at wB4 (hno2 _ (by omega))
          have wC5 := kp5.at wC4 (hno2 _ (by omega))
          have wA5 := kp5.at wA4 (hno2 _ (by omega))
          have m5 : ∀ b, N2 b → M5 b := fun b hb => n5 b (m4 b hb)
          simp -dsimp [wC5, set_same _ (lt_of_blk wC5), Array.setIfInBounds_setIfInBounds, wj, again_cons]
          exact ⟨(j + 1, _, _, _), by simp, rfl, fin Y5 M5 _ _ _ _ _ _ _ _ _ p0 p1 p2 t5 m5 G5 wB5 wC5 v5, by show m - (j + 1) < m - j; omega⟩
        case' L6 =>
          rw [treeW_leaf]
          simp -dsimp [wCY, wCp1 wCY, wCp2 wCY, wCp3 wCY, wAY, wCp1 wAY, wCp2 wAY, wCp3 wAY, idA0, idA1, idA2, again_cons]
          generalize hP1 : Array.push (Array.push (Array.push Y _) _) _ = Y1
          have kp1 : Keep none_ Y Y1 := by rw [← hP1]; exact (((Keep.refl none_ Y).pushed _).pushed _).pushed _
          have wE0 : Y1[Y.size]? = some (.cells #[.int .i64 vS] 3 (0, 0)) := by rw [← hP1]; exact push_at (push_at (push_new _ _))
          have wE1 : Y1[Y.size + 1]? = some (.cells #[.int .i64 vN] 3 (0, 0)) := by rw [← hP1]; exact push_at (push_get (by simp))
          have wE2 : Y1[Y.size + 1 + 1]? = some (.cells #[.int .i64 vX] 3 (0, 0)) := by rw [← hP1]; exact push_get (by simp)
          have wB1 := kp1.at wBY (fun h => h)
          have wC1 := kp1.at wCY (fun h => h)
          have wA1 := kp1.at wAY (fun h => h)
          have t1 := tY.call kp1
          have v1 := tY.here.call kp1
          have G1 := GY.call kp1
          refine grs_at (i := 0) (t := ⟨.slice va2 vn2 vc2, c.sum.take j, o2⟩) (x := vS) (c := [.int .i64 vS]) wE0 intT G1 rfl t1.lt rfl rfl (by show ((c.sum.take j).length + 1) * 8 ≤ _; have := ll c.sum; omega) (by show (c.sum.take j).length + 1 < _; have := ll c.sum; omega) (fun b hb => by have := t1.size; have := hNlt b hb; omega) (by have := t1.size; omega) ?_
          intro ra0 rn0 rc0 Y2 M2 p0 kp2 u2 G2 n2
          have t2 := t1.trans u2
          have v2 := v1.trans u2
          have wB2 := kp2.at wB1 (hno0 _ (by omega))
          have wC2 := kp2.at wC1 (hno0 _ (by omega))
          have wA2 := kp2.at wA1 (hno0 _ (by omega))
          replace wE1 := kp2.at wE1 (hno0 _ (by have := tY.size; omega))
          replace wE2 := kp2.at wE2 (hno0 _ (by have := tY.size; omega))
          have m2 : ∀ b, N2 b → M2 b := fun b hb => n2 b (hN2 b hb)
          simp -dsimp [wC2, wA2, idA0, idA1, idA2, again_cons]
          refine grs_at (i := 1) (t := ⟨.slice va3 vn3 vc3, c.mn.take j, o3⟩) (x := vN) (c := [.int .i64 vN]) wE1 intT G2 rfl t2.lt rfl rfl (by show ((c.mn.take j).length + 1) * 8 ≤ _; have := ll c.mn; omega) (by show (c.mn.take j).length + 1 < _; have := ll c.mn; omega) (fun b hb => by have := t2.size; have := hNlt b hb; omega) (by have := t2.size; omega) ?_
          intro ra1 rn1 rc1 Y3 M3 p1 kp3 u3 G3 n3
          have t3 := t2.trans u3
          have v3 := v2.trans u3
          have wB3 := kp3.at wB2 (hno1 _ (by omega))
          have wC3 := kp3.at wC2 (hno1 _ (by omega))
          have wA3 := kp3.at wA2 (hno1 _ (by omega))
          replace wE2 := kp3.at wE2 (hno1 _ (by have := tY.size; omega))
          have m3 : ∀ b, N2 b → M3 b := fun b hb => n3 b (m2 b hb)
          simp -dsimp [wC3, wA3, idA0, idA1, idA2, again_cons]
          refine grs_at (i := 2) (t := ⟨.slice va4 vn4 vc4, c.mx.take j, o4⟩) (x := vX) (c := [.int .i64 vX]) wE2 intT G3 rfl t3.lt rfl rfl (by show ((c.mx.take j).length + 1) * 8 ≤ _; have := ll c.mx; omega) (by show (c.mx.take j).length + 1 < _; have := ll c.mx; omega) (fun b hb => by have := t3.size; have := hNlt b hb; omega) (by have := t3.size; omega) ?_
          intro ra2 rn2 rc2 Y4 M4 p2 kp4 u4 G4 n4
          have t4 := t3.trans u4
          have v4 := v3.trans u4
          have wB4 := kp4.at wB3 (hno2 _ (by omega))
          have wC4 := kp4.at wC3 (hno2 _ (by omega))
          have wA4 := kp4.at wA3 (hno2 _ (by omega))
          have m4 : ∀ b, N2 b → M4 b := fun b hb => n4 b (m3 b hb)
          simp -dsimp [wC4, set_same _ (lt_of_blk wC4), Array.setIfInBounds_setIfInBounds, wj, again_cons]
          exact ⟨(j + 1, _, _, _), by simp, rfl, fin Y4 M4 _ _ _ _ _ _ _ _ _ p0 p1 p2 t4 m4 G4 wB4 wC4 v4, by show m - (j + 1) < m - j; omega⟩
        case' L7 =>
          rw [treeW_leaf]
          simp -dsimp [wCY, wCp1 wCY, wCp2 wCY, wCp3 wCY, wAY, wCp1 wAY, wCp2 wAY, wCp3 wAY, idA0, idA1, idA2, again_cons]
          generalize hP1 : Array.push (Array.push (Array.push Y _) _) _ = Y1
          have kp1 : Keep none_ Y Y1 := by rw [← hP1]; exact (((Keep.refl none_ Y).pushed _).pushed _).pushed _
          have wE0 : Y1[Y.size]? = some (.cells #[.int .i64 vS] 3 (0, 0)) := by rw [← hP1]; exact push_at (push_at (push_new _ _))
          have wE2 : Y1[Y.size + 1]? = some (.cells #[.int .i64 vX] 3 (0, 0)) := by rw [← hP1]; exact push_at (push_get (by simp))
          have wE1 : Y1[Y.size + 1 + 1]? = some (.cells #[.int .i64 vN] 3 (0, 0)) := by rw [← hP1]; exact push_get (by simp)
          have wB1 := kp1.at wBY (fun h => h)
          have wC1 := kp1.at wCY (fun h => h)
          have wA1 := kp1.at wAY (fun h => h)
          have t1 := tY.call kp1
          have v1 := tY.here.call kp1
          have G1 := GY.call kp1
          refine grs_at (i := 0) (t := ⟨.slice va2 vn2 vc2, c.sum.take j, o2⟩) (x := vS) (c := [.int .i64 vS]) wE0 intT G1 rfl t1.lt rfl rfl (by show ((c.sum.take j).length + 1) * 8 ≤ _; have := ll c.sum; omega) (by show (c.sum.take j).length + 1 < _; have := ll c.sum; omega) (fun b hb => by have := t1.size; have := hNlt b hb; omega) (by have := t1.size; omega) ?_
          intro ra0 rn0 rc0 Y2 M2 p0 kp2 u2 G2 n2
          have t2 := t1.trans u2
          have v2 := v1.trans u2
          have wB2 := kp2.at wB1 (hno0 _ (by omega))
          have wC2 := kp2.at wC1 (hno0 _ (by omega))
          have wA2 := kp2.at wA1 (hno0 _ (by omega))
          replace wE2 := kp2.at wE2 (hno0 _ (by have := tY.size; omega))
          replace wE1 := kp2.at wE1 (hno0 _ (by have := tY.size; omega))
          have m2 : ∀ b, N2 b → M2 b := fun b hb => n2 b (hN2 b hb)
          simp -dsimp [wC2, wA2, idA0, idA1, idA2, again_cons]
          refine grs_at (i := 1) (t := ⟨.slice va3 vn3 vc3, c.mn.take j, o3⟩) (x := vN) (c := [.int .i64 vN]) wE1 intT G2 rfl t2.lt rfl rfl (by show ((c.mn.take j).length + 1) * 8 ≤ _; have := ll c.mn; omega) (by show (c.mn.take j).length + 1 < _; have := ll c.mn; omega) (fun b hb => by have := t2.size; have := hNlt b hb; omega) (by have := t2.size; omega) ?_
          intro ra1 rn1 rc1 Y3 M3 p1 kp3 u3 G3 n3
          have t3 := t2.trans u3
          have v3 := v2.trans u3
          have wB3 := kp3.at wB2 (hno1 _ (by omega))
          have wC3 := kp3.at wC2 (hno1 _ (by omega))
          have wA3 := kp3.at wA2 (hno1 _ (by omega))
          replace wE2 := kp3.at wE2 (hno1 _ (by have := tY.size; omega))
          have m3 : ∀ b, N2 b → M3 b := fun b hb => n3 b (m2 b hb)
          simp -dsimp [wC3, wA3, idA0, idA1, idA2, again_cons]
          refine grs_at (i := 2) (t := ⟨.slice va4 vn4 vc4, c.mx.take j, o4⟩) (x := vX) (c := [.int .i64 vX]) wE2 intT G3 rfl t3.lt rfl rfl (by show ((c.mx.take j).length + 1) * 8 ≤ _; have := ll c.mx; omega) (by show (c.mx.take j).length + 1 < _; have := ll c.mx; omega) (fun b hb => by have := t3.size; have := hNlt b hb; omega) (by have := t3.size; omega) ?_
          intro ra2 rn2 rc2 Y4 M4 p2 kp4 u4 G4 n4
          have t4 := t3.trans u4
          have v4 := v3.trans u4
          have wB4 := kp4.at wB3 (hno2 _ (by omega))
          have wC4 := kp4.at wC3 (hno2 _ (by omega))
          have wA4 := kp4.at wA3 (hno2 _ (by omega))
          have m4 : ∀ b, N2 b → M4 b := fun b hb => n4 b (m3 b hb)
          simp -dsimp [wC4, set_same _ (lt_of_blk wC4), Array.setIfInBounds_setIfInBounds, wj, again_cons]
          exact ⟨(j + 1, _, _, _), by simp, rfl, fin Y4 M4 _ _ _ _ _ _ _ _ _ p0 p1 p2 t4 m4 G4 wB4 wC4 v4, by show m - (j + 1) < m - j; omega⟩
        case' L8 =>
          rw [treeW_leaf]
          simp -dsimp [wCY, wCp1 wCY, wCp2 wCY, wAY, wCp1 wAY, wCp2 wAY, idA0, idA1, idA2, again_cons]
          generalize hP1 : Array.push (Array.push Y _) _ = Y1
          have kp1 : Keep none_ Y Y1 := by rw [← hP1]; exact ((Keep.refl none_ Y).pushed _).pushed _
          have wE2 : Y1[Y.size]? = some (.cells #[.int .i64 vX] 3 (0, 0)) := by rw [← hP1]; exact push_at (push_new _ _)
          have wE0 : Y1[Y.size + 1]? = some (.cells #[.int .i64 vS] 3 (0, 0)) := by rw [← hP1]; exact push_get (by simp)
          have wB1 := kp1.at wBY (fun h => h)
          have wC1 := kp1.at wCY (fun h => h)
          have wA1 := kp1.at wAY (fun h => h)
          have t1 := tY.call kp1
          have v1 := tY.here.call kp1
          have G1 := GY.call kp1
          refine grs_at (i := 0) (t := ⟨.slice va2 vn2 vc2, c.sum.take j, o2⟩) (x := vS) (c := [.int .i64 vS]) wE0 intT G1 rfl t1.lt rfl rfl (by show ((c.sum.take j).length + 1) * 8 ≤ _; have := ll c.sum; omega) (by show (c.sum.take j).length + 1 < _; have := ll c.sum; omega) (fun b hb => by have := t1.size; have := hNlt b hb; omega) (by have := t1.size; omega) ?_
          intro ra0 rn0 rc0 Y2 M2 p0 kp2 u2 G2 n2
          have t2 := t1.trans u2
          have v2 := v1.trans u2
          have wB2 := kp2.at wB1 (hno0 _ (by omega))
          have wC2 := kp2.at wC1 (hno0 _ (by omega))
          have wA2 := kp2.at wA1 (hno0 _ (by omega))
          replace wE2 := kp2.at wE2 (hno0 _ (by have := tY.size; omega))
          have m2 : ∀ b, N2 b → M2 b := fun b hb => n2 b (hN2 b hb)
          simp -dsimp [wC2, wCp1 wC2, wA2, wCp1 wA2, idA0, idA1, idA2, again_cons]
          generalize hP3 : Array.push Y2 _ = Y3
          have kp3 : Keep none_ Y2 Y3 := by rw [← hP3]; exact (Keep.refl none_ Y2).pushed _
          have wE1 : Y3[Y2.size]? = some (.cells #[.int .i64 vN] 3 (0, 0)) := by rw [← hP3]; exact push_new _ _
          replace wE2 := kp3.at wE2 (fun h => h)
          have wB3 := kp3.at wB2 (fun h => h)
          have wC3 := kp3.at wC2 (fun h => h)
          have wA3 := kp3.at wA2 (fun h => h)
          have t3 := t2.call kp3
          have v3 := v2.call kp3
          have G3 := G2.call kp3
          refine grs_at (i := 1) (t := ⟨.slice va3 vn3 vc3, c.mn.take j, o3⟩) (x := vN) (c := [.int .i64 vN]) wE1 intT G3 rfl t3.lt rfl rfl (by show ((c.mn.take j).length + 1) * 8 ≤ _; have := ll c.mn; omega) (by show (c.mn.take j).length + 1 < _; have := ll c.mn; omega) (fun b hb => by have := t3.size; have := hNlt b hb; omega) (by have := t3.size; omega) ?_
          intro ra1 rn1 rc1 Y4 M4 p1 kp4 u4 G4 n4
          have t4 := t3.trans u4
          have v4 := v3.trans u4
          have wB4 := kp4.at wB3 (hno1 _ (by omega))
          have wC4 := kp4.at wC3 (hno1 _ (by omega))
          have wA4 := kp4.at wA3 (hno1 _ (by omega))
          replace wE2 := kp4.at wE2 (hno1 _ (by have := tY.size; omega))
          have m4 : ∀ b, N2 b → M4 b := fun b hb => n4 b (m2 b hb)
          simp -dsimp [wC4, wA4, idA0, idA1, idA2, again_cons]
          refine grs_at (i := 2) (t := ⟨.slice va4 vn4 vc4, c.mx.take j, o4⟩) (x := vX) (c := [.int .i64 vX]) wE2 intT G4 rfl t4.lt rfl rfl (by show ((c.mx.take j).length + 1) * 8 ≤ _; have := ll c.mx; omega) (by show (c.mx.take j).length + 1 < _; have := ll c.mx; omega) (fun b hb => by have := t4.size; have := hNlt b hb; omega) (by have := t4.size; omega) ?_
          intro ra2 rn2 rc2 Y5 M5 p2 kp5 u5 G5 n5
          have t5 := t4.trans u5
          have v5 := v4.trans u5
          have wB5 := kp5.at wB4 (hno2 _ (by omega))
          have wC5 := kp5.at wC4 (hno2 _ (by omega))
          have wA5 := kp5.at wA4 (hno2 _ (by omega))
          have m5 : ∀ b, N2 b → M5 b := fun b hb => n5 b (m4 b hb)
          simp -dsimp [wC5, set_same _ (lt_of_blk wC5), Array.setIfInBounds_setIfInBounds, wj, again_cons]
          exact ⟨(j + 1, _, _, _), by simp, rfl, fin Y5 M5 _ _ _ _ _ _ _ _ _ p0 p1 p2 t5 m5 G5 wB5 wC5 v5, by show m - (j + 1) < m - j; omega⟩
        case' L9 =>
          rw [treeW_leaf]
          simp -dsimp [wCY, wCp1 wCY, wCp2 wCY, wCp3 wCY, wAY, wCp1 wAY, wCp2 wAY, wCp3 wAY, idA0, idA1, idA2, again_cons]
          generalize hP1 : Array.push (Array.push (Array.push Y _) _) _ = Y1
          have kp1 : Keep none_ Y Y1 := by rw [← hP1]; exact (((Keep.refl none_ Y).pushed _).pushed _).pushed _
          have wE2 : Y1[Y.size]? = some (.cells #[.int .i64 vX] 3 (0, 0)) := by rw [← hP1]; exact push_at (push_at (push_new _ _))
          have wE0 : Y1[Y.size + 1]? = some (.cells #[.int .i64 vS] 3 (0, 0)) := by rw [← hP1]; exact push_at (push_get (by simp))
          have wE1 : Y1[Y.size + 1 + 1]? = some (.cells #[.int .i64 vN] 3 (0, 0)) := by rw [← hP1]; exact push_get (by simp)
          have wB1 := kp1.at wBY (fun h => h)
          have wC1 := kp1.at wCY (fun h => h)
          have wA1 := kp1.at wAY (fun h => h)
          have t1 := tY.call kp1
          have v1 := tY.here.call kp1
          have G1 := GY.call kp1
          refine grs_at (i := 0) (t := ⟨.slice va2 vn2 vc2, c.sum.take j, o2⟩) (x := vS) (c := [.int .i64 vS]) wE0 intT G1 rfl t1.lt rfl rfl (by show ((c.sum.take j).length + 1) * 8 ≤ _; have := ll c.sum; omega) (by show (c.sum.take j).length + 1 < _; have := ll c.sum; omega) (fun b hb => by have := t1.size; have := hNlt b hb; omega) (by have := t1.size; omega) ?_
          intro ra0 rn0 rc0 Y2 M2 p0 kp2 u2 G2 n2
          have t2 := t1.trans u2
          have v2 := v1.trans u2
          have wB2 := kp2.at wB1 (hno0 _ (by omega))
          have wC2 := kp2.at wC1 (hno0 _ (by omega))
          have wA2 := kp2.at wA1 (hno0 _ (by omega))
          replace wE2 := kp2.at wE2 (hno0 _ (by have := tY.size; omega))
          replace wE1 := kp2.at wE1 (hno0 _ (by have := tY.size; omega))
          have m2 : ∀ b, N2 b → M2 b := fun b hb => n2 b (hN2 b hb)
          simp -dsimp [wC2, wA2, idA0, idA1, idA2, again_cons]
          refine grs_at (i := 1) (t := ⟨.slice va3 vn3 vc3, c.mn.take j, o3⟩) (x := vN) (c := [.int .i64 vN]) wE1 intT G2 rfl t2.lt rfl rfl (by show ((c.mn.take j).length + 1) * 8 ≤ _; have := ll c.mn; omega) (by show (c.mn.take j).length + 1 < _; have := ll c.mn; omega) (fun b hb => by have := t2.size; have := hNlt b hb; omega) (by have := t2.size; omega) ?_
          intro ra1 rn1 rc1 Y3 M3 p1 kp3 u3 G3 n3
          have t3 := t2.trans u3
          have v3 := v2.trans u3
          have wB3 := kp3.at wB2 (hno1 _ (by omega))
          have wC3 := kp3.at wC2 (hno1 _ (by omega))
          have wA3 := kp3.at wA2 (hno1 _ (by omega))
          replace wE2 := kp3.at wE2 (hno1 _ (by have := tY.size; omega))
          have m3 : ∀ b, N2 b → M3 b := fun b hb => n3 b (m2 b hb)
          simp -dsimp [wC3, wA3, idA0, idA1, idA2, again_cons]
          refine grs_at (i := 2) (t := ⟨.slice va4 vn4 vc4, c.mx.take j, o4⟩) (x := vX) (c := [.int .i64 vX]) wE2 intT G3 rfl t3.lt rfl rfl (by show ((c.mx.take j).length + 1) * 8 ≤ _; have := ll c.mx; omega) (by show (c.mx.take j).length + 1 < _; have := ll c.mx; omega) (fun b hb => by have := t3.size; have := hNlt b hb; omega) (by have := t3.size; omega) ?_
          intro ra2 rn2 rc2 Y4 M4 p2 kp4 u4 G4 n4
          have t4 := t3.trans u4
          have v4 := v3.trans u4
          have wB4 := kp4.at wB3 (hno2 _ (by omega))
          have wC4 := kp4.at wC3 (hno2 _ (by omega))
          have wA4 := kp4.at wA3 (hno2 _ (by omega))
          have m4 : ∀ b, N2 b → M4 b := fun b hb => n4 b (m3 b hb)
          simp -dsimp [wC4, set_same _ (lt_of_blk wC4), Array.setIfInBounds_setIfInBounds, wj, again_cons]
          exact ⟨(j + 1, _, _, _), by simp, rfl, fin Y4 M4 _ _ _ _ _ _ _ _ _ p0 p1 p2 t4 m4 G4 wB4 wC4 v4, by show m - (j + 1) < m - j; omega⟩
        case' L10 =>
          rw [treeW_leaf]
          simp -dsimp [wCY, wCp1 wCY, wCp2 wCY, wAY, wCp1 wAY, wCp2 wAY, idA0, idA1, idA2, again_cons]
          generalize hP1 : Array.push (Array.push Y _) _ = Y1
          have kp1 : Keep none_ Y Y1 := by rw [← hP1]; exact ((Keep.refl none_ Y).pushed _).pushed _
          have wE1 : Y1[Y.size]? = some (.cells #[.int .i64 vN] 3 (0, 0)) := by rw [← hP1]; exact push_at (push_new _ _)
          have wE0 : Y1[Y.size + 1]? = some (.cells #[.int .i64 vS] 3 (0, 0)) := by rw [← hP1]; exact push_get (by simp)
          have wB1 := kp1.at wBY (fun h => h)
          have wC1 := kp1.at wCY (fun h => h)
          have wA1 := kp1.at wAY (fun h => h)
          have t1 := tY.call kp1
          have v1 := tY.here.call kp1
          have G1 := GY.call kp1
          refine grs_at (i := 0) (t := ⟨.slice va2 vn2 vc2, c.sum.take j, o2⟩) (x := vS) (c := [.int .i64 vS]) wE0 intT G1 rfl t1.lt rfl rfl (by show ((c.sum.take j).length + 1) * 8 ≤ _; have := ll c.sum; omega) (by show (c.sum.take j).length + 1 < _; have := ll c.sum; omega) (fun b hb => by have := t1.size; have := hNlt b hb; omega) (by have := t1.size; omega) ?_
          intro ra0 rn0 rc0 Y2 M2 p0 kp2 u2 G2 n2
          have t2 := t1.trans u2
          have v2 := v1.trans u2
          have wB2 := kp2.at wB1 (hno0 _ (by omega))
          have wC2 := kp2.at wC1 (hno0 _ (by omega))
          have wA2 := kp2.at wA1 (hno0 _ (by omega))
          replace wE1 := kp2.at wE1 (hno0 _ (by have := tY.size; omega))
          have m2 : ∀ b, N2 b → M2 b := fun b hb => n2 b (hN2 b hb)
          simp -dsimp [wC2, wA2, idA0, idA1, idA2, again_cons]
          refine grs_at (i := 1) (t := ⟨.slice va3 vn3 vc3, c.mn.take j, o3⟩) (x := vN) (c := [.int .i64 vN]) wE1 intT G2 rfl t2.lt rfl rfl (by show ((c.mn.take j).length + 1) * 8 ≤ _; have := ll c.mn; omega) (by show (c.mn.take j).length + 1 < _; have := ll c.mn; omega) (fun b hb => by have := t2.size; have := hNlt b hb; omega) (by have := t2.size; omega) ?_
          intro ra1 rn1 rc1 Y3 M3 p1 kp3 u3 G3 n3
          have t3 := t2.trans u3
          have v3 := v2.trans u3
          have wB3 := kp3.at wB2 (hno1 _ (by omega))
          have wC3 := kp3.at wC2 (hno1 _ (by omega))
          have wA3 := kp3.at wA2 (hno1 _ (by omega))
          have m3 : ∀ b, N2 b → M3 b := fun b hb => n3 b (m2 b hb)
          simp -dsimp [wC3, wCp1 wC3, wA3, wCp1 wA3, idA0, idA1, idA2, again_cons]
          generalize hP4 : Array.push Y3 _ = Y4
          have kp4 : Keep none_ Y3 Y4 := by rw [← hP4]; exact (Keep.refl none_ Y3).pushed _
          have wE2 : Y4[Y3.size]? = some (.cells #[.int .i64 vX] 3 (0, 0)) := by rw [← hP4]; exact push_new _ _
          have wB4 := kp4.at wB3 (fun h => h)
          have wC4 := kp4.at wC3 (fun h => h)
          have wA4 := kp4.at wA3 (fun h => h)
          have t4 := t3.call kp4
          have v4 := v3.call kp4
          have G4 := G3.call kp4
          refine grs_at (i := 2) (t := ⟨.slice va4 vn4 vc4, c.mx.take j, o4⟩) (x := vX) (c := [.int .i64 vX]) wE2 intT G4 rfl t4.lt rfl rfl (by show ((c.mx.take j).length + 1) * 8 ≤ _; have := ll c.mx; omega) (by show (c.mx.take j).length + 1 < _; have := ll c.mx; omega) (fun b hb => by have := t4.size; have := hNlt b hb; omega) (by have := t4.size; omega) ?_
          intro ra2 rn2 rc2 Y5 M5 p2 kp5 u5 G5 n5
          have t5 := t4.trans u5
          have v5 := v4.trans u5
          have wB5 := kp5.at wB4 (hno2 _ (by omega))
          have wC5 := kp5.at wC4 (hno2 _ (by omega))
          have wA5 := kp5.at wA4 (hno2 _ (by omega))
          have m5 : ∀ b, N2 b → M5 b := fun b hb => n5 b (m3 b hb)
          simp -dsimp [wC5, set_same _ (lt_of_blk wC5), Array.setIfInBounds_setIfInBounds, wj, again_cons]
          exact ⟨(j + 1, _, _, _), by simp, rfl, fin Y5 M5 _ _ _ _ _ _ _ _ _ p0 p1 p2 t5 m5 G5 wB5 wC5 v5, by show m - (j + 1) < m - j; omega⟩
        case' L11 =>
          rw [treeW_leaf]
          simp -dsimp [wCY, wCp1 wCY, wCp2 wCY, wAY, wCp1 wAY, wCp2 wAY, idA0, idA1, idA2, again_cons]
          generalize hP1 : Array.push (Array.push Y _) _ = Y1
          have kp1 : Keep none_ Y Y1 := by rw [← hP1]; exact ((Keep.refl none_ Y).pushed _).pushed _
          have wE1 : Y1[Y.size]? = some (.cells #[.int .i64 vN] 3 (0, 0)) := by rw [← hP1]; exact push_at (push_new _ _)
          have wE0 : Y1[Y.size + 1]? = some (.cells #[.int .i64 vS] 3 (0, 0)) := by rw [← hP1]; exact push_get (by simp)
          have wB1 := kp1.at wBY (fun h => h)
          have wC1 := kp1.at wCY (fun h => h)
          have wA1 := kp1.at wAY (fun h => h)
          have t1 := tY.call kp1
          have v1 := tY.here.call kp1
          have G1 := GY.call kp1
          refine grs_at (i := 0) (t := ⟨.slice va2 vn2 vc2, c.sum.take j, o2⟩) (x := vS) (c := [.int .i64 vS]) wE0 intT G1 rfl t1.lt rfl rfl (by show ((c.sum.take j).length + 1) * 8 ≤ _; have := ll c.sum; omega) (by show (c.sum.take j).length + 1 < _; have := ll c.sum; omega) (fun b hb => by have := t1.size; have := hNlt b hb; omega) (by have := t1.size; omega) ?_
          intro ra0 rn0 rc0 Y2 M2 p0 kp2 u2 G2 n2
          have t2 := t1.trans u2
          have v2 := v1.trans u2
          have wB2 := kp2.at wB1 (hno0 _ (by omega))
          have wC2 := kp2.at wC1 (hno0 _ (by omega))
          have wA2 := kp2.at wA1 (hno0 _ (by omega))
          replace wE1 := kp2.at wE1 (hno0 _ (by have := tY.size; omega))
          have m2 : ∀ b, N2 b → M2 b := fun b hb => n2 b (hN2 b hb)
          simp -dsimp [wC2, wCp1 wC2, wA2, wCp1 wA2, idA0, idA1, idA2, again_cons]
          generalize hP3 : Array.push Y2 _ = Y3
          have kp3 : Keep none_ Y2 Y3 := by rw [← hP3]; exact (Keep.refl none_ Y2).pushed _
          have wE2 : Y3[Y2.size]? = some (.cells #[.int .i64 vX] 3 (0, 0)) := by rw [← hP3]; exact push_new _ _
          replace wE1 := kp3.at wE1 (fun h => h)
          have wB3 := kp3.at wB2 (fun h => h)
          have wC3 := kp3.at wC2 (fun h => h)
          have wA3 := kp3.at wA2 (fun h => h)
          have t3 := t2.call kp3
          have v3 := v2.call kp3
          have G3 := G2.call kp3
          refine grs_at (i := 1) (t := ⟨.slice va3 vn3 vc3, c.mn.take j, o3⟩) (x := vN) (c := [.int .i64 vN]) wE1 intT G3 rfl t3.lt rfl rfl (by show ((c.mn.take j).length + 1) * 8 ≤ _; have := ll c.mn; omega) (by show (c.mn.take j).length + 1 < _; have := ll c.mn; omega) (fun b hb => by have := t3.size; have := hNlt b hb; omega) (by have := t3.size; omega) ?_
          intro ra1 rn1 rc1 Y4 M4 p1 kp4 u4 G4 n4
          have t4 := t3.trans u4
          have v4 := v3.trans u4
          have wB4 := kp4.at wB3 (hno1 _ (by omega))
          have wC4 := kp4.at wC3 (hno1 _ (by omega))
          have wA4 := kp4.at wA3 (hno1 _ (by omega))
          replace wE2 := kp4.at wE2 (hno1 _ (by have := t2.size; omega))
          have m4 : ∀ b, N2 b → M4 b := fun b hb => n4 b (m2 b hb)
          simp -dsimp [wC4, wA4, idA0, idA1, idA2, again_cons]
          refine grs_at (i := 2) (t := ⟨.slice va4 vn4 vc4, c.mx.take j, o4⟩) (x := vX) (c := [.int .i64 vX]) wE2 intT G4 rfl t4.lt rfl rfl (by show ((c.mx.take j).length + 1) * 8 ≤ _; have := ll c.mx; omega) (by show (c.mx.take j).length + 1 < _; have := ll c.mx; omega) (fun b hb => by have := t4.size; have := hNlt b hb; omega) (by have := t4.size; omega) ?_
          intro ra2 rn2 rc2 Y5 M5 p2 kp5 u5 G5 n5
          have t5 := t4.trans u5
          have v5 := v4.trans u5
          have wB5 := kp5.at wB4 (hno2 _ (by omega))
          have wC5 := kp5.at wC4 (hno2 _ (by omega))
          have wA5 := kp5.at wA4 (hno2 _ (by omega))
          have m5 : ∀ b, N2 b → M5 b := fun b hb => n5 b (m4 b hb)
          simp -dsimp [wC5, set_same _ (lt_of_blk wC5), Array.setIfInBounds_setIfInBounds, wj, again_cons]
          exact ⟨(j + 1, _, _, _), by simp, rfl, fin Y5 M5 _ _ _ _ _ _ _ _ _ p0 p1 p2 t5 m5 G5 wB5 wC5 v5, by show m - (j + 1) < m - j; omega⟩
        case' L12 =>
          rw [treeW_leaf]
          simp -dsimp [wCY, wCp1 wCY, wCp2 wCY, wCp3 wCY, wAY, wCp1 wAY, wCp2 wAY, wCp3 wAY, idA0, idA1, idA2, again_cons]
          generalize hP1 : Array.push (Array.push (Array.push Y _) _) _ = Y1
          have kp1 : Keep none_ Y Y1 := by rw [← hP1]; exact (((Keep.refl none_ Y).pushed _).pushed _).pushed _
          have wE1 : Y1[Y.size]? = some (.cells #[.int .i64 vN] 3 (0, 0)) := by rw [← hP1]; exact push_at (push_at (push_new _ _))
          have wE0 : Y1[Y.size + 1]? = some (.cells #[.int .i64 vS] 3 (0, 0)) := by rw [← hP1]; exact push_at (push_get (by simp))
          have wE2 : Y1[Y.size + 1 + 1]? = some (.cells #[.int .i64 vX] 3 (0, 0)) := by rw [← hP1]; exact push_get (by simp)
          have wB1 := kp1.at wBY (fun h => h)
          have wC1 := kp1.at wCY (fun h => h)
          have wA1 := kp1.at wAY (fun h => h)
          have t1 := tY.call kp1
          have v1 := tY.here.call kp1
          have G1 := GY.call kp1
          refine grs_at (i := 0) (t := ⟨.slice va2 vn2 vc2, c.sum.take j, o2⟩) (x := vS) (c := [.int .i64 vS]) wE0 intT G1 rfl t1.lt rfl rfl (by show ((c.sum.take j).length + 1) * 8 ≤ _; have := ll c.sum; omega) (by show (c.sum.take j).length + 1 < _; have := ll c.sum; omega) (fun b hb => by have := t1.size; have := hNlt b hb; omega) (by have := t1.size; omega) ?_
          intro ra0 rn0 rc0 Y2 M2 p0 kp2 u2 G2 n2
          have t2 := t1.trans u2
          have v2 := v1.trans u2
          have wB2 := kp2.at wB1 (hno0 _ (by omega))
          have wC2 := kp2.at wC1 (hno0 _ (by omega))
          have wA2 := kp2.at wA1 (hno0 _ (by omega))
          replace wE1 := kp2.at wE1 (hno0 _ (by have := tY.size; omega))
          replace wE2 := kp2.at wE2 (hno0 _ (by have := tY.size; omega))
          have m2 : ∀ b, N2 b → M2 b := fun b hb => n2 b (hN2 b hb)
          simp -dsimp [wC2, wA2, idA0, idA1, idA2, again_cons]
          refine grs_at (i := 1) (t := ⟨.slice va3 vn3 vc3, c.mn.take j, o3⟩) (x := vN) (c := [.int .i64 vN]) wE1 intT G2 rfl t2.lt rfl rfl (by show ((c.mn.take j).length + 1) * 8 ≤ _; have := ll c.mn; omega) (by show (c.mn.take j).length + 1 < _; have := ll c.mn; omega) (fun b hb => by have := t2.size; have := hNlt b hb; omega) (by have := t2.size; omega) ?_
          intro ra1 rn1 rc1 Y3 M3 p1 kp3 u3 G3 n3
          have t3 := t2.trans u3
          have v3 := v2.trans u3
          have wB3 := kp3.at wB2 (hno1 _ (by omega))
          have wC3 := kp3.at wC2 (hno1 _ (by omega))
          have wA3 := kp3.at wA2 (hno1 _ (by omega))
          replace wE2 := kp3.at wE2 (hno1 _ (by have := tY.size; omega))
          have m3 : ∀ b, N2 b → M3 b := fun b hb => n3 b (m2 b hb)
          simp -dsimp [wC3, wA3, idA0, idA1, idA2, again_cons]
          refine grs_at (i := 2) (t := ⟨.slice va4 vn4 vc4, c.mx.take j, o4⟩) (x := vX) (c := [.int .i64 vX]) wE2 intT G3 rfl t3.lt rfl rfl (by show ((c.mx.take j).length + 1) * 8 ≤ _; have := ll c.mx; omega) (by show (c.mx.take j).length + 1 < _; have := ll c.mx; omega) (fun b hb => by have := t3.size; have := hNlt b hb; omega) (by have := t3.size; omega) ?_
          intro ra2 rn2 rc2 Y4 M4 p2 kp4 u4 G4 n4
          have t4 := t3.trans u4
          have v4 := v3.trans u4
          have wB4 := kp4.at wB3 (hno2 _ (by omega))
          have wC4 := kp4.at wC3 (hno2 _ (by omega))
          have wA4 := kp4.at wA3 (hno2 _ (by omega))
          have m4 : ∀ b, N2 b → M4 b := fun b hb => n4 b (m3 b hb)
          simp -dsimp [wC4, set_same _ (lt_of_blk wC4), Array.setIfInBounds_setIfInBounds, wj, again_cons]
          exact ⟨(j + 1, _, _, _), by simp, rfl, fin Y4 M4 _ _ _ _ _ _ _ _ _ p0 p1 p2 t4 m4 G4 wB4 wC4 v4, by show m - (j + 1) < m - j; omega⟩
        case' L13 =>
          rw [treeW_leaf]
          simp -dsimp [wCY, wCp1 wCY, wCp2 wCY, wCp3 wCY, wAY, wCp1 wAY, wCp2 wAY, wCp3 wAY, idA0, idA1, idA2, again_cons]
          generalize hP1 : Array.push (Array.push (Array.push Y _) _) _ = Y1
          have kp1 : Keep none_ Y Y1 := by rw [← hP1]; exact (((Keep.refl none_ Y).pushed _).pushed _).pushed _
          have wE1 : Y1[Y.size]? = some (.cells #[.int .i64 vN] 3 (0, 0)) := by rw [← hP1]; exact push_at (push_at (push_new _ _))
          have wE2 : Y1[Y.size + 1]? = some (.cells #[.int .i64 vX] 3 (0, 0)) := by rw [← hP1]; exact push_at (push_get (by simp))
          have wE0 : Y1[Y.size + 1 + 1]? = some (.cells #[.int .i64 vS] 3 (0, 0)) := by rw [← hP1]; exact push_get (by simp)
          have wB1 := kp1.at wBY (fun h => h)
          have wC1 := kp1.at wCY (fun h => h)
          have wA1 := kp1.at wAY (fun h => h)
          have t1 := tY.call kp1
          have v1 := tY.here.call kp1
          have G1 := GY.call kp1
          refine grs_at (i := 0) (t := ⟨.slice va2 vn2 vc2, c.sum.take j, o2⟩) (x := vS) (c := [.int .i64 vS]) wE0 intT G1 rfl t1.lt rfl rfl (by show ((c.sum.take j).length + 1) * 8 ≤ _; have := ll c.sum; omega) (by show (c.sum.take j).length + 1 < _; have := ll c.sum; omega) (fun b hb => by have := t1.size; have := hNlt b hb; omega) (by have := t1.size; omega) ?_
          intro ra0 rn0 rc0 Y2 M2 p0 kp2 u2 G2 n2
          have t2 := t1.trans u2
          have v2 := v1.trans u2
          have wB2 := kp2.at wB1 (hno0 _ (by omega))
          have wC2 := kp2.at wC1 (hno0 _ (by omega))
          have wA2 := kp2.at wA1 (hno0 _ (by omega))
          replace wE1 := kp2.at wE1 (hno0 _ (by have := tY.size; omega))
          replace wE2 := kp2.at wE2 (hno0 _ (by have := tY.size; omega))
          have m2 : ∀ b, N2 b → M2 b := fun b hb => n2 b (hN2 b hb)
          simp -dsimp [wC2, wA2, idA0, idA1, idA2, again_cons]
          refine grs_at (i := 1) (t := ⟨.slice va3 vn3 vc3, c.mn.take j, o3⟩) (x := vN) (c := [.int .i64 vN]) wE1 intT G2 rfl t2.lt rfl rfl (by show ((c.mn.take j).length + 1) * 8 ≤ _; have := ll c.mn; omega) (by show (c.mn.take j).length + 1 < _; have := ll c.mn; omega) (fun b hb => by have := t2.size; have := hNlt b hb; omega) (by have := t2.size; omega) ?_
          intro ra1 rn1 rc1 Y3 M3 p1 kp3 u3 G3 n3
          have t3 := t2.trans u3
          have v3 := v2.trans u3
          have wB3 := kp3.at wB2 (hno1 _ (by omega))
          have wC3 := kp3.at wC2 (hno1 _ (by omega))
          have wA3 := kp3.at wA2 (hno1 _ (by omega))
          replace wE2 := kp3.at wE2 (hno1 _ (by have := tY.size; omega))
          have m3 : ∀ b, N2 b → M3 b := fun b hb => n3 b (m2 b hb)
          simp -dsimp [wC3, wA3, idA0, idA1, idA2, again_cons]
          refine grs_at (i := 2) (t := ⟨.slice va4 vn4 vc4, c.mx.take j, o4⟩) (x := vX) (c := [.int .i64 vX]) wE2 intT G3 rfl t3.lt rfl rfl (by show ((c.mx.take j).length + 1) * 8 ≤ _; have := ll c.mx; omega) (by show (c.mx.take j).length + 1 < _; have := ll c.mx; omega) (fun b hb => by have := t3.size; have := hNlt b hb; omega) (by have := t3.size; omega) ?_
          intro ra2 rn2 rc2 Y4 M4 p2 kp4 u4 G4 n4
          have t4 := t3.trans u4
          have v4 := v3.trans u4
          have wB4 := kp4.at wB3 (hno2 _ (by omega))
          have wC4 := kp4.at wC3 (hno2 _ (by omega))
          have wA4 := kp4.at wA3 (hno2 _ (by omega))
          have m4 : ∀ b, N2 b → M4 b := fun b hb => n4 b (m3 b hb)
          simp -dsimp [wC4, set_same _ (lt_of_blk wC4), Array.setIfInBounds_setIfInBounds, wj, again_cons]
          exact ⟨(j + 1, _, _, _), by simp, rfl, fin Y4 M4 _ _ _ _ _ _ _ _ _ p0 p1 p2 t4 m4 G4 wB4 wC4 v4, by show m - (j + 1) < m - j; omega⟩
        case' L14 =>
          rw [treeW_leaf]
          simp -dsimp [wCY, wCp1 wCY, wCp2 wCY, wCp3 wCY, wAY, wCp1 wAY, wCp2 wAY, wCp3 wAY, idA0, idA1, idA2, again_cons]
          generalize hP1 : Array.push (Array.push (Array.push Y _) _) _ = Y1
          have kp1 : Keep none_ Y Y1 := by rw [← hP1]; exact (((Keep.refl none_ Y).pushed _).pushed _).pushed _
          have wE2 : Y1[Y.size]? = some (.cells #[.int .i64 vX] 3 (0, 0)) := by rw [← hP1]; exact push_at (push_at (push_new _ _))
          have wE1 : Y1[Y.size + 1]? = some (.cells #[.int .i64 vN] 3 (0, 0)) := by rw [← hP1]; exact push_at (push_get (by simp))
          have wE0 : Y1[Y.size + 1 + 1]? = some (.cells #[.int .i64 vS] 3 (0, 0)) := by rw [← hP1]; exact push_get (by simp)
          have wB1 := kp1.at wBY (fun h => h)
          have wC1 := kp1.at wCY (fun h => h)
          have wA1 := kp1.at wAY (fun h => h)
          have t1 := tY.call kp1
          have v1 := tY.here.call kp1
          have G1 := GY.call kp1
          refine grs_at (i := 0) (t := ⟨.slice va2 vn2 vc2, c.sum.take j, o2⟩) (x := vS) (c := [.int .i64 vS]) wE0 intT G1 rfl t1.lt rfl rfl (by show ((c.sum.take j).length + 1) * 8 ≤ _; have := ll c.sum; omega) (by show (c.sum.take j).length + 1 < _; have := ll c.sum; omega) (fun b hb => by have := t1.size; have := hNlt b hb; omega) (by have := t1.size; omega) ?_
          intro ra0 rn0 rc0 Y2 M2 p0 kp2 u2 G2 n2
          have t2 := t1.trans u2
          have v2 := v1.trans u2
          have wB2 := kp2.at wB1 (hno0 _ (by omega))
          have wC2 := kp2.at wC1 (hno0 _ (by omega))
          have wA2 := kp2.at wA1 (hno0 _ (by omega))
          replace wE2 := kp2.at wE2 (hno0 _ (by have := tY.size; omega))
          replace wE1 := kp2.at wE1 (hno0 _ (by have := tY.size; omega))
          have m2 : ∀ b, N2 b → M2 b := fun b hb => n2 b (hN2 b hb)
          simp -dsimp [wC2, wA2, idA0, idA1, idA2, again_cons]
          refine grs_at (i := 1) (t := ⟨.slice va3 vn3 vc3, c.mn.take j, o3⟩) (x := vN) (c := [.int .i64 vN]) wE1 intT G2 rfl t2.lt rfl rfl (by show ((c.mn.take j).length + 1) * 8 ≤ _; have := ll c.mn; omega) (by show (c.mn.take j).length + 1 < _; have := ll c.mn; omega) (fun b hb => by have := t2.size; have := hNlt b hb; omega) (by have := t2.size; omega) ?_
          intro ra1 rn1 rc1 Y3 M3 p1 kp3 u3 G3 n3
          have t3 := t2.trans u3
          have v3 := v2.trans u3
          have wB3 := kp3.at wB2 (hno1 _ (by omega))
          have wC3 := kp3.at wC2 (hno1 _ (by omega))
          have wA3 := kp3.at wA2 (hno1 _ (by omega))
          replace wE2 := kp3.at wE2 (hno1 _ (by have := tY.size; omega))
          have m3 : ∀ b, N2 b → M3 b := fun b hb => n3 b (m2 b hb)
          simp -dsimp [wC3, wA3, idA0, idA1, idA2, again_cons]
          refine grs_at (i := 2) (t := ⟨.slice va4 vn4 vc4, c.mx.take j, o4⟩) (x := vX) (c := [.int .i64 vX]) wE2 intT G3 rfl t3.lt rfl rfl (by show ((c.mx.take j).length + 1) * 8 ≤ _; have := ll c.mx; omega) (by show (c.mx.take j).length + 1 < _; have := ll c.mx; omega) (fun b hb => by have := t3.size; have := hNlt b hb; omega) (by have := t3.size; omega) ?_
          intro ra2 rn2 rc2 Y4 M4 p2 kp4 u4 G4 n4
          have t4 := t3.trans u4
          have v4 := v3.trans u4
          have wB4 := kp4.at wB3 (hno2 _ (by omega))
          have wC4 := kp4.at wC3 (hno2 _ (by omega))
          have wA4 := kp4.at wA3 (hno2 _ (by omega))
          have m4 : ∀ b, N2 b → M4 b := fun b hb => n4 b (m3 b hb)
          simp -dsimp [wC4, set_same _ (lt_of_blk wC4), Array.setIfInBounds_setIfInBounds, wj, again_cons]
          exact ⟨(j + 1, _, _, _), by simp, rfl, fin Y4 M4 _ _ _ _ _ _ _ _ _ p0 p1 p2 t4 m4 G4 wB4 wC4 v4, by show m - (j + 1) < m - j; omega⟩
      · have hjl' : ¬ (j : Int) < m := by omega
        simp -dsimp [hjl']
        exact ⟨rfl, (j, _, _, _), by simp, rfl, ⟨N1, bv, o2, o3, o4, tz, hN1, hj, wBz, rz, wCz, gg⟩, by show j = m; omega⟩
    rintro ⟨j, v2, v3, v4⟩ z g' ⟨N1, bv, o2, o3, o4, tz, hN1, hj, wBz, rz, wCz, gg⟩ hjm
    simp only at hj rz wCz gg hjm
    have tk : ∀ l : List Int, l.length = m → l.take j = l := fun l hl => List.take_of_length_le (by omega)
    rw [tk c.sum hsl, tk c.mn (by rw [hc.mn]; omega), tk c.mx (by rw [hc.mx]; omega)] at gg
    obtain ⟨va2, vn2, vc2, rfl, _⟩ := (gg.at (i := 0) rfl).vals
    obtain ⟨va3, vn3, vc3, rfl, _⟩ := (gg.at (i := 1) rfl).vals
    obtain ⟨va4, vn4, vc4, rfl, _⟩ := (gg.at (i := 2) rfl).vals
    have hnN : ∀ b, b ≠ h.size + 1 → b ≠ h.size + 2 → ¬ N b := fun b n1 n2 hb => by have := (hN b).1 hb; omega
    have wLz := tz.at wL0 (hnN _ (by omega) (by omega))
    have wTz := tz.at wT0 (hnN _ (by omega) (by omega))
    have wDz := tz.at wD0 (hnN _ (by omega) (by omega))
    have hr := fun (i : Nat) (t : GI Int) (hi : [(⟨.slice va2 vn2 vc2, c.sum, o2⟩ : GI Int), ⟨.slice va3 vn3 vc3, c.mn, o3⟩, ⟨.slice va4 vn4 vc4, c.mx, o4⟩][i]? = some t) => (gg.at hi).rep (n' := h.size) (Nat.le_refl _) fun b hb => ((gg.gr t (List.mem_of_getElem? hi)).2 b hb).2
    have hrep : rCell.rep (Ft h.size none_ z) z [.slice va c.key.length vc, .int .i64 c.count, .slice va2 vn2 vc2, .slice va3 vn3 vc3, .slice va4 vn4 vc4] c := ⟨_, _, _, _, rfl, (gk.mono (tz.ft (Nat.le_refl _))).mono (Ft.free (Nat.le_refl _)), hr 0 _ rfl, hr 1 _ rfl, hr 2 _ rfl⟩
    have hsmall : CellSmall c := ⟨by omega, by omega, by rw [hc.mn]; omega, by rw [hc.mx]; omega⟩
    obtain ⟨bva, bvn, bvc, rfl⟩ : ∃ a n c, bv = .slice a n c := by obtain ⟨a, c, e, _⟩ := rz.val; exact ⟨_, _, _, e⟩
    have q1 : (1 : Int) ≤ c.count := hn.1
    have q2 : c.count ≤ (300 : Int) := hn.2
    have tzz := tt0.trans tz
    simp -dsimp
    refine drawn_by [⟨0, true, []⟩, ⟨2, true, []⟩, ⟨3, true, []⟩, ⟨4, true, []⟩, ⟨5, true, []⟩, ⟨1, false, [2, 3, 4, 5]⟩, ⟨6, true, []⟩, ⟨7, true, []⟩, ⟨8, true, []⟩, ⟨9, true, []⟩, ⟨10, true, []⟩, ⟨11, false, [2, 9, 10]⟩, ⟨12, false, [9, 10]⟩, ⟨13, false, []⟩] (by kernel_rfl) (by kernel_rfl) ?_
    simp -dsimp [wCz, wBz, q1]
    refine call_by (own_new (rCell.mono hrep (Ft.free (Nat.zero_le _))) hsmall) ?_
    rintro _ z6 ⟨ds, rfl, rd, k6⟩
    obtain ⟨ka', kc', sa', sc', na', nc', xa', xc', rfl, s1, s2, s3, s4⟩ := cell_open rd
    have wC6 := k6.at wCz (fun h => h)
    have wB6 := k6.at wBz (fun h => h)
    have wL6 := k6.at wLz (fun h => h)
    have wT6 := k6.at wTz (fun h => h)
    have wD6 := k6.at wDz (fun h => h)
    have ne1 : h.size + 2 ≠ h.size + 1 := by omega
    have ne2 : h.size + 2 ≠ h.size + 3 := by omega
    have ne3 : h.size + 2 ≠ h.size + 4 := by omega
    have ne4 : h.size + 3 ≠ h.size + 4 := by omega
    simp -dsimp [again_cons, wC6, wB6, q1, q2, wL6, wT6, set_same _ (lt_of_blk wC6), set_other _ ne1, set_other _ ne2, set_other _ ne3, set_other _ ne4]
    generalize hH2 : Array.setIfInBounds (Array.setIfInBounds (Array.setIfInBounds z6 _ _) _ _) _ _ = z7
    have hold7 : ∀ b, b ≠ h.size + 2 → b ≠ h.size + 3 → b ≠ h.size + 4 → z7[b]? = z6[b]? := fun b n1 n2 n3 => by rw [← hH2, set_other _ (fun e => n3 e.symm), set_other _ (fun e => n2 e.symm), set_other _ (fun e => n1 e.symm)]
    have hz7 : z7.size = z6.size := by rw [← hH2]; simp
    have l2 := lt_of_blk wC6
    have l3 := lt_of_blk wL6
    have l4 := lt_of_blk wT6
    have l5 := lt_of_blk wD6
    have v2 : z7[h.size + 2]? = some (.cells #[.slice ka' c.key.length kc', .int .i64 c.count, .slice sa' c.sum.length sc', .slice na' c.mn.length nc', .slice xa' c.mx.length xc'] 65 (0, 0)) := by rw [← hH2, set_other _ (by omega), set_other _ (by omega)]; exact set_same _ l2
    have v3 : z7[h.size + 3]? = some (.cells #[.slice bva bvn bvc] 66 (0, 0)) := by rw [← hH2, set_other _ (by omega)]; exact set_same _ (by simpa using l3)
    have v4 : z7[h.size + 4]? = some (.cells #[.bool true] 4 (0, 0)) := by rw [← hH2]; exact set_same _ (by simpa using l4)
    rw [takeS_cons ((hold7 _ (by omega) (by omega) (by omega)).trans wD6)]
    have nn2 : h3.size ≠ h.size + 2 := by omega
    have nn3 : h3.size ≠ h.size + 3 := by omega
    have nn4 : h3.size ≠ h.size + 4 := by omega
    simp -dsimp [set_other _ nn2, set_other _ nn3, set_other _ nn4, v2, v3, v4]
    have hold8 : ∀ b, b < z.size → b ≠ h.size + 2 → b ≠ h.size + 3 → b ≠ h.size + 4 → b ≠ h3.size → (z7.setIfInBounds h3.size (.deferred none))[b]? = z[b]? := fun b hb n1 n2 n3 n4 => by rw [set_other _ (fun e => n4 e.symm), hold7 b n1 n2 n3, k6.blk b hb (fun h => h)]
    have hz8 : (z7.setIfInBounds h3.size (.deferred none)).size = z6.size := by simp [hz7]
    refine hK _ _ ⟨[.slice ka' c.key.length kc', .int .i64 c.count, .slice sa' c.sum.length sc', .slice na' c.mn.length nc', .slice xa' c.mx.length xc'], _, rfl, ?_, ?_, ⟨?_, ?_⟩⟩
    · refine rCell.mono rd fun b hb => ?_
      have h1 := hb.1.1
      have h2 := tzz.size
      have h3' := tz.size
      have e : (z7.setIfInBounds h3.size (.deferred none))[b]? = z6[b]? := by rw [set_other _ (by omega), hold7 b (by omega) (by omega) (by omega)]
      exact ⟨⟨hb.1.at (by omega) e, by have := hb.2.1; omega, fun h => h⟩, e⟩
    · have hwd : c.key.length + 2 + 24 * j = w := by omega
      rw [hwd] at rz
      refine rz.mono fun b hb => ?_
      have h1 := hF _ hb
      have h2 := tzz.size
      have e := hold8 b (by omega) (by omega) (by omega) (by omega) (by omega)
      exact ⟨hb, e⟩
    · have := tzz.size
      have := k6.size
      omega
    · intro b hb _
      have := tzz.size
      rw [hold8 b (by omega) (by omega) (by omega) (by omega) (by omega)]
      exact tzz.keep.blk b hb (fun h => h)
end Go.Proofs
