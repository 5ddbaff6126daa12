/-
  Two cells as one.
-/
import Derived.Test.YtjkefplcbmdndaaH3
namespace Go.Proofs
open Go Go.HC

set_option maxHeartbeats 4000000 in
set_option maxRecDepth 10000 in
theorem both_spec {F G : Nat → Prop} {h : Heap} {av bv : Value} {xs ys : List Int} {f : FuncId} {g : Int → Int → Int} (hfn : FnOk Try.prog f)
    (hdo : ∀ (x y : Int) (h : Heap), CallH Try.prog f #[.int .i64 x, .int .i64 y] h fun r h' => r = .int .i64 (g x y) ∧ h' = h)
    (ha : SlRep rInt F h av xs) (hF : ∀ b, F b → b < h.size) (hb : SlRep rInt G h bv ys) (hG : ∀ b, G b → b < h.size) (hl : xs.length < 1000000000) :
    CallH Try.prog 49 #[av, bv, .func (.func f) #[] #[]] h fun r h' => ∃ own, Grow rInt 3 none_ h' r (List.zipWith g xs ys) own ∧ Keep none_ h h' ∧ ∀ b, own = some b → h.size ≤ b := by
  refine callH_by fun K hK => ?_
  refine enter [.tmp 6] Try.func49 rfl rfl (by kernel_rfl) rfl ?_
  obtain ⟨a0, c0, rfl, hc0, hc0'⟩ := ha.val
  obtain ⟨a1, c1, rfl, hc1, hc1'⟩ := hb.val
  have hzl : (List.zipWith g xs ys).length = min xs.length ys.length := List.length_zipWith
  simp -dsimp
  refine loop' (σ := Nat × Value) (fun t => [(1, .slice a1 ys.length c1), (2, .func (.func f) #[] #[]), (7, t.2), (10, .slice a0 xs.length c0), (11, .int .i64 xs.length), (12, .int .i64 t.1)]) (fun _ => [])
    (fun t h1 => Keep none_ h h1 ∧ t.1 ≤ xs.length ∧ ∃ own, Grow rInt 3 none_ h1 t.2 ((List.zipWith g xs ys).take t.1) own ∧ ∀ b, own = some b → h.size ≤ b) (fun t => xs.length - t.1) (0, .slice none 0 0) ?_ rfl ⟨.refl _ _, Nat.zero_le _, none, .nil _ _ _ _, fun b hb => by cases hb⟩ (by kernel_rfl) ?_
  · intro p hp
    simp at hp
    rcases hp with rfl | rfl | rfl | rfl | rfl | rfl <;> simp
  · rintro ⟨k, tv⟩ h1 gg ⟨k1, hk, own, hg, ho⟩
    simp only at hk hg
    have e1 := k1.size
    obtain ⟨ta, tc, htv⟩ := hg.val
    obtain ⟨m, hm⟩ : ∃ m, ((List.zipWith g xs ys).take k).length = m := ⟨_, rfl⟩
    rw [hm] at htv
    subst htv
    by_cases hkl : k < xs.length
    · have ha1 := ha.mono (F' := F) (h' := h1) fun b hb => ⟨hb, k1.blk b (hF b hb) (fun h => h)⟩
      obtain ⟨b1, o1, v1, rfl, _, hr1, hcc1⟩ := ha1.get1 rfl k hkl
      have hv1 : v1 = .int .i64 xs[k] := by simpa [rInt] using hr1
      subst hv1
      have hidx1 : ∀ (K : Value → Heap → Prop) (h : Heap), indexAddrS Try.prog 22 (.slice (some ⟨b1, o1, none⟩) xs.length c0) (.int .i64 (k : Int)) h K = K (.pointer (some ⟨b1, o1 + k, none⟩)) h := by
        intro K h
        rw [indexAddrS_slice _ _ _ _ _ _ (by omega) (by omega) rfl]
        simp [elSz]
      have wk : IntKind.i64.wrap ((k : Int) + 1) = ((k + 1 : Nat) : Int) := by rw [wrap_i64 (by omega) (by omega)]; rfl
      by_cases hky : k < ys.length
      · have hb1 := hb.mono (F' := G) (h' := h1) fun b hb => ⟨hb, k1.blk b (hG b hb) (fun h => h)⟩
        obtain ⟨b2, o2, v2, rfl, _, hr2, hcc2⟩ := hb1.get1 rfl k hky
        have hv2 : v2 = .int .i64 ys[k] := by simpa [rInt] using hr2
        subst hv2
        have hidx2 : ∀ (K : Value → Heap → Prop) (h : Heap), indexAddrS Try.prog 22 (.slice (some ⟨b2, o2, none⟩) ys.length c1) (.int .i64 (k : Int)) h K = K (.pointer (some ⟨b2, o2 + k, none⟩)) h := by
          intro K h
          rw [indexAddrS_slice _ _ _ _ _ _ (by omega) (by omega) rfl]
          simp [elSz]
        have htl : ((List.zipWith g xs ys).take k).length = k := by rw [List.length_take, hzl]; omega
        have hnx : (List.zipWith g xs ys).take (k + 1) = (List.zipWith g xs ys).take k ++ [g xs[k] ys[k]] := by
          rw [List.take_add_one, List.getElem?_eq_getElem (by rw [hzl]; omega), List.getElem_zipWith]
          rfl
        simp -dsimp [hkl, hidx1, hcc1, hky, hidx2, hcc2, hfn]
        refine call_by (hdo xs[k] ys[k] h1) ?_
        rintro _ h1' ⟨rfl, hh⟩
        obtain rfl := hh.symm
        simp -dsimp
        have hps : (h1.push (.cells #[.int .i64 (g xs[k] ys[k])] 3)).size = h1.size + 1 := by simp
        have hgp := hg.push (fun _ h => h.elim) (.cells #[.int .i64 (g xs[k] ys[k])] 3)
        refine append_grow (F2 := fun b => b = h1.size) (ys := [g xs[k] ys[k]]) intT hgp (fun _ (h : none_ _) => h.elim) rfl
          (.inr ⟨h1.size, 0, _, _, _, rfl, rfl, push_new _ _, rfl⟩) (.single rfl) (by rw [htl]; simp; omega) (by rw [htl]; simp; omega) ?_
        intro tv' h2 own' hg2 kk2 ho2
        rw [hps] at ho2
        have e2 := kk2.size
        rw [hps] at e2
        rw [← hnx] at hg2
        simp -dsimp [wk]
        refine ⟨(k + 1, tv'), ?_, rfl, ⟨⟨by omega, fun b hb _ => by rw [kk2.blk b (by omega) (fun e => by have := ho b e; omega), push_old _ (by omega), k1.blk b hb (fun h => h)]⟩, by show k + 1 ≤ xs.length; omega, own', hg2, fun b hb => (ho2 b hb).elim (ho b) (fun h => by omega)⟩, by show xs.length - (k + 1) < xs.length - k; omega⟩
        intro p hp
        simp at hp
        rcases hp with rfl | rfl | rfl | rfl | rfl | rfl <;> simp
      · have hnx : (List.zipWith g xs ys).take (k + 1) = (List.zipWith g xs ys).take k := by
          rw [List.take_of_length_le (by rw [hzl]; omega), List.take_of_length_le (by rw [hzl]; omega)]
        have hg' : Grow rInt 3 none_ h1 (.slice ta m tc) ((List.zipWith g xs ys).take (k + 1)) own := by rw [hnx]; exact hg
        simp -dsimp [hkl, hidx1, hcc1, hky, wk]
        refine ⟨(k + 1, .slice ta m tc), ?_, rfl, ⟨k1, by show k + 1 ≤ xs.length; omega, own, hg', ho⟩, by show xs.length - (k + 1) < xs.length - k; omega⟩
        intro p hp
        simp at hp
        rcases hp with rfl | rfl | rfl | rfl | rfl | rfl <;> simp
    · have hall : (List.zipWith g xs ys).take k = List.zipWith g xs ys := List.take_of_length_le (by rw [hzl]; omega)
      rw [hall] at hg
      simp -dsimp [hkl]
      refine call_by (cloneInt_spec hg.ints hg.own_lt (by rw [hzl]; omega)) ?_
      rintro _ h2 ⟨own2, hg2, k2, ho2⟩
      obtain ⟨a2, c2, hv2⟩ := hg2.val
      obtain ⟨m2, hm2⟩ : ∃ m, (List.zipWith g xs ys).length = m := ⟨_, rfl⟩
      rw [hm2] at hv2
      subst hv2
      simp -dsimp
      exact hK _ _ ⟨own2, hg2, k1.trans k2 (fun _ _ h => h), fun b hb => by have := ho2 b hb; omega⟩

set_option maxHeartbeats 40000000 in
set_option maxRecDepth 10000 in
theorem join_spec {F G : Nat → Prop} {h : Heap} {cs ds : List Value} {a b : CellM} (ha : rCell.rep F h cs a) (hF : ∀ b, F b → b < h.size) (sa : CellSmall a) (hb : rCell.rep G h ds b) (hG : ∀ b, G b → b < h.size) :
    CallH Try.prog 37 #[.agg cs.toArray, .agg ds.toArray] h fun r h' => ∃ es E, r = .agg es.toArray ∧ rCell.rep E h' es (joinC a b) ∧ Keep none_ h h' ∧ ∀ b, E b → h.size ≤ b ∧ b < h'.size := by
  refine callH_by fun K hK => ?_
  refine enter [.cell 4 39] Try.func37 rfl rfl (by kernel_rfl) rfl ?_
  obtain ⟨kv, sv, nv, xv, rfl, r1, r2, r3, r4⟩ := ha
  obtain ⟨ka, kc, rfl, _, _⟩ := r1.val
  obtain ⟨s1, sc, rfl, _, _⟩ := r2.val
  obtain ⟨na, nc, rfl, _, _⟩ := r3.val
  obtain ⟨xa, xc, rfl, _, _⟩ := r4.val
  obtain ⟨kv', sv', nv', xv', rfl, q1, q2, q3, q4⟩ := hb
  obtain ⟨ka', kc', rfl, _, _⟩ := q1.val
  obtain ⟨sa', sc', rfl, _, _⟩ := q2.val
  obtain ⟨na', nc', rfl, _, _⟩ := q3.val
  obtain ⟨xa', xc', rfl, _, _⟩ := q4.val
  simp -dsimp [boxS_eq]
  generalize hB : Array.push _ _ = h0
  have hz0 : h0.size = h.size + 3 := by rw [← hB]; simp
  have k0 : Keep none_ h h0 := by rw [← hB]; exact (((Keep.refl none_ h).pushed _).pushed _).pushed _
  have hp1 : ∀ o, (h.push o).size = h.size + 1 := fun o => by simp
  have hp2 : ∀ o o', ((h.push o).push o').size = h.size + 2 := fun o o' => by simp
  have hA0 : h0[h.size]? = some (.cells #[.slice ka a.key.length kc, .int .i64 a.count, .slice s1 a.sum.length sc, .slice na a.mn.length nc, .slice xa a.mx.length xc] 39 (0, 0)) := by rw [← hB]; exact push_at (push_at (push_new _ _))
  have hB0 : h0[h.size + 1]? = some (.cells #[.slice ka' b.key.length kc', .int .i64 b.count, .slice sa' b.sum.length sc', .slice na' b.mn.length nc', .slice xa' b.mx.length xc'] 39 (0, 0)) := by
    rw [← hB]; refine push_at ?_; rw [← hp1]; exact push_new _ _
  have hT0 : h0[h.size + 2]? = some (.cells #[.slice none 0 0, .int .i64 0, .slice none 0 0, .slice none 0 0, .slice none 0 0] 39 (0, 0)) := by
    rw [← hB, ← hp2]; exact push_new _ _
  have m1 : ∀ (h' : Heap), Keep none_ h h' → ∀ b, F b → F b ∧ h'[b]? = h[b]? := fun h' k b hb => ⟨hb, k.blk b (hF b hb) (fun h => h)⟩
  have m2 : ∀ (h' : Heap), Keep none_ h h' → ∀ b, G b → G b ∧ h'[b]? = h[b]? := fun h' k b hb => ⟨hb, k.blk b (hG b hb) (fun h => h)⟩
  refine drawn_by [⟨0, true, []⟩, ⟨1, true, []⟩, ⟨3, true, []⟩, ⟨4, true, []⟩, ⟨5, true, []⟩, ⟨6, true, []⟩, ⟨7, true, []⟩, ⟨8, true, []⟩, ⟨9, true, []⟩, ⟨10, true, []⟩, ⟨11, true, []⟩, ⟨13, true, []⟩, ⟨14, true, []⟩, ⟨15, true, []⟩, ⟨16, true, []⟩, ⟨18, true, []⟩, ⟨19, true, []⟩, ⟨20, true, []⟩, ⟨21, true, []⟩, ⟨2, false, [3, 4, 5, 6, 7, 8, 9, 10, 11, 13, 14, 15, 16, 18, 19, 20, 21]⟩, ⟨12, false, [3, 4, 5, 6, 7, 13, 14, 15, 16, 18, 19, 20, 21]⟩, ⟨17, false, [3, 4, 5, 6, 7, 18, 19, 20, 21]⟩, ⟨22, false, [3, 4, 5, 6, 7]⟩, ⟨23, false, []⟩, ⟨24, false, []⟩] (by kernel_rfl) (by kernel_rfl) ?_
  simp -dsimp [hA0, hB0]
  refine call_by (cloneInt_spec (r1.mono (m1 h0 k0)) (fun b hb => by have := hF b hb; omega) (by have := sa.key; omega)) ?_
  rintro _ h1 ⟨o1, g1, k1, n1⟩
  obtain ⟨a1, c1, rfl⟩ := g1.val
  have k01 := k0.trans k1 (fun _ _ h => h)
  have hA1 := k1.at hA0 (fun h => h)
  have hB1 := k1.at hB0 (fun h => h)
  have e1 := k1.size
  simp -dsimp [again_cons, hA1, hB1]
  refine call_by (both_spec (f := 50) (by simp) add_spec (r2.mono (m1 h1 k01)) (fun b hb => by have := hF b hb; omega) (q2.mono (m2 h1 k01)) (fun b hb => by have := hG b hb; omega) sa.sum) ?_
  rintro _ h2 ⟨o2, g2, k2, n2⟩
  obtain ⟨a2, c2, hv2⟩ := g2.val
  obtain ⟨l2, hl2⟩ : ∃ m, (List.zipWith (fun x y => IntKind.i64.wrap (x + y)) a.sum b.sum).length = m := ⟨_, rfl⟩
  rw [hl2] at hv2
  subst hv2
  have k02 := k01.trans k2 (fun _ _ h => h)
  have hA2 := k2.at hA1 (fun h => h)
  have hB2 := k2.at hB1 (fun h => h)
  have e2 := k2.size
  simp -dsimp [again_cons, hA2, hB2]
  refine call_by (both_spec (f := 51) (by simp) min_spec (r3.mono (m1 h2 k02)) (fun b hb => by have := hF b hb; omega) (q3.mono (m2 h2 k02)) (fun b hb => by have := hG b hb; omega) sa.mn) ?_
  rintro _ h3 ⟨o3, g3, k3, n3⟩
  obtain ⟨a3, c3, hv3⟩ := g3.val
  obtain ⟨l3, hl3⟩ : ∃ m, (List.zipWith min a.mn b.mn).length = m := ⟨_, rfl⟩
  rw [hl3] at hv3
  subst hv3
  have k03 := k02.trans k3 (fun _ _ h => h)
  have hA3 := k3.at hA2 (fun h => h)
  have hB3 := k3.at hB2 (fun h => h)
  have e3 := k3.size
  simp -dsimp [again_cons, hA3, hB3]
  refine call_by (both_spec (f := 52) (by simp) max_spec (r4.mono (m1 h3 k03)) (fun b hb => by have := hF b hb; omega) (q4.mono (m2 h3 k03)) (fun b hb => by have := hG b hb; omega) sa.mx) ?_
  rintro _ h4 ⟨o4, g4, k4, n4⟩
  obtain ⟨a4, c4, hv4⟩ := g4.val
  obtain ⟨l4, hl4⟩ : ∃ m, (List.zipWith max a.mx b.mx).length = m := ⟨_, rfl⟩
  rw [hl4] at hv4
  subst hv4
  have k04 := k03.trans k4 (fun _ _ h => h)
  have hA4 := k4.at hA3 (fun h => h)
  have hB4 := k4.at hB3 (fun h => h)
  have hT4 := k4.at (k3.at (k2.at (k1.at hT0 (fun h => h)) (fun h => h)) (fun h => h)) (fun h => h)
  have e4 := k4.size
  have hset : ∀ o, (h4.setIfInBounds (h.size + 2) o)[h.size + 2]? = some o := fun o => set_same o (by omega)
  simp -dsimp [again_cons, hA4, hB4, hT4, hset]
  generalize hH : h4.setIfInBounds (h.size + 2) _ = h5
  have hz5 : h5.size = h4.size := by rw [← hH]; simp
  have hold : ∀ b, b ≠ h.size + 2 → h5[b]? = h4[b]? := fun b hn => by rw [← hH, set_other _ (fun e => hn e.symm)]
  have p1 := g1.own_lt
  have p2 := g2.own_lt
  have p3 := g3.own_lt
  have p4 := g4.own_lt
  refine hK _ _ ⟨_, fun b => o1 = some b ∨ o2 = some b ∨ o3 = some b ∨ o4 = some b, rfl, ⟨_, _, _, _, rfl, ?_, ?_, ?_, ?_⟩, ⟨by omega, fun b hb _ => by rw [hold b (by omega), k04.blk b hb (fun h => h)]⟩, ?_⟩
  · exact g1.ints.mono fun b hb => ⟨.inl hb, by
      have := n1 b hb
      have := p1 b hb
      rw [hold b (by omega), k4.blk b (by omega) (fun h => h), k3.blk b (by omega) (fun h => h), k2.blk b (by omega) (fun h => h)]⟩
  · exact g2.ints.mono fun b hb => ⟨.inr (.inl hb), by
      have := n2 b hb
      have := p2 b hb
      rw [hold b (by omega), k4.blk b (by omega) (fun h => h), k3.blk b (by omega) (fun h => h)]⟩
  · exact g3.ints.mono fun b hb => ⟨.inr (.inr (.inl hb)), by
      have := n3 b hb
      have := p3 b hb
      rw [hold b (by omega), k4.blk b (by omega) (fun h => h)]⟩
  · exact g4.ints.mono fun b hb => ⟨.inr (.inr (.inr hb)), by
      have := n4 b hb
      rw [hold b (by omega)]⟩
  · rintro b (hb | hb | hb | hb)
    · have := n1 b hb; have := p1 b hb; omega
    · have := n2 b hb; have := p2 b hb; omega
    · have := n3 b hb; have := p3 b hb; omega
    · have := n4 b hb; have := p4 b hb; omega
end Go.Proofs
