/-
  hypercubelaw12.ExecAll returns true for all arguments, and its arguments read behind the call as they read ahead of it; no condition.
-/
import Derived.Test.YtgmjighohmpafaaGreatKBe
import Derived.Test.YtgmjighohmpafaaGreatRows
/-
  ExecAll: the walk.
-/
namespace Go.Proofs
open Go Go.HC

set_option maxHeartbeats 8000000 in
set_option maxRecDepth 10000 in
theorem execAll_spec {F1 F2 : Nat → Prop} {h : Heap} {cv nv : Value} {cards ns : List Int} (dims ms set to budget algorithm raw : Int) (hraw : raw < 9223372036854775808) (hc : SlRep rInt F1 h cv cards) (hF1 : ∀ b, F1 b → b < h.size) (hn : SlRep rInt F2 h nv ns) (hF2 : ∀ b, F2 b → b < h.size) :
    CallH Tryz.prog 3 #[.int .i64 dims, cv, .int .i64 ms, nv, .int .i64 set, .int .i64 to, .int .i64 budget, .int .i64 algorithm, .int .i64 raw] h fun r h' => r = .bool true ∧ Keep none_ h h' := by
  refine callH_by fun K hK => ?_
  refine enter [.tmp 18] Tryz.func3 rfl rfl (by kernel_rfl) rfl ?_
  replace hc := hc.mono (F' := Old h) (h' := h) fun b hb => ⟨⟨nz, hF1 b hb, fun h => h⟩, rfl⟩
  replace hn := hn.mono (F' := Old h) (h' := h) fun b hb => ⟨⟨nz, hF2 b hb, fun h => h⟩, rfl⟩
  obtain ⟨a0, c0, rfl, _, _⟩ := hc.val
  obtain ⟨a1, c1, rfl, _, _⟩ := hn.val
  simp -dsimp
  refine call_by (known12_spec h) ?_
  rintro _ h0 ⟨rfl, k0⟩
  have t0 := Tr.of k0
  simp -dsimp
  refine call_by (facts1_spec dims ms (hc.mono (t0.ft (Nat.le_refl 0))) (hn.mono (t0.ft (Nat.le_refl 0)))) ?_
  rintro _ h1 ⟨sv, rv, rfl, s1, r1, k1⟩
  have hok := factsM_ok dims cards ms ns
  generalize hfs : (factsM dims cards ms ns).1 = s at *
  generalize hfr : (factsM dims cards ms ns).2 = rows at *
  obtain ⟨sa, sc, rfl, _, _⟩ := s1.val
  obtain ⟨ra, rc, rfl, _, _⟩ := r1.val
  simp -dsimp
  rw [push_set rfl]
  generalize hB : Array.push h1 _ = h2
  have k2 : Keep none_ h1 h2 := by rw [← hB]; exact .push _ _ _
  have u2 : Keep none_ h h2 := (k0.trans k1 fun _ _ h => h).trans k2 fun _ _ h => h
  have hdim := hok.dims
  refine call_by (set2_spec s.ms set ((s1.mono (Ft.free (Nat.zero_le _))).mono ((Tr.of k2).ft (Nat.le_refl 0))) hdim.2) ?_
  rintro _ h3 ⟨rfl, k3⟩
  have hp2 := pow2_pos s.cards.length
  have hwa := withinM_bound (a := set) hp2
  obtain ⟨a, ea⟩ : ∃ a, a = withinM set (2 ^ s.cards.length) := ⟨_, rfl⟩
  rw [← ea] at hwa ⊢
  have u3 := u2.trans k3 fun _ _ h => h
  have hml := hok.ms
  have hlen := hok.len
  have r3 := (r1.mono (Ft.free (Nat.zero_le _))).mono ((Tr.of (k2.trans k3 fun _ _ h => h)).ft (Nat.le_refl 0))
  have hrow : ∀ r ∈ rows, r.key.length < 64 ∧ r.m.length = s.ms.toNat := fun r hr => ⟨by rw [(hok.key r hr).1]; omega, (hok.m r hr).1⟩
  have hrow' : ∀ r ∈ rows, r.key.length < 64 ∧ r.m.length < 1000000000 := fun r hr => ⟨(hrow r hr).1, by rw [(hrow r hr).2]; omega⟩
  have hmt : s.ms.toNat < 1000000000 := by omega
  have hca := (hok.cells hwa.1 hwa.2).2
  have hla : (rows.map (ofM a)).length < 1000000 := by rw [List.length_map]; omega
  simp -dsimp
  refine call_by (within12_spec to 16 (by decide) (by decide) h3) ?_
  rintro _ h3' ⟨rfl, hh⟩
  subst h3'
  have hw := within_and (to := to) hdim.2 hwa.1 hwa.2
  obtain ⟨b, eb⟩ : ∃ b, b = andM a (withinM to 16) := ⟨_, rfl⟩
  rw [← eb] at hw
  simp -dsimp [-intRes_and, and_op, ← eb]
  refine call_by (make_spec a r3 (by omega) hrow') ?_
  rintro lv h4 ⟨l4, k4⟩
  obtain ⟨la, lc, rfl, _, _⟩ := l4.val
  replace l4 := l4.mono (Ft.free (Nat.zero_le _))
  simp only [List.length_map] at l4
  have u := u3.trans k4 fun _ _ h => h
  replace r3 := r3.mono ((Tr.of k4).ft (Nat.le_refl 0))
  simp -dsimp
  refine call_by (within12_spec budget 12 (by decide) (by decide) h4) ?_
  rintro _ h4' ⟨rfl, hh⟩
  subst h4'
  have hbk := withinM_bound (a := budget) (n := 12) (by omega)
  obtain ⟨k, ek⟩ : ∃ k, k = 3 + withinM budget 12 := ⟨_, rfl⟩
  have wk : IntKind.i64.wrap (3 + withinM budget 12) = k := by rw [wrap_i64 (by omega) (by omega), ek]
  simp -dsimp [wk]
  refine call_by (within12_spec budget 5 (by decide) (by decide) h4) ?_
  rintro _ h4' ⟨rfl, hh⟩
  subst h4'
  have hbkb := withinM_bound (a := budget) (n := 5) (by omega)
  obtain ⟨kb, ekb⟩ : ∃ kb, kb = withinM budget 5 := ⟨_, rfl⟩
  rw [← ekb]
  simp -dsimp
  generalize hA5 : Array.push h4 _ = h5
  have k5 : Keep none_ h4 h5 := by rw [← hA5]; exact .push _ _ _
  have w5 : h5[h4.size]? = some (.cells #[.int .i64 k, .int .i64 kb, .int .i64 300, .int .i64 raw] 3 (0, 0)) := by rw [← hA5]; exact push_new _ _
  refine call_by (within12_spec algorithm 2 (by decide) (by decide) h5) ?_
  rintro _ h5' ⟨rfl, hh⟩
  subst h5'
  have hbg := withinM_bound (a := algorithm) (n := 2) (by omega)
  obtain ⟨g, eg⟩ : ∃ g, g = withinM algorithm 2 := ⟨_, rfl⟩
  rw [← eg]
  simp -dsimp
  refine call_by (within12_spec algorithm 2 (by decide) (by decide) h5) ?_
  rintro _ h5' ⟨rfl, hh⟩
  subst h5'
  have w1g : IntKind.i64.wrap (1 - g) = 1 - g := wrap_i64 (by omega) (by omega)
  rw [← eg]
  simp -dsimp [w1g]
  refine call_by (within12_spec algorithm 4 (by decide) (by decide) h5) ?_
  rintro _ h5' ⟨rfl, hh⟩
  subst h5'
  have hbg4 := withinM_bound (a := algorithm) (n := 4) (by omega)
  obtain ⟨g4, eg4⟩ : ∃ g4, g4 = withinM algorithm 4 - 1 := ⟨_, rfl⟩
  have w4g : IntKind.i64.wrap (withinM algorithm 4 - 1) = g4 := by rw [wrap_i64 (by omega) (by omega), eg4]
  simp -dsimp [w4g]
  generalize hA6 : Array.push h5 _ = h6
  have k6 : Keep none_ h5 h6 := by rw [← hA6]; exact .push _ _ _
  have w6 : h6[h5.size]? = some (.cells #[.int .i64 g, .int .i64 (1 - g), .int .i64 g4, .int .i64 raw] 3 (0, 0)) := by rw [← hA6]; exact push_new _ _
  replace w5 := k6.at w5 (fun h => h)
  have k46 := k5.trans k6 fun _ _ h => h
  have hks : k < 9223372036854775808 ∧ kb < 9223372036854775808 := by omega
  clear hbk hbkb ek ekb wk
  refine loopc (σ := Nat) (fun i => [(21, .int .i64 a), (22, .int .i64 b), (23, .slice la rows.length lc), (24, .slice (some ⟨h4.size, 0, none⟩) 4 4), (25, .slice (some ⟨h5.size, 0, none⟩) 4 4), (26, .int .i64 i)])
    (fun i h1 => Keep none_ h6 h1 ∧ i ≤ 4) (fun i => 4 - i) 0 0 (fun i _ => i = 4) noRet noRet_le (by simp) ⟨.refl _ _, by omega⟩ (by kernel_rfl) ?_ ?_
  · rintro i h7 g7 ⟨k7, hi⟩
    have wi := wrap_succ (k := i) (by omega)
    by_cases hi4 : i < 4
    · have ei : decide ((i : Int) < 4) = true := decide_eq_true (by omega)
      obtain ⟨x, hx, hxk⟩ : ∃ x : Int, HC.cellIn (some (.cells #[.int .i64 k, .int .i64 kb, .int .i64 300, .int .i64 raw] 3 (0, 0))) i = some (.int .i64 x) ∧ x < 9223372036854775808 := by
        rcases i with _ | _ | _ | _ | i
        · exact ⟨k, rfl, hks.1⟩
        · exact ⟨kb, rfl, hks.2⟩
        · exact ⟨300, rfl, by decide⟩
        · exact ⟨raw, rfl, hraw⟩
        · omega
      simp -dsimp [ei]
      refine loopc (σ := Nat) (fun j => [(21, .int .i64 a), (22, .int .i64 b), (23, .slice la rows.length lc), (24, .slice (some ⟨h4.size, 0, none⟩) 4 4), (25, .slice (some ⟨h5.size, 0, none⟩) 4 4), (26, .int .i64 i), (27, .int .i64 j)])
        (fun j h1 => Keep none_ h6 h1 ∧ j ≤ 4) (fun j => 4 - j) 0 2 (fun j _ => j = 4) noRet noRet_le (by simp) ⟨k7, by omega⟩ (by kernel_rfl) ?_ ?_
      · rintro j h8 g8 ⟨kh8c, hj⟩
        have wj := wrap_succ (k := j) (by omega)
        by_cases hj4 : j < 4
        · have ej : decide ((j : Int) < 4) = true := decide_eq_true (by omega)
          obtain ⟨y, hy⟩ : ∃ y : Int, HC.cellIn (some (.cells #[.int .i64 g, .int .i64 (1 - g), .int .i64 g4, .int .i64 raw] 3 (0, 0))) j = some (.int .i64 y) := by
            rcases j with _ | _ | _ | _ | j
            · exact ⟨g, rfl⟩
            · exact ⟨1 - g, rfl⟩
            · exact ⟨g4, rfl⟩
            · exact ⟨raw, rfl⟩
            · omega
          obtain ⟨E, eE⟩ : ∃ E, E = execM a b x y (rows.map (ofM a)) := ⟨_, rfl⟩
          have k4h8 := k46.trans kh8c fun _ _ h => h
          simp -dsimp [ej]
          refine drawn_by2 11 15 [⟨0, true, []⟩, ⟨1, true, []⟩, ⟨2, true, []⟩, ⟨3, true, []⟩, ⟨4, true, []⟩, ⟨5, true, []⟩, ⟨6, true, []⟩, ⟨7, true, []⟩, ⟨8, true, []⟩, ⟨9, true, []⟩, ⟨10, true, []⟩, ⟨11, false, []⟩, ⟨12, true, []⟩, ⟨13, true, []⟩, ⟨14, true, []⟩, ⟨15, false, [12, 13, 14]⟩, ⟨16, false, [14]⟩, ⟨17, true, []⟩]
            [⟨0, true, []⟩, ⟨1, true, []⟩, ⟨2, true, []⟩, ⟨3, true, []⟩, ⟨4, true, []⟩, ⟨5, true, []⟩, ⟨6, true, []⟩, ⟨7, true, []⟩, ⟨8, true, []⟩, ⟨9, true, []⟩, ⟨10, true, []⟩, ⟨15, false, [0, 1, 2, 3, 4, 5, 6, 7, 8, 9, 10]⟩, ⟨11, false, []⟩, ⟨12, true, []⟩, ⟨13, true, []⟩, ⟨14, true, []⟩, ⟨16, false, [14]⟩, ⟨17, true, []⟩] (by kernel_rfl) (by kernel_rfl) ?_ ?_
          · have v5 := kh8c.at w5 (fun h => h)
            have v6 := kh8c.at w6 (fun h => h)
            have c5 : HC.cellIn h8[h4.size]? i = some (.int .i64 x) := by rw [v5]; exact hx
            have c6 : HC.cellIn h8[h5.size]? j = some (.int .i64 y) := by rw [v6]; exact hy
            simp -dsimp [idxV_nat hi4, idxV_nat hj4, elSz_eq, c5, c6]
            have kp9 : Keep none_ h8 h8 := .refl _ _
            refine call_by (exec_spec (m := s.ms.toNat) a b x y (l4.mono ((Tr.of (k4h8.trans kp9 fun _ _ h => h)).ft (Nat.le_refl 0))) hla hmt (hok.cells hw.a0 hw.a1).2 hxk) ?_
            rintro _ h9 ⟨xa9, xn9, xc9, rfl, n9, k9⟩
            rw [← eE] at n9 ⊢
            have n9 : SlRep rCell (Ft h8.size none_ h9) h9 _ _ := n9.rep (Nat.le_refl _)
            simp -dsimp [again_cons]
            rw [push_set rfl]
            generalize hB9 : Array.push h9 _ = h9x
            have k9x : Keep none_ h8 h9x := by rw [← hB9]; exact k9.pushed _
            have ky9 : Keep none_ h9 h9x := by rw [← hB9]; exact .push _ _ _
            have r9 := n9.mono ((Tr.of ky9).ft (Nat.zero_le _))
            have w9x : h9x[h9.size]? = some (.cells #[.slice xa9 xn9 xc9, .int .i64 (E.2.1 : Nat)] 34 (0, 0)) := by rw [← hB9]; exact push_new _ _
            have kh9xc : Keep none_ h6 h9x := kh8c.trans k9x fun _ _ h => h
            have k4h9x : Keep none_ h4 h9x := k46.trans kh9xc fun _ _ h => h
            refine drawn_by2 11 15 [⟨0, true, []⟩, ⟨1, true, []⟩, ⟨2, true, []⟩, ⟨3, true, []⟩, ⟨4, true, []⟩, ⟨5, true, []⟩, ⟨6, true, []⟩, ⟨7, true, []⟩, ⟨8, true, []⟩, ⟨9, true, []⟩, ⟨10, true, []⟩, ⟨11, false, []⟩, ⟨12, true, []⟩, ⟨13, true, []⟩, ⟨14, true, []⟩, ⟨15, false, [12, 13, 14]⟩, ⟨16, false, [14]⟩, ⟨17, true, []⟩]
              [⟨0, true, []⟩, ⟨1, true, []⟩, ⟨2, true, []⟩, ⟨3, true, []⟩, ⟨4, true, []⟩, ⟨5, true, []⟩, ⟨6, true, []⟩, ⟨7, true, []⟩, ⟨8, true, []⟩, ⟨9, true, []⟩, ⟨10, true, []⟩, ⟨15, false, [0, 1, 2, 3, 4, 5, 6, 7, 8, 9, 10]⟩, ⟨11, false, []⟩, ⟨12, true, []⟩, ⟨13, true, []⟩, ⟨14, true, []⟩, ⟨16, false, [14]⟩, ⟨17, true, []⟩] (by kernel_rfl) (by kernel_rfl) ?_ ?_
            · have v5 := kh9xc.at w5 (fun h => h)
              have v6 := kh9xc.at w6 (fun h => h)
              have c5 : HC.cellIn h9x[h4.size]? i = some (.int .i64 x) := by rw [v5]; exact hx
              have c6 : HC.cellIn h9x[h5.size]? j = some (.int .i64 y) := by rw [v6]; exact hy
              simp -dsimp [idxV_nat hi4, idxV_nat hj4, elSz_eq, c5, c6]
              have kp10 : Keep none_ h9x h9x := .refl _ _
              refine call_by (rexec_spec (m := s.ms.toNat) a b x y (l4.mono ((Tr.of (k4h9x.trans kp10 fun _ _ h => h)).ft (Nat.le_refl 0))) hla hmt (hok.cells hw.a0 hw.a1).2 hxk) ?_
              rintro _ h10 ⟨xa10, xn10, xc10, rfl, n10, k10⟩
              rw [← eE] at n10 ⊢
              simp -dsimp [again_cons]
              rw [push_set rfl]
              generalize hB10 : Array.push h10 _ = h10x
              have k10x : Keep none_ h9x h10x := by rw [← hB10]; exact k10.pushed _
              have ky10 : Keep none_ h10 h10x := by rw [← hB10]; exact .push _ _ _
              have r10 := n10.mono ((Tr.of ky10).ft (Nat.zero_le _))
              have w10x : h10x[h10.size]? = some (.cells #[.slice xa10 xn10 xc10, .int .i64 (E.2.1 : Nat)] 38 (0, 0)) := by rw [← hB10]; exact push_new _ _
              have kh10xc : Keep none_ h6 h10x := kh9xc.trans k10x fun _ _ h => h
              have k4h10x : Keep none_ h4 h10x := k46.trans kh10xc fun _ _ h => h
              have r9 := r9.mono ((Tr.of k10x).ft (Nat.le_refl 0))
              have w9x := k10x.at w9x (fun h => h)
              simp -dsimp [w9x, w10x]
              refine call_by (same12_spec E.2.2 (E.2.1 : Nat) r9 r10) ?_
              rintro _ h11 ⟨rfl, k11⟩
              simp -dsimp [wj]
              exact ⟨j + 1, by simp, rfl, ⟨kh10xc.trans k11 fun _ _ h => h, by omega⟩, by show 4 - (j + 1) < 4 - j; omega⟩
            · have v5 := kh9xc.at w5 (fun h => h)
              have v6 := kh9xc.at w6 (fun h => h)
              have c5 : HC.cellIn h9x[h4.size]? i = some (.int .i64 x) := by rw [v5]; exact hx
              have c6 : HC.cellIn h9x[h5.size]? j = some (.int .i64 y) := by rw [v6]; exact hy
              simp -dsimp [idxV_nat hi4, idxV_nat hj4, elSz_eq, c5, c6]
              generalize hP10 : Array.push h9x _ = h10p
              have kp10 : Keep none_ h9x h10p := by rw [← hP10]; exact .push _ _ _
              have zp10 : h10p.size = h9x.size + 1 := by rw [← hP10]; simp
              have wp10 : h10p[h9x.size]? = some (.cells #[.slice none 0 0, .int .i64 0] 38 (0, 0)) := by rw [← hP10]; exact push_new _ _
              have d5 : HC.cellIn h10p[h4.size]? i = some (.int .i64 x) := by rw [kp10.at v5 (fun h => h)]; exact hx
              have d6 : HC.cellIn h10p[h5.size]? j = some (.int .i64 y) := by rw [kp10.at v6 (fun h => h)]; exact hy
              simp -dsimp [again_cons, idxV_nat hi4, idxV_nat hj4, elSz_eq, d5, d6]
              refine call_by (rexec_spec (m := s.ms.toNat) a b x y (l4.mono ((Tr.of (k4h9x.trans kp10 fun _ _ h => h)).ft (Nat.le_refl 0))) hla hmt (hok.cells hw.a0 hw.a1).2 hxk) ?_
              rintro _ h10 ⟨xa10, xn10, xc10, rfl, n10, k10⟩
              rw [← eE] at n10 ⊢
              have wp10 := k10.at wp10 (fun h => h)
              simp -dsimp [again_cons, wp10]
              have s10 := k10.size
              generalize hB10 : Array.setIfInBounds h10 h9x.size _ = h10x
              have k10x : Keep none_ h9x h10x := by rw [← hB10]; exact (kp10.trans k10 fun _ _ h => h).setted _ fun hh => absurd hh (Nat.lt_irrefl _)
              have r10 : SlRep rCell (Old h10x) h10x _ _ := n10.mono fun b hb => by rw [← hB10]; exact ⟨⟨nz, by simpa using hb.2.1, fun h => h⟩, set_other _ (by have := hb.1.1; omega)⟩
              have w10x : h10x[h9x.size]? = some (.cells #[.slice xa10 xn10 xc10, .int .i64 (E.2.1 : Nat)] 38 (0, 0)) := by rw [← hB10]; exact set_same _ (by omega)
              have kh10xc : Keep none_ h6 h10x := kh9xc.trans k10x fun _ _ h => h
              have k4h10x : Keep none_ h4 h10x := k46.trans kh10xc fun _ _ h => h
              have r9 := r9.mono ((Tr.of k10x).ft (Nat.le_refl 0))
              have w9x := k10x.at w9x (fun h => h)
              simp -dsimp [w9x, w10x]
              refine call_by (same12_spec E.2.2 (E.2.1 : Nat) r9 r10) ?_
              rintro _ h11 ⟨rfl, k11⟩
              simp -dsimp [wj]
              exact ⟨j + 1, by simp, rfl, ⟨kh10xc.trans k11 fun _ _ h => h, by omega⟩, by show 4 - (j + 1) < 4 - j; omega⟩
          · have v5 := kh8c.at w5 (fun h => h)
            have v6 := kh8c.at w6 (fun h => h)
            have c5 : HC.cellIn h8[h4.size]? i = some (.int .i64 x) := by rw [v5]; exact hx
            have c6 : HC.cellIn h8[h5.size]? j = some (.int .i64 y) := by rw [v6]; exact hy
            simp -dsimp [idxV_nat hi4, idxV_nat hj4, elSz_eq, c5, c6]
            generalize hP9 : Array.push h8 _ = h9p
            have kp9 : Keep none_ h8 h9p := by rw [← hP9]; exact .push _ _ _
            have zp9 : h9p.size = h8.size + 1 := by rw [← hP9]; simp
            have wp9 : h9p[h8.size]? = some (.cells #[.slice none 0 0, .int .i64 0] 34 (0, 0)) := by rw [← hP9]; exact push_new _ _
            have d5 : HC.cellIn h9p[h4.size]? i = some (.int .i64 x) := by rw [kp9.at v5 (fun h => h)]; exact hx
            have d6 : HC.cellIn h9p[h5.size]? j = some (.int .i64 y) := by rw [kp9.at v6 (fun h => h)]; exact hy
            simp -dsimp [again_cons, idxV_nat hi4, idxV_nat hj4, elSz_eq, d5, d6]
            refine call_by (exec_spec (m := s.ms.toNat) a b x y (l4.mono ((Tr.of (k4h8.trans kp9 fun _ _ h => h)).ft (Nat.le_refl 0))) hla hmt (hok.cells hw.a0 hw.a1).2 hxk) ?_
            rintro _ h9 ⟨xa9, xn9, xc9, rfl, n9, k9⟩
            rw [← eE] at n9 ⊢
            have n9 : SlRep rCell (Ft h9p.size none_ h9) h9 _ _ := n9.rep (Nat.le_refl _)
            have wp9 := k9.at wp9 (fun h => h)
            simp -dsimp [again_cons, wp9]
            have s9 := k9.size
            generalize hB9 : Array.setIfInBounds h9 h8.size _ = h9x
            have k9x : Keep none_ h8 h9x := by rw [← hB9]; exact (kp9.trans k9 fun _ _ h => h).setted _ fun hh => absurd hh (Nat.lt_irrefl _)
            have r9 : SlRep rCell (Old h9x) h9x _ _ := n9.mono fun b hb => by rw [← hB9]; exact ⟨⟨nz, by simpa using hb.2.1, fun h => h⟩, set_other _ (by have := hb.1.1; omega)⟩
            have w9x : h9x[h8.size]? = some (.cells #[.slice xa9 xn9 xc9, .int .i64 (E.2.1 : Nat)] 34 (0, 0)) := by rw [← hB9]; exact set_same _ (by omega)
            have kh9xc : Keep none_ h6 h9x := kh8c.trans k9x fun _ _ h => h
            have k4h9x : Keep none_ h4 h9x := k46.trans kh9xc fun _ _ h => h
            refine drawn_by2 11 15 [⟨0, true, []⟩, ⟨1, true, []⟩, ⟨2, true, []⟩, ⟨3, true, []⟩, ⟨4, true, []⟩, ⟨5, true, []⟩, ⟨6, true, []⟩, ⟨7, true, []⟩, ⟨8, true, []⟩, ⟨9, true, []⟩, ⟨10, true, []⟩, ⟨11, false, []⟩, ⟨12, true, []⟩, ⟨13, true, []⟩, ⟨14, true, []⟩, ⟨15, false, [12, 13, 14]⟩, ⟨16, false, [14]⟩, ⟨17, true, []⟩]
              [⟨0, true, []⟩, ⟨1, true, []⟩, ⟨2, true, []⟩, ⟨3, true, []⟩, ⟨4, true, []⟩, ⟨5, true, []⟩, ⟨6, true, []⟩, ⟨7, true, []⟩, ⟨8, true, []⟩, ⟨9, true, []⟩, ⟨10, true, []⟩, ⟨15, false, [0, 1, 2, 3, 4, 5, 6, 7, 8, 9, 10]⟩, ⟨11, false, []⟩, ⟨12, true, []⟩, ⟨13, true, []⟩, ⟨14, true, []⟩, ⟨16, false, [14]⟩, ⟨17, true, []⟩] (by kernel_rfl) (by kernel_rfl) ?_ ?_
            · have v5 := kh9xc.at w5 (fun h => h)
              have v6 := kh9xc.at w6 (fun h => h)
              have c5 : HC.cellIn h9x[h4.size]? i = some (.int .i64 x) := by rw [v5]; exact hx
              have c6 : HC.cellIn h9x[h5.size]? j = some (.int .i64 y) := by rw [v6]; exact hy
              simp -dsimp [idxV_nat hi4, idxV_nat hj4, elSz_eq, c5, c6]
              have kp10 : Keep none_ h9x h9x := .refl _ _
              refine call_by (rexec_spec (m := s.ms.toNat) a b x y (l4.mono ((Tr.of (k4h9x.trans kp10 fun _ _ h => h)).ft (Nat.le_refl 0))) hla hmt (hok.cells hw.a0 hw.a1).2 hxk) ?_
              rintro _ h10 ⟨xa10, xn10, xc10, rfl, n10, k10⟩
              rw [← eE] at n10 ⊢
              simp -dsimp [again_cons]
              rw [push_set rfl]
              generalize hB10 : Array.push h10 _ = h10x
              have k10x : Keep none_ h9x h10x := by rw [← hB10]; exact k10.pushed _
              have ky10 : Keep none_ h10 h10x := by rw [← hB10]; exact .push _ _ _
              have r10 := n10.mono ((Tr.of ky10).ft (Nat.zero_le _))
              have w10x : h10x[h10.size]? = some (.cells #[.slice xa10 xn10 xc10, .int .i64 (E.2.1 : Nat)] 38 (0, 0)) := by rw [← hB10]; exact push_new _ _
              have kh10xc : Keep none_ h6 h10x := kh9xc.trans k10x fun _ _ h => h
              have k4h10x : Keep none_ h4 h10x := k46.trans kh10xc fun _ _ h => h
              have r9 := r9.mono ((Tr.of k10x).ft (Nat.le_refl 0))
              have w9x := k10x.at w9x (fun h => h)
              simp -dsimp [w9x, w10x]
              refine call_by (same12_spec E.2.2 (E.2.1 : Nat) r9 r10) ?_
              rintro _ h11 ⟨rfl, k11⟩
              simp -dsimp [wj]
              exact ⟨j + 1, by simp, rfl, ⟨kh10xc.trans k11 fun _ _ h => h, by omega⟩, by show 4 - (j + 1) < 4 - j; omega⟩
            · have v5 := kh9xc.at w5 (fun h => h)
              have v6 := kh9xc.at w6 (fun h => h)
              have c5 : HC.cellIn h9x[h4.size]? i = some (.int .i64 x) := by rw [v5]; exact hx
              have c6 : HC.cellIn h9x[h5.size]? j = some (.int .i64 y) := by rw [v6]; exact hy
              simp -dsimp [idxV_nat hi4, idxV_nat hj4, elSz_eq, c5, c6]
              generalize hP10 : Array.push h9x _ = h10p
              have kp10 : Keep none_ h9x h10p := by rw [← hP10]; exact .push _ _ _
              have zp10 : h10p.size = h9x.size + 1 := by rw [← hP10]; simp
              have wp10 : h10p[h9x.size]? = some (.cells #[.slice none 0 0, .int .i64 0] 38 (0, 0)) := by rw [← hP10]; exact push_new _ _
              have d5 : HC.cellIn h10p[h4.size]? i = some (.int .i64 x) := by rw [kp10.at v5 (fun h => h)]; exact hx
              have d6 : HC.cellIn h10p[h5.size]? j = some (.int .i64 y) := by rw [kp10.at v6 (fun h => h)]; exact hy
              simp -dsimp [again_cons, idxV_nat hi4, idxV_nat hj4, elSz_eq, d5, d6]
              refine call_by (rexec_spec (m := s.ms.toNat) a b x y (l4.mono ((Tr.of (k4h9x.trans kp10 fun _ _ h => h)).ft (Nat.le_refl 0))) hla hmt (hok.cells hw.a0 hw.a1).2 hxk) ?_
              rintro _ h10 ⟨xa10, xn10, xc10, rfl, n10, k10⟩
              rw [← eE] at n10 ⊢
              have wp10 := k10.at wp10 (fun h => h)
              simp -dsimp [again_cons, wp10]
              have s10 := k10.size
              generalize hB10 : Array.setIfInBounds h10 h9x.size _ = h10x
              have k10x : Keep none_ h9x h10x := by rw [← hB10]; exact (kp10.trans k10 fun _ _ h => h).setted _ fun hh => absurd hh (Nat.lt_irrefl _)
              have r10 : SlRep rCell (Old h10x) h10x _ _ := n10.mono fun b hb => by rw [← hB10]; exact ⟨⟨nz, by simpa using hb.2.1, fun h => h⟩, set_other _ (by have := hb.1.1; omega)⟩
              have w10x : h10x[h9x.size]? = some (.cells #[.slice xa10 xn10 xc10, .int .i64 (E.2.1 : Nat)] 38 (0, 0)) := by rw [← hB10]; exact set_same _ (by omega)
              have kh10xc : Keep none_ h6 h10x := kh9xc.trans k10x fun _ _ h => h
              have k4h10x : Keep none_ h4 h10x := k46.trans kh10xc fun _ _ h => h
              have r9 := r9.mono ((Tr.of k10x).ft (Nat.le_refl 0))
              have w9x := k10x.at w9x (fun h => h)
              simp -dsimp [w9x, w10x]
              refine call_by (same12_spec E.2.2 (E.2.1 : Nat) r9 r10) ?_
              rintro _ h11 ⟨rfl, k11⟩
              simp -dsimp [wj]
              exact ⟨j + 1, by simp, rfl, ⟨kh10xc.trans k11 fun _ _ h => h, by omega⟩, by show 4 - (j + 1) < 4 - j; omega⟩
        · have ej : decide ((j : Int) < 4) = false := decide_eq_false (by omega)
          simp -dsimp [ej]
          exact ⟨rfl, j, by simp, rfl, ⟨kh8c, hj⟩, by show j = 4; omega⟩
      · rintro j h8 g8 ⟨kh8c, hj⟩ _
        simp -dsimp [wi]
        exact ⟨i + 1, by simp, rfl, ⟨kh8c, by omega⟩, by show 4 - (i + 1) < 4 - i; omega⟩
    · have ei : decide ((i : Int) < 4) = false := decide_eq_false (by omega)
      simp -dsimp [ei]
      exact ⟨rfl, i, by simp, rfl, ⟨k7, hi⟩, by show i = 4; omega⟩
  · rintro i h7 g7 ⟨k7, hi⟩ _
    simp -dsimp
    exact hK _ _ ⟨rfl, (u.trans k46 fun _ _ h => h).trans k7 fun _ _ h => h⟩
end Go.Proofs


namespace Go.Proofs.YtgmjighohmpafaaGreat
open Go Go.ChangeShapes Go.WideShapes Go.ChangeAt Go.RowKit Go.HC

theorem own0 : ownKnob Tryz.prog.godebug = none := by kernel_rfl
theorem laid0 : laidOutB Tryz.prog = true := by kernel_rfl
theorem ui : Tryz.prog.underlying 3 = some (.int .i64) := by kernel_rfl
theorem uis : Tryz.prog.underlying 22 = some (.slice 3) := by kernel_rfl
theorem ci : Tryz.prog.cellsOf 3 = 1 := by kernel_rfl
theorem ub : Tryz.prog.underlying 4 = some .bool := by kernel_rfl

set_option maxHeartbeats 8000000 in
set_option maxRecDepth 100000 in
theorem lifted (os : Os) (started : os.Started) (H : Type) (enc : TypeId × Value → H) :
    ReturnsInHanded {} Tryz.checked os 3 .any (Rows.execAllSpec.pre6 enc Tryz.prog Tryz.f3 Rows.execAllRow.domain false) (Rows.execAllSpec.post enc Tryz.prog Tryz.f3 false true false false) := by
  refine returnsInHanded_of_change (C := Tryz.checked) own0 started (by kernel_rfl) Tryz.func3
    (ChangeSpec.witness6 (enc := enc) (C := Tryz.checked) false ⟨#[], #[.int .i64 0, .slice none 0 0, .int .i64 0, .slice none 0 0, .int .i64 0, .int .i64 0, .int .i64 0, .int .i64 0, .int .i64 0], []⟩ 8 (by kernel_rfl) (by kernel_rfl) (by kernel_rfl) (by kernel_rfl)) ?_
  intro W base args ds gs before hval0 hW _ _
  have hval : ∀ (j : Nat) t v, Tryz.f3.params[j]? = some t → args[j]? = some v → Value.okWide Tryz.prog W .any base t v := hval0
  have hW' := hW
  obtain ⟨p, q, hA0, hV, rfl, _, _⟩ := hW
  have hA : DataW.TrodAll enc Tryz.prog W 0 (fun _ => true) true Tryz.f3.params.toList args.toList ds p := hA0
  have hps : Tryz.f3.params = #[3, 22, 3, 22, 3, 3, 3, 3, 3] := by kernel_rfl
  rw [hps] at hA hval
  have hA1 := hA
  obtain ⟨v0, vs0, d0, ds0, p0, q0, ha0, hd0, hp0, h0, hr0⟩ := trodAll_cons hA1
  obtain ⟨v1, vs1, d1, ds1, p1, q1, ha1, hd1, hp1, h1, hr1⟩ := trodAll_cons hr0
  obtain ⟨v2, vs2, d2, ds2, p2, q2, ha2, hd2, hp2, h2, hr2⟩ := trodAll_cons hr1
  obtain ⟨v3, vs3, d3, ds3, p3, q3, ha3, hd3, hp3, h3, hr3⟩ := trodAll_cons hr2
  obtain ⟨v4, vs4, d4, ds4, p4, q4, ha4, hd4, hp4, h4, hr4⟩ := trodAll_cons hr3
  obtain ⟨v5, vs5, d5, ds5, p5, q5, ha5, hd5, hp5, h5, hr5⟩ := trodAll_cons hr4
  obtain ⟨v6, vs6, d6, ds6, p6, q6, ha6, hd6, hp6, h6, hr6⟩ := trodAll_cons hr5
  obtain ⟨v7, vs7, d7, ds7, p7, q7, ha7, hd7, hp7, h7, hr7⟩ := trodAll_cons hr6
  obtain ⟨v8, vs8, d8, ds8, p8, q8, ha8, hd8, hp8, h8, hr8⟩ := trodAll_cons hr7
  obtain ⟨rfl, rfl, rfl⟩ := trodAll_nil hr8
  subst ha8; subst hd8; subst hp8
  subst ha7; subst hd7; subst hp7
  subst ha6; subst hd6; subst hp6
  subst ha5; subst hd5; subst hp5
  subst ha4; subst hd4; subst hp4
  subst ha3; subst hd3; subst hp3
  subst ha2; subst hd2; subst hp2
  subst ha1; subst hd1; subst hp1
  subst hd0; subst hp0
  obtain rfl : args = #[v0, v1, v2, v3, v4, v5, v6, v7, v8] := by cases args; simp_all
  obtain ⟨rfl, rfl⟩ := trodVars_none hV
  obtain ⟨a0, rfl, _, _, _⟩ := open_int ui (hval 0 3 v0 rfl rfl) h0
  obtain ⟨a1, x1⟩ := open_intRep uis ui ci (hval 1 22 v1 rfl rfl) h1
  obtain ⟨a2, rfl, _, _, _⟩ := open_int ui (hval 2 3 v2 rfl rfl) h2
  obtain ⟨a3, x3⟩ := open_intRep uis ui ci (hval 3 22 v3 rfl rfl) h3
  obtain ⟨a4, rfl, _, _, _⟩ := open_int ui (hval 4 3 v4 rfl rfl) h4
  obtain ⟨a5, rfl, _, _, _⟩ := open_int ui (hval 5 3 v5 rfl rfl) h5
  obtain ⟨a6, rfl, _, _, _⟩ := open_int ui (hval 6 3 v6 rfl rfl) h6
  obtain ⟨a7, rfl, _, _, _⟩ := open_int ui (hval 7 3 v7 rfl rfl) h7
  obtain ⟨a8, rfl, _, _, y8⟩ := open_int ui (hval 8 3 v8 rfl rfl) h8
  clear hA0 hval0
  simp only [List.append_nil] at hW' hA ⊢
  have hlt := fun x hx => hW'.lt x hx
  refine (calls_of (execAll_spec a0 a2 a4 a5 a6 a7 a8 (wf_bound y8).2 x1 (fun _ h => h) x3 (fun _ h => h))).mono fun e W' ⟨he, hb⟩ => ?_
  subst he
  refine ⟨_, rfl, _, _, _, _, _, [], hW', trodAll_mk1 (shut_bool ub true), below_trodAll laid0 hb (by kernel_rfl) hA (fun x hx => by simpa using hlt x (by simpa using hx)), rfl, hb.frame _, fun h => by cases h⟩

theorem execall_holds : Rows.ExecAllSaid :=
  OpenClaim.holds_of_wide 3 Tryz.f3 rfl rfl rfl rfl rfl rfl rfl ⟨rfl, rfl, rfl, rfl, rfl⟩ rfl rfl rfl rfl rfl (by kernel_rfl) Tryz.func3 (by kernel_rfl)
    (of_decide_eq_true (by kernel_rfl)) (by unfold Func.isWrapper; first | (rw [if_pos (by decide +kernel)]; kernel_rfl) | (rw [if_neg (by decide +kernel)]; exact ⟨rfl, rfl⟩))
    (fun os started H enc _ => lifted os started H enc)
end Go.Proofs.YtgmjighohmpafaaGreat
