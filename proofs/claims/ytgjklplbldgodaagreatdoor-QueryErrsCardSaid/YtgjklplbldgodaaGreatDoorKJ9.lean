/-
  hypercubelaw14.QueryErrs returns true for all arguments, and its arguments read behind the call as they read ahead of it; the row itself asks of three tables of the library that they read as their text lays them, and the proof does not use that.
-/
import Derived.Test.YtgjklplbldgodaaGreatDoorKEe
import Derived.Test.YtgjklplbldgodaaGreatDoorRows
import Derived.Test.YtgjklplbldgodaaGreatDoorCards
import Derived.Test.YtgjklplbldgodaaGreatDoorTie
import Derived.LaidMore
import Derived.OpenShut
import Derived.Stop.Joined
/-
  QueryErrs: the walk.
-/
namespace Go.Proofs
open Go Go.HC

set_option maxHeartbeats 2000000 in
set_option maxRecDepth 100000 in
theorem queryErrs_spec {h : Heap} {d m p q : Int} {F1 F2 F3 : Nat → Prop} {cv nv sv : Value} {cards ns sets : List Int} (hc : SlRep rInt F1 h cv cards) (hF1 : ∀ b, F1 b → b < h.size) (hn : SlRep rInt F2 h nv ns) (hF2 : ∀ b, F2 b → b < h.size) (hs : SlRep rInt F3 h sv sets) (hF3 : ∀ b, F3 b → b < h.size) (hsl : (sets.length + 1) * 8 ≤ 140737488355328) (which v : Int) :
    CallH Tryz.prog 11 #[.agg #[.int .i64 d, .int .i64 m, .int .i64 p, .int .i64 q, cv, nv], sv, .int .i64 which, .int .i64 v] h fun r h' => r = .bool true ∧ Keep none_ h h' := by
  refine callH_by fun K hK => ?_
  refine enter [.tmp 8] Tryz.func11 rfl rfl (by kernel_rfl) rfl ?_
  replace hc := hc.mono (F' := Old h) (h' := h) fun b hb => ⟨⟨nz, hF1 b hb, fun h => h⟩, rfl⟩
  have hc0 := hc
  replace hn := hn.mono (F' := Old h) (h' := h) fun b hb => ⟨⟨nz, hF2 b hb, fun h => h⟩, rfl⟩
  have hn0 := hn
  replace hs := hs.mono (F' := Old h) (h' := h) fun b hb => ⟨⟨nz, hF3 b hb, fun h => h⟩, rfl⟩
  have hs0 := hs
  obtain ⟨ca, cc, rfl, _, _⟩ := hc.val
  obtain ⟨na, nc, rfl, _, _⟩ := hn.val
  obtain ⟨sa, sc, rfl, _, _⟩ := hs.val
  have hok := factsM_ok d cards m ns
  have hr40 := factsM_len d cards m ns
  simp -dsimp [boxS_eq]
  generalize hB : Array.push h _ = h0
  have k0 : Keep none_ h h0 := by rw [← hB]; exact .push _ _ _
  have wA : h0[h.size]? = some (.cells #[.int .i64 d, .int .i64 m, .int .i64 p, .int .i64 q, .slice ca cards.length cc, .slice na ns.length nc] 24 (0, 0)) := by rw [← hB]; exact push_new _ _
  clear hB
  refine call_by (known14_spec h0) ?_
  rintro _ h1 ⟨rfl, k1⟩
  have wA1 := k1.at wA (fun h => h)
  simp -dsimp [wA1]
  refine call_by (few_spec h1) ?_
  rintro _ h2 ⟨rfl, k2⟩
  have k02 : Keep none_ h h2 := (k0.trans k1 fun _ _ h => h).trans k2 fun _ _ h => h
  have wA2 := k2.at wA1 (fun h => h)
  cases hfew : (decide (cards.length ≤ 20) && decide (ns.length ≤ 60)) with
  | false =>
    simp -dsimp
    exact hK _ _ ⟨rfl, k02⟩
  | true =>
    simp -dsimp [wA2]
    refine call_by (smake_spec fun y ky => facts1_spec d m (hc0.mono ((Tr.of (k02.trans ky fun _ _ h => h)).ft (Nat.le_refl 0))) (hn0.mono ((Tr.of (k02.trans ky fun _ _ h => h)).ft (Nat.le_refl 0)))) ?_
    rintro _ h3 ⟨cv1, rv1, rfl, k3, hcv, hrv⟩
    generalize hfs : (factsM d cards m ns).1 = s at *
    generalize hfr : (factsM d cards m ns).2 = rows at *
    obtain ⟨c1a, c1c, rfl, _, _⟩ := hcv.val
    obtain ⟨r1a, r1c, rfl, _, _⟩ := hrv.val
    simp -dsimp
    generalize hD : Array.push (Array.push h3 _) _ = h4
    have k4 : Keep none_ h3 h4 := by rw [← hD]; exact ((Keep.refl none_ h3).pushed _).pushed _
    have z4 : h4.size = h3.size + 2 := by rw [← hD]; simp
    have v1 : h4[h3.size]? = some (.cells #[.slice none 0 0, .int .i64 0] 30 (0, 0)) := by rw [← hD]; exact push_at (push_new _ _)
    have v2 : h4[h3.size + 1]? = some (.cells #[.int .i64 0, .int .i64 0] 33 (0, 0)) := by rw [← hD]; exact push_get (by simp)
    have hsm1 : ∀ o, (Array.setIfInBounds h4 h3.size o)[h3.size]? = some o := fun o => set_same _ (lt_of_blk v1)
    have k3s := k3.size
    have k02s := k02.size
    have wA3 := k3.at wA2 (fun h => h)
    have wA4 := k4.at wA3 (fun h => h)
    have lA := lt_of_blk wA3
    have hsA : ∀ o, (Array.setIfInBounds h4 h3.size o)[h.size]? = h4[h.size]? := fun o => set_other _ (by omega)
    have hsB : ∀ (g : Heap) o, (Array.setIfInBounds g (h3.size + 1) o)[h.size]? = g[h.size]? := fun g o => set_other _ (by omega)
    clear hD
    simp -dsimp [v1, v2, set_other _ (show h3.size ≠ h3.size + 1 by omega)]
    generalize hE : Array.setIfInBounds (Array.setIfInBounds h4 _ _) _ _ = h5
    have kE : Keep none_ h3 h5 := by rw [← hE]; exact (k4.setted _ fun hh => by omega).setted _ fun hh => by omega
    have z5 : h5.size = h3.size + 2 := by rw [← hE]; simpa using z4
    have vS : h5[h3.size]? = some (.cells #[.slice c1a s.cards.length c1c, .int .i64 s.ms] 30 (0, 0)) := by rw [← hE]; exact (set_other _ (by omega)).trans (set_same _ (by omega))
    have wA5 := kE.at wA3 (fun h => h)
    clear hE hsm1 hsA hsB v1 v2 wA4 k4 z4
    have k05 : Keep none_ h h5 := (k02.trans k3 fun _ _ h => h).trans kE fun _ _ h => h
    have hd := hok.dims
    have hms := hok.ms
    have tE : ∀ b, Ft h2.size none_ h3 b → Old h5 b ∧ h5[b]? = h3[b]? := fun b hb => by
      have e : h5[b]? = h3[b]? := kE.blk b hb.2.1 (fun h => h)
      exact ⟨⟨nz, Nat.lt_of_lt_of_le hb.2.1 kE.size, fun h => h⟩, e⟩
    have rc5 := hcv.mono tE
    have rr5 := hrv.mono tE
    have hp0 := pow2_pos s.cards.length
    have hp4 : (2 : Int) ^ s.cards.length ≤ 2 ^ 4 := pow2_le hd.2
    have hpz : ((2 ^ s.cards.length : Nat) : Int) = 2 ^ s.cards.length := by simp
    have hsh := shl_one (k := s.cards.length) (by omega)
    have hshv : binV Tryz.prog .shl 3 (.int .i64 1) (.int .u64 (IntKind.u64.wrap (s.cards.length : Int))) = some (.int .i64 (2 ^ s.cards.length)) := hsh
    have z05 := k05.size
    have hful : IntKind.i64.wrap (2 ^ s.cards.length - 1) = 2 ^ s.cards.length - 1 := wrap_i64 (by omega) (by omega)
    obtain ⟨fu, efu⟩ : ∃ fu : Int, fu = 2 ^ s.cards.length - 1 := ⟨_, rfl⟩
    have hfu : setN s.cards fu = 2 ^ s.cards.length - 1 := by
      have h1 := setN_eq (cards := s.cards) fu
      have h2 : withinM fu (2 ^ s.cards.length) = fu := by
        unfold withinM
        rw [Int.tmod_eq_emod_of_nonneg (by omega), Int.emod_eq_of_lt (by omega) (by omega), if_neg (by omega)]
      rw [h2] at h1
      omega
    have wA5p : ∀ o, (Array.push h5 o)[h.size]? = some (.cells #[.int .i64 d, .int .i64 m, .int .i64 p, .int .i64 q, .slice ca cards.length cc, .slice na ns.length nc] 24 (0, 0)) := fun o => push_at wA5
    refine drawn_by [⟨0, true, []⟩, ⟨1, true, []⟩, ⟨2, true, []⟩, ⟨3, true, []⟩, ⟨4, true, []⟩, ⟨5, true, []⟩, ⟨6, true, []⟩, ⟨8, true, []⟩, ⟨7, false, [0, 8]⟩, ⟨9, false, [0]⟩, ⟨10, false, []⟩, ⟨11, true, []⟩, ⟨12, true, []⟩, ⟨13, true, []⟩, ⟨14, true, []⟩, ⟨15, true, []⟩] (by kernel_rfl) (by kernel_rfl) ?_
    have tO := (Tr.of k05).ft (n := 0) (n' := 0) (Nat.le_refl 0)
    simp -dsimp [-intRes_shl, vS, wA5, wA5p, hshv, hful, again_cons]
    rw [← efu]
    refine app_one intT (hs0.mono tO) (fun b h => h.2.1) hsl ?_
    intro v1 h5y hv1 k5y
    obtain ⟨v1a, v1c, rfl, _, _⟩ := hv1.val
    have k05y : Keep none_ h h5y := k05.trans k5y fun _ _ h => h
    have tO6 := (Tr.of k05y).ft (n := 0) (n' := 0) (Nat.le_refl 0)
    simp -dsimp [k5y.at wA5 (fun h => h), again_cons]
    refine call_by (both14_spec (hc0.mono tO6) (hn0.mono tO6) (hv1.mono (Ft.free (Nat.zero_le _)))) ?_
    rw [hfs, hfr]
    rintro _ h6 ⟨vp, w, F, G, M, N, ks, n, rfl, k6, p6, t6, hn6, hks⟩
    have k06 : Keep none_ h h6 := k05y.trans k6 fun _ _ h => h
    have k56 : Keep none_ h5 h6 := k5y.trans k6 fun _ _ h => h
    have vS6 := k56.at vS (fun h => h)
    have rc6 := rc5.mono ((Tr.of k56).ft (n := 0) (n' := 0) (Nat.le_refl 0))
    have sok := hok.sch
    obtain ⟨b1, o1, e1, hb1, hx⟩ := rc6.int_at 0 (by omega)
    cases e1
    obtain ⟨c0, ec0⟩ : ∃ c0, c0 = s.cards[0]'(by omega) := ⟨_, rfl⟩
    rw [← ec0] at hx
    have hca : cardAt s.cards 0 = c0 := by rw [ec0]; exact cardAt_get (by omega) (by omega)
    have hwb := withinM_bound (a := v) (n := 1000) (by omega)
    obtain ⟨wv, ewv⟩ : ∃ wv, wv = withinM v 1000 := ⟨_, rfl⟩
    have hcall : ∀ y : Heap, CallH Tryz.prog 17 #[.int .i64 v, .int .i64 1000] y fun r h' => r = .int .i64 wv ∧ h' = y := fun y => by rw [ewv]; exact within14_spec v 1000 (by omega) (by omega) y
    rw [← ewv] at hwb
    have w1 : IntKind.i64.wrap (2 ^ s.cards.length + wv) = 2 ^ s.cards.length + wv := wrap_i64 (by omega) (by omega)
    have w2 : IntKind.i64.wrap ((s.cards.length : Int) + wv) = (s.cards.length : Int) + wv := wrap_i64 (by omega) (by omega)
    have hx' : HC.cellIn h6[b1]? (o1 + 0) = some (.int .i64 c0) := hx
    rw [Nat.add_zero] at hx'
    simp -dsimp [vS6, again_cons]
    refine drawn_any [([], .look (.int .i64 (s.cards.length : Int))), ([0], .look (.int .u64 (IntKind.u64.wrap (s.cards.length : Int)))), ([1], .look (.int .i64 (2 ^ s.cards.length))), ([2], .act (fun v _ => v = .agg #[.int .i64 (2 ^ s.cards.length), .slice none 0 0])), ([], .act (fun v _ => v = .agg #[.int .i64 (-1), .slice none 0 0])), ([], .look (.int .i64 (s.cards.length : Int))), ([5], .act (fun v _ => v = (.agg #[.int .i64 ((s.cards.length : Int)), .int .i64 (0), .int .i64 (0)]))), ([6], .act (FilsAt [⟨(s.cards.length : Int), 0, 0⟩])), ([7], .act (QryAt 0 [⟨(s.cards.length : Int), 0, 0⟩])), ([], .act (fun v _ => v = (.agg #[.int .i64 (-1), .int .i64 (0), .int .i64 (0)]))), ([9], .act (FilsAt [⟨-1, 0, 0⟩])), ([10], .act (QryAt 0 [⟨-1, 0, 0⟩])), ([], .act (fun v _ => v = (.agg #[.int .i64 (0), .int .i64 (-1), .int .i64 (0)]))), ([12], .act (FilsAt [⟨0, -1, 0⟩])), ([13], .act (QryAt 0 [⟨0, -1, 0⟩])), ([], .look (.pointer (some ⟨h3.size, 0, none⟩))), ([15], .look (.slice (some ⟨b1, o1, none⟩) s.cards.length c1c)), ([16], .look (.pointer (some ⟨b1, o1, none⟩))), ([17], .look (.int .i64 c0)), ([18], .act (fun v _ => v = (.agg #[.int .i64 (0), .int .i64 (0), .int .i64 (c0)]))), ([19], .act (FilsAt [⟨0, 0, c0⟩])), ([20], .act (QryAt 0 [⟨0, 0, c0⟩])), ([], .act (fun v _ => v = (.agg #[.int .i64 (0), .int .i64 (1), .int .i64 (0)]))), ([22], .act (FilsAt [⟨0, 1, 0⟩])), ([23], .act (QryAt 0 [⟨0, 1, 0⟩])), ([], .act (fun v _ => v = (.agg #[.int .i64 (0), .int .i64 (0), .int .i64 (0)]))), ([], .act (fun v _ => v = (.agg #[.int .i64 (0), .int .i64 (0), .int .i64 (0)]))), ([25, 26], .act (FilsAt [⟨0, 0, 0⟩, ⟨0, 0, 0⟩])), ([27], .act (QryAt 0 [⟨0, 0, 0⟩, ⟨0, 0, 0⟩])), ([], .look (.int .i64 (s.cards.length : Int))), ([29], .look (.int .u64 (IntKind.u64.wrap (s.cards.length : Int)))), ([30], .look (.int .i64 (2 ^ s.cards.length))), ([], .look (.int .i64 v)), ([32], .act (fun v _ => v = .int .i64 wv)), ([31, 33], .look (.int .i64 (2 ^ s.cards.length + wv))), ([34], .act (fun v _ => v = .agg #[.int .i64 (2 ^ s.cards.length + wv), .slice none 0 0])), ([], .look (.int .i64 (s.cards.length : Int))), ([], .look (.int .i64 v)), ([37], .act (fun v _ => v = .int .i64 wv)), ([36, 38], .look (.int .i64 ((s.cards.length : Int) + wv))), ([39], .act (fun v _ => v = (.agg #[.int .i64 ((s.cards.length : Int) + wv), .int .i64 (0), .int .i64 (0)]))), ([40], .act (FilsAt [⟨(s.cards.length : Int) + wv, 0, 0⟩])), ([41], .act (QryAt 0 [⟨(s.cards.length : Int) + wv, 0, 0⟩]))] [0, 1, 2, 3, 4, 5, 6, 7, 8, 9, 10, 11, 12, 13, 14, 15, 16, 17, 18, 19, 20, 21, 22, 23, 24, 25, 26, 27, 28, 29, 30, 31, 32, 33, 34, 35, 36, 37, 38, 39, 40, 41, 42] [⟨43, false, []⟩, ⟨44, true, []⟩] (by kernel_rfl) (by kernel_rfl) (by kernel_rfl) ?_ ?_
    · simp only [obl, rdS, doS]
      refine ⟨?_, ?_, ?_, ?_, ?_, ?_, ?_, ?_, ?_, ?_, ?_, ?_, ?_, ?_, ?_, ?_, ?_, ?_, ?_, ?_, ?_, ?_, ?_, ?_, ?_, ?_, ?_, ?_, ?_, ?_, ?_, ?_, ?_, ?_, ?_, ?_, ?_, ?_, ?_, ?_, ?_, ?_, ?_, trivial⟩
      all_goals intro y ky
      all_goals simp -dsimp [-intRes_shl, dstOf, ky.at vS6 (fun h => h), hshv, elSz_eq]
      all_goals first
        | exact .refl _ _
        | (rintro _ hj rfl kj; simp -dsimp; exact ⟨.push _ _ _, FilsAt.push _ _ _⟩)
        | (rintro u hj q kj; obtain ⟨qa, qc, rfl, _, _⟩ := SlRep.val q; simp -dsimp; exact ⟨.refl _ _, _, rfl, FilsAt.keep q kj⟩)
        | (rintro _ j1 rfl k1' _ j2 rfl k2'; simp -dsimp; exact ⟨.push _ _ _, FilsAt.push2 _ _ _ _⟩)
        | (refine call_by (hcall _) ?_; rintro _ _ ⟨rfl, rfl⟩; exact ⟨.refl _ _, rfl⟩)
        | exact (idxV_nat (sz := some 1) (k := .i64) (i := 0) (by omega)).trans (by simp)
        | exact (congrArg (HC.cellIn · o1) (ky.blk _ hb1.2.1 (fun h => h))).trans hx'
        | (rintro _ hj rfl kj; simp -dsimp [w1, w2])
    · intro y ky
      simp -dsimp only [List.map_cons, List.map_nil, item, dstOf, List.getElem?_cons_succ, List.getElem?_cons_zero, Option.map_some, Option.bind_some]
      simp -dsimp only [rdI, putl]
      rintro _ _ rfl _ _ _ rfl _ _ _ rfl _ f7 fj7 fq7 fk7 _ qj8 ⟨q8, rfl, qq8⟩ qk8 _ _ rfl _ f10 fj10 fq10 fk10 _ qj11 ⟨q11, rfl, qq11⟩ qk11 _ _ rfl _ f13 fj13 fq13 fk13 _ qj14 ⟨q14, rfl, qq14⟩ qk14 _ _ rfl _ f20 fj20 fq20 fk20 _ qj21 ⟨q21, rfl, qq21⟩ qk21 _ _ rfl _ f23 fj23 fq23 fk23 _ qj24 ⟨q24, rfl, qq24⟩ qk24 _ _ rfl _ _ _ rfl _ f27 fj27 fq27 fk27 _ qj28 ⟨q28, rfl, qq28⟩ qk28 _ _ rfl _ _ _ rfl _ _ _ rfl _ _ _ rfl _ f41 fj41 fq41 fk41 _ qj42 ⟨q42, rfl, qq42⟩ qk42
      replace qq8 := FilsAt.keep qq8 qk8; obtain ⟨qa8, qc8, rfl, _, _⟩ := SlRep.val qq8
      replace qq11 := FilsAt.keep qq11 qk11; obtain ⟨qa11, qc11, rfl, _, _⟩ := SlRep.val qq11
      replace qq14 := FilsAt.keep qq14 qk14; obtain ⟨qa14, qc14, rfl, _, _⟩ := SlRep.val qq14
      replace qq21 := FilsAt.keep qq21 qk21; obtain ⟨qa21, qc21, rfl, _, _⟩ := SlRep.val qq21
      replace qq24 := FilsAt.keep qq24 qk24; obtain ⟨qa24, qc24, rfl, _, _⟩ := SlRep.val qq24
      replace qq28 := FilsAt.keep qq28 qk28; obtain ⟨qa28, qc28, rfl, _, _⟩ := SlRep.val qq28
      replace qq42 := FilsAt.keep qq42 qk42; obtain ⟨qa42, qc42, rfl, _, _⟩ := SlRep.val qq42
      have ky6 : Keep none_ h h6 := k06
      simp -dsimp
      generalize hQ : Array.push y _ = z
      have kz : Keep none_ y z := by rw [← hQ]; exact .push _ _ _
      have wL : z[y.size]? = some (.cells #[.int .i64 (2 ^ s.cards.length), .slice none 0 0, .int .i64 (-1), .slice none 0 0, .int .i64 0, .slice qa8 1 qc8, .int .i64 0, .slice qa11 1 qc11, .int .i64 0, .slice qa14 1 qc14, .int .i64 0, .slice qa21 1 qc21, .int .i64 0, .slice qa24 1 qc24, .int .i64 0, .slice qa28 2 qc28, .int .i64 (2 ^ s.cards.length + wv), .slice none 0 0, .int .i64 0, .slice qa42 1 qc42] 27 (0, 0)) := by rw [← hQ]; exact push_new _ _
      clear hQ
      have u8 := FilsAt.keep qq8 kz
      have u11 := FilsAt.keep qq11 kz
      have u14 := FilsAt.keep qq14 kz
      have u21 := FilsAt.keep qq21 kz
      have u24 := FilsAt.keep qq24 kz
      have u28 := FilsAt.keep qq28 kz
      have u42 := FilsAt.keep qq42 kz
      have rL : SlRep rQry (Old z) z (.slice (some ⟨y.size, 0, none⟩) 10 10) (badL s.cards wv) := by
        unfold badL
        rw [hca]
        refine ⟨_, 10, [.int .i64 (2 ^ s.cards.length), .slice none 0 0, .int .i64 (-1), .slice none 0 0, .int .i64 0, .slice qa8 1 qc8, .int .i64 0, .slice qa11 1 qc11, .int .i64 0, .slice qa14 1 qc14, .int .i64 0, .slice qa21 1 qc21, .int .i64 0, .slice qa24 1 qc24, .int .i64 0, .slice qa28 2 qc28, .int .i64 (2 ^ s.cards.length + wv), .slice none 0 0, .int .i64 0, .slice qa42 1 qc42], rfl, Nat.le_refl _, by decide, .inr ⟨y.size, 0, _, _, _, rfl, ⟨nz, lt_of_blk wL, fun h => h⟩, wL, rfl⟩, ?_⟩
        refine ⟨[_, _], _, rfl, ⟨_, rfl, .nil _ _ _⟩, [_, _], _, rfl, ⟨_, rfl, .nil _ _ _⟩, [_, _], _, rfl, ⟨_, rfl, u8⟩, [_, _], _, rfl, ⟨_, rfl, u11⟩, [_, _], _, rfl, ⟨_, rfl, u14⟩, [_, _], _, rfl, ⟨_, rfl, u21⟩, [_, _], _, rfl, ⟨_, rfl, u24⟩, [_, _], _, rfl, ⟨_, rfl, u28⟩, [_, _], _, rfl, ⟨_, rfl, .nil _ _ _⟩, ?_⟩
        exact .single ⟨_, rfl, u42⟩
      have hbad := bad_right sok hwb.1
      have hbl : (badL s.cards wv).length = 10 := rfl
      generalize badL s.cards wv = LL at rL hbad hbl
      have hkb := withinM_bound (a := which) (n := 10) (by omega)
      obtain ⟨kk, ekk⟩ : ∃ kk : Nat, withinM which 10 = kk := ⟨(withinM which 10).toNat, by omega⟩
      have hkl : kk < 10 := by omega
      try simp -dsimp
      refine call_by (within14_spec which 10 (by omega) (by omega) _) ?_
      rintro _ y' ⟨rfl, hh⟩
      obtain rfl := hh.symm
      rw [ekk]
      obtain ⟨bk, off, cs, e1, hfb, ⟨xv, ecs, hxr⟩, hcs⟩ := rL.get kk (by omega)
      cases e1
      subst ecs
      have hcs : HC.cellsIn z[y.size]? (0 + kk * 2) 2 = some [.int .i64 (LL[kk]'(by omega)).1, xv] := hcs
      rw [Nat.zero_add] at hcs
      have hb1' := hbad _ (List.getElem_mem (show kk < LL.length by omega))
      obtain ⟨x, ex⟩ : ∃ x, x = LL[kk]'(by omega) := ⟨_, rfl⟩
      rw [← ex] at hxr hcs hb1'
      obtain ⟨x1, x2⟩ := x
      simp only at hxr hcs hb1'
      obtain ⟨o1', o2', o3'⟩ := bad_out (com := comM M rows) hb1'
      obtain ⟨xa, xc, rfl, _, _⟩ := hxr.val
      have um := t6.smM.used
      have un := t6.smN.used
      have ul := t6.smN.files
      have k6z : Keep none_ h6 z := ky.trans kz fun _ _ h => h
      have pz := p6.none k6z
      simp -dsimp [idxA_nat hkl, hcs]
      refine call_by (pask2_spec pz.st (by omega) hxr t6.cube) ?_
      rintro _ z1 ⟨lv, rfl, l1, hl⟩
      rw [o1']
      rw [o2'] at hl
      obtain ⟨l1a, l1c, rfl, _, _⟩ := hl.val
      have hcs1 : HC.cellsIn z1[y.size]? (kk * 2) 2 = _ := (congrArg (HC.cellsIn · (kk * 2) 2) (l1.blk _ (lt_of_blk wL) (fun h => h))).trans hcs
      simp -dsimp [idxA_nat hkl, hcs1]
      refine call_by (pserver2_spec (pz.none l1).st (by omega) (hxr.mono ((Tr.of l1).ft (Nat.le_refl 0))) t6.cube) ?_
      rintro _ z2 ⟨rfl, l2⟩
      rw [o3']
      have l12 := l1.trans l2 fun _ _ h => h
      simp -dsimp
      refine call_by (names_spec (pz.none l12).st t6.smM (by omega)) ?_
      rintro nv z3 ⟨on, gn, l3, _⟩
      have l13 := l12.trans l3 fun _ _ h => h
      obtain ⟨n1, n2, rfl⟩ := gn.val
      simp -dsimp
      refine call_by (rnames_spec (pz.none l13).rf (by omega)) ?_
      rintro nw z4 ⟨ow, gw, l4, _⟩
      obtain ⟨n3, n4, rfl⟩ := gw.val
      rw [t6.alike.names]
      simp -dsimp
      exact hK _ _ ⟨rfl, ((k06.trans k6z fun _ _ h => h).trans l13 fun _ _ h => h).trans l4 fun _ _ h => h⟩
end Go.Proofs


namespace Go.Proofs.YtgjklplbldgodaaGreatDoor
open Go Go.ChangeShapes Go.WideShapes Go.ChangeAt Go.RowKit Go.HC

theorem own0 : ownKnob Tryz.prog.godebug = none := by kernel_rfl
theorem laid0 : laidOutB Tryz.prog = true := by kernel_rfl
theorem ui : Tryz.prog.underlying 3 = some (.int .i64) := by kernel_rfl
theorem ci : Tryz.prog.cellsOf 3 = 1 := by kernel_rfl
theorem uis : Tryz.prog.underlying 22 = some (.slice 3) := by kernel_rfl
theorem cis : Tryz.prog.cellsOf 22 = 1 := by kernel_rfl
theorem bi : Tryz.prog.bytesOf 3 = 8 := by kernel_rfl
noncomputable def fsS : Array Field := match Tryz.prog.underlying 24 with | some (.struct fs) => fs | _ => #[]
theorem usS : Tryz.prog.underlying 24 = some (.struct fsS) := by kernel_rfl
theorem cS : Tryz.prog.cellsOf 24 = 6 := by kernel_rfl
theorem lS : fsS.map (fun f => (f.type, f.offset)) = #[(3, 0), (3, 1), (3, 2), (3, 3), (22, 4), (22, 5)] := by kernel_rfl
theorem ub : Tryz.prog.underlying 4 = some .bool := by kernel_rfl

theorem door_met (os : Os) (args : Array Value) : laidMetH Tryz.prog Rows.queryErrsRow.laid ((World.doorLaid Tryz.prog 4000 os).forCall (fun _ _ => 0) ⟨#[], args, []⟩).memory :=
  laidMetH_of_parts3 (fuel := 8) (laidMet_of_run' 8 (by kernel_rfl) (by kernel_rfl)) (by kernel_rfl) (by kernel_rfl)

set_option maxHeartbeats 8000000 in
set_option maxRecDepth 100000 in
theorem lifted (os : Os) (started : os.Started) (H : Type) (enc : TypeId × Value → H) :
    ReturnsInHanded {} Tryz.checked os 11 .any (fun w args => (Rows.queryErrsSpec.pre enc Tryz.prog Tryz.f11 Rows.queryErrsRow.domain false w args ∧ laidMetH Tryz.prog Rows.queryErrsRow.laid w) ∧ sizedMet enc Tryz.prog Tryz.f11 (OpenSpec.ofChange Rows.queryErrsSpec) false w args) (Rows.queryErrsSpec.post enc Tryz.prog Tryz.f11 false true false false) := by
  refine returnsInHanded_of_change_and (C := Tryz.checked) (X := fun w _ => laidMetH Tryz.prog Rows.queryErrsRow.laid w) (fun _ _ _ hh h => h.of_heap hh) own0 started (by kernel_rfl) Tryz.func11
    (ChangeSpec.witness_shaped (enc := enc) (C := Tryz.checked) (os := os) (X := fun w _ => laidMetH Tryz.prog Rows.queryErrsRow.laid w) false (World.doorLaid Tryz.prog 4000 os) #[.agg #[.int .i64 0, .int .i64 0, .int .i64 0, .int .i64 0, .slice none 0 0, .slice none 0 0], .slice none 0 0, .int .i64 0, .int .i64 0] 8 rfl (World.shaped_of_RefB (by kernel_rfl) (by kernel_rfl)) (by kernel_rfl) (by kernel_rfl) (by kernel_rfl) (door_met os _)) ?_
  intro W base args ds gs before hval0 hW _ hwz _ _
  have hval : ∀ (j : Nat) t v, Tryz.f11.params[j]? = some t → args[j]? = some v → Value.okWide Tryz.prog W .any base t v := hval0
  have hW' := hW
  obtain ⟨p, q, hA0, hV, rfl, _, _⟩ := hW
  have hA : DataW.TrodAll enc Tryz.prog W 0 (fun _ => true) true Tryz.f11.params.toList args.toList ds p := hA0
  have hps : Tryz.f11.params = #[24, 22, 3, 3] := by kernel_rfl
  rw [hps] at hA hval
  have hA1 := hA
  obtain ⟨v0, vs0, d0, ds0, p0, q0, ha0, hd0, hp0, h0, hr0⟩ := trodAll_cons hA1
  obtain ⟨v1, vs1, d1, ds1, p1, q1, ha1, hd1, hp1, h1, hr1⟩ := trodAll_cons hr0
  obtain ⟨v2, vs2, d2, ds2, p2, q2, ha2, hd2, hp2, h2, hr2⟩ := trodAll_cons hr1
  obtain ⟨v3, vs3, d3, ds3, p3, q3, ha3, hd3, hp3, h3, hr3⟩ := trodAll_cons hr2
  obtain ⟨rfl, rfl, rfl⟩ := trodAll_nil hr3
  subst ha3; subst hd3; subst hp3
  subst ha2; subst hd2; subst hp2
  subst ha1; subst hd1; subst hp1
  subst hd0; subst hp0
  obtain rfl : args = #[v0, v1, v2, v3] := by cases args; simp_all
  obtain ⟨rfl, rfl⟩ := trodVars_none hV
  have hz : (DataW.weightsEach Tryz.prog [24, 22, 3, 3] [d0, d1, d2, d3]).all (fun x => decide (x ≤ reachBytes)) = true := by
    have hx : (DataW.weightsEach Tryz.prog (Tryz.f11.params.toList ++ Rows.queryErrsSpec.plain.varTypes Tryz.prog) ([d0, d1, d2, d3] ++ [])).all (fun x => decide (x ≤ reachBytes)) = true := hwz
    rw [show (Tryz.f11.params.toList ++ Rows.queryErrsSpec.plain.varTypes Tryz.prog) = [24, 22, 3, 3] by kernel_rfl] at hx
    simpa using hx
  simp only [DataW.weightsEach, List.all_append, Bool.and_eq_true] at hz
  obtain ⟨z0, z1, z2, z3, _⟩ := hz
  obtain ⟨na0, nb0, nc0, ne0, w0, z0, xs0, ys0, rfl, x0, y0⟩ := open_shape usS cS lS ui ci uis cis (hval 0 24 v0 rfl rfl) h0
  obtain ⟨a1, x1, b1⟩ := open_intW uis ui ci bi (hval 1 22 v1 rfl rfl) h1 z1
  obtain ⟨a2, rfl, _, _, _⟩ := open_int ui (hval 2 3 v2 rfl rfl) h2
  obtain ⟨a3, rfl, _, _, _⟩ := open_int ui (hval 3 3 v3 rfl rfl) h3
  clear hA0 hval0
  simp only [List.append_nil] at hW' hA ⊢
  have hlt := fun x hx => hW'.lt x hx
  refine (calls_of (queryErrs_spec x0 (fun _ h => h) y0 (fun _ h => h) x1 (fun _ h => h) b1 a2 a3)).mono fun e W' ⟨he, hb⟩ => ?_
  subst he
  refine ⟨_, rfl, _, _, _, _, _, [], hW', trodAll_mk1 (shut_bool ub true), below_trodAll laid0 hb (by kernel_rfl) hA (fun x hx => by simpa using hlt x (by simpa using hx)), rfl, hb.frame _, fun h => by cases h⟩

theorem queryerrs_holds : Rows.QueryErrsSaid :=
  OpenClaim.holds_of_wide 11 Tryz.f11 rfl rfl rfl rfl rfl rfl rfl ⟨rfl, rfl, rfl, rfl, rfl⟩ rfl rfl rfl rfl rfl (by kernel_rfl) Tryz.func11 (by kernel_rfl)
    (of_decide_eq_true (by kernel_rfl)) (by unfold Func.isWrapper; first | (rw [if_pos (by decide +kernel)]; kernel_rfl) | (rw [if_neg (by decide +kernel)]; exact ⟨rfl, rfl⟩))
    (fun os started H enc _ => lifted os started H enc)

theorem queryerrs_holds_card : Rows.QueryErrsCardSaid :=
  Claim7.holds_tied_plain_at .later [] [.data, .data, .data] true Rows.queryErrsCard.stood.harness false
    queryerrs_holds (fun _ h => by cases h) (by kernel_rfl) (fun _ h => by cases h) queryErrs_row_tie rfl ⟨rfl, rfl⟩ (by kernel_rfl) rfl
    (fun f fn hf hfn => by
      obtain rfl : f = 11 := Option.some.inj ((show Tryz.prog.funcNamed "hypercube/hypercubelaw14.QueryErrs" = some 11 by kernel_rfl).symm.trans hf) |>.symm
      obtain rfl : fn = Tryz.f11 := (Option.some.inj (Tryz.func11.symm.trans hfn)).symm
      exact ⟨by kernel_rfl, fun j t ht => by
        have hps : Tryz.f11.params = #[24, 22, 3, 3] := by kernel_rfl
        rw [hps] at ht
        have hm : t ∈ [24, 22, 3, 3] := by simpa using Array.mem_of_getElem? ht
        have hall : ([24, 22, 3, 3].all fun u => !Tryz.prog.wantsStandIn u) = true := by kernel_rfl
        exact (show Tryz.prog.wantsStandIn t = false by simpa using List.all_eq_true.1 hall t hm)⟩)
    (by kernel_rfl)
end Go.Proofs.YtgjklplbldgodaaGreatDoor
