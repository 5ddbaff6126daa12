/-
  hypercubelaw14.QueryOrder returns true for all arguments, and its arguments read behind the call as they read ahead of it; the row itself asks of three tables of the library that they read as their text lays them, and the proof does not use that.
-/
import Derived.Test.YtgjklplbldgodaaGreatDoorKBf
import Derived.Test.YtgjklplbldgodaaGreatDoorRows
import Derived.Test.YtgjklplbldgodaaGreatDoorCards
import Derived.Test.YtgjklplbldgodaaGreatDoorTie
import Derived.LaidMore
import Derived.OpenShut
import Derived.Stop.Joined
/-
  QueryOrder: the walk.
-/
namespace Go.Proofs
open Go Go.HC

set_option maxHeartbeats 2000000 in
set_option maxRecDepth 100000 in
theorem queryOrder_spec {h : Heap} {d m p q : Int} {F1 F2 F3 F4 : Nat → Prop} {cv nv sv fv : Value} {cards ns sets fs : List Int} (hc : SlRep rInt F1 h cv cards) (hF1 : ∀ b, F1 b → b < h.size) (hn : SlRep rInt F2 h nv ns) (hF2 : ∀ b, F2 b → b < h.size) (hs : SlRep rInt F3 h sv sets) (hF3 : ∀ b, F3 b → b < h.size) (set : Int) (hf : SlRep rInt F4 h fv fs) (hF4 : ∀ b, F4 b → b < h.size) :
    CallH Tryz.prog 7 #[.agg #[.int .i64 d, .int .i64 m, .int .i64 p, .int .i64 q, cv, nv], sv, .int .i64 set, fv] h fun r h' => r = .bool true ∧ Keep none_ h h' := by
  refine callH_by fun K hK => ?_
  refine enter [.tmp 8] Tryz.func7 rfl rfl (by kernel_rfl) rfl ?_
  replace hc := hc.mono (F' := Old h) (h' := h) fun b hb => ⟨⟨nz, hF1 b hb, fun h => h⟩, rfl⟩
  have hc0 := hc
  replace hn := hn.mono (F' := Old h) (h' := h) fun b hb => ⟨⟨nz, hF2 b hb, fun h => h⟩, rfl⟩
  have hn0 := hn
  replace hs := hs.mono (F' := Old h) (h' := h) fun b hb => ⟨⟨nz, hF3 b hb, fun h => h⟩, rfl⟩
  have hs0 := hs
  replace hf := hf.mono (F' := Old h) (h' := h) fun b hb => ⟨⟨nz, hF4 b hb, fun h => h⟩, rfl⟩
  have hf0 := hf
  obtain ⟨ca, cc, rfl, _, _⟩ := hc.val
  obtain ⟨na, nc, rfl, _, _⟩ := hn.val
  obtain ⟨sa, sc, rfl, _, _⟩ := hs.val
  obtain ⟨fa, fc, rfl, _, _⟩ := hf.val
  have hok := factsM_ok d cards m ns
  have hr40 := factsM_len d cards m ns
  simp -dsimp [boxS_eq]
  generalize hB : Array.push h _ = h0
  have k0 : Keep none_ h h0 := by rw [← hB]; exact .push _ _ _
  have wA : h0[h.size]? = some (.cells #[.int .i64 d, .int .i64 m, .int .i64 p, .int .i64 q, .slice ca cards.length cc, .slice na ns.length nc] 24 (0, 0)) := by rw [← hB]; exact push_new _ _
  clear hB
  refine call_by (known14_spec h0) ?_
  rintro _ h1 ⟨rfl, k1⟩
  have wA1 := k1.at wA (fun h => h)
  simp -dsimp [wA1]
  refine call_by (few_spec h1) ?_
  rintro _ h2 ⟨rfl, k2⟩
  have k02 : Keep none_ h h2 := (k0.trans k1 fun _ _ h => h).trans k2 fun _ _ h => h
  have wA2 := k2.at wA1 (fun h => h)
  cases hfew : (decide (cards.length ≤ 20) && decide (ns.length ≤ 60)) with
  | false =>
    simp -dsimp
    exact hK _ _ ⟨rfl, k02⟩
  | true =>
    simp -dsimp [wA2]
    refine call_by (smake_spec fun y ky => facts1_spec d m (hc0.mono ((Tr.of (k02.trans ky fun _ _ h => h)).ft (Nat.le_refl 0))) (hn0.mono ((Tr.of (k02.trans ky fun _ _ h => h)).ft (Nat.le_refl 0)))) ?_
    rintro _ h3 ⟨cv1, rv1, rfl, k3, hcv, hrv⟩
    generalize hfs : (factsM d cards m ns).1 = s at *
    generalize hfr : (factsM d cards m ns).2 = rows at *
    obtain ⟨c1a, c1c, rfl, _, _⟩ := hcv.val
    obtain ⟨r1a, r1c, rfl, _, _⟩ := hrv.val
    simp -dsimp
    generalize hD : Array.push (Array.push h3 _) _ = h4
    have k4 : Keep none_ h3 h4 := by rw [← hD]; exact ((Keep.refl none_ h3).pushed _).pushed _
    have z4 : h4.size = h3.size + 2 := by rw [← hD]; simp
    have v1 : h4[h3.size]? = some (.cells #[.slice none 0 0, .int .i64 0] 30 (0, 0)) := by rw [← hD]; exact push_at (push_new _ _)
    have v2 : h4[h3.size + 1]? = some (.cells #[.int .i64 0, .int .i64 0] 33 (0, 0)) := by rw [← hD]; exact push_get (by simp)
    have hsm1 : ∀ o, (Array.setIfInBounds h4 h3.size o)[h3.size]? = some o := fun o => set_same _ (lt_of_blk v1)
    have k3s := k3.size
    have k02s := k02.size
    have wA3 := k3.at wA2 (fun h => h)
    have wA4 := k4.at wA3 (fun h => h)
    have lA := lt_of_blk wA3
    have hsA : ∀ o, (Array.setIfInBounds h4 h3.size o)[h.size]? = h4[h.size]? := fun o => set_other _ (by omega)
    have hsB : ∀ (g : Heap) o, (Array.setIfInBounds g (h3.size + 1) o)[h.size]? = g[h.size]? := fun g o => set_other _ (by omega)
    clear hD
    simp -dsimp [v1, v2, set_other _ (show h3.size ≠ h3.size + 1 by omega), hsA, hsB, wA4]
    generalize hE : Array.setIfInBounds (Array.setIfInBounds h4 _ _) _ _ = h5
    have kE : Keep none_ h3 h5 := by rw [← hE]; exact (k4.setted _ fun hh => by omega).setted _ fun hh => by omega
    have z5 : h5.size = h3.size + 2 := by rw [← hE]; simpa using z4
    have vS : h5[h3.size]? = some (.cells #[.slice c1a s.cards.length c1c, .int .i64 s.ms] 30 (0, 0)) := by rw [← hE]; exact (set_other _ (by omega)).trans (set_same _ (by omega))
    have wA5 := kE.at wA3 (fun h => h)
    clear hE hsm1 hsA hsB v1 v2 wA4 k4 z4
    have k05 : Keep none_ h h5 := (k02.trans k3 fun _ _ h => h).trans kE fun _ _ h => h
    have hd := hok.dims
    have hms := hok.ms
    have tE : ∀ b, Ft h2.size none_ h3 b → Old h5 b ∧ h5[b]? = h3[b]? := fun b hb => by
      have e : h5[b]? = h3[b]? := kE.blk b hb.2.1 (fun h => h)
      exact ⟨⟨nz, Nat.lt_of_lt_of_le hb.2.1 kE.size, fun h => h⟩, e⟩
    have rc5 := hcv.mono tE
    have rr5 := hrv.mono tE
    have hp0 := pow2_pos s.cards.length
    have hp4 : (2 : Int) ^ s.cards.length ≤ 2 ^ 4 := pow2_le hd.2
    have hpz : ((2 ^ s.cards.length : Nat) : Int) = 2 ^ s.cards.length := by simp
    have hsh := shl_one (k := s.cards.length) (by omega)
    have hshv : binV Tryz.prog .shl 3 (.int .i64 1) (.int .u64 (IntKind.u64.wrap (s.cards.length : Int))) = some (.int .i64 (2 ^ s.cards.length)) := hsh
    have z05 := k05.size
    have tO := (Tr.of k05).ft (n := 0) (n' := 0) (Nat.le_refl 0)
    refine call_by (both14_spec (hc0.mono tO) (hn0.mono tO) (hs0.mono tO)) ?_
    rw [hfs, hfr]
    rintro _ h6 ⟨vp, w, F, G, M, N, ks, n, rfl, k6, p6, t6, hn6, hks⟩
    have vS6 := k6.at vS (fun h => h)
    simp -dsimp [vS6]
    have rc6 := rc5.mono ((Tr.of k6).ft (Nat.le_refl 0))
    have k06 : Keep none_ h h6 := k05.trans k6 fun _ _ h => h
    have sok := hok.sch
    refine call_by (query14_spec sok set rc6 (hf0.mono ((Tr.of k06).ft (Nat.le_refl 0)))) ?_
    rintro _ h7 ⟨qv, rfl, hq, k7⟩
    obtain ⟨a, ea⟩ : ∃ a, a = withinM set (2 ^ s.cards.length) := ⟨_, rfl⟩
    have hab := withinM_bound (a := set) hp0
    rw [← ea] at hab ⊢
    have hr := fils_right sok hab fs
    have hl4 := fils_len4 sok fs
    obtain ⟨fl, efl⟩ : ∃ fl, fl = filsM s.cards fs := ⟨_, rfl⟩
    rw [← efl] at hq hr hl4
    obtain ⟨q1, q2, rfl, _, _⟩ := hq.val
    simp -dsimp
    rw [push_set rfl]
    generalize hQ : Array.push h7 _ = h8
    have k8 : Keep none_ h7 h8 := by rw [← hQ]; exact .push _ _ _
    have z8 : h8.size = h7.size + 1 := by rw [← hQ]; simp
    have wQ : h8[h7.size]? = some (.cells #[.int .i64 a, .slice q1 fl.length q2] 27 (0, 0)) := by rw [← hQ]; exact push_new _ _
    clear hQ
    have wQp : ∀ o, (Array.push h8 o)[h7.size]? = some (.cells #[.int .i64 a, .slice q1 fl.length q2] 27 (0, 0)) := fun o => push_at wQ
    simp -dsimp [wQp]
    rw [← z8, push_set rfl]
    have t9 : Tr none_ (fun b => b = h8.size) h8 (h8.push (.cells #[.int .i64 a, .slice none 0 0] 27)) := ((Tr.start h8).pushM _).less fun b hb => .inr hb
    have wB : (h8.push (.cells #[.int .i64 a, .slice none 0 0] 27))[h8.size]? = some (.cells #[.int .i64 a, .slice none 0 0] 27 (0, 0)) := push_new _ _
    have wQ9 : (h8.push (.cells #[.int .i64 a, .slice none 0 0] 27))[h7.size]? = some (.cells #[.int .i64 a, .slice q1 fl.length q2] 27 (0, 0)) := push_at wQ
    have hq8 : SlRep rFil (Old h8) h8 (.slice q1 fl.length q2) fl := (hq.mono (Ft.free (Nat.zero_le _))).mono ((Tr.of k8).ft (Nat.le_refl 0))
    have p8 := (p6.none k7).none k8
    have z6 := k6.size
    have z7 := k7.size
    refine loopc (σ := Nat × Value) (fun t => [(12, .pointer (some vp)), (13, w), (14, .pointer (some ⟨h7.size, 0, none⟩)), (15, .pointer (some ⟨h8.size, 0, none⟩)), (16, .int .i64 t.1)])
      (fun t y => t.1 ≤ fl.length ∧ ∃ M own, Tr none_ M h8 y ∧ M h8.size ∧ (∀ b, own = some b → h8.size + 1 ≤ b) ∧ y[h8.size]? = some (.cells #[.int .i64 a, t.2] 27 (0, 0)) ∧ Gr rFil 57 (h8.size + 1) M y t.2 (fl.drop t.1).reverse own)
      (fun t => t.1) (fl.length, .slice none 0 0) 0 (fun t _ => t.1 = 0) noRet noRet_le (by simp)
      ⟨Nat.le_refl _, _, none, t9, rfl, (fun _ h => by cases h), wB, by rw [List.drop_length]; exact .nil _ _ _ _ _⟩ (by kernel_rfl) ?_ ?_
    · rintro ⟨i, v⟩ y g ⟨hi, M, own, t, hM, hown, wBy, gr⟩
      simp only at hi wBy gr
      obtain ⟨va, vn, vc, rfl, hvn⟩ := gr.vals
      have wQy : y[h7.size]? = _ := t.at wQ (fun h => h)
      by_cases h0i : i = 0
      · subst h0i
        simp -dsimp
        exact ⟨rfl, (0, .slice va vn vc), by simp, rfl, ⟨hi, M, own, t, hM, hown, wBy, gr⟩, rfl⟩
      · obtain ⟨j, rfl⟩ : ∃ j, i = j + 1 := ⟨i - 1, by omega⟩
        have hj : j < fl.length := by omega
        have e0 : decide ((0 : Int) < ((j + 1 : Nat) : Int)) = true := decide_eq_true (by omega)
        have wj : IntKind.i64.wrap (((j + 1 : Nat) : Int) - 1) = (j : Int) := by rw [wrap_i64 (by omega) (by omega)]; omega
        have wj' : IntKind.i64.wrap (j : Int) = (j : Int) := wrap_i64 (by omega) (by omega)
        obtain ⟨bk, off, cs, e1, hfb, hrep, hcs⟩ := (hq8.mono t.old).get j hj
        cases e1
        obtain rfl : cs = [.int .i64 fl[j].dim, .int .i64 fl[j].lo, .int .i64 fl[j].hi] := hrep
        have hcs : HC.cellsIn y[bk]? (off + j * 3) 3 = some [.int .i64 fl[j].dim, .int .i64 fl[j].lo, .int .i64 fl[j].hi] := hcs
        have wBp : ∀ o, (y.push o)[h8.size]? = _ := fun o => push_at wBy
        simp -dsimp
        refine drawn_by [⟨0, true, []⟩, ⟨1, true, []⟩, ⟨2, true, []⟩, ⟨3, true, []⟩, ⟨4, true, []⟩, ⟨5, true, []⟩, ⟨6, true, []⟩, ⟨7, true, []⟩, ⟨8, false, [0, 1]⟩, ⟨9, false, []⟩, ⟨10, true, []⟩, ⟨11, false, []⟩] (by kernel_rfl) (by kernel_rfl) ?_
        simp -dsimp [wBy, wQy, wj', idxV_nat hj, elSz_eq, hcs, wBp, again_cons]
        refine gr_app1 (x := fl[j]) rfl filT gr t.lt rfl rfl (by have := gr.grow; simp; omega) (by simp; omega) ?_
        intro v' y2 own' g2 t2 k2' ho
        have u2 := k2'.at wBy (fun e => by have := hown _ e; omega)
        have hown' : ∀ b, own' = some b → h8.size + 1 ≤ b := fun b e => (ho _ e).elim (hown b) (by have := lt_of_blk wBy; omega)
        obtain ⟨va', vn', vc', rfl, _⟩ := g2.vals
        simp -dsimp [u2, wj']
        refine ⟨(j, .slice va' vn' vc'), by simp, rfl, ⟨by show j ≤ _; omega, _, own', (t.trans t2).set _ (.inl hM), .inl hM, hown', set_same _ (lt_of_blk u2), ?_⟩, by show j < j + 1; omega⟩
        have e2 : (fl.drop j).reverse = (fl.drop (j + 1)).reverse ++ [fl[j]] := by rw [List.drop_eq_getElem_cons hj, List.reverse_cons]
        show Gr rFil _ _ _ _ _ (fl.drop j).reverse _
        rw [e2]
        exact g2.set _ (.inl hM) (fun e => by have := hown' _ e; omega)
    rintro ⟨i, v⟩ y g ⟨hi, M1, own, t, hM, hown, wBy, gr⟩ h0i
    simp only at hi wBy gr h0i
    subst h0i
    rw [List.drop_zero] at gr
    obtain ⟨va, vn, vc, rfl, hvn⟩ := gr.vals
    have wQy : y[h7.size]? = _ := t.at wQ (fun h => h)
    have ky : Keep none_ h8 y := t.keep
    have py := p8.none ky
    have hqy := hq8.mono ((Tr.of ky).ft (Nat.le_refl 0))
    have hby : SlRep rFil (Old y) y (.slice va vn vc) fl.reverse := (gr.rep (Nat.le_refl _) hown).mono (Ft.free (Nat.zero_le _))
    obtain ⟨e1, e2⟩ := rev_alike (com := comM M rows) sok hr
    have cN := t6.alike.cube t6.cube
    have hcom := t6.alike.com rows
    have um := t6.smM.used
    have un := t6.smN.used
    have ul := t6.smN.files
    simp -dsimp [wQy]
    refine call_by (pask2_spec py.st (by omega) hqy t6.cube) ?_
    rintro _ y1 ⟨lv, rfl, l1, hl⟩
    simp -dsimp [l1.at wBy (fun h => h)]
    refine call_by (pask2_spec (py.none l1).st (by omega) (hby.mono ((Tr.of l1).ft (Nat.le_refl 0))) t6.cube) ?_
    rintro _ y2 ⟨mv, rfl, l2, hm⟩
    have l12 := l1.trans l2 fun _ _ h => h
    simp -dsimp [l12.at wBy (fun h => h)]
    refine call_by (ask14b_spec (py.none l12).rf (by omega) (by omega) (hby.mono ((Tr.of l12).ft (Nat.le_refl 0))) cN) ?_
    rintro _ y3 ⟨wv, rfl, l3, hw⟩
    rw [← hcom, e1]
    rw [← hcom, e2] at hw
    rw [e2] at hm
    have l13 := l12.trans l3 fun _ _ h => h
    have l23 := l2.trans l3 fun _ _ h => h
    have rl : SlRep rCell (Old y3) y3 lv _ := (hl.mono (Ft.free (Nat.zero_le _))).mono ((Tr.of l23).ft (Nat.le_refl 0))
    have rm : SlRep rCell (Old y3) y3 mv _ := (hm.mono (Ft.free (Nat.zero_le _))).mono ((Tr.of l3).ft (Nat.le_refl 0))
    have rw_ : SlRep rCell (Old y3) y3 wv _ := hw.mono (Ft.free (Nat.zero_le _))
    simp -dsimp
    refine call_by (rsame_spec rl rm) ?_
    rintro _ y4 ⟨⟨b4, rfl, hb4⟩, l4⟩
    obtain rfl : b4 = true := hb4.2 rfl
    simp -dsimp
    refine call_by (rsame_spec (rm.mono ((Tr.of l4).ft (Nat.le_refl 0))) (rw_.mono ((Tr.of l4).ft (Nat.le_refl 0)))) ?_
    rintro _ y5 ⟨⟨b5, rfl, hb5⟩, l5⟩
    obtain rfl : b5 = true := hb5.2 rfl
    simp -dsimp
    refine hK _ _ ⟨rfl, ?_⟩
    exact ((((((k06.trans k7 fun _ _ h => h).trans k8 fun _ _ h => h).trans ky fun _ _ h => h).trans l13 fun _ _ h => h).trans l4 fun _ _ h => h).trans l5 fun _ _ h => h)
end Go.Proofs


namespace Go.Proofs.YtgjklplbldgodaaGreatDoor
open Go Go.ChangeShapes Go.WideShapes Go.ChangeAt Go.RowKit Go.HC

theorem own0 : ownKnob Tryz.prog.godebug = none := by kernel_rfl
theorem laid0 : laidOutB Tryz.prog = true := by kernel_rfl
theorem ui : Tryz.prog.underlying 3 = some (.int .i64) := by kernel_rfl
theorem ci : Tryz.prog.cellsOf 3 = 1 := by kernel_rfl
theorem uis : Tryz.prog.underlying 22 = some (.slice 3) := by kernel_rfl
theorem cis : Tryz.prog.cellsOf 22 = 1 := by kernel_rfl
noncomputable def fsS : Array Field := match Tryz.prog.underlying 24 with | some (.struct fs) => fs | _ => #[]
theorem usS : Tryz.prog.underlying 24 = some (.struct fsS) := by kernel_rfl
theorem cS : Tryz.prog.cellsOf 24 = 6 := by kernel_rfl
theorem lS : fsS.map (fun f => (f.type, f.offset)) = #[(3, 0), (3, 1), (3, 2), (3, 3), (22, 4), (22, 5)] := by kernel_rfl
theorem ub : Tryz.prog.underlying 4 = some .bool := by kernel_rfl

theorem door_met (os : Os) (args : Array Value) : laidMetH Tryz.prog Rows.queryOrderRow.laid ((World.doorLaid Tryz.prog 4000 os).forCall (fun _ _ => 0) ⟨#[], args, []⟩).memory :=
  laidMetH_of_parts3 (fuel := 8) (laidMet_of_run' 8 (by kernel_rfl) (by kernel_rfl)) (by kernel_rfl) (by kernel_rfl)

set_option maxHeartbeats 8000000 in
set_option maxRecDepth 100000 in
theorem lifted (os : Os) (started : os.Started) (H : Type) (enc : TypeId × Value → H) :
    ReturnsInHanded {} Tryz.checked os 7 .any (fun w args => (Rows.queryOrderSpec.pre enc Tryz.prog Tryz.f7 Rows.queryOrderRow.domain false w args ∧ laidMetH Tryz.prog Rows.queryOrderRow.laid w) ∧ sizedMet enc Tryz.prog Tryz.f7 (OpenSpec.ofChange Rows.queryOrderSpec) false w args) (Rows.queryOrderSpec.post enc Tryz.prog Tryz.f7 false true false false) := by
  refine returnsInHanded_of_change_and (C := Tryz.checked) (X := fun w _ => laidMetH Tryz.prog Rows.queryOrderRow.laid w) (fun _ _ _ hh h => h.of_heap hh) own0 started (by kernel_rfl) Tryz.func7
    (ChangeSpec.witness_shaped (enc := enc) (C := Tryz.checked) (os := os) (X := fun w _ => laidMetH Tryz.prog Rows.queryOrderRow.laid w) false (World.doorLaid Tryz.prog 4000 os) #[.agg #[.int .i64 0, .int .i64 0, .int .i64 0, .int .i64 0, .slice none 0 0, .slice none 0 0], .slice none 0 0, .int .i64 0, .slice none 0 0] 8 rfl (World.shaped_of_RefB (by kernel_rfl) (by kernel_rfl)) (by kernel_rfl) (by kernel_rfl) (by kernel_rfl) (door_met os _)) ?_
  intro W base args ds gs before hval0 hW _ _ _ _
  have hval : ∀ (j : Nat) t v, Tryz.f7.params[j]? = some t → args[j]? = some v → Value.okWide Tryz.prog W .any base t v := hval0
  have hW' := hW
  obtain ⟨p, q, hA0, hV, rfl, _, _⟩ := hW
  have hA : DataW.TrodAll enc Tryz.prog W 0 (fun _ => true) true Tryz.f7.params.toList args.toList ds p := hA0
  have hps : Tryz.f7.params = #[24, 22, 3, 22] := by kernel_rfl
  rw [hps] at hA hval
  have hA1 := hA
  obtain ⟨v0, vs0, d0, ds0, p0, q0, ha0, hd0, hp0, h0, hr0⟩ := trodAll_cons hA1
  obtain ⟨v1, vs1, d1, ds1, p1, q1, ha1, hd1, hp1, h1, hr1⟩ := trodAll_cons hr0
  obtain ⟨v2, vs2, d2, ds2, p2, q2, ha2, hd2, hp2, h2, hr2⟩ := trodAll_cons hr1
  obtain ⟨v3, vs3, d3, ds3, p3, q3, ha3, hd3, hp3, h3, hr3⟩ := trodAll_cons hr2
  obtain ⟨rfl, rfl, rfl⟩ := trodAll_nil hr3
  subst ha3; subst hd3; subst hp3
  subst ha2; subst hd2; subst hp2
  subst ha1; subst hd1; subst hp1
  subst hd0; subst hp0
  obtain rfl : args = #[v0, v1, v2, v3] := by cases args; simp_all
  obtain ⟨rfl, rfl⟩ := trodVars_none hV
  obtain ⟨na0, nb0, nc0, ne0, w0, z0, xs0, ys0, rfl, x0, y0⟩ := open_shape usS cS lS ui ci uis cis (hval 0 24 v0 rfl rfl) h0
  obtain ⟨a1, x1⟩ := open_intRep uis ui ci (hval 1 22 v1 rfl rfl) h1
  obtain ⟨a2, rfl, _, _, _⟩ := open_int ui (hval 2 3 v2 rfl rfl) h2
  obtain ⟨a3, x3⟩ := open_intRep uis ui ci (hval 3 22 v3 rfl rfl) h3
  clear hA0 hval0
  simp only [List.append_nil] at hW' hA ⊢
  have hlt := fun x hx => hW'.lt x hx
  refine (calls_of (queryOrder_spec x0 (fun _ h => h) y0 (fun _ h => h) x1 (fun _ h => h) a2 x3 (fun _ h => h))).mono fun e W' ⟨he, hb⟩ => ?_
  subst he
  refine ⟨_, rfl, _, _, _, _, _, [], hW', trodAll_mk1 (shut_bool ub true), below_trodAll laid0 hb (by kernel_rfl) hA (fun x hx => by simpa using hlt x (by simpa using hx)), rfl, hb.frame _, fun h => by cases h⟩

theorem queryorder_holds : Rows.QueryOrderSaid :=
  OpenClaim.holds_of_wide 7 Tryz.f7 rfl rfl rfl rfl rfl rfl rfl ⟨rfl, rfl, rfl, rfl, rfl⟩ rfl rfl rfl rfl rfl (by kernel_rfl) Tryz.func7 (by kernel_rfl)
    (of_decide_eq_true (by kernel_rfl)) (by unfold Func.isWrapper; first | (rw [if_pos (by decide +kernel)]; kernel_rfl) | (rw [if_neg (by decide +kernel)]; exact ⟨rfl, rfl⟩))
    (fun os started H enc _ => lifted os started H enc)

theorem queryorder_holds_card : Rows.QueryOrderCardSaid :=
  Claim7.holds_tied_plain_at .later [] [.data, .data, .data] true Rows.queryOrderCard.stood.harness false
    queryorder_holds (fun _ h => by cases h) (by kernel_rfl) (fun _ h => by cases h) queryOrder_row_tie rfl ⟨rfl, rfl⟩ (by kernel_rfl) rfl
    (fun f fn hf hfn => by
      obtain rfl : f = 7 := Option.some.inj ((show Tryz.prog.funcNamed "hypercube/hypercubelaw14.QueryOrder" = some 7 by kernel_rfl).symm.trans hf) |>.symm
      obtain rfl : fn = Tryz.f7 := (Option.some.inj (Tryz.func7.symm.trans hfn)).symm
      exact ⟨by kernel_rfl, fun j t ht => by
        have hps : Tryz.f7.params = #[24, 22, 3, 22] := by kernel_rfl
        rw [hps] at ht
        have hm : t ∈ [24, 22, 3, 22] := by simpa using Array.mem_of_getElem? ht
        have hall : ([24, 22, 3, 22].all fun u => !Tryz.prog.wantsStandIn u) = true := by kernel_rfl
        exact (show Tryz.prog.wantsStandIn t = false by simpa using List.all_eq_true.1 hall t hm)⟩)
    (by kernel_rfl)
end Go.Proofs.YtgjklplbldgodaaGreatDoor
