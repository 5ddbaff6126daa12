/-
  hypercubelaw14.QueryAll returns true for all arguments, and its arguments read behind the call as they read ahead of it; the row itself asks of three tables of the library that they read as their text lays them, and the proof does not use that.
-/
import Derived.Test.YtgjklplbldgodaaGreatDoorKBf
import Derived.Test.YtgjklplbldgodaaGreatDoorRows
import Derived.Test.YtgjklplbldgodaaGreatDoorCards
import Derived.Test.YtgjklplbldgodaaGreatDoorTie
import Derived.LaidMore
import Derived.OpenShut
import Derived.Stop.Joined
/-
  QueryAll: the walk.
-/
namespace Go.Proofs
open Go Go.HC

set_option maxHeartbeats 2000000 in
set_option maxRecDepth 100000 in
theorem queryAll_spec {h : Heap} {d m p q : Int} {F1 F2 F3 F4 F5 : Nat → Prop} {rn : Int} {cv nv sv fv rv : Value} {cards ns sets fs : List Int} {raws : List FilM} (hc : SlRep rInt F1 h cv cards) (hF1 : ∀ b, F1 b → b < h.size) (hn : SlRep rInt F2 h nv ns) (hF2 : ∀ b, F2 b → b < h.size) (hs : SlRep rInt F3 h sv sets) (hF3 : ∀ b, F3 b → b < h.size) (set : Int) (hf : SlRep rInt F4 h fv fs) (hF4 : ∀ b, F4 b → b < h.size) (hr : SlRep rFil F5 h rv raws) (hF5 : ∀ b, F5 b → b < h.size) :
    CallH Tryz.prog 3 #[.agg #[.int .i64 d, .int .i64 m, .int .i64 p, .int .i64 q, cv, nv], sv, .int .i64 set, fv, .agg #[.int .i64 rn, rv]] h fun r h' => r = .bool true ∧ Keep none_ h h' := by
  refine callH_by fun K hK => ?_
  refine enter [.tmp 10] Tryz.func3 rfl rfl (by kernel_rfl) rfl ?_
  replace hc := hc.mono (F' := Old h) (h' := h) fun b hb => ⟨⟨nz, hF1 b hb, fun h => h⟩, rfl⟩
  have hc0 := hc
  replace hn := hn.mono (F' := Old h) (h' := h) fun b hb => ⟨⟨nz, hF2 b hb, fun h => h⟩, rfl⟩
  have hn0 := hn
  replace hs := hs.mono (F' := Old h) (h' := h) fun b hb => ⟨⟨nz, hF3 b hb, fun h => h⟩, rfl⟩
  have hs0 := hs
  replace hf := hf.mono (F' := Old h) (h' := h) fun b hb => ⟨⟨nz, hF4 b hb, fun h => h⟩, rfl⟩
  have hf0 := hf
  replace hr := hr.mono (F' := Old h) (h' := h) fun b hb => ⟨⟨nz, hF5 b hb, fun h => h⟩, rfl⟩
  have hr0 := hr
  obtain ⟨ca, cc, rfl, _, _⟩ := hc.val
  obtain ⟨na, nc, rfl, _, _⟩ := hn.val
  obtain ⟨sa, sc, rfl, _, _⟩ := hs.val
  obtain ⟨fa, fc, rfl, _, _⟩ := hf.val
  obtain ⟨ra, rc, rfl, _, _⟩ := hr.val
  have hok := factsM_ok d cards m ns
  have hr40 := factsM_len d cards m ns
  simp -dsimp [boxS_eq]
  generalize hB : Array.push (Array.push h _) _ = h0
  have k0 : Keep none_ h h0 := by rw [← hB]; exact ((Keep.refl none_ h).pushed _).pushed _
  have wA : h0[h.size]? = some (.cells #[.int .i64 d, .int .i64 m, .int .i64 p, .int .i64 q, .slice ca cards.length cc, .slice na ns.length nc] 24 (0, 0)) := by rw [← hB]; exact push_at (push_new _ _)
  have wR : h0[h.size + 1]? = some (.cells #[.int .i64 rn, .slice ra raws.length rc] 27 (0, 0)) := by rw [← hB]; exact push_get (by simp)
  clear hB
  refine call_by (known14_spec h0) ?_
  rintro _ h1 ⟨rfl, k1⟩
  have wA1 := k1.at wA (fun h => h)
  simp -dsimp [wA1]
  refine call_by (few_spec h1) ?_
  rintro _ h2 ⟨rfl, k2⟩
  have k02 : Keep none_ h h2 := (k0.trans k1 fun _ _ h => h).trans k2 fun _ _ h => h
  have wA2 := k2.at wA1 (fun h => h)
  cases hfew : (decide (cards.length ≤ 20) && decide (ns.length ≤ 60)) with
  | false =>
    simp -dsimp
    exact hK _ _ ⟨rfl, k02⟩
  | true =>
    have wR2 := (k1.trans k2 fun _ _ h => h).at wR (fun h => h)
    by_cases h20 : 20 < raws.length
    · have h20' : (20 : Int) < raws.length := by omega
      simp -dsimp [wR2, h20']
      exact hK _ _ ⟨rfl, k02⟩
    have h20' : ¬ (20 : Int) < raws.length := by omega
    simp -dsimp [wR2, h20']
    try simp -dsimp [wA2]
    refine call_by (smake_spec fun y ky => facts1_spec d m (hc0.mono ((Tr.of (k02.trans ky fun _ _ h => h)).ft (Nat.le_refl 0))) (hn0.mono ((Tr.of (k02.trans ky fun _ _ h => h)).ft (Nat.le_refl 0)))) ?_
    rintro _ h3 ⟨cv1, rv1, rfl, k3, hcv, hrv⟩
    generalize hfs : (factsM d cards m ns).1 = s at *
    generalize hfr : (factsM d cards m ns).2 = rows at *
    obtain ⟨c1a, c1c, rfl, _, _⟩ := hcv.val
    obtain ⟨r1a, r1c, rfl, _, _⟩ := hrv.val
    simp -dsimp
    generalize hD : Array.push (Array.push h3 _) _ = h4
    have k4 : Keep none_ h3 h4 := by rw [← hD]; exact ((Keep.refl none_ h3).pushed _).pushed _
    have z4 : h4.size = h3.size + 2 := by rw [← hD]; simp
    have v1 : h4[h3.size]? = some (.cells #[.slice none 0 0, .int .i64 0] 30 (0, 0)) := by rw [← hD]; exact push_at (push_new _ _)
    have v2 : h4[h3.size + 1]? = some (.cells #[.int .i64 0, .int .i64 0] 33 (0, 0)) := by rw [← hD]; exact push_get (by simp)
    have hsm1 : ∀ o, (Array.setIfInBounds h4 h3.size o)[h3.size]? = some o := fun o => set_same _ (lt_of_blk v1)
    have k3s := k3.size
    have k02s := k02.size
    have wA3 := k3.at wA2 (fun h => h)
    have wA4 := k4.at wA3 (fun h => h)
    have lA := lt_of_blk wA3
    have hsA : ∀ o, (Array.setIfInBounds h4 h3.size o)[h.size]? = h4[h.size]? := fun o => set_other _ (by omega)
    have hsB : ∀ (g : Heap) o, (Array.setIfInBounds g (h3.size + 1) o)[h.size]? = g[h.size]? := fun g o => set_other _ (by omega)
    clear hD
    simp -dsimp [v1, v2, set_other _ (show h3.size ≠ h3.size + 1 by omega), hsA, hsB, wA4]
    generalize hE : Array.setIfInBounds (Array.setIfInBounds h4 _ _) _ _ = h5
    have kE : Keep none_ h3 h5 := by rw [← hE]; exact (k4.setted _ fun hh => by omega).setted _ fun hh => by omega
    have z5 : h5.size = h3.size + 2 := by rw [← hE]; simpa using z4
    have vS : h5[h3.size]? = some (.cells #[.slice c1a s.cards.length c1c, .int .i64 s.ms] 30 (0, 0)) := by rw [← hE]; exact (set_other _ (by omega)).trans (set_same _ (by omega))
    have wA5 := kE.at wA3 (fun h => h)
    clear hE hsm1 hsA hsB v1 v2 wA4 k4 z4
    have k05 : Keep none_ h h5 := (k02.trans k3 fun _ _ h => h).trans kE fun _ _ h => h
    have hd := hok.dims
    have hms := hok.ms
    have tE : ∀ b, Ft h2.size none_ h3 b → Old h5 b ∧ h5[b]? = h3[b]? := fun b hb => by
      have e : h5[b]? = h3[b]? := kE.blk b hb.2.1 (fun h => h)
      exact ⟨⟨nz, Nat.lt_of_lt_of_le hb.2.1 kE.size, fun h => h⟩, e⟩
    have rc5 := hcv.mono tE
    have rr5 := hrv.mono tE
    have hp0 := pow2_pos s.cards.length
    have hp4 : (2 : Int) ^ s.cards.length ≤ 2 ^ 4 := pow2_le hd.2
    have hpz : ((2 ^ s.cards.length : Nat) : Int) = 2 ^ s.cards.length := by simp
    have hsh := shl_one (k := s.cards.length) (by omega)
    have hshv : binV Tryz.prog .shl 3 (.int .i64 1) (.int .u64 (IntKind.u64.wrap (s.cards.length : Int))) = some (.int .i64 (2 ^ s.cards.length)) := hsh
    have z05 := k05.size
    have wR5 := (k3.trans kE fun _ _ h => h).at wR2 (fun h => h)
    have tO := (Tr.of k05).ft (n := 0) (n' := 0) (Nat.le_refl 0)
    refine call_by (both14_spec (hc0.mono tO) (hn0.mono tO) (hs0.mono tO)) ?_
    rw [hfs, hfr]
    rintro _ h6 ⟨vp, w, F, G, M, N, ks, n, rfl, k6, p6, t6, hn6, hks⟩
    have vS6 := k6.at vS (fun h => h)
    have wR6 := k6.at wR5 (fun h => h)
    simp -dsimp
    have rc6 := rc5.mono ((Tr.of k6).ft (Nat.le_refl 0))
    have k06 : Keep none_ h h6 := k05.trans k6 fun _ _ h => h
    have sok := hok.sch
    have hr6 := hr0.mono ((Tr.of k06).ft (n := 0) (n' := 0) (Nat.le_refl 0))
    have hw17 := withinM_bound (a := set) (n := 17) (by omega)
    have e17 : IntKind.i64.wrap (withinM set 17 - 1) = withinM set 17 - 1 := wrap_i64 (by omega) (by omega)
    obtain ⟨a, ea⟩ : ∃ a, a = withinM set (2 ^ s.cards.length) := ⟨_, rfl⟩
    have hab := withinM_bound (a := set) hp0
    have hq6 := query14_spec sok set rc6 (hf0.mono ((Tr.of k06).ft (Nat.le_refl 0)))
    rw [← ea] at hab hq6
    have hrt := fils_right sok hab fs
    obtain ⟨fl, efl⟩ : ∃ fl, fl = filsM s.cards fs := ⟨_, rfl⟩
    rw [← efl] at hq6 hrt
    have cN := t6.alike.cube t6.cube
    have hcom := t6.alike.com rows
    have um := t6.smM.used
    have un := t6.smN.used
    have ul := t6.smN.files
    refine drawn_byT (.node 3 7 (.node 7 9 (.leaf [⟨0, true, []⟩, ⟨1, true, []⟩, ⟨2, true, []⟩, ⟨4, true, []⟩, ⟨5, true, []⟩, ⟨6, true, []⟩, ⟨8, true, []⟩, ⟨11, true, []⟩, ⟨12, true, []⟩, ⟨3, false, [4, 5, 6, 8, 11, 12]⟩, ⟨7, false, [4, 8, 11, 12]⟩, ⟨9, false, [4, 11, 12]⟩, ⟨10, true, []⟩, ⟨13, false, [4]⟩, ⟨14, false, []⟩, ⟨15, true, []⟩]) (.node 7 13 (.leaf [⟨0, true, []⟩, ⟨1, true, []⟩, ⟨2, true, []⟩, ⟨4, true, []⟩, ⟨5, true, []⟩, ⟨6, true, []⟩, ⟨8, true, []⟩, ⟨11, true, []⟩, ⟨12, true, []⟩, ⟨3, false, [4, 5, 6, 8, 11, 12]⟩, ⟨9, false, [4, 5, 6, 11, 12]⟩, ⟨10, true, []⟩, ⟨7, false, [4, 11, 12, 10]⟩, ⟨13, false, [4]⟩, ⟨14, false, []⟩, ⟨15, true, []⟩]) (.leaf [⟨0, true, []⟩, ⟨1, true, []⟩, ⟨2, true, []⟩, ⟨4, true, []⟩, ⟨5, true, []⟩, ⟨6, true, []⟩, ⟨8, true, []⟩, ⟨11, true, []⟩, ⟨12, true, []⟩, ⟨3, false, [4, 5, 6, 8, 11, 12]⟩, ⟨9, false, [4, 5, 6, 11, 12]⟩, ⟨10, true, []⟩, ⟨13, false, [4, 5, 6]⟩, ⟨7, false, [4]⟩, ⟨14, false, []⟩, ⟨15, true, []⟩]))) (.leaf [⟨0, true, []⟩, ⟨1, true, []⟩, ⟨2, true, []⟩, ⟨4, true, []⟩, ⟨5, true, []⟩, ⟨6, true, []⟩, ⟨8, true, []⟩, ⟨11, true, []⟩, ⟨12, true, []⟩, ⟨7, false, [0, 1, 2, 4, 8, 11, 12]⟩, ⟨3, false, [4, 8, 11, 12]⟩, ⟨9, false, [4, 11, 12]⟩, ⟨10, true, []⟩, ⟨13, false, [4]⟩, ⟨14, false, []⟩, ⟨15, true, []⟩])) (by kernel_rfl) (by kernel_rfl) ⟨⟨?L0, ?L1, ?L2⟩, ?L3⟩
    all_goals
      rw [treeW_leaf]
      simp -dsimp [vS6, wR6, again_cons]
      refine call_by hq6 ?_
      rintro _ h7 ⟨qv, rfl, hq, k7⟩
      obtain ⟨q1, q2, rfl, _, _⟩ := hq.val
      have wR7 := k7.at wR6 (fun h => h)
      simp -dsimp [wR7, again_cons]
      refine call_by (within14_spec set 17 (by omega) (by omega) _) ?_
      rintro _ y' ⟨rfl, hh⟩
      obtain rfl := hh.symm
      simp -dsimp [wR7, again_cons, e17]
      generalize hQ : Array.push h7 _ = h8
      have k8 : Keep none_ h7 h8 := by rw [← hQ]; exact .push _ _ _
      have wL : h8[h7.size]? = some (.cells #[.int .i64 a, .slice q1 fl.length q2, .int .i64 rn, .slice ra raws.length rc, .int .i64 rn, .slice none 0 0, .int .i64 (withinM set 17 - 1), .slice ra raws.length rc] 27 (0, 0)) := by rw [← hQ]; exact push_new _ _
      clear hQ
      have k68 : Keep none_ h6 h8 := k7.trans k8 fun _ _ h => h
      have rL : SlRep rQry (Old h8) h8 (.slice (some ⟨h7.size, 0, none⟩) 4 4) [(a, fl), (rn, raws), (rn, []), (withinM set 17 - 1, raws)] := by
        have r1 : SlRep rFil (Old h8) h8 (.slice q1 fl.length q2) fl := (hq.mono (Ft.free (Nat.zero_le _))).mono ((Tr.of k8).ft (Nat.le_refl 0))
        have r2 := hr6.mono ((Tr.of k68).ft (n := 0) (n' := 0) (Nat.le_refl 0))
        refine ⟨_, 4, [.int .i64 a, .slice q1 fl.length q2, .int .i64 rn, .slice ra raws.length rc, .int .i64 rn, .slice none 0 0, .int .i64 (withinM set 17 - 1), .slice ra raws.length rc], rfl, Nat.le_refl _, by decide, .inr ⟨h7.size, 0, _, _, _, rfl, ⟨nz, lt_of_blk wL, fun h => h⟩, wL, rfl⟩, ?_⟩
        refine ⟨[_, _], _, rfl, ⟨_, rfl, r1⟩, [_, _], _, rfl, ⟨_, rfl, r2⟩, [_, _], _, rfl, ⟨_, rfl, .nil _ _ _⟩, ?_⟩
        exact .single ⟨_, rfl, r2⟩
      have p8 := p6.none k68
      have k08 : Keep none_ h h8 := k06.trans k68 fun _ _ h => h
      generalize hLL : ([(a, fl), (rn, raws), (rn, []), (withinM set 17 - 1, raws)] : List (Int × List FilM)) = LL at rL
      have hLn : LL.length = 4 := by rw [← hLL]; rfl
      clear hLL wL wR wR2 wR5 wR6 wR7
      refine loopc (σ := Nat) (fun i => [(14, .pointer (some vp)), (15, w), (16, .slice (some ⟨h7.size, 0, none⟩) 4 4), (17, .int .i64 i)])
        (fun i y => i ≤ 4 ∧ Keep none_ h8 y) (fun i => 4 - i) 0 0 (fun i _ => i = 4) noRet noRet_le (by simp) ⟨Nat.zero_le _, .refl _ _⟩ (by kernel_rfl) ?_ ?_
      case refine_2 =>
        rintro i y g ⟨hi, ky⟩ _
        simp -dsimp
        exact hK _ _ ⟨rfl, k08.trans ky fun _ _ h => h⟩
      rintro i y g ⟨hi, ky⟩
      have wi := wrap_succ (k := i) (by omega)
      by_cases hil : i < 4
      · have hil' : (i : Int) < 4 := by omega
        obtain ⟨bk, off, cs, e1, hfb, ⟨xv, ecs, hx⟩, hcs⟩ := (rL.mono ((Tr.of ky).ft (n := 0) (n' := 0) (Nat.le_refl 0))).get i (by omega)
        cases e1
        subst ecs
        have hcs : HC.cellsIn y[h7.size]? (0 + i * 2) 2 = some [.int .i64 (LL[i]'(by omega)).1, xv] := hcs
        rw [Nat.zero_add] at hcs
        obtain ⟨x, ex⟩ : ∃ x, x = LL[i]'(by omega) := ⟨_, rfl⟩
        rw [← ex] at hx hcs
        obtain ⟨x1, x2⟩ := x
        simp only at hx hcs
        obtain ⟨xa, xc, rfl, _, _⟩ := hx.val
        have py := p8.none ky
        simp -dsimp [hil', idxA_nat hil, hcs]
        refine call_by (pask2_spec py.st (by omega) hx t6.cube) ?_
        rintro _ y1 ⟨lv, rfl, l1, hl⟩
        have hcs1 : HC.cellsIn y1[h7.size]? (i * 2) 2 = _ := (congrArg (HC.cellsIn · (i * 2) 2) (l1.blk _ (hfb.2.1) (fun h => h))).trans hcs
        simp -dsimp [idxA_nat hil, hcs1]
        refine call_by (ask14b_spec (py.none l1).rf (by omega) (by omega) (hx.mono ((Tr.of l1).ft (Nat.le_refl 0))) cN) ?_
        rintro _ y2 ⟨mv, rfl, l2, hm⟩
        have l12 := l1.trans l2 fun _ _ h => h
        have hcs2 : HC.cellsIn y2[h7.size]? (i * 2) 2 = _ := (congrArg (HC.cellsIn · (i * 2) 2) (l12.blk _ (hfb.2.1) (fun h => h))).trans hcs
        simp -dsimp [idxA_nat hil, hcs2]
        refine call_by (pserver2_spec (py.none l12).st (by omega) (hx.mono ((Tr.of l12).ft (Nat.le_refl 0))) t6.cube) ?_
        rintro _ y3 ⟨rfl, l3⟩
        have l13 := l12.trans l3 fun _ _ h => h
        have hcs3 : HC.cellsIn y3[h7.size]? (i * 2) 2 = _ := (congrArg (HC.cellsIn · (i * 2) 2) (l13.blk _ (hfb.2.1) (fun h => h))).trans hcs
        simp -dsimp [idxA_nat hil, hcs3]
        refine call_by (server14b_spec (py.none l13).rf (by omega) (by omega) (hx.mono ((Tr.of l13).ft (Nat.le_refl 0))) cN) ?_
        rintro _ y4 ⟨rfl, l4⟩
        rw [← hcom] at hm ⊢
        have l34 := l3.trans l4 fun _ _ h => h
        have l24 := l2.trans l34 fun _ _ h => h
        have rl : SlRep rCell (Old y4) y4 lv _ := (hl.mono (Ft.free (Nat.zero_le _))).mono ((Tr.of l24).ft (Nat.le_refl 0))
        have rm : SlRep rCell (Old y4) y4 mv _ := (hm.mono (Ft.free (Nat.zero_le _))).mono ((Tr.of l34).ft (Nat.le_refl 0))
        simp -dsimp
        refine call_by (rsame_spec rl rm) ?_
        rintro _ y5 ⟨⟨b5, rfl, hb5⟩, l5⟩
        obtain rfl : b5 = true := hb5.2 rfl
        have l15 := (l13.trans l4 fun _ _ h => h).trans l5 fun _ _ h => h
        simp -dsimp [wi]
        exact ⟨i + 1, by simp, rfl, ⟨hil, ky.trans l15 fun _ _ h => h⟩, by show 4 - (i + 1) < 4 - i; omega⟩
      · have hil' : ¬ (i : Int) < 4 := by omega
        simp -dsimp [hil']
        exact ⟨rfl, i, by simp, rfl, ⟨hi, ky⟩, by show i = 4; omega⟩
end Go.Proofs


namespace Go.Proofs.YtgjklplbldgodaaGreatDoor
open Go Go.ChangeShapes Go.WideShapes Go.ChangeAt Go.RowKit Go.HC

theorem own0 : ownKnob Tryz.prog.godebug = none := by kernel_rfl
theorem laid0 : laidOutB Tryz.prog = true := by kernel_rfl
theorem ui : Tryz.prog.underlying 3 = some (.int .i64) := by kernel_rfl
theorem ci : Tryz.prog.cellsOf 3 = 1 := by kernel_rfl
theorem uis : Tryz.prog.underlying 22 = some (.slice 3) := by kernel_rfl
theorem cis : Tryz.prog.cellsOf 22 = 1 := by kernel_rfl
noncomputable def fsS : Array Field := match Tryz.prog.underlying 24 with | some (.struct fs) => fs | _ => #[]
theorem usS : Tryz.prog.underlying 24 = some (.struct fsS) := by kernel_rfl
theorem cS : Tryz.prog.cellsOf 24 = 6 := by kernel_rfl
theorem lS : fsS.map (fun f => (f.type, f.offset)) = #[(3, 0), (3, 1), (3, 2), (3, 3), (22, 4), (22, 5)] := by kernel_rfl
noncomputable def fsQ : Array Field := match Tryz.prog.underlying 27 with | some (.struct fs) => fs | _ => #[]
theorem usQ : Tryz.prog.underlying 27 = some (.struct fsQ) := by kernel_rfl
noncomputable def fsF : Array Field := match Tryz.prog.underlying 57 with | some (.struct fs) => fs | _ => #[]
theorem usF : Tryz.prog.underlying 57 = some (.struct fsF) := by kernel_rfl
theorem cQ : Tryz.prog.cellsOf 27 = 2 := by kernel_rfl
theorem lQ : fsQ.map (fun f => (f.type, f.offset)) = #[(3, 0), (25, 1)] := by kernel_rfl
theorem uf : Tryz.prog.underlying 25 = some (.slice 57) := by kernel_rfl
theorem cf : Tryz.prog.cellsOf 25 = 1 := by kernel_rfl
theorem cF : Tryz.prog.cellsOf 57 = 3 := by kernel_rfl
theorem lF : fsF.map (fun f => (f.type, f.offset)) = #[(3, 0), (3, 1), (3, 2)] := by kernel_rfl
theorem ub : Tryz.prog.underlying 4 = some .bool := by kernel_rfl

theorem door_met (os : Os) (args : Array Value) : laidMetH Tryz.prog Rows.queryAllRow.laid ((World.doorLaid Tryz.prog 4000 os).forCall (fun _ _ => 0) ⟨#[], args, []⟩).memory :=
  laidMetH_of_parts3 (fuel := 8) (laidMet_of_run' 8 (by kernel_rfl) (by kernel_rfl)) (by kernel_rfl) (by kernel_rfl)

set_option maxHeartbeats 8000000 in
set_option maxRecDepth 100000 in
theorem lifted (os : Os) (started : os.Started) (H : Type) (enc : TypeId × Value → H) :
    ReturnsInHanded {} Tryz.checked os 3 .any (fun w args => (Rows.queryAllSpec.pre enc Tryz.prog Tryz.f3 Rows.queryAllRow.domain false w args ∧ laidMetH Tryz.prog Rows.queryAllRow.laid w) ∧ sizedMet enc Tryz.prog Tryz.f3 (OpenSpec.ofChange Rows.queryAllSpec) false w args) (Rows.queryAllSpec.post enc Tryz.prog Tryz.f3 false true false false) := by
  refine returnsInHanded_of_change_and (C := Tryz.checked) (X := fun w _ => laidMetH Tryz.prog Rows.queryAllRow.laid w) (fun _ _ _ hh h => h.of_heap hh) own0 started (by kernel_rfl) Tryz.func3
    (ChangeSpec.witness_shaped (enc := enc) (C := Tryz.checked) (os := os) (X := fun w _ => laidMetH Tryz.prog Rows.queryAllRow.laid w) false (World.doorLaid Tryz.prog 4000 os) #[.agg #[.int .i64 0, .int .i64 0, .int .i64 0, .int .i64 0, .slice none 0 0, .slice none 0 0], .slice none 0 0, .int .i64 0, .slice none 0 0, .agg #[.int .i64 0, .slice none 0 0]] 8 rfl (World.shaped_of_RefB (by kernel_rfl) (by kernel_rfl)) (by kernel_rfl) (by kernel_rfl) (by kernel_rfl) (door_met os _)) ?_
  intro W base args ds gs before hval0 hW _ _ _ _
  have hval : ∀ (j : Nat) t v, Tryz.f3.params[j]? = some t → args[j]? = some v → Value.okWide Tryz.prog W .any base t v := hval0
  have hW' := hW
  obtain ⟨p, q, hA0, hV, rfl, _, _⟩ := hW
  have hA : DataW.TrodAll enc Tryz.prog W 0 (fun _ => true) true Tryz.f3.params.toList args.toList ds p := hA0
  have hps : Tryz.f3.params = #[24, 22, 3, 22, 27] := by kernel_rfl
  rw [hps] at hA hval
  have hA1 := hA
  obtain ⟨v0, vs0, d0, ds0, p0, q0, ha0, hd0, hp0, h0, hr0⟩ := trodAll_cons hA1
  obtain ⟨v1, vs1, d1, ds1, p1, q1, ha1, hd1, hp1, h1, hr1⟩ := trodAll_cons hr0
  obtain ⟨v2, vs2, d2, ds2, p2, q2, ha2, hd2, hp2, h2, hr2⟩ := trodAll_cons hr1
  obtain ⟨v3, vs3, d3, ds3, p3, q3, ha3, hd3, hp3, h3, hr3⟩ := trodAll_cons hr2
  obtain ⟨v4, vs4, d4, ds4, p4, q4, ha4, hd4, hp4, h4, hr4⟩ := trodAll_cons hr3
  obtain ⟨rfl, rfl, rfl⟩ := trodAll_nil hr4
  subst ha4; subst hd4; subst hp4
  subst ha3; subst hd3; subst hp3
  subst ha2; subst hd2; subst hp2
  subst ha1; subst hd1; subst hp1
  subst hd0; subst hp0
  obtain rfl : args = #[v0, v1, v2, v3, v4] := by cases args; simp_all
  obtain ⟨rfl, rfl⟩ := trodVars_none hV
  obtain ⟨na0, nb0, nc0, ne0, w0, z0, xs0, ys0, rfl, x0, y0⟩ := open_shape usS cS lS ui ci uis cis (hval 0 24 v0 rfl rfl) h0
  obtain ⟨a1, x1⟩ := open_intRep uis ui ci (hval 1 22 v1 rfl rfl) h1
  obtain ⟨a2, rfl, _, _, _⟩ := open_int ui (hval 2 3 v2 rfl rfl) h2
  obtain ⟨a3, x3⟩ := open_intRep uis ui ci (hval 3 22 v3 rfl rfl) h3
  obtain ⟨na4, w4, xs4, rfl, _, x4⟩ := open_query usQ cQ lQ ui ci uf cf usF cF lF (hval 4 27 v4 rfl rfl) h4
  clear hA0 hval0
  simp only [List.append_nil] at hW' hA ⊢
  have hlt := fun x hx => hW'.lt x hx
  refine (calls_of (queryAll_spec x0 (fun _ h => h) y0 (fun _ h => h) x1 (fun _ h => h) a2 x3 (fun _ h => h) x4 (fun _ h => h))).mono fun e W' ⟨he, hb⟩ => ?_
  subst he
  refine ⟨_, rfl, _, _, _, _, _, [], hW', trodAll_mk1 (shut_bool ub true), below_trodAll laid0 hb (by kernel_rfl) hA (fun x hx => by simpa using hlt x (by simpa using hx)), rfl, hb.frame _, fun h => by cases h⟩

theorem queryall_holds : Rows.QueryAllSaid :=
  OpenClaim.holds_of_wide 3 Tryz.f3 rfl rfl rfl rfl rfl rfl rfl ⟨rfl, rfl, rfl, rfl, rfl⟩ rfl rfl rfl rfl rfl (by kernel_rfl) Tryz.func3 (by kernel_rfl)
    (of_decide_eq_true (by kernel_rfl)) (by unfold Func.isWrapper; first | (rw [if_pos (by decide +kernel)]; kernel_rfl) | (rw [if_neg (by decide +kernel)]; exact ⟨rfl, rfl⟩))
    (fun os started H enc _ => lifted os started H enc)

theorem queryall_holds_card : Rows.QueryAllCardSaid :=
  Claim7.holds_tied_plain_at .later [] [.data, .data, .data] true Rows.queryAllCard.stood.harness false
    queryall_holds (fun _ h => by cases h) (by kernel_rfl) (fun _ h => by cases h) queryAll_row_tie rfl ⟨rfl, rfl⟩ (by kernel_rfl) rfl
    (fun f fn hf hfn => by
      obtain rfl : f = 3 := Option.some.inj ((show Tryz.prog.funcNamed "hypercube/hypercubelaw14.QueryAll" = some 3 by kernel_rfl).symm.trans hf) |>.symm
      obtain rfl : fn = Tryz.f3 := (Option.some.inj (Tryz.func3.symm.trans hfn)).symm
      exact ⟨by kernel_rfl, fun j t ht => by
        have hps : Tryz.f3.params = #[24, 22, 3, 22, 27] := by kernel_rfl
        rw [hps] at ht
        have hm : t ∈ [24, 22, 3, 22, 27] := by simpa using Array.mem_of_getElem? ht
        have hall : ([24, 22, 3, 22, 27].all fun u => !Tryz.prog.wantsStandIn u) = true := by kernel_rfl
        exact (show Tryz.prog.wantsStandIn t = false by simpa using List.all_eq_true.1 hall t hm)⟩)
    (by kernel_rfl)
end Go.Proofs.YtgjklplbldgodaaGreatDoor
