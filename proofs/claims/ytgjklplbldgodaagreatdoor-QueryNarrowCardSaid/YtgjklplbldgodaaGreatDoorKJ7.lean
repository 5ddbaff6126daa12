/-
  hypercubelaw14.QueryNarrow returns true for all arguments, and its arguments read behind the call as they read ahead of it; the row itself asks of three tables of the library that they read as their text lays them, and the proof does not use that.
-/
import Derived.Test.YtgjklplbldgodaaGreatDoorKBf
import Derived.Test.YtgjklplbldgodaaGreatDoorRows
import Derived.Test.YtgjklplbldgodaaGreatDoorCards
import Derived.Test.YtgjklplbldgodaaGreatDoorTie
import Derived.LaidMore
import Derived.OpenShut
import Derived.Stop.Joined
/-
  QueryNarrow: the walk.
-/
namespace Go.Proofs
open Go Go.HC

set_option maxHeartbeats 2000000 in
set_option maxRecDepth 100000 in
theorem queryNarrow_spec {h : Heap} {d m p q : Int} {F1 F2 F3 F4 : Nat → Prop} {cv nv sv fv : Value} {cards ns sets fs : List Int} (hc : SlRep rInt F1 h cv cards) (hF1 : ∀ b, F1 b → b < h.size) (hn : SlRep rInt F2 h nv ns) (hF2 : ∀ b, F2 b → b < h.size) (hs : SlRep rInt F3 h sv sets) (hF3 : ∀ b, F3 b → b < h.size) (hsl : (sets.length + 1) * 8 ≤ 140737488355328) (set to : Int) (hf : SlRep rInt F4 h fv fs) (hF4 : ∀ b, F4 b → b < h.size) :
    CallH Tryz.prog 9 #[.agg #[.int .i64 d, .int .i64 m, .int .i64 p, .int .i64 q, cv, nv], sv, .int .i64 set, .int .i64 to, fv] h fun r h' => r = .bool true ∧ Keep none_ h h' := by
  refine callH_by fun K hK => ?_
  refine enter [.tmp 10] Tryz.func9 rfl rfl (by kernel_rfl) rfl ?_
  replace hc := hc.mono (F' := Old h) (h' := h) fun b hb => ⟨⟨nz, hF1 b hb, fun h => h⟩, rfl⟩
  have hc0 := hc
  replace hn := hn.mono (F' := Old h) (h' := h) fun b hb => ⟨⟨nz, hF2 b hb, fun h => h⟩, rfl⟩
  have hn0 := hn
  replace hs := hs.mono (F' := Old h) (h' := h) fun b hb => ⟨⟨nz, hF3 b hb, fun h => h⟩, rfl⟩
  have hs0 := hs
  replace hf := hf.mono (F' := Old h) (h' := h) fun b hb => ⟨⟨nz, hF4 b hb, fun h => h⟩, rfl⟩
  have hf0 := hf
  obtain ⟨ca, cc, rfl, _, _⟩ := hc.val
  obtain ⟨na, nc, rfl, _, _⟩ := hn.val
  obtain ⟨sa, sc, rfl, _, _⟩ := hs.val
  obtain ⟨fa, fc, rfl, _, _⟩ := hf.val
  have hok := factsM_ok d cards m ns
  have hr40 := factsM_len d cards m ns
  simp -dsimp [boxS_eq]
  generalize hB : Array.push h _ = h0
  have k0 : Keep none_ h h0 := by rw [← hB]; exact .push _ _ _
  have wA : h0[h.size]? = some (.cells #[.int .i64 d, .int .i64 m, .int .i64 p, .int .i64 q, .slice ca cards.length cc, .slice na ns.length nc] 24 (0, 0)) := by rw [← hB]; exact push_new _ _
  clear hB
  refine call_by (known14_spec h0) ?_
  rintro _ h1 ⟨rfl, k1⟩
  have wA1 := k1.at wA (fun h => h)
  simp -dsimp [wA1]
  refine call_by (few_spec h1) ?_
  rintro _ h2 ⟨rfl, k2⟩
  have k02 : Keep none_ h h2 := (k0.trans k1 fun _ _ h => h).trans k2 fun _ _ h => h
  have wA2 := k2.at wA1 (fun h => h)
  cases hfew : (decide (cards.length ≤ 20) && decide (ns.length ≤ 60)) with
  | false =>
    simp -dsimp
    exact hK _ _ ⟨rfl, k02⟩
  | true =>
    simp -dsimp [wA2]
    refine call_by (smake_spec fun y ky => facts1_spec d m (hc0.mono ((Tr.of (k02.trans ky fun _ _ h => h)).ft (Nat.le_refl 0))) (hn0.mono ((Tr.of (k02.trans ky fun _ _ h => h)).ft (Nat.le_refl 0)))) ?_
    rintro _ h3 ⟨cv1, rv1, rfl, k3, hcv, hrv⟩
    generalize hfs : (factsM d cards m ns).1 = s at *
    generalize hfr : (factsM d cards m ns).2 = rows at *
    obtain ⟨c1a, c1c, rfl, _, _⟩ := hcv.val
    obtain ⟨r1a, r1c, rfl, _, _⟩ := hrv.val
    simp -dsimp
    generalize hD : Array.push (Array.push h3 _) _ = h4
    have k4 : Keep none_ h3 h4 := by rw [← hD]; exact ((Keep.refl none_ h3).pushed _).pushed _
    have z4 : h4.size = h3.size + 2 := by rw [← hD]; simp
    have v1 : h4[h3.size]? = some (.cells #[.slice none 0 0, .int .i64 0] 30 (0, 0)) := by rw [← hD]; exact push_at (push_new _ _)
    have v2 : h4[h3.size + 1]? = some (.cells #[.int .i64 0, .int .i64 0] 33 (0, 0)) := by rw [← hD]; exact push_get (by simp)
    have hsm1 : ∀ o, (Array.setIfInBounds h4 h3.size o)[h3.size]? = some o := fun o => set_same _ (lt_of_blk v1)
    have k3s := k3.size
    have k02s := k02.size
    have wA3 := k3.at wA2 (fun h => h)
    have wA4 := k4.at wA3 (fun h => h)
    have lA := lt_of_blk wA3
    have hsA : ∀ o, (Array.setIfInBounds h4 h3.size o)[h.size]? = h4[h.size]? := fun o => set_other _ (by omega)
    have hsB : ∀ (g : Heap) o, (Array.setIfInBounds g (h3.size + 1) o)[h.size]? = g[h.size]? := fun g o => set_other _ (by omega)
    clear hD
    simp -dsimp [v1, v2, set_other _ (show h3.size ≠ h3.size + 1 by omega)]
    generalize hE : Array.setIfInBounds (Array.setIfInBounds h4 _ _) _ _ = h5
    have kE : Keep none_ h3 h5 := by rw [← hE]; exact (k4.setted _ fun hh => by omega).setted _ fun hh => by omega
    have z5 : h5.size = h3.size + 2 := by rw [← hE]; simpa using z4
    have vS : h5[h3.size]? = some (.cells #[.slice c1a s.cards.length c1c, .int .i64 s.ms] 30 (0, 0)) := by rw [← hE]; exact (set_other _ (by omega)).trans (set_same _ (by omega))
    have wA5 := kE.at wA3 (fun h => h)
    clear hE hsm1 hsA hsB v1 v2 wA4 k4 z4
    have k05 : Keep none_ h h5 := (k02.trans k3 fun _ _ h => h).trans kE fun _ _ h => h
    have hd := hok.dims
    have hms := hok.ms
    have tE : ∀ b, Ft h2.size none_ h3 b → Old h5 b ∧ h5[b]? = h3[b]? := fun b hb => by
      have e : h5[b]? = h3[b]? := kE.blk b hb.2.1 (fun h => h)
      exact ⟨⟨nz, Nat.lt_of_lt_of_le hb.2.1 kE.size, fun h => h⟩, e⟩
    have rc5 := hcv.mono tE
    have rr5 := hrv.mono tE
    have hp0 := pow2_pos s.cards.length
    have hp4 : (2 : Int) ^ s.cards.length ≤ 2 ^ 4 := pow2_le hd.2
    have hpz : ((2 ^ s.cards.length : Nat) : Int) = 2 ^ s.cards.length := by simp
    have hsh := shl_one (k := s.cards.length) (by omega)
    have hshv : binV Tryz.prog .shl 3 (.int .i64 1) (.int .u64 (IntKind.u64.wrap (s.cards.length : Int))) = some (.int .i64 (2 ^ s.cards.length)) := hsh
    have z05 := k05.size
    have hful : IntKind.i64.wrap (2 ^ s.cards.length - 1) = 2 ^ s.cards.length - 1 := wrap_i64 (by omega) (by omega)
    obtain ⟨fu, efu⟩ : ∃ fu : Int, fu = 2 ^ s.cards.length - 1 := ⟨_, rfl⟩
    have hfu : setN s.cards fu = 2 ^ s.cards.length - 1 := by
      have h1 := setN_eq (cards := s.cards) fu
      have h2 : withinM fu (2 ^ s.cards.length) = fu := by
        unfold withinM
        rw [Int.tmod_eq_emod_of_nonneg (by omega), Int.emod_eq_of_lt (by omega) (by omega), if_neg (by omega)]
      rw [h2] at h1
      omega
    have wA5p : ∀ o, (Array.push h5 o)[h.size]? = some (.cells #[.int .i64 d, .int .i64 m, .int .i64 p, .int .i64 q, .slice ca cards.length cc, .slice na ns.length nc] 24 (0, 0)) := fun o => push_at wA5
    refine drawn_by [⟨0, true, []⟩, ⟨1, true, []⟩, ⟨2, true, []⟩, ⟨3, true, []⟩, ⟨4, true, []⟩, ⟨5, true, []⟩, ⟨6, true, []⟩, ⟨8, true, []⟩, ⟨7, false, [0, 8]⟩, ⟨9, false, [0]⟩, ⟨10, false, []⟩, ⟨11, true, []⟩, ⟨12, true, []⟩, ⟨13, true, []⟩, ⟨14, true, []⟩, ⟨15, true, []⟩] (by kernel_rfl) (by kernel_rfl) ?_
    have tO := (Tr.of k05).ft (n := 0) (n' := 0) (Nat.le_refl 0)
    simp -dsimp [-intRes_shl, vS, wA5, wA5p, hshv, hful, again_cons]
    rw [← efu]
    refine app_one intT (hs0.mono tO) (fun b h => h.2.1) hsl ?_
    intro v1 h5y hv1 k5y
    obtain ⟨v1a, v1c, rfl, _, _⟩ := hv1.val
    have k05y : Keep none_ h h5y := k05.trans k5y fun _ _ h => h
    have tO6 := (Tr.of k05y).ft (n := 0) (n' := 0) (Nat.le_refl 0)
    simp -dsimp [k5y.at wA5 (fun h => h), again_cons]
    refine call_by (both14_spec (hc0.mono tO6) (hn0.mono tO6) (hv1.mono (Ft.free (Nat.zero_le _)))) ?_
    rw [hfs, hfr]
    rintro _ h6 ⟨vp, w, F, G, M, N, ks, n, rfl, k6, p6, t6, hn6, hks⟩
    have k06 : Keep none_ h h6 := k05y.trans k6 fun _ _ h => h
    have k56 : Keep none_ h5 h6 := k5y.trans k6 fun _ _ h => h
    have vS6 := k56.at vS (fun h => h)
    have rc6 := rc5.mono ((Tr.of k56).ft (n := 0) (n' := 0) (Nat.le_refl 0))
    have sok := hok.sch
    have f1 : (M.look (nameK ((2 ^ s.cards.length - 1 : Nat) : Int))).isSome = true := (t6.com _ (by omega)).2 (by have := hks 0 (by simp) (by omega); rwa [List.getElem_cons_zero, hfu] at this)
    have um := t6.smM.used
    simp -dsimp [vS6, again_cons]
    refine call_by (query14_spec sok set rc6 (hf0.mono ((Tr.of k06).ft (Nat.le_refl 0)))) ?_
    rintro _ h7 ⟨qv, rfl, hq, k7⟩
    obtain ⟨a, ea⟩ : ∃ a, a = withinM set (2 ^ s.cards.length) := ⟨_, rfl⟩
    have hab := withinM_bound (a := set) hp0
    rw [← ea] at hab ⊢
    have hr := fils_right sok hab fs
    obtain ⟨fl, efl⟩ : ∃ fl, fl = filsM s.cards fs := ⟨_, rfl⟩
    rw [← efl] at hq hr
    obtain ⟨q1, q2, rfl, _, _⟩ := hq.val
    simp -dsimp
    rw [push_set rfl]
    generalize hQ : Array.push h7 _ = h8
    have k8 : Keep none_ h7 h8 := by rw [← hQ]; exact .push _ _ _
    have z8 : h8.size = h7.size + 1 := by rw [← hQ]; simp
    have wQ : h8[h7.size]? = some (.cells #[.int .i64 a, .slice q1 fl.length q2] 27 (0, 0)) := by rw [← hQ]; exact push_new _ _
    clear hQ
    have hq8 : SlRep rFil (Old h8) h8 (.slice q1 fl.length q2) fl := (hq.mono (Ft.free (Nat.zero_le _))).mono ((Tr.of k8).ft (Nat.le_refl 0))
    have wn : Within a (andM a (withinM to 16)) s.cards.length := within_and hd.2 hab.1 hab.2
    obtain ⟨b, eb⟩ : ∃ b, b = andM a (withinM to 16) := ⟨_, rfl⟩
    have handv : binV Tryz.prog .and 3 (.int .i64 a) (.int .i64 (withinM to 16)) = some (.int .i64 b) := by rw [eb]; exact and_op a (withinM to 16)
    rw [← eb] at wn
    have wQp : ∀ o, (Array.push h8 o)[h7.size]? = some (.cells #[.int .i64 a, .slice q1 fl.length q2] 27 (0, 0)) := fun o => push_at wQ
    have hrb := right_set' hr ⟨wn.b0, wn.b1⟩
    have e1 := err_full hok f1 hr
    have e2 := err_full hok f1 hrb
    have hokf := hok.sub (rows' := rows.filter (rowBy fl)) List.filter_sublist
    have hcub := cub_ok hokf hab.1 hab.2
    have hsm := (set_small hokf a).2
    have hcll := hcub.len
    have k68 : Keep none_ h6 h8 := k7.trans k8 fun _ _ h => h
    have hnz : ¬ h7.size = h8.size := by omega
    try simp -dsimp
    refine drawn_byT (.node 3 8 (.node 7 8 (.leaf [⟨0, true, []⟩, ⟨1, true, []⟩, ⟨2, true, []⟩, ⟨5, true, []⟩, ⟨6, true, []⟩, ⟨3, false, [0, 1, 5, 6]⟩, ⟨4, true, []⟩, ⟨7, false, []⟩, ⟨8, false, []⟩, ⟨9, false, []⟩]) (.leaf [⟨0, true, []⟩, ⟨1, true, []⟩, ⟨2, true, []⟩, ⟨5, true, []⟩, ⟨6, true, []⟩, ⟨3, false, [0, 1, 5, 6]⟩, ⟨4, true, []⟩, ⟨8, false, [0, 1, 5, 6, 4]⟩, ⟨7, false, []⟩, ⟨9, false, []⟩])) (.leaf [⟨0, true, []⟩, ⟨1, true, []⟩, ⟨2, true, []⟩, ⟨5, true, []⟩, ⟨6, true, []⟩, ⟨8, false, [0, 1, 2, 5, 6]⟩, ⟨3, false, [0, 1, 5, 6]⟩, ⟨4, true, []⟩, ⟨7, false, []⟩, ⟨9, false, []⟩])) (by kernel_rfl) (by kernel_rfl) ⟨⟨?L0, ?L1⟩, ?L2⟩
    all_goals
      rw [treeW_leaf]
      simp -dsimp [wQ, wQp, again_cons]
      refine call_by (within14_spec to 16 (by omega) (by omega) _) ?_
      rintro _ y' ⟨rfl, hh⟩
      obtain rfl := hh.symm
      simp -dsimp [wQ, wQp, again_cons, handv]
      rw [push_set rfl]
      generalize hZ : Array.push h8 _ = h9
      have k9 : Keep none_ h8 h9 := by rw [← hZ]; exact .push _ _ _
      have wB : h9[h8.size]? = some (.cells #[.int .i64 b, .slice q1 fl.length q2] 27 (0, 0)) := by rw [← hZ]; exact push_new _ _
      clear hZ
      have wQ9 := k9.at wQ (fun h => h)
      have hq9 := hq8.mono ((Tr.of k9).ft (n := 0) (n' := 0) (Nat.le_refl 0))
      have k69 : Keep none_ h6 h9 := k68.trans k9 fun _ _ h => h
      simp -dsimp [wQ9]
      refine call_by (pask2_spec (p6.none k69).st (by omega) hq9 t6.cube) ?_
      rintro _ y1 ⟨lv, rfl, k1y, hl⟩
      rw [ans_rows hok hr e1] at hl
      rw [e1]
      obtain ⟨la, lc, rfl, _, _⟩ := hl.val
      have k61 : Keep none_ h6 y1 := k69.trans k1y fun _ _ h => h
      simp -dsimp [k1y.at wB (fun h => h)]
      refine call_by (pask2_spec (p6.none k61).st (by omega) (hq9.mono ((Tr.of k1y).ft (n := 0) (n' := 0) (Nat.le_refl 0))) t6.cube) ?_
      rintro _ y2 ⟨mv, rfl, k2y, hm⟩
      rw [ans_rows hok hrb e2] at hm
      rw [e2]
      have k62 : Keep none_ h6 y2 := k61.trans k2y fun _ _ h => h
      have k92 : Keep none_ h9 y2 := k1y.trans k2y fun _ _ h => h
      have wQ2 := k92.at wQ9 (fun h => h)
      have wB2 := k92.at wB (fun h => h)
      have rl2 : SlRep rCell (Old y2) y2 (.slice la _ lc) _ := (hl.mono (Ft.free (Nat.zero_le _))).mono ((Tr.of k2y).ft (Nat.le_refl 0))
      have rm2 : SlRep rCell (Old y2) y2 mv _ := hm.mono (Ft.free (Nat.zero_le _))
      have hnl := narrow_law hok wn fl
      generalize groupC ((rows.filter (rowBy fl)).map (ofM a)) = ln at rl2 hnl hcub hsm hcll
      generalize groupC ((rows.filter (rowBy fl)).map (ofM b)) = mn at rm2 hnl
      obtain ⟨ma, mc, rfl, _, _⟩ := rm2.val
      have hpl : ∀ c ∈ ln, c.key.length = (dimsM a).length := fun c hc => (hcub.cel c hc).klen
      simp -dsimp
      refine loopc (σ := Nat × Value) (fun t => [(16, .pointer (some ⟨h7.size, 0, none⟩)), (17, .pointer (some ⟨h8.size, 0, none⟩)), (18, .slice la ln.length lc), (19, .int .i64 0), (20, .slice ma mn.length mc), (21, .int .i64 0), (22, t.2), (23, .int .i64 t.1)])
        (fun t y => t.1 ≤ ln.length ∧ ∃ M1 own, Tr none_ M1 y2 y ∧ Gr rCell 65 0 M1 y t.2 ((ln.take t.1).map (narrowC a b)) own)
        (fun t => ln.length - t.1) (0, .slice none 0 0) 0 (fun t _ => t.1 = ln.length) noRet noRet_le (by simp) ⟨Nat.zero_le _, none_, none, .start _, .nil _ _ _ _ _⟩ (by kernel_rfl) ?_ ?_
      · rintro ⟨i, v⟩ y g ⟨hi, M1, own, t, gr⟩
        simp only at hi gr
        obtain ⟨va, vn, vc, rfl, hvn⟩ := gr.vals
        have wi := wrap_succ (k := i) (by omega)
        by_cases hil : i < ln.length
        · obtain ⟨bk, off, cs, e3, hfb, hrep, hcs⟩ := (rl2.mono t.old).get i hil
          cases e3
          obtain ⟨c, ec⟩ : ∃ c, c = ln[i] := ⟨_, rfl⟩
          have hcm : c ∈ ln := by rw [ec]; exact List.getElem_mem hil
          rw [← ec] at hrep
          have hrep0 := hrep.imp fun _ h => h
          obtain ⟨ka, kc, sa', sc', na', nc', xa', xc', rfl, hk1, _⟩ := cell_open hrep
          have hcs0 : HC.cellIn y[bk]? (off + i * 5) = some (.slice ka c.key.length kc) := by
            have := cellsIn_cell (d := 0) hcs (by decide)
            simpa [rCell] using this
          have hcs5 : HC.cellsIn y[bk]? (off + i * 5) 5 = some [.slice ka c.key.length kc, .int .i64 c.count, .slice sa' c.sum.length sc', .slice na' c.mn.length nc', .slice xa' c.mx.length xc'] := hcs
          have wQy := t.at wQ2 (fun h => h)
          have wBy := t.at wB2 (fun h => h)
          simp -dsimp [hil]
          refine drawn_by [⟨0, true, []⟩, ⟨1, true, []⟩, ⟨2, true, []⟩, ⟨3, true, []⟩, ⟨4, true, []⟩, ⟨5, true, []⟩, ⟨6, true, []⟩, ⟨7, true, []⟩, ⟨8, false, [0, 1, 2, 3, 4, 5]⟩, ⟨9, true, []⟩] (by kernel_rfl) (by kernel_rfl) ?_
          simp -dsimp [idxV_nat hil, elSz_eq, hcs0, wQy]
          refine call_by (rlevel_spec a _) ?_
          rintro _ y' ⟨rfl, hh⟩
          obtain rfl := hh.symm
          have ekl : ((c.key.length : Int) == ((dimsM a).length : Int)) = true := by rw [hpl c hcm]; simp
          simp -dsimp [idxV_nat hil, elSz_eq, hcs0, wQy, again_cons, hpl c hcm]
          refine drawn_by [⟨0, true, []⟩, ⟨1, true, []⟩, ⟨2, true, []⟩, ⟨3, true, []⟩, ⟨4, true, []⟩, ⟨5, true, []⟩, ⟨6, true, []⟩, ⟨7, true, []⟩, ⟨8, true, []⟩, ⟨9, false, [0]⟩, ⟨10, false, [0]⟩, ⟨11, false, []⟩, ⟨12, true, []⟩] (by kernel_rfl) (by kernel_rfl) ?_
          simp -dsimp [idxV_nat hil, elSz_eq, hcs5, wQy, wBy]
          have hrepO : rCell.rep (Old y) y [.slice ka c.key.length kc, .int .i64 c.count, .slice sa' c.sum.length sc', .slice na' c.mn.length nc', .slice xa' c.mx.length xc'] c := rCell.mono hrep0 (Ft.free (Nat.le_refl 0))
          refine call_by (rnarrow_spec a b hrepO (hsm c hcm) (hpl c hcm)) ?_
          rintro _ y3 ⟨ds, rfl, hds, k3y⟩
          have t3 := t.call k3y
          have g3 := gr.call k3y
          have hds3 : rCell.rep (Ft 0 M1 y3) y3 ds (narrowC a b c) := rCell.mono hds (t.ret (Nat.zero_le _))
          obtain ⟨kb, kd, sb, sd, nb, nd, xb, xd, rfl, _⟩ := cell_open hds3
          have wB3 := k3y.at wBy (fun h => h)
          have wB3p : ∀ o, (Array.push y3 o)[h8.size]? = some (.cells #[.int .i64 b, .slice q1 fl.length q2] 27 (0, 0)) := fun o => push_at wB3
          have wQ3 := k3y.at wQy (fun h => h)
          have wQ3p : ∀ o, (Array.push y3 o)[h7.size]? = some (.cells #[.int .i64 a, .slice q1 fl.length q2] 27 (0, 0)) := fun o => push_at wQ3
          simp -dsimp [again_cons, wB3, wB3p, wQ3, wQ3p]
          have hlt : ((ln.take i).map (narrowC a b)).length = i := by rw [List.length_map, List.length_take]; omega
          refine gr_app1 (x := narrowC a b c) rfl cellT g3 t3.lt hds3 rfl (by omega) (by omega) ?_
          intro v' y4 own' g4 t4 k4y ho
          obtain ⟨va', vn', vc', rfl, _⟩ := g4.vals
          simp -dsimp [wi]
          refine ⟨(i + 1, .slice va' vn' vc'), by simp, rfl, ⟨hil, _, own', t3.trans t4, ?_⟩, by show ln.length - (i + 1) < ln.length - i; omega⟩
          show Gr rCell _ _ _ _ _ ((ln.take (i + 1)).map (narrowC a b)) _
          rw [List.take_add_one, List.getElem?_eq_getElem hil, Option.toList_some, List.map_append, List.map_singleton, ← ec]
          exact g4
        · simp -dsimp [hil]
          exact ⟨rfl, (i, .slice va vn vc), by simp, rfl, ⟨hi, M1, own, t, gr⟩, by show i = _; omega⟩
      rintro ⟨i, v⟩ y g ⟨hi, M1, own, t, gr⟩ hin
      simp only at hi gr hin
      subst hin
      rw [List.take_length] at gr
      obtain ⟨va, vn, vc, rfl, hvn⟩ := gr.vals
      have ky : Keep none_ y2 y := t.keep
      have rn := gr.rep (n' := 0) (Nat.le_refl _) (fun _ _ => Nat.zero_le _)
      simp -dsimp
      refine call_by (rgroup_spec (m := s.ms.toNat) rn (by rw [List.length_map]; omega) (by omega) fun c hc => ?_) ?_
      · obtain ⟨c0, hc0', rfl⟩ := List.mem_map.1 hc
        exact narrow_sml (cel_sml (hcub.cel c0 hc0'))
      rintro gv y3 ⟨hg, k3y⟩
      rw [hnl] at hg
      simp -dsimp
      have k23 : Keep none_ y2 y3 := ky.trans k3y fun _ _ h => h
      refine call_by (rsame_spec hg (rm2.mono ((Tr.of k23).ft (n := 0) (n' := 0) (Nat.le_refl 0)))) ?_
      rintro _ y4 ⟨⟨b4, rfl, hb4⟩, k4y⟩
      obtain rfl : b4 = true := hb4.2 rfl
      simp -dsimp
      exact hK _ _ ⟨rfl, ((k06.trans k62 fun _ _ h => h).trans k23 fun _ _ h => h).trans k4y fun _ _ h => h⟩
end Go.Proofs


namespace Go.Proofs.YtgjklplbldgodaaGreatDoor
open Go Go.ChangeShapes Go.WideShapes Go.ChangeAt Go.RowKit Go.HC

theorem own0 : ownKnob Tryz.prog.godebug = none := by kernel_rfl
theorem laid0 : laidOutB Tryz.prog = true := by kernel_rfl
theorem ui : Tryz.prog.underlying 3 = some (.int .i64) := by kernel_rfl
theorem ci : Tryz.prog.cellsOf 3 = 1 := by kernel_rfl
theorem uis : Tryz.prog.underlying 22 = some (.slice 3) := by kernel_rfl
theorem cis : Tryz.prog.cellsOf 22 = 1 := by kernel_rfl
theorem bi : Tryz.prog.bytesOf 3 = 8 := by kernel_rfl
noncomputable def fsS : Array Field := match Tryz.prog.underlying 24 with | some (.struct fs) => fs | _ => #[]
theorem usS : Tryz.prog.underlying 24 = some (.struct fsS) := by kernel_rfl
theorem cS : Tryz.prog.cellsOf 24 = 6 := by kernel_rfl
theorem lS : fsS.map (fun f => (f.type, f.offset)) = #[(3, 0), (3, 1), (3, 2), (3, 3), (22, 4), (22, 5)] := by kernel_rfl
theorem ub : Tryz.prog.underlying 4 = some .bool := by kernel_rfl

theorem door_met (os : Os) (args : Array Value) : laidMetH Tryz.prog Rows.queryNarrowRow.laid ((World.doorLaid Tryz.prog 4000 os).forCall (fun _ _ => 0) ⟨#[], args, []⟩).memory :=
  laidMetH_of_parts3 (fuel := 8) (laidMet_of_run' 8 (by kernel_rfl) (by kernel_rfl)) (by kernel_rfl) (by kernel_rfl)

set_option maxHeartbeats 8000000 in
set_option maxRecDepth 100000 in
theorem lifted (os : Os) (started : os.Started) (H : Type) (enc : TypeId × Value → H) :
    ReturnsInHanded {} Tryz.checked os 9 .any (fun w args => (Rows.queryNarrowSpec.pre enc Tryz.prog Tryz.f9 Rows.queryNarrowRow.domain false w args ∧ laidMetH Tryz.prog Rows.queryNarrowRow.laid w) ∧ sizedMet enc Tryz.prog Tryz.f9 (OpenSpec.ofChange Rows.queryNarrowSpec) false w args) (Rows.queryNarrowSpec.post enc Tryz.prog Tryz.f9 false true false false) := by
  refine returnsInHanded_of_change_and (C := Tryz.checked) (X := fun w _ => laidMetH Tryz.prog Rows.queryNarrowRow.laid w) (fun _ _ _ hh h => h.of_heap hh) own0 started (by kernel_rfl) Tryz.func9
    (ChangeSpec.witness_shaped (enc := enc) (C := Tryz.checked) (os := os) (X := fun w _ => laidMetH Tryz.prog Rows.queryNarrowRow.laid w) false (World.doorLaid Tryz.prog 4000 os) #[.agg #[.int .i64 0, .int .i64 0, .int .i64 0, .int .i64 0, .slice none 0 0, .slice none 0 0], .slice none 0 0, .int .i64 0, .int .i64 0, .slice none 0 0] 8 rfl (World.shaped_of_RefB (by kernel_rfl) (by kernel_rfl)) (by kernel_rfl) (by kernel_rfl) (by kernel_rfl) (door_met os _)) ?_
  intro W base args ds gs before hval0 hW _ hwz _ _
  have hval : ∀ (j : Nat) t v, Tryz.f9.params[j]? = some t → args[j]? = some v → Value.okWide Tryz.prog W .any base t v := hval0
  have hW' := hW
  obtain ⟨p, q, hA0, hV, rfl, _, _⟩ := hW
  have hA : DataW.TrodAll enc Tryz.prog W 0 (fun _ => true) true Tryz.f9.params.toList args.toList ds p := hA0
  have hps : Tryz.f9.params = #[24, 22, 3, 3, 22] := by kernel_rfl
  rw [hps] at hA hval
  have hA1 := hA
  obtain ⟨v0, vs0, d0, ds0, p0, q0, ha0, hd0, hp0, h0, hr0⟩ := trodAll_cons hA1
  obtain ⟨v1, vs1, d1, ds1, p1, q1, ha1, hd1, hp1, h1, hr1⟩ := trodAll_cons hr0
  obtain ⟨v2, vs2, d2, ds2, p2, q2, ha2, hd2, hp2, h2, hr2⟩ := trodAll_cons hr1
  obtain ⟨v3, vs3, d3, ds3, p3, q3, ha3, hd3, hp3, h3, hr3⟩ := trodAll_cons hr2
  obtain ⟨v4, vs4, d4, ds4, p4, q4, ha4, hd4, hp4, h4, hr4⟩ := trodAll_cons hr3
  obtain ⟨rfl, rfl, rfl⟩ := trodAll_nil hr4
  subst ha4; subst hd4; subst hp4
  subst ha3; subst hd3; subst hp3
  subst ha2; subst hd2; subst hp2
  subst ha1; subst hd1; subst hp1
  subst hd0; subst hp0
  obtain rfl : args = #[v0, v1, v2, v3, v4] := by cases args; simp_all
  obtain ⟨rfl, rfl⟩ := trodVars_none hV
  have hz : (DataW.weightsEach Tryz.prog [24, 22, 3, 3, 22] [d0, d1, d2, d3, d4]).all (fun x => decide (x ≤ reachBytes)) = true := by
    have hx : (DataW.weightsEach Tryz.prog (Tryz.f9.params.toList ++ Rows.queryNarrowSpec.plain.varTypes Tryz.prog) ([d0, d1, d2, d3, d4] ++ [])).all (fun x => decide (x ≤ reachBytes)) = true := hwz
    rw [show (Tryz.f9.params.toList ++ Rows.queryNarrowSpec.plain.varTypes Tryz.prog) = [24, 22, 3, 3, 22] by kernel_rfl] at hx
    simpa using hx
  simp only [DataW.weightsEach, List.all_append, Bool.and_eq_true] at hz
  obtain ⟨z0, z1, z2, z3, z4, _⟩ := hz
  obtain ⟨na0, nb0, nc0, ne0, w0, z0, xs0, ys0, rfl, x0, y0⟩ := open_shape usS cS lS ui ci uis cis (hval 0 24 v0 rfl rfl) h0
  obtain ⟨a1, x1, b1⟩ := open_intW uis ui ci bi (hval 1 22 v1 rfl rfl) h1 z1
  obtain ⟨a2, rfl, _, _, _⟩ := open_int ui (hval 2 3 v2 rfl rfl) h2
  obtain ⟨a3, rfl, _, _, _⟩ := open_int ui (hval 3 3 v3 rfl rfl) h3
  obtain ⟨a4, x4⟩ := open_intRep uis ui ci (hval 4 22 v4 rfl rfl) h4
  clear hA0 hval0
  simp only [List.append_nil] at hW' hA ⊢
  have hlt := fun x hx => hW'.lt x hx
  refine (calls_of (queryNarrow_spec x0 (fun _ h => h) y0 (fun _ h => h) x1 (fun _ h => h) b1 a2 a3 x4 (fun _ h => h))).mono fun e W' ⟨he, hb⟩ => ?_
  subst he
  refine ⟨_, rfl, _, _, _, _, _, [], hW', trodAll_mk1 (shut_bool ub true), below_trodAll laid0 hb (by kernel_rfl) hA (fun x hx => by simpa using hlt x (by simpa using hx)), rfl, hb.frame _, fun h => by cases h⟩

theorem querynarrow_holds : Rows.QueryNarrowSaid :=
  OpenClaim.holds_of_wide 9 Tryz.f9 rfl rfl rfl rfl rfl rfl rfl ⟨rfl, rfl, rfl, rfl, rfl⟩ rfl rfl rfl rfl rfl (by kernel_rfl) Tryz.func9 (by kernel_rfl)
    (of_decide_eq_true (by kernel_rfl)) (by unfold Func.isWrapper; first | (rw [if_pos (by decide +kernel)]; kernel_rfl) | (rw [if_neg (by decide +kernel)]; exact ⟨rfl, rfl⟩))
    (fun os started H enc _ => lifted os started H enc)

theorem querynarrow_holds_card : Rows.QueryNarrowCardSaid :=
  Claim7.holds_tied_plain_at .later [] [.data, .data, .data] true Rows.queryNarrowCard.stood.harness false
    querynarrow_holds (fun _ h => by cases h) (by kernel_rfl) (fun _ h => by cases h) queryNarrow_row_tie rfl ⟨rfl, rfl⟩ (by kernel_rfl) rfl
    (fun f fn hf hfn => by
      obtain rfl : f = 9 := Option.some.inj ((show Tryz.prog.funcNamed "hypercube/hypercubelaw14.QueryNarrow" = some 9 by kernel_rfl).symm.trans hf) |>.symm
      obtain rfl : fn = Tryz.f9 := (Option.some.inj (Tryz.func9.symm.trans hfn)).symm
      exact ⟨by kernel_rfl, fun j t ht => by
        have hps : Tryz.f9.params = #[24, 22, 3, 3, 22] := by kernel_rfl
        rw [hps] at ht
        have hm : t ∈ [24, 22, 3, 3, 22] := by simpa using Array.mem_of_getElem? ht
        have hall : ([24, 22, 3, 3, 22].all fun u => !Tryz.prog.wantsStandIn u) = true := by kernel_rfl
        exact (show Tryz.prog.wantsStandIn t = false by simpa using List.all_eq_true.1 hall t hm)⟩)
    (by kernel_rfl)
end Go.Proofs.YtgjklplbldgodaaGreatDoor
