/-
  hypercubelaw14.QueryParts returns true for all arguments, and its arguments read behind the call as they read ahead of it; the row itself asks of three tables of the library that they read as their text lays them, and the proof does not use that.
-/
import Derived.Test.YtgjklplbldgodaaGreatDoorKBf
import Derived.Test.YtgjklplbldgodaaGreatDoorRows
import Derived.Test.YtgjklplbldgodaaGreatDoorCards
import Derived.Test.YtgjklplbldgodaaGreatDoorTie
import Derived.LaidMore
import Derived.OpenShut
import Derived.Stop.Joined
/-
  QueryParts: the walk.
-/
namespace Go.Proofs
open Go Go.HC

set_option maxHeartbeats 2000000 in
set_option maxRecDepth 100000 in
theorem queryParts_spec {h : Heap} {d m p q : Int} {F1 F2 : Nat → Prop} {cv nv : Value} {cards ns : List Int} (hc : SlRep rInt F1 h cv cards) (hF1 : ∀ b, F1 b → b < h.size) (hn : SlRep rInt F2 h nv ns) (hF2 : ∀ b, F2 b → b < h.size) (dim set : Int) :
    CallH Tryz.prog 5 #[.agg #[.int .i64 d, .int .i64 m, .int .i64 p, .int .i64 q, cv, nv], .int .i64 dim, .int .i64 set] h fun r h' => r = .bool true ∧ Keep none_ h h' := by
  refine callH_by fun K hK => ?_
  refine enter [.tmp 6] Tryz.func5 rfl rfl (by kernel_rfl) rfl ?_
  replace hc := hc.mono (F' := Old h) (h' := h) fun b hb => ⟨⟨nz, hF1 b hb, fun h => h⟩, rfl⟩
  have hc0 := hc
  replace hn := hn.mono (F' := Old h) (h' := h) fun b hb => ⟨⟨nz, hF2 b hb, fun h => h⟩, rfl⟩
  have hn0 := hn
  obtain ⟨ca, cc, rfl, _, _⟩ := hc.val
  obtain ⟨na, nc, rfl, _, _⟩ := hn.val
  have hok := factsM_ok d cards m ns
  have hr40 := factsM_len d cards m ns
  simp -dsimp [boxS_eq]
  generalize hB : Array.push h _ = h0
  have k0 : Keep none_ h h0 := by rw [← hB]; exact .push _ _ _
  have wA : h0[h.size]? = some (.cells #[.int .i64 d, .int .i64 m, .int .i64 p, .int .i64 q, .slice ca cards.length cc, .slice na ns.length nc] 24 (0, 0)) := by rw [← hB]; exact push_new _ _
  clear hB
  refine call_by (known14_spec h0) ?_
  rintro _ h1 ⟨rfl, k1⟩
  have wA1 := k1.at wA (fun h => h)
  simp -dsimp [wA1]
  refine call_by (few_spec h1) ?_
  rintro _ h2 ⟨rfl, k2⟩
  have k02 : Keep none_ h h2 := (k0.trans k1 fun _ _ h => h).trans k2 fun _ _ h => h
  have wA2 := k2.at wA1 (fun h => h)
  cases hfew : (decide (cards.length ≤ 20) && decide (ns.length ≤ 60)) with
  | false =>
    simp -dsimp
    exact hK _ _ ⟨rfl, k02⟩
  | true =>
    simp -dsimp [wA2]
    refine call_by (smake_spec fun y ky => facts1_spec d m (hc0.mono ((Tr.of (k02.trans ky fun _ _ h => h)).ft (Nat.le_refl 0))) (hn0.mono ((Tr.of (k02.trans ky fun _ _ h => h)).ft (Nat.le_refl 0)))) ?_
    rintro _ h3 ⟨cv1, rv1, rfl, k3, hcv, hrv⟩
    generalize hfs : (factsM d cards m ns).1 = s at *
    generalize hfr : (factsM d cards m ns).2 = rows at *
    obtain ⟨c1a, c1c, rfl, _, _⟩ := hcv.val
    obtain ⟨r1a, r1c, rfl, _, _⟩ := hrv.val
    simp -dsimp
    generalize hD : Array.push (Array.push h3 _) _ = h4
    have k4 : Keep none_ h3 h4 := by rw [← hD]; exact ((Keep.refl none_ h3).pushed _).pushed _
    have z4 : h4.size = h3.size + 2 := by rw [← hD]; simp
    have v1 : h4[h3.size]? = some (.cells #[.slice none 0 0, .int .i64 0] 30 (0, 0)) := by rw [← hD]; exact push_at (push_new _ _)
    have v2 : h4[h3.size + 1]? = some (.cells #[.int .i64 0, .int .i64 0] 33 (0, 0)) := by rw [← hD]; exact push_get (by simp)
    have hsm1 : ∀ o, (Array.setIfInBounds h4 h3.size o)[h3.size]? = some o := fun o => set_same _ (lt_of_blk v1)
    have k3s := k3.size
    have k02s := k02.size
    have wA3 := k3.at wA2 (fun h => h)
    have wA4 := k4.at wA3 (fun h => h)
    have lA := lt_of_blk wA3
    have hsA : ∀ o, (Array.setIfInBounds h4 h3.size o)[h.size]? = h4[h.size]? := fun o => set_other _ (by omega)
    have hsB : ∀ (g : Heap) o, (Array.setIfInBounds g (h3.size + 1) o)[h.size]? = g[h.size]? := fun g o => set_other _ (by omega)
    clear hD
    simp -dsimp [v1, v2, set_other _ (show h3.size ≠ h3.size + 1 by omega), hsm1, hsA, hsB, wA4]
    generalize hE : Array.setIfInBounds (Array.setIfInBounds h4 _ _) _ _ = h5
    have kE : Keep none_ h3 h5 := by rw [← hE]; exact (k4.setted _ fun hh => by omega).setted _ fun hh => by omega
    have z5 : h5.size = h3.size + 2 := by rw [← hE]; simpa using z4
    have vS : h5[h3.size]? = some (.cells #[.slice c1a s.cards.length c1c, .int .i64 s.ms] 30 (0, 0)) := by rw [← hE]; exact (set_other _ (by omega)).trans (set_same _ (by omega))
    have wA5 := kE.at wA3 (fun h => h)
    clear hE hsm1 hsA hsB v1 v2 wA4 k4 z4
    have k05 : Keep none_ h h5 := (k02.trans k3 fun _ _ h => h).trans kE fun _ _ h => h
    have hd := hok.dims
    have hms := hok.ms
    have tE : ∀ b, Ft h2.size none_ h3 b → Old h5 b ∧ h5[b]? = h3[b]? := fun b hb => by
      have e : h5[b]? = h3[b]? := kE.blk b hb.2.1 (fun h => h)
      exact ⟨⟨nz, Nat.lt_of_lt_of_le hb.2.1 kE.size, fun h => h⟩, e⟩
    have rc5 := hcv.mono tE
    have rr5 := hrv.mono tE
    have hp0 := pow2_pos s.cards.length
    have hp4 : (2 : Int) ^ s.cards.length ≤ 2 ^ 4 := pow2_le hd.2
    have hpz : ((2 ^ s.cards.length : Nat) : Int) = 2 ^ s.cards.length := by simp
    have hsh := shl_one (k := s.cards.length) (by omega)
    have hshv : binV Tryz.prog .shl 3 (.int .i64 1) (.int .u64 (IntKind.u64.wrap (s.cards.length : Int))) = some (.int .i64 (2 ^ s.cards.length)) := hsh
    have z05 := k05.size
    have hful : IntKind.i64.wrap (2 ^ s.cards.length - 1) = 2 ^ s.cards.length - 1 := wrap_i64 (by omega) (by omega)
    obtain ⟨fu, efu⟩ : ∃ fu : Int, fu = 2 ^ s.cards.length - 1 := ⟨_, rfl⟩
    have hfu : setN s.cards fu = 2 ^ s.cards.length - 1 := by
      have h1 := setN_eq (cards := s.cards) fu
      have h2 : withinM fu (2 ^ s.cards.length) = fu := by
        unfold withinM
        rw [Int.tmod_eq_emod_of_nonneg (by omega), Int.emod_eq_of_lt (by omega) (by omega), if_neg (by omega)]
      rw [h2] at h1
      omega
    simp -dsimp [-intRes_shl, hsh, hful]
    rw [← efu]
    generalize hS : Array.push h5 _ = h5x
    have k5x : Keep none_ h5 h5x := by rw [← hS]; exact .push _ _ _
    have wx : h5x[h5.size]? = some (.cells #[.int .i64 fu] 3 (0, 0)) := by rw [← hS]; exact push_new _ _
    clear hS
    have rx : SlRep rInt (Old h5x) h5x (.slice (some ⟨h5.size, 0, none⟩) 1 1) [fu] := ⟨_, 1, _, rfl, Nat.le_refl _, by decide, .inr ⟨h5.size, 0, _, _, _, rfl, ⟨nz, lt_of_blk wx, fun h => h⟩, wx, rfl⟩, .single rfl⟩
    have k05x : Keep none_ h h5x := k05.trans k5x fun _ _ h => h
    have tO := (Tr.of k05x).ft (n := 0) (n' := 0) (Nat.le_refl 0)
    refine call_by (both14_spec (hc0.mono tO) (hn0.mono tO) rx) ?_
    rw [hfs, hfr]
    rintro _ h6 ⟨vp, w, F, G, M, N, ks, n, rfl, k6, p6, t6, hn6, hks⟩
    have k06 : Keep none_ h h6 := k05x.trans k6 fun _ _ h => h
    have k56 : Keep none_ h5 h6 := k5x.trans k6 fun _ _ h => h
    have vS6 := k56.at vS (fun h => h)
    have rc6 := rc5.mono ((Tr.of k56).ft (n := 0) (n' := 0) (Nat.le_refl 0))
    have rr6 := rr5.mono ((Tr.of k56).ft (n := 0) (n' := 0) (Nat.le_refl 0))
    have sok := hok.sch
    have f1 : (M.look (nameK ((2 ^ s.cards.length - 1 : Nat) : Int))).isSome = true := (t6.com _ (by omega)).2 (by have := hks 0 (by simp) (by omega); rwa [List.getElem_cons_zero, hfu] at this)
    have um := t6.smM.used
    simp -dsimp [vS6]
    refine call_by (within14_spec dim _ (by omega) (by omega) _) ?_
    rintro _ y' ⟨rfl, hh⟩
    obtain rfl := hh.symm
    have hdb := withinM_bound (a := dim) (n := (s.cards.length : Int)) (by omega)
    obtain ⟨D, eD⟩ : ∃ D : Nat, withinM dim s.cards.length = D := ⟨(withinM dim s.cards.length).toNat, by omega⟩
    have hDl : D < s.cards.length := by omega
    rw [eD]
    simp -dsimp [-intRes_shl, vS6, hsh]
    refine call_by (within14_spec set _ hp0 (by omega) _) ?_
    rintro _ y' ⟨rfl, hh⟩
    obtain rfl := hh.symm
    obtain ⟨k, ek⟩ : ∃ k, k = withinM set (2 ^ s.cards.length) := ⟨_, rfl⟩
    have hkb := withinM_bound (a := set) hp0
    rw [← ek] at hkb ⊢
    have hcb := sok.cards _ (List.getElem_mem hDl)
    obtain ⟨c, ec⟩ : ∃ c : Nat, s.cards[D] = c := ⟨s.cards[D].toNat, by omega⟩
    have hca : cardAt s.cards D = c := by rw [← ec]; exact cardAt_get (by omega) (by omega)
    rw [ec] at hcb
    obtain ⟨f, ef⟩ : ∃ f : Nat → List CellM, f = fun v : Nat => groupC ((rows.filter (rowBy [⟨(D : Int), (v : Int), (v : Int)⟩])).map (ofM k)) := ⟨_, rfl⟩
    have hcub : ∀ v, CubOk s k (f v) := fun v => by rw [ef]; exact cub_ok (hok.sub List.filter_sublist) hkb.1 hkb.2
    have hlen : ∀ v, ((List.range v).flatMap f).length ≤ v * 300 := fun v => by
      have := flat_le (l := List.range v) (f := f) (k := 300) fun x _ => (hcub x).len
      rwa [List.length_range] at this
    simp -dsimp
    refine loopc (σ := Nat × Value) (fun t => [(7, .pointer (some ⟨h3.size, 0, none⟩)), (8, .slice r1a rows.length r1c), (10, .pointer (some vp)), (12, .int .i64 (D : Int)), (13, .int .i64 k), (14, t.2), (15, .int .i64 t.1)])
      (fun t y => t.1 ≤ c ∧ ∃ M1 own, Tr none_ M1 h6 y ∧ Gr rCell 65 0 M1 y t.2 ((List.range t.1).flatMap f) own)
      (fun t => c - t.1) (0, .slice none 0 0) 0 (fun t _ => t.1 = c) noRet noRet_le (by simp) ⟨Nat.zero_le _, none_, none, .start _, .nil _ _ _ _ _⟩ (by kernel_rfl) ?_ ?_
    · rintro ⟨v, av⟩ y g ⟨hv, M1, own, t, gr⟩
      simp only at hv gr
      obtain ⟨aa, an, ac, rfl, han⟩ := gr.vals
      have wv := wrap_succ (k := v) (by omega)
      have ky : Keep none_ h6 y := t.keep
      have vSy := ky.at vS6 (fun h => h)
      obtain ⟨b1, o1, e1, _, hx⟩ := (rc6.mono ((Tr.of ky).ft (n := 0) (n' := 0) (Nat.le_refl 0))).int_at D hDl
      cases e1
      rw [ec] at hx
      by_cases hvc : v < c
      · have hvc' : (v : Int) < c := by omega
        simp -dsimp [vSy, idxA_nat hDl, hx, hvc']
        generalize hP : Array.push y _ = y1
        have k1y : Keep none_ y y1 := by rw [← hP]; exact .push _ _ _
        have wF : y1[y.size]? = some (.cells #[.int .i64 D, .int .i64 v, .int .i64 v] 57 (0, 0)) := by rw [← hP]; exact push_new _ _
        clear hP
        have rF : SlRep rFil (Old y1) y1 (.slice (some ⟨y.size, 0, none⟩) 1 1) [⟨(D : Int), (v : Int), (v : Int)⟩] := ⟨_, 1, _, rfl, Nat.le_refl _, by decide, .inr ⟨y.size, 0, _, _, _, rfl, ⟨nz, lt_of_blk wF, fun h => h⟩, wF, rfl⟩, .single rfl⟩
        have hr := one_right sok hkb hDl (lo := (v : Int)) (hi := (v : Int)) (by omega) (by omega) (by omega)
        have e0 := err_full hok f1 hr
        refine call_by (pask2_spec ((p6.none ky).none k1y).st (by omega) rF t6.cube) ?_
        rintro _ y2 ⟨lv, rfl, k2y, hl⟩
        rw [ans_rows hok hr e0] at hl
        rw [e0]
        have hl : SlRep rCell (Ft y1.size none_ y2) y2 lv (f v) := by rw [ef]; exact hl
        obtain ⟨la, lc, rfl, _, _⟩ := hl.val
        have k12 : Keep none_ y y2 := k1y.trans k2y fun _ _ h => h
        have t2 : Tr none_ M1 h6 y2 := t.call k12
        have g2 := gr.call k12
        have hl2 : SlRep rCell (Ft 0 M1 y2) y2 (.slice la (f v).length lc) (f v) := hl.mono (((t.call k1y)).ret (Nat.zero_le _))
        obtain ⟨news, hmm, _, _, hC, hE⟩ := hl2.open_
        simp -dsimp
        have hfl := (hcub v).len
        have hal := hlen v
        have hv16 : v * 300 ≤ 16 * 300 := Nat.mul_le_mul (by omega) (Nat.le_refl _)
        refine gr_append (n := 0) cellT g2 t2.lt rfl hC hE (by omega) (by omega) ?_
        intro v' y3 own' g3 t3 k3y ho
        obtain ⟨va', vn', vc', rfl, _⟩ := g3.vals
        simp -dsimp [wv]
        refine ⟨(v + 1, .slice va' vn' vc'), by simp, rfl, ⟨hvc, _, own', t2.trans t3, ?_⟩, by show c - (v + 1) < c - v; omega⟩
        rw [List.range_succ, List.flatMap_append, List.flatMap_singleton]
        exact g3
      · have hvc' : ¬ (v : Int) < c := by omega
        simp -dsimp [vSy, idxA_nat hDl, hx, hvc']
        exact ⟨rfl, (v, .slice aa an ac), by simp, rfl, ⟨hv, M1, own, t, gr⟩, by show v = c; omega⟩
    rintro ⟨v, av⟩ y g ⟨hv, M1, own, t, gr⟩ hvc
    simp only at hv gr hvc
    subst hvc
    obtain ⟨aa, an, ac, rfl, han⟩ := gr.vals
    have ky : Keep none_ h6 y := t.keep
    have ra := gr.rep (n' := 0) (Nat.le_refl _) (fun _ _ => Nat.zero_le _)
    have hal := hlen v
    have hv16 : v * 300 ≤ 16 * 300 := Nat.mul_le_mul (by omega) (Nat.le_refl _)
    simp -dsimp
    refine call_by (rgroup_spec (m := s.ms.toNat) ra (by omega) (by omega) fun d hd => ?_) ?_
    · obtain ⟨x, _, hx⟩ := List.mem_flatMap.1 hd
      exact cel_sml ((hcub x).cel d hx)
    rintro gv y1 ⟨hg, k1y⟩
    rw [ef, parts_law hok hDl k hca.symm] at hg
    have hrow : ∀ r ∈ rows, r.key.length < 64 ∧ r.m.length = s.ms.toNat := fun r hr => ⟨by rw [(hok.key r hr).1]; omega, (hok.m r hr).1⟩
    have k61 : Keep none_ h6 y1 := ky.trans k1y fun _ _ h => h
    simp -dsimp
    refine call_by (rfacts_spec (m := s.ms.toNat) k (rr6.mono ((Tr.of k61).ft (n := 0) (n' := 0) (Nat.le_refl 0))) (by omega) (by omega) hrow) ?_
    rintro fv y2 ⟨hfv, k2y⟩
    simp -dsimp
    refine call_by (rsame_spec (hg.mono ((Tr.of k2y).ft (Nat.le_refl 0))) hfv) ?_
    rintro _ y3 ⟨⟨b3, rfl, hb3⟩, l3⟩
    obtain rfl : b3 = true := hb3.2 rfl
    simp -dsimp
    exact hK _ _ ⟨rfl, ((k06.trans k61 fun _ _ h => h).trans k2y fun _ _ h => h).trans l3 fun _ _ h => h⟩
end Go.Proofs


namespace Go.Proofs.YtgjklplbldgodaaGreatDoor
open Go Go.ChangeShapes Go.WideShapes Go.ChangeAt Go.RowKit Go.HC

theorem own0 : ownKnob Tryz.prog.godebug = none := by kernel_rfl
theorem laid0 : laidOutB Tryz.prog = true := by kernel_rfl
theorem ui : Tryz.prog.underlying 3 = some (.int .i64) := by kernel_rfl
theorem ci : Tryz.prog.cellsOf 3 = 1 := by kernel_rfl
theorem uis : Tryz.prog.underlying 22 = some (.slice 3) := by kernel_rfl
theorem cis : Tryz.prog.cellsOf 22 = 1 := by kernel_rfl
noncomputable def fsS : Array Field := match Tryz.prog.underlying 24 with | some (.struct fs) => fs | _ => #[]
theorem usS : Tryz.prog.underlying 24 = some (.struct fsS) := by kernel_rfl
theorem cS : Tryz.prog.cellsOf 24 = 6 := by kernel_rfl
theorem lS : fsS.map (fun f => (f.type, f.offset)) = #[(3, 0), (3, 1), (3, 2), (3, 3), (22, 4), (22, 5)] := by kernel_rfl
theorem ub : Tryz.prog.underlying 4 = some .bool := by kernel_rfl

theorem door_met (os : Os) (args : Array Value) : laidMetH Tryz.prog Rows.queryPartsRow.laid ((World.doorLaid Tryz.prog 4000 os).forCall (fun _ _ => 0) ⟨#[], args, []⟩).memory :=
  laidMetH_of_parts3 (fuel := 8) (laidMet_of_run' 8 (by kernel_rfl) (by kernel_rfl)) (by kernel_rfl) (by kernel_rfl)

set_option maxHeartbeats 8000000 in
set_option maxRecDepth 100000 in
theorem lifted (os : Os) (started : os.Started) (H : Type) (enc : TypeId × Value → H) :
    ReturnsInHanded {} Tryz.checked os 5 .any (fun w args => (Rows.queryPartsSpec.pre enc Tryz.prog Tryz.f5 Rows.queryPartsRow.domain false w args ∧ laidMetH Tryz.prog Rows.queryPartsRow.laid w) ∧ sizedMet enc Tryz.prog Tryz.f5 (OpenSpec.ofChange Rows.queryPartsSpec) false w args) (Rows.queryPartsSpec.post enc Tryz.prog Tryz.f5 false true false false) := by
  refine returnsInHanded_of_change_and (C := Tryz.checked) (X := fun w _ => laidMetH Tryz.prog Rows.queryPartsRow.laid w) (fun _ _ _ hh h => h.of_heap hh) own0 started (by kernel_rfl) Tryz.func5
    (ChangeSpec.witness_shaped (enc := enc) (C := Tryz.checked) (os := os) (X := fun w _ => laidMetH Tryz.prog Rows.queryPartsRow.laid w) false (World.doorLaid Tryz.prog 4000 os) #[.agg #[.int .i64 0, .int .i64 0, .int .i64 0, .int .i64 0, .slice none 0 0, .slice none 0 0], .int .i64 0, .int .i64 0] 8 rfl (World.shaped_of_RefB (by kernel_rfl) (by kernel_rfl)) (by kernel_rfl) (by kernel_rfl) (by kernel_rfl) (door_met os _)) ?_
  intro W base args ds gs before hval0 hW _ _ _ _
  have hval : ∀ (j : Nat) t v, Tryz.f5.params[j]? = some t → args[j]? = some v → Value.okWide Tryz.prog W .any base t v := hval0
  have hW' := hW
  obtain ⟨p, q, hA0, hV, rfl, _, _⟩ := hW
  have hA : DataW.TrodAll enc Tryz.prog W 0 (fun _ => true) true Tryz.f5.params.toList args.toList ds p := hA0
  have hps : Tryz.f5.params = #[24, 3, 3] := by kernel_rfl
  rw [hps] at hA hval
  have hA1 := hA
  obtain ⟨v0, vs0, d0, ds0, p0, q0, ha0, hd0, hp0, h0, hr0⟩ := trodAll_cons hA1
  obtain ⟨v1, vs1, d1, ds1, p1, q1, ha1, hd1, hp1, h1, hr1⟩ := trodAll_cons hr0
  obtain ⟨v2, vs2, d2, ds2, p2, q2, ha2, hd2, hp2, h2, hr2⟩ := trodAll_cons hr1
  obtain ⟨rfl, rfl, rfl⟩ := trodAll_nil hr2
  subst ha2; subst hd2; subst hp2
  subst ha1; subst hd1; subst hp1
  subst hd0; subst hp0
  obtain rfl : args = #[v0, v1, v2] := by cases args; simp_all
  obtain ⟨rfl, rfl⟩ := trodVars_none hV
  obtain ⟨na0, nb0, nc0, ne0, w0, z0, xs0, ys0, rfl, x0, y0⟩ := open_shape usS cS lS ui ci uis cis (hval 0 24 v0 rfl rfl) h0
  obtain ⟨a1, rfl, _, _, _⟩ := open_int ui (hval 1 3 v1 rfl rfl) h1
  obtain ⟨a2, rfl, _, _, _⟩ := open_int ui (hval 2 3 v2 rfl rfl) h2
  clear hA0 hval0
  simp only [List.append_nil] at hW' hA ⊢
  have hlt := fun x hx => hW'.lt x hx
  refine (calls_of (queryParts_spec x0 (fun _ h => h) y0 (fun _ h => h) a1 a2)).mono fun e W' ⟨he, hb⟩ => ?_
  subst he
  refine ⟨_, rfl, _, _, _, _, _, [], hW', trodAll_mk1 (shut_bool ub true), below_trodAll laid0 hb (by kernel_rfl) hA (fun x hx => by simpa using hlt x (by simpa using hx)), rfl, hb.frame _, fun h => by cases h⟩

theorem queryparts_holds : Rows.QueryPartsSaid :=
  OpenClaim.holds_of_wide 5 Tryz.f5 rfl rfl rfl rfl rfl rfl rfl ⟨rfl, rfl, rfl, rfl, rfl⟩ rfl rfl rfl rfl rfl (by kernel_rfl) Tryz.func5 (by kernel_rfl)
    (of_decide_eq_true (by kernel_rfl)) (by unfold Func.isWrapper; first | (rw [if_pos (by decide +kernel)]; kernel_rfl) | (rw [if_neg (by decide +kernel)]; exact ⟨rfl, rfl⟩))
    (fun os started H enc _ => lifted os started H enc)

theorem queryparts_holds_card : Rows.QueryPartsCardSaid :=
  Claim7.holds_tied_plain_at .later [] [.data, .data, .data] true Rows.queryPartsCard.stood.harness false
    queryparts_holds (fun _ h => by cases h) (by kernel_rfl) (fun _ h => by cases h) queryParts_row_tie rfl ⟨rfl, rfl⟩ (by kernel_rfl) rfl
    (fun f fn hf hfn => by
      obtain rfl : f = 5 := Option.some.inj ((show Tryz.prog.funcNamed "hypercube/hypercubelaw14.QueryParts" = some 5 by kernel_rfl).symm.trans hf) |>.symm
      obtain rfl : fn = Tryz.f5 := (Option.some.inj (Tryz.func5.symm.trans hfn)).symm
      exact ⟨by kernel_rfl, fun j t ht => by
        have hps : Tryz.f5.params = #[24, 3, 3] := by kernel_rfl
        rw [hps] at ht
        have hm : t ∈ [24, 3, 3] := by simpa using Array.mem_of_getElem? ht
        have hall : ([24, 3, 3].all fun u => !Tryz.prog.wantsStandIn u) = true := by kernel_rfl
        exact (show Tryz.prog.wantsStandIn t = false by simpa using List.all_eq_true.1 hall t hm)⟩)
    (by kernel_rfl)
end Go.Proofs.YtgjklplbldgodaaGreatDoor
