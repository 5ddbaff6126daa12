/-
  hypercubelaw14.QueryNothing returns true for all arguments, and its arguments read behind the call as they read ahead of it; the row itself asks of three tables of the library that they read as their text lays them, and the proof does not use that.
-/
import Derived.Test.YtgjklplbldgodaaGreatDoorKBf
import Derived.Test.YtgjklplbldgodaaGreatDoorRows
import Derived.Test.YtgjklplbldgodaaGreatDoorCards
import Derived.Test.YtgjklplbldgodaaGreatDoorTie
import Derived.LaidMore
import Derived.OpenShut
import Derived.Stop.Joined
/-
  QueryNothing: the walk.
-/
namespace Go.Proofs
open Go Go.HC

set_option maxHeartbeats 2000000 in
set_option maxRecDepth 100000 in
theorem queryNothing_spec {h : Heap} {d m p q : Int} {F1 F2 F3 F5 : Nat → Prop} {rn : Int} {cv nv sv rv : Value} {cards ns sets : List Int} {raws : List FilM} (hc : SlRep rInt F1 h cv cards) (hF1 : ∀ b, F1 b → b < h.size) (hn : SlRep rInt F2 h nv ns) (hF2 : ∀ b, F2 b → b < h.size) (hs : SlRep rInt F3 h sv sets) (hF3 : ∀ b, F3 b → b < h.size) (hr : SlRep rFil F5 h rv raws) (hF5 : ∀ b, F5 b → b < h.size) (at_ : Int) (by_ : UInt8) (gone : Bool) :
    CallH Tryz.prog 10 #[.agg #[.int .i64 d, .int .i64 m, .int .i64 p, .int .i64 q, cv, nv], sv, .agg #[.int .i64 rn, rv], .int .i64 at_, .int .u8 by_.toNat, .bool gone] h fun r h' => r = .bool true ∧ Keep none_ h h' := by
  refine callH_by fun K hK => ?_
  refine enter [.tmp 12] Tryz.func10 rfl rfl (by kernel_rfl) rfl ?_
  replace hc := hc.mono (F' := Old h) (h' := h) fun b hb => ⟨⟨nz, hF1 b hb, fun h => h⟩, rfl⟩
  have hc0 := hc
  replace hn := hn.mono (F' := Old h) (h' := h) fun b hb => ⟨⟨nz, hF2 b hb, fun h => h⟩, rfl⟩
  have hn0 := hn
  replace hs := hs.mono (F' := Old h) (h' := h) fun b hb => ⟨⟨nz, hF3 b hb, fun h => h⟩, rfl⟩
  have hs0 := hs
  replace hr := hr.mono (F' := Old h) (h' := h) fun b hb => ⟨⟨nz, hF5 b hb, fun h => h⟩, rfl⟩
  have hr0 := hr
  obtain ⟨ca, cc, rfl, _, _⟩ := hc.val
  obtain ⟨na, nc, rfl, _, _⟩ := hn.val
  obtain ⟨sa, sc, rfl, _, _⟩ := hs.val
  obtain ⟨ra, rc, rfl, _, _⟩ := hr.val
  have hok := factsM_ok d cards m ns
  have hr40 := factsM_len d cards m ns
  simp -dsimp [boxS_eq]
  generalize hB : Array.push (Array.push h _) _ = h0
  have k0 : Keep none_ h h0 := by rw [← hB]; exact ((Keep.refl none_ h).pushed _).pushed _
  have wA : h0[h.size]? = some (.cells #[.int .i64 d, .int .i64 m, .int .i64 p, .int .i64 q, .slice ca cards.length cc, .slice na ns.length nc] 24 (0, 0)) := by rw [← hB]; exact push_at (push_new _ _)
  have wR : h0[h.size + 1]? = some (.cells #[.int .i64 rn, .slice ra raws.length rc] 27 (0, 0)) := by rw [← hB]; exact push_get (by simp)
  clear hB
  refine call_by (known14_spec h0) ?_
  rintro _ h1 ⟨rfl, k1⟩
  have wA1 := k1.at wA (fun h => h)
  simp -dsimp [wA1]
  refine call_by (few_spec h1) ?_
  rintro _ h2 ⟨rfl, k2⟩
  have k02 : Keep none_ h h2 := (k0.trans k1 fun _ _ h => h).trans k2 fun _ _ h => h
  have wA2 := k2.at wA1 (fun h => h)
  cases hfew : (decide (cards.length ≤ 20) && decide (ns.length ≤ 60)) with
  | false =>
    simp -dsimp
    exact hK _ _ ⟨rfl, k02⟩
  | true =>
    have wR2 := (k1.trans k2 fun _ _ h => h).at wR (fun h => h)
    by_cases h20 : 20 < raws.length
    · have h20' : (20 : Int) < raws.length := by omega
      simp -dsimp [wR2, h20']
      exact hK _ _ ⟨rfl, k02⟩
    have h20' : ¬ (20 : Int) < raws.length := by omega
    simp -dsimp [wA2, wR2, h20']
    have tO := (Tr.of k02).ft (n := 0) (n' := 0) (Nat.le_refl 0)
    refine call_by (both14_spec (hc0.mono tO) (hn0.mono tO) (hs0.mono tO)) ?_
    rintro _ h6 ⟨vp, w, F, G, M, N, ks, n, rfl, k6, p6, t6, hn6, hks⟩
    generalize hfs : (factsM d cards m ns).1 = s at *
    generalize hfr : (factsM d cards m ns).2 = rows at *
    have wR6 := k6.at wR2 (fun h => h)
    have k06 : Keep none_ h h6 := k02.trans k6 fun _ _ h => h
    have z02 := k02.size
    have z6 := k6.size
    have lR := lt_of_blk wR2
    have um := t6.smM.used
    have un := t6.smN.used
    have ul := t6.smN.files
    have hfl := facts_len hok hr40
    have hlM := t6.limit
    have hlN : N.limit = 100000 := by rw [← t6.alike.limit]; exact hlM
    have hd := hok.dims
    simp -dsimp
    cases gone with
    | true => ?A
    | false => ?B
    case' A =>
      simp -dsimp
      refine call_by (remove_spec p6.st t6.smM (by omega) nmFact) ?_
      rintro _ h7 ⟨rfl, F1', s7, k7, hF7⟩
      have p7 := p6.stepF (by omega) s7 k7 hF7
      have z7 := k7.size
      simp -dsimp
      refine call_by (rremove_spec p7.rf t6.smN (by omega) nmFact) ?_
      rintro _ h8 ⟨rfl, G1', g8, k8, hG8⟩
      have p8 := p7.stepG (by omega) g8 k8 hG8
      have z8 := k8.size
      have hnoM := not_removed t6.okM.sorted
      have hnoN := not_removed t6.okN.sorted
      have sM := (small_remove t6.smM nmFact).up (m' := n + 1000) (by omega)
      have sN := (small_remove t6.smN nmFact).up (m' := n + 1000) (by omega)
      have oM := t6.okM.remove nmFact
      have oN := t6.okN.remove nmFact
      have kk : Keep none_ h6 h8 → Keep none_ h h8 := fun k => k06.trans k fun _ _ h => h
      have q8 : Keep (fun b => h2.size ≤ b) h6 h8 := (k7.weaken fun b _ hb => p6.f0 b hb).trans k8 fun b hb hf => p7.g0 b hf
      have wR8 : h8[h.size + 1]? = _ := q8.at wR6 (by omega)
      have kend : Keep none_ h h8 := k06.trans q8 fun b hb hf => absurd hf (by omega)
      have y8 := Nat.le_trans (Nat.le_trans z02 z6) (Nat.le_trans z7 z8)
      simp -dsimp
      generalize (M.remove nmFact).2 = M' at *
      generalize (N.remove nmFact).2 = N' at *
      clear hG8 hF7 s7 g8 p7
    case' B =>
      have cN := t6.alike.cube t6.cube
      have hle := now_le t6.okN nmFact
      simp -dsimp
      refine call_by (rread_spec p6.rf (by omega) (by omega) nmFact) ?_
      rintro _ h7 ⟨u, own, rfl, gu, k7, ho7⟩
      rw [cN.there]
      rw [cN.fact] at gu
      have hj := withinM_bound (a := at_) (n := 4) (by omega)
      obtain ⟨j, ej⟩ : ∃ j : Nat, withinM at_ 4 = j := ⟨(withinM at_ 4).toNat, by omega⟩
      have hjl : j < (encF s rows).length := by rw [encF_len hok]; omega
      obtain ⟨x, hx⟩ : ∃ x, (encF s rows)[j]? = some x := ⟨_, List.getElem?_eq_getElem hjl⟩
      have hxe : (encF s rows)[j] = x := by rw [List.getElem?_eq_getElem hjl] at hx; exact Option.some.inj hx
      obtain ⟨ua, uc, rfl⟩ := gu.val
      obtain ⟨bk, cs, e7, eo, hrep, hcs⟩ := gu.elem j hjl
      subst e7
      obtain rfl : cs = [.int .u8 ((encF s rows)[j].toNat : Int)] := hrep
      rw [hxe] at hcs
      have hc1 : HC.cellIn h7[bk]? j = some (.int .u8 (x.toNat : Int)) := by
        have := cellsIn_cell (d := 0) hcs (by decide)
        simpa [rByte] using this
      obtain ⟨y, ey⟩ : ∃ y, y = byteM ((x.toNat : Int) + (by_.toNat : Int)) := ⟨_, rfl⟩
      obtain ⟨bk', c', o, hv, eo', hw, g8⟩ := gu.setE (i := j) (x := y) (news := [.int .u8 (y.toNat : Int)]) hjl rfl
      cases hv
      have hw' : writeIn h7[bk]? j [.int .u8 (y.toNat : Int)] = some o := by simpa [rByte] using hw
      have hwb : IntKind.u8.wrap ((x.toNat : Int) + (by_.toNat : Int)) = (y.toNat : Int) := by rw [ey]; exact wrap_byte _
      have hbk := ho7 bk eo
      have z7 := k7.size
      simp -dsimp
      refine call_by (within14_spec at_ 4 (by omega) (by omega) _) ?_
      rintro _ y' ⟨rfl, hh⟩
      obtain rfl := hh.symm
      rw [ej]
      simp -dsimp [idxA_nat hjl, hc1, hwb, hw']
      generalize hZ : Array.setIfInBounds h7 bk o = h7x at *
      have zx : h7x.size = h7.size := by rw [← hZ]; simp
      have ex : ∀ b, b ≠ bk → h7x[b]? = h7[b]? := fun b hb => by rw [← hZ]; exact set_other _ (Ne.symm hb)
      have e67 : ∀ b, b < h6.size → h7x[b]? = h6[b]? := fun b hb => by rw [ex b (by omega)]; exact k7.blk b hb fun h => h
      have p7 : Pair (.pointer (some vp)) w F G h2.size h7x M N := ⟨p6.st.mono (by omega) fun b hb => e67 b (p6.st.lt b hb), p6.rf.mono (by omega) fun b hb => e67 b (p6.rf.lt b hb), p6.f0, p6.g0, p6.dis⟩
      have hub : SlRep rByte (Old h7x) h7x _ ((encF s rows).set j y) := g8.bytes.mono fun b hb => ⟨⟨nz, g8.own_lt b hb, fun h => h⟩, rfl⟩
      have hubl : ((encF s rows).set j y).length = (encF s rows).length := List.length_set
      obtain ⟨ub, eub⟩ : ∃ ub, ub = (encF s rows).set j y := ⟨_, rfl⟩
      rw [← eub] at hub hubl g8
      have sm1 := small_write t6.okM.sorted t6.smM nmFact ub
      have o1 := t6.okM.write nmFact ub
      try simp -dsimp
      refine call_by (put14_spec p7.st t6.smM (by omega) nmFact hub (fun b h => h.2.1) (by omega) sm1 (by omega)) ?_
      rintro _ h7y ⟨F1', s7, k7y, hF7⟩
      have p7y := p7.stepF (by omega) s7 k7y hF7
      have z7y := k7y.size
      have hub2 : SlRep rByte (Old h7y) h7y _ ub := g8.bytes.mono fun b hb => by
        cases hb.symm.trans eo'
        have e : h7y[bk]? = h7x[bk]? := k7y.blk bk (by have := g8.own_lt bk eo'; omega) fun hf => by have := p6.st.lt bk hf; omega
        exact ⟨⟨nz, by have := g8.own_lt bk eo'; omega, fun h => h⟩, e⟩
      simp -dsimp
      refine call_by (rwrite_spec p7y.rf t6.smN (by omega) (by omega) (by omega) nmFact hub2 (fun b h => h.2.1) (by omega)) ?_
      rintro _ h8 ⟨rfl, G1', g8', k8, hG8⟩
      have p8 := p7y.stepG (by omega) g8' k8 hG8
      have z8 := k8.size
      have q8 : Keep (fun b => h2.size ≤ b) h6 h8 := by
        have q7 : Keep (fun b => h2.size ≤ b) h6 h7x := ⟨by omega, fun b hb _ => e67 b hb⟩
        exact (q7.trans k7y fun b hb hf => p7.f0 b hf).trans k8 fun b hb hf => p7y.g0 b hf
      have wR8 : h8[h.size + 1]? = _ := q8.at wR6 (by omega)
      have kend : Keep none_ h h8 := k06.trans q8 fun b hb hf => absurd hf (by omega)
      have y8 := Nat.le_trans (Nat.le_trans z02 z6) (Nat.le_trans (show h6.size ≤ h7y.size by omega) z8)
      by_cases hb0 : by_ = 0
      · subst hb0
        simp -dsimp
        exact hK _ _ ⟨rfl, kend⟩
      have hbz : ((by_.toNat : Int) == 0) = false := by
        rw [beq_eq_false_iff_ne]
        exact fun e => hb0 (UInt8.toNat_inj.1 (by simpa using e))
      have hnd := broken (rows := rows) (by omega) hx hb0
      rw [← ey, ← eub] at hnd
      have nM := not_written (M := M) hnd (by omega)
      have nN := not_written (M := N) hnd (by omega)
      have a2 := Alike.sync o1.sorted nmFact
      have hnoM : ¬ FactsIn ((M.write nmFact ub).2.sync nmFact).2 := fun hf => nM ((a2.facts).2 hf)
      have hnoN := nN
      have sM := small_sync o1.sorted sm1 nmFact
      have sN := small_write t6.okN.sorted t6.smN nmFact ub
      have oM := o1.sync nmFact
      have oN := t6.okN.write nmFact ub
      replace sM := sM.up (m' := n + 1000) (by omega)
      replace sN := sN.up (m' := n + 1000) (by omega)
      simp -dsimp
      generalize ((M.write nmFact ub).2.sync nmFact).2 = M' at *
      generalize (N.write nmFact ub).2 = N' at *
      clear hG8 hF7 s7 g8' p7 p7y
    all_goals
      cases hz : ((by_.toNat : Int) == 0)
    all_goals
      try exact absurd hz (by rw [hbz]; decide)
    all_goals
      have uM := sM.used
      have uN := sN.used
      have lN := sN.files
      have nwM := now_le oM nmFact
      have nwN := now_le oN nmFact
      simp -dsimp [wR8]
      refine call_by (pask_not p8.st (by omega) (by omega) rfl hnoM) ?_
      rintro _ y1 ⟨rfl, k1y⟩
      simp -dsimp [k1y.at wR8 (fun h => h)]
      refine call_by (ask14_not (p8.none k1y).rf (by omega) (by omega) (by omega) rfl hnoN) ?_
      rintro _ y2 ⟨rfl, k2y⟩
      have k12 : Keep none_ h8 y2 := k1y.trans k2y fun _ _ h => h
      simp -dsimp [k12.at wR8 (fun h => h)]
      refine call_by (pserver_not (p8.none k12).st (by omega) (by omega) rfl hnoM) ?_
      rintro _ y3 ⟨rfl, k3y⟩
      have k13 : Keep none_ h8 y3 := k12.trans k3y fun _ _ h => h
      simp -dsimp [k13.at wR8 (fun h => h)]
      refine call_by (server14_not (p8.none k13).rf (by omega) (by omega) (by omega) rfl hnoN) ?_
      rintro _ y4 ⟨rfl, k4y⟩
      try simp -dsimp
      refine call_by (rsame_spec (l := []) (m := []) (.nil _ _ _) (.nil _ _ _)) ?_
      rintro _ y5 ⟨⟨b5, rfl, hb5⟩, k5y⟩
      obtain rfl : b5 = true := hb5.2 rfl
      simp -dsimp
      exact hK _ _ ⟨rfl, ((kend.trans k13 fun _ _ h => h).trans k4y fun _ _ h => h).trans k5y fun _ _ h => h⟩
end Go.Proofs


namespace Go.Proofs.YtgjklplbldgodaaGreatDoor
open Go Go.ChangeShapes Go.WideShapes Go.ChangeAt Go.RowKit Go.HC

theorem own0 : ownKnob Tryz.prog.godebug = none := by kernel_rfl
theorem laid0 : laidOutB Tryz.prog = true := by kernel_rfl
theorem ui : Tryz.prog.underlying 3 = some (.int .i64) := by kernel_rfl
theorem ci : Tryz.prog.cellsOf 3 = 1 := by kernel_rfl
theorem u8 : Tryz.prog.underlying 5 = some (.int .u8) := by kernel_rfl
theorem uis : Tryz.prog.underlying 22 = some (.slice 3) := by kernel_rfl
theorem cis : Tryz.prog.cellsOf 22 = 1 := by kernel_rfl
noncomputable def fsS : Array Field := match Tryz.prog.underlying 24 with | some (.struct fs) => fs | _ => #[]
theorem usS : Tryz.prog.underlying 24 = some (.struct fsS) := by kernel_rfl
theorem cS : Tryz.prog.cellsOf 24 = 6 := by kernel_rfl
theorem lS : fsS.map (fun f => (f.type, f.offset)) = #[(3, 0), (3, 1), (3, 2), (3, 3), (22, 4), (22, 5)] := by kernel_rfl
noncomputable def fsQ : Array Field := match Tryz.prog.underlying 27 with | some (.struct fs) => fs | _ => #[]
theorem usQ : Tryz.prog.underlying 27 = some (.struct fsQ) := by kernel_rfl
noncomputable def fsF : Array Field := match Tryz.prog.underlying 57 with | some (.struct fs) => fs | _ => #[]
theorem usF : Tryz.prog.underlying 57 = some (.struct fsF) := by kernel_rfl
theorem cQ : Tryz.prog.cellsOf 27 = 2 := by kernel_rfl
theorem lQ : fsQ.map (fun f => (f.type, f.offset)) = #[(3, 0), (25, 1)] := by kernel_rfl
theorem uf : Tryz.prog.underlying 25 = some (.slice 57) := by kernel_rfl
theorem cf : Tryz.prog.cellsOf 25 = 1 := by kernel_rfl
theorem cF : Tryz.prog.cellsOf 57 = 3 := by kernel_rfl
theorem lF : fsF.map (fun f => (f.type, f.offset)) = #[(3, 0), (3, 1), (3, 2)] := by kernel_rfl
theorem ub : Tryz.prog.underlying 4 = some .bool := by kernel_rfl

theorem door_met (os : Os) (args : Array Value) : laidMetH Tryz.prog Rows.queryNothingRow.laid ((World.doorLaid Tryz.prog 4000 os).forCall (fun _ _ => 0) ⟨#[], args, []⟩).memory :=
  laidMetH_of_parts3 (fuel := 8) (laidMet_of_run' 8 (by kernel_rfl) (by kernel_rfl)) (by kernel_rfl) (by kernel_rfl)

set_option maxHeartbeats 8000000 in
set_option maxRecDepth 100000 in
theorem lifted (os : Os) (started : os.Started) (H : Type) (enc : TypeId × Value → H) :
    ReturnsInHanded {} Tryz.checked os 10 .any (fun w args => (Rows.queryNothingSpec.pre enc Tryz.prog Tryz.f10 Rows.queryNothingRow.domain false w args ∧ laidMetH Tryz.prog Rows.queryNothingRow.laid w) ∧ sizedMet enc Tryz.prog Tryz.f10 (OpenSpec.ofChange Rows.queryNothingSpec) false w args) (Rows.queryNothingSpec.post enc Tryz.prog Tryz.f10 false true false false) := by
  refine returnsInHanded_of_change_and (C := Tryz.checked) (X := fun w _ => laidMetH Tryz.prog Rows.queryNothingRow.laid w) (fun _ _ _ hh h => h.of_heap hh) own0 started (by kernel_rfl) Tryz.func10
    (ChangeSpec.witness_shaped (enc := enc) (C := Tryz.checked) (os := os) (X := fun w _ => laidMetH Tryz.prog Rows.queryNothingRow.laid w) false (World.doorLaid Tryz.prog 4000 os) #[.agg #[.int .i64 0, .int .i64 0, .int .i64 0, .int .i64 0, .slice none 0 0, .slice none 0 0], .slice none 0 0, .agg #[.int .i64 0, .slice none 0 0], .int .i64 0, .int .u8 0, .bool false] 8 rfl (World.shaped_of_RefB (by kernel_rfl) (by kernel_rfl)) (by kernel_rfl) (by kernel_rfl) (by kernel_rfl) (door_met os _)) ?_
  intro W base args ds gs before hval0 hW _ _ _ _
  have hval : ∀ (j : Nat) t v, Tryz.f10.params[j]? = some t → args[j]? = some v → Value.okWide Tryz.prog W .any base t v := hval0
  have hW' := hW
  obtain ⟨p, q, hA0, hV, rfl, _, _⟩ := hW
  have hA : DataW.TrodAll enc Tryz.prog W 0 (fun _ => true) true Tryz.f10.params.toList args.toList ds p := hA0
  have hps : Tryz.f10.params = #[24, 22, 27, 3, 5, 4] := by kernel_rfl
  rw [hps] at hA hval
  have hA1 := hA
  obtain ⟨v0, vs0, d0, ds0, p0, q0, ha0, hd0, hp0, h0, hr0⟩ := trodAll_cons hA1
  obtain ⟨v1, vs1, d1, ds1, p1, q1, ha1, hd1, hp1, h1, hr1⟩ := trodAll_cons hr0
  obtain ⟨v2, vs2, d2, ds2, p2, q2, ha2, hd2, hp2, h2, hr2⟩ := trodAll_cons hr1
  obtain ⟨v3, vs3, d3, ds3, p3, q3, ha3, hd3, hp3, h3, hr3⟩ := trodAll_cons hr2
  obtain ⟨v4, vs4, d4, ds4, p4, q4, ha4, hd4, hp4, h4, hr4⟩ := trodAll_cons hr3
  obtain ⟨v5, vs5, d5, ds5, p5, q5, ha5, hd5, hp5, h5, hr5⟩ := trodAll_cons hr4
  obtain ⟨rfl, rfl, rfl⟩ := trodAll_nil hr5
  subst ha5; subst hd5; subst hp5
  subst ha4; subst hd4; subst hp4
  subst ha3; subst hd3; subst hp3
  subst ha2; subst hd2; subst hp2
  subst ha1; subst hd1; subst hp1
  subst hd0; subst hp0
  obtain rfl : args = #[v0, v1, v2, v3, v4, v5] := by cases args; simp_all
  obtain ⟨rfl, rfl⟩ := trodVars_none hV
  obtain ⟨na0, nb0, nc0, ne0, w0, z0, xs0, ys0, rfl, x0, y0⟩ := open_shape usS cS lS ui ci uis cis (hval 0 24 v0 rfl rfl) h0
  obtain ⟨a1, x1⟩ := open_intRep uis ui ci (hval 1 22 v1 rfl rfl) h1
  obtain ⟨na2, w2, xs2, rfl, _, x2⟩ := open_query usQ cQ lQ ui ci uf cf usF cF lF (hval 2 27 v2 rfl rfl) h2
  obtain ⟨a3, rfl, _, _, _⟩ := open_int ui (hval 3 3 v3 rfl rfl) h3
  obtain ⟨a4, rfl⟩ := open_u8 u8 (hval 4 5 v4 rfl rfl) h4
  obtain ⟨a5, rfl, _, _⟩ := open_bool ub (hval 5 4 v5 rfl rfl) h5
  clear hA0 hval0
  simp only [List.append_nil] at hW' hA ⊢
  have hlt := fun x hx => hW'.lt x hx
  refine (calls_of (queryNothing_spec x0 (fun _ h => h) y0 (fun _ h => h) x1 (fun _ h => h) x2 (fun _ h => h) a3 a4 a5)).mono fun e W' ⟨he, hb⟩ => ?_
  subst he
  refine ⟨_, rfl, _, _, _, _, _, [], hW', trodAll_mk1 (shut_bool ub true), below_trodAll laid0 hb (by kernel_rfl) hA (fun x hx => by simpa using hlt x (by simpa using hx)), rfl, hb.frame _, fun h => by cases h⟩

theorem querynothing_holds : Rows.QueryNothingSaid :=
  OpenClaim.holds_of_wide 10 Tryz.f10 rfl rfl rfl rfl rfl rfl rfl ⟨rfl, rfl, rfl, rfl, rfl⟩ rfl rfl rfl rfl rfl (by kernel_rfl) Tryz.func10 (by kernel_rfl)
    (of_decide_eq_true (by kernel_rfl)) (by unfold Func.isWrapper; first | (rw [if_pos (by decide +kernel)]; kernel_rfl) | (rw [if_neg (by decide +kernel)]; exact ⟨rfl, rfl⟩))
    (fun os started H enc _ => lifted os started H enc)

theorem querynothing_holds_card : Rows.QueryNothingCardSaid :=
  Claim7.holds_tied_plain_at .later [] [.data, .data, .data] true Rows.queryNothingCard.stood.harness false
    querynothing_holds (fun _ h => by cases h) (by kernel_rfl) (fun _ h => by cases h) queryNothing_row_tie rfl ⟨rfl, rfl⟩ (by kernel_rfl) rfl
    (fun f fn hf hfn => by
      obtain rfl : f = 10 := Option.some.inj ((show Tryz.prog.funcNamed "hypercube/hypercubelaw14.QueryNothing" = some 10 by kernel_rfl).symm.trans hf) |>.symm
      obtain rfl : fn = Tryz.f10 := (Option.some.inj (Tryz.func10.symm.trans hfn)).symm
      exact ⟨by kernel_rfl, fun j t ht => by
        have hps : Tryz.f10.params = #[24, 22, 27, 3, 5, 4] := by kernel_rfl
        rw [hps] at ht
        have hm : t ∈ [24, 22, 27, 3, 5, 4] := by simpa using Array.mem_of_getElem? ht
        have hall : ([24, 22, 27, 3, 5, 4].all fun u => !Tryz.prog.wantsStandIn u) = true := by kernel_rfl
        exact (show Tryz.prog.wantsStandIn t = false by simpa using List.all_eq_true.1 hall t hm)⟩)
    (by kernel_rfl)
end Go.Proofs.YtgjklplbldgodaaGreatDoor
