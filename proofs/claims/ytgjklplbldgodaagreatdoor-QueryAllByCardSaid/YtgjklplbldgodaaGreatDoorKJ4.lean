/-
  hypercubelaw14.QueryAllBy returns true for all arguments, and its arguments read behind the call as they read ahead of it; the row itself asks of three tables of the library that they read as their text lays them, and the proof does not use that.
-/
import Derived.Test.YtgjklplbldgodaaGreatDoorKBf
import Derived.Test.YtgjklplbldgodaaGreatDoorRows
import Derived.Test.YtgjklplbldgodaaGreatDoorCards
import Derived.Test.YtgjklplbldgodaaGreatDoorTie
import Derived.LaidMore
import Derived.OpenShut
import Derived.Stop.Joined
/-
  QueryAllBy: the walk.
-/
namespace Go.Proofs
open Go Go.HC

set_option maxHeartbeats 2000000 in
set_option maxRecDepth 100000 in
theorem queryAllBy_spec {h : Heap} {d m p q : Int} {F1 F2 : Nat → Prop} {cv nv : Value} {cards ns : List Int} (hc : SlRep rInt F1 h cv cards) (hF1 : ∀ b, F1 b → b < h.size) (hn : SlRep rInt F2 h nv ns) (hF2 : ∀ b, F2 b → b < h.size) (set dim : Int) :
    CallH Tryz.prog 6 #[.agg #[.int .i64 d, .int .i64 m, .int .i64 p, .int .i64 q, cv, nv], .int .i64 set, .int .i64 dim] h fun r h' => r = .bool true ∧ Keep none_ h h' := by
  refine callH_by fun K hK => ?_
  refine enter [.tmp 6] Tryz.func6 rfl rfl (by kernel_rfl) rfl ?_
  replace hc := hc.mono (F' := Old h) (h' := h) fun b hb => ⟨⟨nz, hF1 b hb, fun h => h⟩, rfl⟩
  have hc0 := hc
  replace hn := hn.mono (F' := Old h) (h' := h) fun b hb => ⟨⟨nz, hF2 b hb, fun h => h⟩, rfl⟩
  have hn0 := hn
  obtain ⟨ca, cc, rfl, _, _⟩ := hc.val
  obtain ⟨na, nc, rfl, _, _⟩ := hn.val
  have hok := factsM_ok d cards m ns
  have hr40 := factsM_len d cards m ns
  simp -dsimp [boxS_eq]
  generalize hB : Array.push h _ = h0
  have k0 : Keep none_ h h0 := by rw [← hB]; exact .push _ _ _
  have wA : h0[h.size]? = some (.cells #[.int .i64 d, .int .i64 m, .int .i64 p, .int .i64 q, .slice ca cards.length cc, .slice na ns.length nc] 24 (0, 0)) := by rw [← hB]; exact push_new _ _
  clear hB
  refine call_by (known14_spec h0) ?_
  rintro _ h1 ⟨rfl, k1⟩
  have wA1 := k1.at wA (fun h => h)
  simp -dsimp [wA1]
  refine call_by (few_spec h1) ?_
  rintro _ h2 ⟨rfl, k2⟩
  have k02 : Keep none_ h h2 := (k0.trans k1 fun _ _ h => h).trans k2 fun _ _ h => h
  have wA2 := k2.at wA1 (fun h => h)
  cases hfew : (decide (cards.length ≤ 20) && decide (ns.length ≤ 60)) with
  | false =>
    simp -dsimp
    exact hK _ _ ⟨rfl, k02⟩
  | true =>
    simp -dsimp [wA2]
    refine call_by (smake_spec fun y ky => facts1_spec d m (hc0.mono ((Tr.of (k02.trans ky fun _ _ h => h)).ft (Nat.le_refl 0))) (hn0.mono ((Tr.of (k02.trans ky fun _ _ h => h)).ft (Nat.le_refl 0)))) ?_
    rintro _ h3 ⟨cv1, rv1, rfl, k3, hcv, hrv⟩
    generalize hfs : (factsM d cards m ns).1 = s at *
    generalize hfr : (factsM d cards m ns).2 = rows at *
    obtain ⟨c1a, c1c, rfl, _, _⟩ := hcv.val
    obtain ⟨r1a, r1c, rfl, _, _⟩ := hrv.val
    simp -dsimp
    generalize hD : Array.push (Array.push h3 _) _ = h4
    have k4 : Keep none_ h3 h4 := by rw [← hD]; exact ((Keep.refl none_ h3).pushed _).pushed _
    have z4 : h4.size = h3.size + 2 := by rw [← hD]; simp
    have v1 : h4[h3.size]? = some (.cells #[.slice none 0 0, .int .i64 0] 30 (0, 0)) := by rw [← hD]; exact push_at (push_new _ _)
    have v2 : h4[h3.size + 1]? = some (.cells #[.int .i64 0, .int .i64 0] 33 (0, 0)) := by rw [← hD]; exact push_get (by simp)
    have hsm1 : ∀ o, (Array.setIfInBounds h4 h3.size o)[h3.size]? = some o := fun o => set_same _ (lt_of_blk v1)
    have k3s := k3.size
    have k02s := k02.size
    have wA3 := k3.at wA2 (fun h => h)
    have wA4 := k4.at wA3 (fun h => h)
    have lA := lt_of_blk wA3
    have hsA : ∀ o, (Array.setIfInBounds h4 h3.size o)[h.size]? = h4[h.size]? := fun o => set_other _ (by omega)
    have hsB : ∀ (g : Heap) o, (Array.setIfInBounds g (h3.size + 1) o)[h.size]? = g[h.size]? := fun g o => set_other _ (by omega)
    clear hD
    simp -dsimp [v1, v2, set_other _ (show h3.size ≠ h3.size + 1 by omega), hsm1, hsA, hsB, wA4]
    generalize hE : Array.setIfInBounds (Array.setIfInBounds h4 _ _) _ _ = h5
    have kE : Keep none_ h3 h5 := by rw [← hE]; exact (k4.setted _ fun hh => by omega).setted _ fun hh => by omega
    have z5 : h5.size = h3.size + 2 := by rw [← hE]; simpa using z4
    have vS : h5[h3.size]? = some (.cells #[.slice c1a s.cards.length c1c, .int .i64 s.ms] 30 (0, 0)) := by rw [← hE]; exact (set_other _ (by omega)).trans (set_same _ (by omega))
    have wA5 := kE.at wA3 (fun h => h)
    clear hE hsm1 hsA hsB v1 v2 wA4 k4 z4
    have k05 : Keep none_ h h5 := (k02.trans k3 fun _ _ h => h).trans kE fun _ _ h => h
    have hd := hok.dims
    have hms := hok.ms
    have tE : ∀ b, Ft h2.size none_ h3 b → Old h5 b ∧ h5[b]? = h3[b]? := fun b hb => by
      have e : h5[b]? = h3[b]? := kE.blk b hb.2.1 (fun h => h)
      exact ⟨⟨nz, Nat.lt_of_lt_of_le hb.2.1 kE.size, fun h => h⟩, e⟩
    have rc5 := hcv.mono tE
    have rr5 := hrv.mono tE
    have hp0 := pow2_pos s.cards.length
    have hp4 : (2 : Int) ^ s.cards.length ≤ 2 ^ 4 := pow2_le hd.2
    have hpz : ((2 ^ s.cards.length : Nat) : Int) = 2 ^ s.cards.length := by simp
    have hsh := shl_one (k := s.cards.length) (by omega)
    have hshv : binV Tryz.prog .shl 3 (.int .i64 1) (.int .u64 (IntKind.u64.wrap (s.cards.length : Int))) = some (.int .i64 (2 ^ s.cards.length)) := hsh
    have z05 := k05.size
    have hful : IntKind.i64.wrap (2 ^ s.cards.length - 1) = 2 ^ s.cards.length - 1 := wrap_i64 (by omega) (by omega)
    obtain ⟨fu, efu⟩ : ∃ fu : Int, fu = 2 ^ s.cards.length - 1 := ⟨_, rfl⟩
    have hfu : setN s.cards fu = 2 ^ s.cards.length - 1 := by
      have h1 := setN_eq (cards := s.cards) fu
      have h2 : withinM fu (2 ^ s.cards.length) = fu := by
        unfold withinM
        rw [Int.tmod_eq_emod_of_nonneg (by omega), Int.emod_eq_of_lt (by omega) (by omega), if_neg (by omega)]
      rw [h2] at h1
      omega
    simp -dsimp [-intRes_shl, hsh, hful]
    rw [← efu]
    generalize hS : Array.push h5 _ = h5x
    have k5x : Keep none_ h5 h5x := by rw [← hS]; exact .push _ _ _
    have wx : h5x[h5.size]? = some (.cells #[.int .i64 fu] 3 (0, 0)) := by rw [← hS]; exact push_new _ _
    clear hS
    have rx : SlRep rInt (Old h5x) h5x (.slice (some ⟨h5.size, 0, none⟩) 1 1) [fu] := ⟨_, 1, _, rfl, Nat.le_refl _, by decide, .inr ⟨h5.size, 0, _, _, _, rfl, ⟨nz, lt_of_blk wx, fun h => h⟩, wx, rfl⟩, .single rfl⟩
    have k05x : Keep none_ h h5x := k05.trans k5x fun _ _ h => h
    have tO := (Tr.of k05x).ft (n := 0) (n' := 0) (Nat.le_refl 0)
    refine call_by (both14_spec (hc0.mono tO) (hn0.mono tO) rx) ?_
    rw [hfs, hfr]
    rintro _ h6 ⟨vp, w, F, G, M, N, ks, n, rfl, k6, p6, t6, hn6, hks⟩
    have k06 : Keep none_ h h6 := k05x.trans k6 fun _ _ h => h
    have k56 : Keep none_ h5 h6 := k5x.trans k6 fun _ _ h => h
    have vS6 := k56.at vS (fun h => h)
    have rc6 := rc5.mono ((Tr.of k56).ft (n := 0) (n' := 0) (Nat.le_refl 0))
    have rr6 := rr5.mono ((Tr.of k56).ft (n := 0) (n' := 0) (Nat.le_refl 0))
    have sok := hok.sch
    have f1 : (M.look (nameK ((2 ^ s.cards.length - 1 : Nat) : Int))).isSome = true := (t6.com _ (by omega)).2 (by have := hks 0 (by simp) (by omega); rwa [List.getElem_cons_zero, hfu] at this)
    have um := t6.smM.used
    simp -dsimp [-intRes_shl, vS6, hsh]
    refine call_by (within14_spec set _ hp0 (by omega) _) ?_
    rintro _ y' ⟨rfl, hh⟩
    obtain rfl := hh.symm
    obtain ⟨k, ek⟩ : ∃ k, k = withinM set (2 ^ s.cards.length) := ⟨_, rfl⟩
    have hkb := withinM_bound (a := set) hp0
    rw [← ek] at hkb ⊢
    simp -dsimp
    rw [push_set rfl]
    have t9 : Tr none_ (fun b => b = h6.size) h6 (h6.push (.cells #[.int .i64 k, .slice none 0 0] 27)) := ((Tr.start h6).pushM _).less fun b hb => .inr hb
    have wB : (h6.push (.cells #[.int .i64 k, .slice none 0 0] 27))[h6.size]? = some (.cells #[.int .i64 k, .slice none 0 0] 27 (0, 0)) := push_new _ _
    refine loopc (σ := Nat × Value) (fun t => [(2, .int .i64 dim), (7, .pointer (some ⟨h3.size, 0, none⟩)), (8, .slice r1a rows.length r1c), (10, .pointer (some vp)), (12, .int .i64 k), (13, .pointer (some ⟨h6.size, 0, none⟩)), (14, .int .i64 t.1)])
      (fun t y => t.1 ≤ s.cards.length ∧ ∃ M1 own, Tr none_ M1 h6 y ∧ M1 h6.size ∧ (∀ b, own = some b → h6.size + 1 ≤ b) ∧ y[h6.size]? = some (.cells #[.int .i64 k, t.2] 27 (0, 0)) ∧ Gr rFil 57 (h6.size + 1) M1 y t.2 (allF s.cards t.1) own)
      (fun t => s.cards.length - t.1) (0, .slice none 0 0) 0 (fun t _ => t.1 = s.cards.length) noRet noRet_le (by simp)
      ⟨Nat.zero_le _, _, none, t9, rfl, (fun _ h => by cases h), wB, .nil _ _ _ _ _⟩ (by kernel_rfl) ?_ ?_
    · rintro ⟨i, v⟩ y g ⟨hi, M1, own, t, hM, hown, wBy, gr⟩
      simp only at hi wBy gr
      obtain ⟨va, vn, vc, rfl, hvn⟩ := gr.vals
      have vSy : y[h3.size]? = _ := t.at vS6 (fun h => h)
      have wi := wrap_succ (k := i) (by omega)
      by_cases hil : i < s.cards.length
      · obtain ⟨b1, o1, e1, _, hx⟩ := (rc6.mono t.old).int_at i hil
        cases e1
        obtain ⟨c, ec⟩ : ∃ c, c = s.cards[i] := ⟨_, rfl⟩
        rw [← ec] at hx
        have hcb := sok.cards _ (List.getElem_mem hil)
        rw [← ec] at hcb
        have wc : IntKind.i64.wrap (c - 1) = c - 1 := wrap_i64 (by omega) (by omega)
        have wBp : ∀ o, (y.push o)[h6.size]? = _ := fun o => push_at wBy
        simp -dsimp [vSy, hil]
        refine drawn_by [⟨0, true, []⟩, ⟨1, true, []⟩, ⟨2, true, []⟩, ⟨3, true, []⟩, ⟨4, true, []⟩, ⟨5, true, []⟩, ⟨6, true, []⟩, ⟨7, true, []⟩, ⟨8, true, []⟩, ⟨9, false, [0, 1]⟩, ⟨10, false, [0, 1]⟩, ⟨11, false, []⟩, ⟨12, true, []⟩, ⟨13, false, []⟩] (by kernel_rfl) (by kernel_rfl) ?_
        simp -dsimp [vSy, wBy, wBp, idxV_nat hil, elSz_eq, hx, wc, again_cons]
        refine gr_app1 (x := ⟨(i : Int), 0, c - 1⟩) rfl filT gr t.lt rfl rfl (by simp [allF]; omega) (by simp [allF]; omega) ?_
        intro v' y2 own' g2 t2 k2' ho
        have u2 := k2'.at wBy (fun e => by have := hown _ e; omega)
        have hown' : ∀ b, own' = some b → h6.size + 1 ≤ b := fun b e => (ho _ e).elim (hown b) (by have := lt_of_blk wBy; omega)
        obtain ⟨va', vn', vc', rfl, _⟩ := g2.vals
        simp -dsimp [u2, wi]
        refine ⟨(i + 1, .slice va' vn' vc'), by simp, rfl, ⟨hil, _, own', (t.trans t2).set _ (.inl hM), .inl hM, hown', set_same _ (lt_of_blk u2), ?_⟩, by show s.cards.length - (i + 1) < s.cards.length - i; omega⟩
        have e2 : allF s.cards (i + 1) = allF s.cards i ++ [⟨(i : Int), 0, c - 1⟩] := by
          unfold allF
          rw [List.range_succ, List.map_append, List.map_singleton, cardAt_get (by omega) (by omega)]
          simp only [Int.toNat_natCast]
          rw [ec]
        rw [e2]
        exact g2.set _ (.inl hM) (fun e => by have := hown' _ e; omega)
      · simp -dsimp [vSy, hil]
        exact ⟨rfl, (i, .slice va vn vc), by simp, rfl, ⟨hi, M1, own, t, hM, hown, wBy, gr⟩, by show i = _; omega⟩
    rintro ⟨i, v⟩ y g ⟨hi, M1, own, t, hM, hown, wBy, gr⟩ hin
    simp only at hi wBy gr hin
    subst hin
    obtain ⟨va, vn, vc, rfl, hvn⟩ := gr.vals
    have ky : Keep none_ h6 y := t.keep
    have rF : SlRep rFil (Old y) y (.slice va vn vc) (allF s.cards s.cards.length) := (gr.rep (Nat.le_refl _) hown).mono (Ft.free (Nat.zero_le _))
    have hr1 := allF_right sok hkb
    have e1 := err_full hok f1 hr1
    simp -dsimp [wBy]
    refine call_by (pask2_spec (p6.none ky).st (by omega) rF t6.cube) ?_
    rintro _ y1 ⟨lv, rfl, k1y, hl⟩
    rw [ans_rows hok hr1 e1, allF_by hok] at hl
    rw [e1]
    obtain ⟨la, lc, rfl, _, _⟩ := hl.val
    have hr2 : rightM s.cards k [] = true := by unfold rightM; rw [if_neg (by omega)]; rfl
    have e2 := err_full hok f1 hr2
    have k61 : Keep none_ h6 y1 := ky.trans k1y fun _ _ h => h
    simp -dsimp
    refine call_by (pask2_spec (fs := []) (p6.none k61).st (by omega) (.nil _ _ _) t6.cube) ?_
    rintro _ y2 ⟨mv, rfl, k2y, hm⟩
    have hall : rows.filter (rowBy []) = rows := List.filter_eq_self.2 fun r _ => rfl
    rw [ans_rows hok hr2 e2, hall] at hm
    rw [e2]
    obtain ⟨ma, mc, rfl, _, _⟩ := hm.val
    have k62 : Keep none_ h6 y2 := k61.trans k2y fun _ _ h => h
    have vS2 := k62.at vS6 (fun h => h)
    simp -dsimp [vS2]
    refine call_by (within14_spec dim _ (by omega) (by omega) _) ?_
    rintro _ y' ⟨rfl, hh⟩
    obtain rfl := hh.symm
    have hdb := withinM_bound (a := dim) (n := (s.cards.length : Int)) (by omega)
    obtain ⟨D, eD⟩ : ∃ D : Nat, withinM dim s.cards.length = D := ⟨(withinM dim s.cards.length).toNat, by omega⟩
    have hDl : D < s.cards.length := by omega
    rw [eD]
    have rr2 := rr6.mono ((Tr.of k62).ft (n := 0) (n' := 0) (Nat.le_refl 0))
    have rl2 : SlRep rCell (Old y2) y2 (.slice la (groupC (rows.map (ofM k))).length lc) (groupC (rows.map (ofM k))) := (hl.mono (Ft.free (Nat.zero_le _))).mono ((Tr.of k2y).ft (Nat.le_refl 0))
    have rm2 : SlRep rCell (Old y2) y2 (.slice ma (groupC (rows.map (ofM k))).length mc) (groupC (rows.map (ofM k))) := hm.mono (Ft.free (Nat.zero_le _))
    obtain ⟨ln, eln⟩ : ∃ ln, ln = groupC (rows.map (ofM k)) := ⟨_, rfl⟩
    rw [← eln] at rl2 rm2 ⊢
    simp -dsimp
    have hll := hok.len
    refine loopc (σ := Nat) (fun i => [(8, .slice r1a rows.length r1c), (10, .pointer (some vp)), (12, .int .i64 k), (15, .slice la ln.length lc), (16, .int .i64 0), (17, .slice ma ln.length mc), (18, .int .i64 0), (19, .int .i64 (D : Int)), (20, .bool (anyZ D (rows.take i))), (21, .int .i64 i)])
      (fun i y => i ≤ rows.length ∧ Keep none_ y2 y) (fun i => rows.length - i) 0 2 (fun i _ => i = rows.length) noRet noRet_le (by simp [show anyZ D [] = false from rfl]) ⟨Nat.zero_le _, .refl _ _⟩ (by kernel_rfl) ?_ ?_
    · rintro i y3 g3 ⟨hi3, k3y⟩
      have wi := wrap_succ (k := i) (by omega)
      by_cases hil : i < rows.length
      · obtain ⟨bk, off, cs, e3, hfb, ⟨kv, mv', ecs, hkv, hmv⟩, hcs⟩ := (rr2.mono ((Tr.of k3y).ft (n := 0) (n' := 0) (Nat.le_refl 0))).get i hil
        cases e3
        subst ecs
        have hcs0 : HC.cellIn y3[bk]? (off + i * 2) = some kv := by
          have := cellsIn_cell (d := 0) hcs (by decide)
          simpa [rRow] using this
        have hkl := (hok.key _ (List.getElem_mem hil)).1
        obtain ⟨ka, kc, rfl, _, _⟩ := hkv.val
        obtain ⟨b5, o5, e5, _, hx5⟩ := hkv.int_at D (by omega)
        cases e5
        have hDk : D < (rows[i]).key.length := by omega
        have eany := anyZ_take (D := D) hil hDk
        cases hb : (anyZ D (rows.take i)) with
        | true =>
          rw [hb, Bool.true_or] at eany
          simp -dsimp [hil, wi]
          exact ⟨i + 1, by simp [eany], rfl, ⟨hil, k3y⟩, by show rows.length - (i + 1) < rows.length - i; omega⟩
        | false =>
          rw [hb, Bool.false_or] at eany
          simp -dsimp [hil, wi, idxA_nat hil, idxA_nat hDk, hcs0, hx5]
          by_cases hz : (rows[i]).key[D] = 0
          · rw [decide_eq_true hz] at eany
            simp -dsimp [hz]
            exact ⟨i + 1, by simp [eany], rfl, ⟨hil, k3y⟩, by show rows.length - (i + 1) < rows.length - i; omega⟩
          · rw [decide_eq_false hz] at eany
            have hz' : ((rows[i]).key[D] == 0) = false := by simpa using hz
            simp -dsimp [hz']
            exact ⟨i + 1, by simp [eany], rfl, ⟨hil, k3y⟩, by show rows.length - (i + 1) < rows.length - i; omega⟩
      · simp -dsimp [hil]
        exact ⟨rfl, i, by simp, rfl, ⟨hi3, k3y⟩, by show i = _; omega⟩
    rintro i y3 g3 ⟨hi3, k3y⟩ hin
    subst hin
    rw [List.take_length]
    obtain ⟨sb, esb⟩ : ∃ sb, sb = (anyZ D rows) := ⟨_, rfl⟩
    rw [← esb]
    have k63 : Keep none_ h6 y3 := k62.trans k3y fun _ _ h => h
    have hcb := sok.cards _ (List.getElem_mem hDl)
    have hr3 := one_right sok hkb hDl (lo := 0) (hi := 0) (by omega) (by omega) (by rw [cardAt_get (by omega) (by omega)]; simp only [Int.toNat_natCast]; omega)
    have e3 := err_full hok f1 hr3
    simp -dsimp
    generalize hP : Array.push y3 _ = y4
    have k4y : Keep none_ y3 y4 := by rw [← hP]; exact .push _ _ _
    have wF : y4[y3.size]? = some (.cells #[.int .i64 D, .int .i64 0, .int .i64 0] 57 (0, 0)) := by rw [← hP]; exact push_new _ _
    clear hP
    have rF3 : SlRep rFil (Old y4) y4 (.slice (some ⟨y3.size, 0, none⟩) 1 1) [⟨(D : Int), 0, 0⟩] := ⟨_, 1, _, rfl, Nat.le_refl _, by decide, .inr ⟨y3.size, 0, _, _, _, rfl, ⟨nz, lt_of_blk wF, fun h => h⟩, wF, rfl⟩, .single rfl⟩
    have k64 : Keep none_ h6 y4 := k63.trans k4y fun _ _ h => h
    refine call_by (pask2_spec (p6.none k64).st (by omega) rF3 t6.cube) ?_
    rintro _ y5 ⟨nv', rfl, k5y, hnv⟩
    rw [ans_rows hok hr3 e3] at hnv
    rw [e3]
    obtain ⟨n1, n2, rfl, _, _⟩ := hnv.val
    have k25 : Keep none_ y2 y5 := (k3y.trans k4y fun _ _ h => h).trans k5y fun _ _ h => h
    have rl5 := rl2.mono ((Tr.of k25).ft (n := 0) (n' := 0) (Nat.le_refl 0))
    have rm5 := rm2.mono ((Tr.of k25).ft (n := 0) (n' := 0) (Nat.le_refl 0))
    simp -dsimp
    refine call_by (rsame_spec rl5 rm5) ?_
    rintro _ y6 ⟨⟨b6, rfl, hb6⟩, k6y⟩
    obtain rfl : b6 = true := hb6.2 rfl
    have hrow : ∀ r ∈ rows, r.key.length < 64 ∧ r.m.length = s.ms.toNat := fun r hr => ⟨by rw [(hok.key r hr).1]; omega, (hok.m r hr).1⟩
    have k26 : Keep none_ y2 y6 := k25.trans k6y fun _ _ h => h
    simp -dsimp
    refine call_by (rfacts_spec (m := s.ms.toNat) k (rr2.mono ((Tr.of k26).ft (n := 0) (n' := 0) (Nat.le_refl 0))) (by omega) (by omega) hrow) ?_
    rintro fv y7 ⟨hfv, k7y⟩
    have k27 : Keep none_ y2 y7 := k26.trans k7y fun _ _ h => h
    rw [← eln] at hfv
    simp -dsimp
    refine call_by (rsame_spec (rl2.mono ((Tr.of k27).ft (n := 0) (n' := 0) (Nat.le_refl 0))) hfv) ?_
    rintro _ y8 ⟨⟨b8, rfl, hb8⟩, k8y⟩
    obtain rfl : b8 = true := hb8.2 rfl
    have kend : Keep none_ h y8 := ((k06.trans k62 fun _ _ h => h).trans k27 fun _ _ h => h).trans k8y fun _ _ h => h
    cases sb with
    | true =>
      simp -dsimp
      exact hK _ _ ⟨rfl, kend⟩
    | false =>
      have hnone := none_by hok hDl (anyZ_none esb.symm)
      have e0 : (groupC ((rows.filter (rowBy [⟨(D : Int), 0, 0⟩])).map (ofM k))).length = 0 := by rw [hnone]; rfl
      rw [e0]
      simp -dsimp
      exact hK _ _ ⟨rfl, kend⟩
end Go.Proofs


namespace Go.Proofs.YtgjklplbldgodaaGreatDoor
open Go Go.ChangeShapes Go.WideShapes Go.ChangeAt Go.RowKit Go.HC

theorem own0 : ownKnob Tryz.prog.godebug = none := by kernel_rfl
theorem laid0 : laidOutB Tryz.prog = true := by kernel_rfl
theorem ui : Tryz.prog.underlying 3 = some (.int .i64) := by kernel_rfl
theorem ci : Tryz.prog.cellsOf 3 = 1 := by kernel_rfl
theorem uis : Tryz.prog.underlying 22 = some (.slice 3) := by kernel_rfl
theorem cis : Tryz.prog.cellsOf 22 = 1 := by kernel_rfl
noncomputable def fsS : Array Field := match Tryz.prog.underlying 24 with | some (.struct fs) => fs | _ => #[]
theorem usS : Tryz.prog.underlying 24 = some (.struct fsS) := by kernel_rfl
theorem cS : Tryz.prog.cellsOf 24 = 6 := by kernel_rfl
theorem lS : fsS.map (fun f => (f.type, f.offset)) = #[(3, 0), (3, 1), (3, 2), (3, 3), (22, 4), (22, 5)] := by kernel_rfl
theorem ub : Tryz.prog.underlying 4 = some .bool := by kernel_rfl

theorem door_met (os : Os) (args : Array Value) : laidMetH Tryz.prog Rows.queryAllByRow.laid ((World.doorLaid Tryz.prog 4000 os).forCall (fun _ _ => 0) ⟨#[], args, []⟩).memory :=
  laidMetH_of_parts3 (fuel := 8) (laidMet_of_run' 8 (by kernel_rfl) (by kernel_rfl)) (by kernel_rfl) (by kernel_rfl)

set_option maxHeartbeats 8000000 in
set_option maxRecDepth 100000 in
theorem lifted (os : Os) (started : os.Started) (H : Type) (enc : TypeId × Value → H) :
    ReturnsInHanded {} Tryz.checked os 6 .any (fun w args => (Rows.queryAllBySpec.pre enc Tryz.prog Tryz.f6 Rows.queryAllByRow.domain false w args ∧ laidMetH Tryz.prog Rows.queryAllByRow.laid w) ∧ sizedMet enc Tryz.prog Tryz.f6 (OpenSpec.ofChange Rows.queryAllBySpec) false w args) (Rows.queryAllBySpec.post enc Tryz.prog Tryz.f6 false true false false) := by
  refine returnsInHanded_of_change_and (C := Tryz.checked) (X := fun w _ => laidMetH Tryz.prog Rows.queryAllByRow.laid w) (fun _ _ _ hh h => h.of_heap hh) own0 started (by kernel_rfl) Tryz.func6
    (ChangeSpec.witness_shaped (enc := enc) (C := Tryz.checked) (os := os) (X := fun w _ => laidMetH Tryz.prog Rows.queryAllByRow.laid w) false (World.doorLaid Tryz.prog 4000 os) #[.agg #[.int .i64 0, .int .i64 0, .int .i64 0, .int .i64 0, .slice none 0 0, .slice none 0 0], .int .i64 0, .int .i64 0] 8 rfl (World.shaped_of_RefB (by kernel_rfl) (by kernel_rfl)) (by kernel_rfl) (by kernel_rfl) (by kernel_rfl) (door_met os _)) ?_
  intro W base args ds gs before hval0 hW _ _ _ _
  have hval : ∀ (j : Nat) t v, Tryz.f6.params[j]? = some t → args[j]? = some v → Value.okWide Tryz.prog W .any base t v := hval0
  have hW' := hW
  obtain ⟨p, q, hA0, hV, rfl, _, _⟩ := hW
  have hA : DataW.TrodAll enc Tryz.prog W 0 (fun _ => true) true Tryz.f6.params.toList args.toList ds p := hA0
  have hps : Tryz.f6.params = #[24, 3, 3] := by kernel_rfl
  rw [hps] at hA hval
  have hA1 := hA
  obtain ⟨v0, vs0, d0, ds0, p0, q0, ha0, hd0, hp0, h0, hr0⟩ := trodAll_cons hA1
  obtain ⟨v1, vs1, d1, ds1, p1, q1, ha1, hd1, hp1, h1, hr1⟩ := trodAll_cons hr0
  obtain ⟨v2, vs2, d2, ds2, p2, q2, ha2, hd2, hp2, h2, hr2⟩ := trodAll_cons hr1
  obtain ⟨rfl, rfl, rfl⟩ := trodAll_nil hr2
  subst ha2; subst hd2; subst hp2
  subst ha1; subst hd1; subst hp1
  subst hd0; subst hp0
  obtain rfl : args = #[v0, v1, v2] := by cases args; simp_all
  obtain ⟨rfl, rfl⟩ := trodVars_none hV
  obtain ⟨na0, nb0, nc0, ne0, w0, z0, xs0, ys0, rfl, x0, y0⟩ := open_shape usS cS lS ui ci uis cis (hval 0 24 v0 rfl rfl) h0
  obtain ⟨a1, rfl, _, _, _⟩ := open_int ui (hval 1 3 v1 rfl rfl) h1
  obtain ⟨a2, rfl, _, _, _⟩ := open_int ui (hval 2 3 v2 rfl rfl) h2
  clear hA0 hval0
  simp only [List.append_nil] at hW' hA ⊢
  have hlt := fun x hx => hW'.lt x hx
  refine (calls_of (queryAllBy_spec x0 (fun _ h => h) y0 (fun _ h => h) a1 a2)).mono fun e W' ⟨he, hb⟩ => ?_
  subst he
  refine ⟨_, rfl, _, _, _, _, _, [], hW', trodAll_mk1 (shut_bool ub true), below_trodAll laid0 hb (by kernel_rfl) hA (fun x hx => by simpa using hlt x (by simpa using hx)), rfl, hb.frame _, fun h => by cases h⟩

theorem queryallby_holds : Rows.QueryAllBySaid :=
  OpenClaim.holds_of_wide 6 Tryz.f6 rfl rfl rfl rfl rfl rfl rfl ⟨rfl, rfl, rfl, rfl, rfl⟩ rfl rfl rfl rfl rfl (by kernel_rfl) Tryz.func6 (by kernel_rfl)
    (of_decide_eq_true (by kernel_rfl)) (by unfold Func.isWrapper; first | (rw [if_pos (by decide +kernel)]; kernel_rfl) | (rw [if_neg (by decide +kernel)]; exact ⟨rfl, rfl⟩))
    (fun os started H enc _ => lifted os started H enc)

theorem queryallby_holds_card : Rows.QueryAllByCardSaid :=
  Claim7.holds_tied_plain_at .later [] [.data, .data, .data] true Rows.queryAllByCard.stood.harness false
    queryallby_holds (fun _ h => by cases h) (by kernel_rfl) (fun _ h => by cases h) queryAllBy_row_tie rfl ⟨rfl, rfl⟩ (by kernel_rfl) rfl
    (fun f fn hf hfn => by
      obtain rfl : f = 6 := Option.some.inj ((show Tryz.prog.funcNamed "hypercube/hypercubelaw14.QueryAllBy" = some 6 by kernel_rfl).symm.trans hf) |>.symm
      obtain rfl : fn = Tryz.f6 := (Option.some.inj (Tryz.func6.symm.trans hfn)).symm
      exact ⟨by kernel_rfl, fun j t ht => by
        have hps : Tryz.f6.params = #[24, 3, 3] := by kernel_rfl
        rw [hps] at ht
        have hm : t ∈ [24, 3, 3] := by simpa using Array.mem_of_getElem? ht
        have hall : ([24, 3, 3].all fun u => !Tryz.prog.wantsStandIn u) = true := by kernel_rfl
        exact (show Tryz.prog.wantsStandIn t = false by simpa using List.all_eq_true.1 hall t hm)⟩)
    (by kernel_rfl)
end Go.Proofs.YtgjklplbldgodaaGreatDoor
