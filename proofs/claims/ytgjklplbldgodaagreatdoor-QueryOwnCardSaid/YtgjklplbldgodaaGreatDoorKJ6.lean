/-
  hypercubelaw14.QueryOwn returns true for all arguments, and its arguments read behind the call as they read ahead of it; the row itself asks of three tables of the library that they read as their text lays them, and the proof does not use that.
-/
import Derived.Test.YtgjklplbldgodaaGreatDoorKCe
import Derived.Test.YtgjklplbldgodaaGreatDoorRows
import Derived.Test.YtgjklplbldgodaaGreatDoorCards
import Derived.Test.YtgjklplbldgodaaGreatDoorTie
import Derived.LaidMore
import Derived.OpenShut
import Derived.Stop.Joined
/-
  QueryOwn: the walk.
-/
namespace Go.Proofs
open Go Go.HC

set_option maxHeartbeats 2000000 in
set_option maxRecDepth 100000 in
theorem queryOwn_spec {h : Heap} {d m p q : Int} {F1 F2 F3 F4 : Nat → Prop} {cv nv sv fv : Value} {cards ns sets fs : List Int} (hc : SlRep rInt F1 h cv cards) (hF1 : ∀ b, F1 b → b < h.size) (hn : SlRep rInt F2 h nv ns) (hF2 : ∀ b, F2 b → b < h.size) (hs : SlRep rInt F3 h sv sets) (hF3 : ∀ b, F3 b → b < h.size) (set : Int) (hf : SlRep rInt F4 h fv fs) (hF4 : ∀ b, F4 b → b < h.size) (by_ : Int) :
    CallH Tryz.prog 8 #[.agg #[.int .i64 d, .int .i64 m, .int .i64 p, .int .i64 q, cv, nv], sv, .int .i64 set, fv, .int .i64 by_] h fun r h' => r = .bool true ∧ Keep none_ h h' := by
  refine callH_by fun K hK => ?_
  refine enter [.tmp 10] Tryz.func8 rfl rfl (by kernel_rfl) rfl ?_
  replace hc := hc.mono (F' := Old h) (h' := h) fun b hb => ⟨⟨nz, hF1 b hb, fun h => h⟩, rfl⟩
  have hc0 := hc
  replace hn := hn.mono (F' := Old h) (h' := h) fun b hb => ⟨⟨nz, hF2 b hb, fun h => h⟩, rfl⟩
  have hn0 := hn
  replace hs := hs.mono (F' := Old h) (h' := h) fun b hb => ⟨⟨nz, hF3 b hb, fun h => h⟩, rfl⟩
  have hs0 := hs
  replace hf := hf.mono (F' := Old h) (h' := h) fun b hb => ⟨⟨nz, hF4 b hb, fun h => h⟩, rfl⟩
  have hf0 := hf
  obtain ⟨ca, cc, rfl, _, _⟩ := hc.val
  obtain ⟨na, nc, rfl, _, _⟩ := hn.val
  obtain ⟨sa, sc, rfl, _, _⟩ := hs.val
  obtain ⟨fa, fc, rfl, _, _⟩ := hf.val
  have hok := factsM_ok d cards m ns
  have hr40 := factsM_len d cards m ns
  simp -dsimp [boxS_eq]
  generalize hB : Array.push h _ = h0
  have k0 : Keep none_ h h0 := by rw [← hB]; exact .push _ _ _
  have wA : h0[h.size]? = some (.cells #[.int .i64 d, .int .i64 m, .int .i64 p, .int .i64 q, .slice ca cards.length cc, .slice na ns.length nc] 24 (0, 0)) := by rw [← hB]; exact push_new _ _
  clear hB
  refine call_by (known14_spec h0) ?_
  rintro _ h1 ⟨rfl, k1⟩
  have wA1 := k1.at wA (fun h => h)
  simp -dsimp [wA1]
  refine call_by (few_spec h1) ?_
  rintro _ h2 ⟨rfl, k2⟩
  have k02 : Keep none_ h h2 := (k0.trans k1 fun _ _ h => h).trans k2 fun _ _ h => h
  have wA2 := k2.at wA1 (fun h => h)
  cases hfew : (decide (cards.length ≤ 20) && decide (ns.length ≤ 60)) with
  | false =>
    simp -dsimp
    exact hK _ _ ⟨rfl, k02⟩
  | true =>
    simp -dsimp [wA2]
    refine call_by (smake_spec fun y ky => facts1_spec d m (hc0.mono ((Tr.of (k02.trans ky fun _ _ h => h)).ft (Nat.le_refl 0))) (hn0.mono ((Tr.of (k02.trans ky fun _ _ h => h)).ft (Nat.le_refl 0)))) ?_
    rintro _ h3 ⟨cv1, rv1, rfl, k3, hcv, hrv⟩
    generalize hfs : (factsM d cards m ns).1 = s at *
    generalize hfr : (factsM d cards m ns).2 = rows at *
    obtain ⟨c1a, c1c, rfl, _, _⟩ := hcv.val
    obtain ⟨r1a, r1c, rfl, _, _⟩ := hrv.val
    simp -dsimp
    generalize hD : Array.push (Array.push h3 _) _ = h4
    have k4 : Keep none_ h3 h4 := by rw [← hD]; exact ((Keep.refl none_ h3).pushed _).pushed _
    have z4 : h4.size = h3.size + 2 := by rw [← hD]; simp
    have v1 : h4[h3.size]? = some (.cells #[.slice none 0 0, .int .i64 0] 30 (0, 0)) := by rw [← hD]; exact push_at (push_new _ _)
    have v2 : h4[h3.size + 1]? = some (.cells #[.int .i64 0, .int .i64 0] 33 (0, 0)) := by rw [← hD]; exact push_get (by simp)
    have hsm1 : ∀ o, (Array.setIfInBounds h4 h3.size o)[h3.size]? = some o := fun o => set_same _ (lt_of_blk v1)
    have k3s := k3.size
    have k02s := k02.size
    have wA3 := k3.at wA2 (fun h => h)
    have wA4 := k4.at wA3 (fun h => h)
    have lA := lt_of_blk wA3
    have hsA : ∀ o, (Array.setIfInBounds h4 h3.size o)[h.size]? = h4[h.size]? := fun o => set_other _ (by omega)
    have hsB : ∀ (g : Heap) o, (Array.setIfInBounds g (h3.size + 1) o)[h.size]? = g[h.size]? := fun g o => set_other _ (by omega)
    clear hD
    simp -dsimp [v1, v2, set_other _ (show h3.size ≠ h3.size + 1 by omega), hsA, hsB, wA4]
    generalize hE : Array.setIfInBounds (Array.setIfInBounds h4 _ _) _ _ = h5
    have kE : Keep none_ h3 h5 := by rw [← hE]; exact (k4.setted _ fun hh => by omega).setted _ fun hh => by omega
    have z5 : h5.size = h3.size + 2 := by rw [← hE]; simpa using z4
    have vS : h5[h3.size]? = some (.cells #[.slice c1a s.cards.length c1c, .int .i64 s.ms] 30 (0, 0)) := by rw [← hE]; exact (set_other _ (by omega)).trans (set_same _ (by omega))
    have wA5 := kE.at wA3 (fun h => h)
    clear hE hsm1 hsA hsB v1 v2 wA4 k4 z4
    have k05 : Keep none_ h h5 := (k02.trans k3 fun _ _ h => h).trans kE fun _ _ h => h
    have hd := hok.dims
    have hms := hok.ms
    have tE : ∀ b, Ft h2.size none_ h3 b → Old h5 b ∧ h5[b]? = h3[b]? := fun b hb => by
      have e : h5[b]? = h3[b]? := kE.blk b hb.2.1 (fun h => h)
      exact ⟨⟨nz, Nat.lt_of_lt_of_le hb.2.1 kE.size, fun h => h⟩, e⟩
    have rc5 := hcv.mono tE
    have rr5 := hrv.mono tE
    have hp0 := pow2_pos s.cards.length
    have hp4 : (2 : Int) ^ s.cards.length ≤ 2 ^ 4 := pow2_le hd.2
    have hpz : ((2 ^ s.cards.length : Nat) : Int) = 2 ^ s.cards.length := by simp
    have hsh := shl_one (k := s.cards.length) (by omega)
    have hshv : binV Tryz.prog .shl 3 (.int .i64 1) (.int .u64 (IntKind.u64.wrap (s.cards.length : Int))) = some (.int .i64 (2 ^ s.cards.length)) := hsh
    have z05 := k05.size
    have tO := (Tr.of k05).ft (n := 0) (n' := 0) (Nat.le_refl 0)
    refine call_by (both14_spec (hc0.mono tO) (hn0.mono tO) (hs0.mono tO)) ?_
    rw [hfs, hfr]
    rintro _ h6 ⟨vp, w, F, G, M, N, ks, n, rfl, k6, p6, t6, hn6, hks⟩
    have vS6 := k6.at vS (fun h => h)
    simp -dsimp [vS6]
    have rc6 := rc5.mono ((Tr.of k6).ft (Nat.le_refl 0))
    have k06 : Keep none_ h h6 := k05.trans k6 fun _ _ h => h
    have sok := hok.sch
    refine call_by (query14_spec sok set rc6 (hf0.mono ((Tr.of k06).ft (Nat.le_refl 0)))) ?_
    rintro _ h7 ⟨qv, rfl, hq, k7⟩
    obtain ⟨a, ea⟩ : ∃ a, a = withinM set (2 ^ s.cards.length) := ⟨_, rfl⟩
    have hab := withinM_bound (a := set) hp0
    rw [← ea] at hab ⊢
    have hr := fils_right sok hab fs
    obtain ⟨fl, efl⟩ : ∃ fl, fl = filsM s.cards fs := ⟨_, rfl⟩
    rw [← efl] at hq hr
    obtain ⟨q1, q2, rfl, _, _⟩ := hq.val
    simp -dsimp
    rw [push_set rfl]
    generalize hQ : Array.push h7 _ = h8
    have k8 : Keep none_ h7 h8 := by rw [← hQ]; exact .push _ _ _
    have z8 : h8.size = h7.size + 1 := by rw [← hQ]; simp
    have wQ : h8[h7.size]? = some (.cells #[.int .i64 a, .slice q1 fl.length q2] 27 (0, 0)) := by rw [← hQ]; exact push_new _ _
    clear hQ
    have hq8 : SlRep rFil (Old h8) h8 (.slice q1 fl.length q2) fl := (hq.mono (Ft.free (Nat.zero_le _))).mono ((Tr.of k8).ft (Nat.le_refl 0))
    have p8 := (p6.none k7).none k8
    have um := t6.smM.used
    have un := t6.smN.used
    have ul := t6.smN.files
    have cN := t6.alike.cube t6.cube
    have hcom := t6.alike.com rows
    have hcel := ans_cells (M := M) hok hr
    have hln := ans_len (M := M) hok hr
    try simp -dsimp [wQ]
    refine call_by (pask2_spec p8.st (by omega) hq8 t6.cube) ?_
    rintro _ h9 ⟨lv, rfl, k9, hl⟩
    generalize hLn : ansM (comM M rows) s.cards a fl = ln at hl hcel hln
    generalize hEr : errM (comM M rows) s.cards a fl = er
    obtain ⟨la, lc, rfl, _, _⟩ := hl.val
    have hdl4 : (dimsM a).length ≤ 4 := cntD_le a 4
    obtain ⟨pr, ep⟩ : ∃ p : CellM → Prop, p = fun c => c.key.length = (dimsM a).length ∧ c.sum.length = s.ms.toNat := ⟨_, rfl⟩
    have hpp : ∀ c, pr c → c.key.length = (dimsM a).length ∧ c.sum.length = s.ms.toNat := fun c hc => by rw [ep] at hc; exact hc
    have hp : ∀ c d, Like d c → pr c → pr d := fun c d hl hc => by rw [ep] at hc ⊢; exact ⟨by rw [hl.1]; exact hc.1, by rw [hl.2.2.2]; exact hc.2⟩
    have sh0 := hl.sh (p := pr) (by omega) (fun c hc => by rw [ep]; exact ⟨(hcel c hc).klen, (hcel c hc).sum⟩)
    obtain ⟨kl, ekl⟩ : ∃ kl, kl = (dimsM a).length := ⟨_, rfl⟩
    rw [← ekl] at hdl4 hpp
    obtain ⟨B, eB⟩ : ∃ B, B = Ft h8.size none_ h9 := ⟨_, rfl⟩
    rw [← eB] at sh0
    simp -dsimp
    refine loopc (σ := Nat) (fun i => [(2, .int .i64 set), (3, .slice fa fs.length fc), (4, .int .i64 by_), (11, .pointer (some ⟨h3.size, 0, none⟩)), (14, .pointer (some vp)), (15, w), (16, .pointer (some ⟨h7.size, 0, none⟩)), (17, .slice la ln.length lc), (19, .int .i64 i)])
      (fun i y => Sh B h8.size h9.size ln.length pr (.slice la ln.length lc) h9 y ∧ i ≤ ln.length) (fun i => ln.length - i) 0 0 (fun i _ => i = ln.length) noRet noRet_le (by simp) ⟨sh0, Nat.zero_le _⟩ (by kernel_rfl) ?_ ?_
    · rintro i z7 g7 ⟨z, hi⟩
      have wi := wrap_succ (k := i) (by omega)
      by_cases hil : i < ln.length
      · obtain ⟨bk, off, c, o, e, hw0, z0⟩ := z.count hp hil by_
        cases e
        simp -dsimp [hil, idxA_nat hil, hw0]
        refine loopc (σ := Nat) (fun j => [(2, .int .i64 set), (3, .slice fa fs.length fc), (4, .int .i64 by_), (11, .pointer (some ⟨h3.size, 0, none⟩)), (14, .pointer (some vp)), (15, w), (16, .pointer (some ⟨h7.size, 0, none⟩)), (17, .slice (some ⟨bk, off, none⟩) ln.length lc), (19, .int .i64 i), (20, .int .i64 j)]) (fun j y => Sh B h8.size h9.size ln.length pr (.slice (some ⟨bk, off, none⟩) ln.length lc) h9 y ∧ j ≤ s.ms.toNat) (fun j => s.ms.toNat - j) 0 2 (fun j _ => j = s.ms.toNat) noRet noRet_le (by simp) ⟨z0, Nat.zero_le _⟩ (by kernel_rfl) ?_ ?_
        · rintro j z9 g9 ⟨w9, hj⟩
          have wj := wrap_succ (k := j) (by omega)
          obtain ⟨bk', off', c', d', kv, sv', nv', xv', e, hf', hx, hpd, qk, qs, qn⟩ := w9.get hil
          cases e
          have hdl := hpp _ hpd
          obtain ⟨na', nc', rfl, _, _⟩ := qs.val
          have hx3 : HC.cellIn z9[bk]? (off + i * 5 + 2) = _ := cellsIn_cell (d := 2) hx (by decide)
          by_cases hjl : j < s.ms.toNat
          · have hjn : j < d'.sum.length := by omega
            obtain ⟨bn, on, o1, rfl, hw1, w10⟩ := w9.int hp qs hjn by_
            simp -dsimp [idxA_nat hil, idxA_nat hjn, hx3, hjn, hw1, wj]
            exact ⟨j + 1, by simp, rfl, ⟨w10, by omega⟩, by show s.ms.toNat - (j + 1) < s.ms.toNat - j; omega⟩
          · have hjn : ¬ j < d'.sum.length := by omega
            simp -dsimp [idxA_nat hil, hx3, hjn]
            exact ⟨rfl, j, by simp, rfl, ⟨w9, hj⟩, by show j = s.ms.toNat; omega⟩
        · rintro j z8' g8 ⟨z8'', hj⟩ _
          simp -dsimp
          refine loopc (σ := Nat) (fun j => [(2, .int .i64 set), (3, .slice fa fs.length fc), (4, .int .i64 by_), (11, .pointer (some ⟨h3.size, 0, none⟩)), (14, .pointer (some vp)), (15, w), (16, .pointer (some ⟨h7.size, 0, none⟩)), (17, .slice (some ⟨bk, off, none⟩) ln.length lc), (19, .int .i64 i), (21, .int .i64 j)]) (fun j y => Sh B h8.size h9.size ln.length pr (.slice (some ⟨bk, off, none⟩) ln.length lc) h9 y ∧ j ≤ kl) (fun j => kl - j) 0 4 (fun j _ => j = kl) noRet noRet_le (by simp) ⟨z8'', Nat.zero_le _⟩ (by kernel_rfl) ?_ ?_
          · rintro j z9 g9 ⟨w9, hj⟩
            have wj := wrap_succ (k := j) (by omega)
            obtain ⟨bk', off', c', d', kv, sv', nv', xv', e, hf', hx, hpd, qk, qs, qn⟩ := w9.get hil
            cases e
            have hdl := hpp _ hpd
            obtain ⟨na', nc', rfl, _, _⟩ := qk.val
            have hx3 : HC.cellIn z9[bk]? (off + i * 5) = _ := cellsIn_cell (d := 0) hx (by decide)
            by_cases hjl : j < kl
            · have hjn : j < d'.key.length := by omega
              obtain ⟨bn, on, o1, rfl, hw1, w10⟩ := w9.int hp qk hjn by_
              simp -dsimp [idxA_nat hil, idxA_nat hjn, hx3, hjn, hw1, wj]
              exact ⟨j + 1, by simp, rfl, ⟨w10, by omega⟩, by show kl - (j + 1) < kl - j; omega⟩
            · have hjn : ¬ j < d'.key.length := by omega
              simp -dsimp [idxA_nat hil, hx3, hjn]
              exact ⟨rfl, j, by simp, rfl, ⟨w9, hj⟩, by show j = kl; omega⟩
          · rintro j z9 g9 ⟨z9', hj⟩ _
            simp -dsimp [wi]
            exact ⟨i + 1, by simp, rfl, ⟨z9', by omega⟩, by show ln.length - (i + 1) < ln.length - i; omega⟩
      · simp -dsimp [hil]
        exact ⟨rfl, i, by simp, rfl, ⟨z, hi⟩, by show i = ln.length; omega⟩
    rintro i y1 g1 ⟨z1, hi⟩ _
    have q1' := z1.keep
    have q81 : Keep (fun b => h8.size ≤ b) h8 y1 := (k9.weaken fun _ _ h => h.elim).trans q1' fun b _ hb => hb.1
    have p81 : Pair (.pointer (some vp)) w F G h5.size y1 M N := by
      refine ⟨p8.st.keep q81 fun b hb h => ?_, p8.rf.keep q81 fun b hb h => ?_, p8.f0, p8.g0, p8.dis⟩
      · have := p8.st.lt b hb; omega
      · have := p8.rf.lt b hb; omega
    have z67 := k7.size
    have z56 := k6.size
    have l3 := lt_of_blk vS
    have wQ1 := q81.at wQ (by omega)
    have vS1 : y1[h3.size]? = _ := q81.at ((k7.trans k8 fun _ _ h => h).at vS6 (fun h => h)) (by omega)
    have o81 := late_old q81
    have hq1 := hq8.mono o81
    have k08 : Keep none_ h h8 := (k06.trans k7 fun _ _ h => h).trans k8 fun _ _ h => h
    have k01' : Keep none_ h y1 := k08.trans (late_none q81) fun _ _ h => h
    simp -dsimp [wQ1]
    refine call_by (pask2_spec p81.st (by omega) hq1 t6.cube) ?_
    rintro _ y2 ⟨mv, rfl, k2y, hm⟩
    rw [hLn] at hm
    rw [hEr]
    obtain ⟨ma, mc, rfl, _, _⟩ := hm.val
    have vS2 := k2y.at vS1 (fun h => h)
    have k12 : Keep none_ h y2 := k01'.trans k2y fun _ _ h => h
    have rc8 := rc6.mono ((Tr.of (k7.trans k8 fun _ _ h => h)).ft (n := 0) (n' := 0) (Nat.le_refl 0))
    have rc2 := (rc8.mono o81).mono ((Tr.of k2y).ft (n := 0) (n' := 0) (Nat.le_refl 0))
    simp -dsimp [vS2]
    refine call_by (query14_spec sok set rc2 (hf0.mono ((Tr.of k12).ft (Nat.le_refl 0)))) ?_
    rintro _ y3 ⟨qv3, rfl, hq3, k3y⟩
    rw [← ea]
    rw [← efl] at hq3
    obtain ⟨q31, q32, rfl, _, _⟩ := hq3.val
    have p83 := (p81.none k2y).none k3y
    simp -dsimp
    refine call_by (ask14b_spec p83.rf (by omega) (by omega) (hq3.mono (Ft.free (Nat.zero_le _))) cN) ?_
    rintro _ y4 ⟨wv, rfl, k4y, hw⟩
    rw [← hcom, hLn] at hw
    rw [← hcom, hEr]
    have p84 := p83.none k4y
    simp -dsimp
    refine call_by (read_spec p84.st (by omega) nmFact) ?_
    rintro _ y5 ⟨bu, ob, rfl, gb, k5y, hob⟩
    have p85 := p84.none k5y
    simp -dsimp
    refine call_by (rread_spec p85.rf (by omega) (by omega) nmFact) ?_
    rintro _ y6 ⟨cu, oc, rfl, gc, k6y, hoc⟩
    rw [t6.cube.fact] at gb
    rw [cN.fact] at gc
    have hcb : SlRep rByte (Old y6) y6 cu (encF s rows) := gc.bytes.mono fun b hb => ⟨⟨nz, gc.own_lt b hb, fun h => h⟩, rfl⟩
    have hbb : SlRep rByte (Old y6) y6 bu (encF s rows) := (gb.bytes.mono fun b hb => ⟨⟨nz, gb.own_lt b hb, fun h => h⟩, rfl⟩ : SlRep rByte (Old y5) y5 bu (encF s rows)).mono ((Tr.of k6y).ft (n := 0) (n' := 0) (Nat.le_refl 0))
    have hfl' := facts_len hok hr40
    obtain ⟨ua, uc, rfl, _, _⟩ := hcb.val
    obtain ⟨ba, bc, rfl, _, _⟩ := hbb.val
    simp -dsimp
    refine call_by (rdecode_spec hcb (by omega)) ?_
    rintro _ y7 ⟨cv7, ms7, rv7, e7, rfl, k7y, hdec⟩
    obtain ⟨d1, d2, d3⟩ := dec_enc hok
    rcases hdec with ⟨_, rfl, rfl, hcv7, hrv7⟩ | ⟨hno, _⟩
    rotate_left
    · exact absurd d1 hno
    rw [d3] at hrv7
    rw [d2] at hcv7
    obtain ⟨c71, c72, rfl, _, _⟩ := hcv7.val
    obtain ⟨r71, r72, rfl, _, _⟩ := hrv7.val
    simp -dsimp
    rw [push_set rfl]
    generalize hP : Array.push y7 _ = y8
    have k8y : Keep none_ y7 y8 := by rw [← hP]; exact .push _ _ _
    clear hP
    have k68 : Keep none_ y6 y8 := k7y.trans k8y fun _ _ h => h
    have k48 : Keep none_ y4 y8 := (k5y.trans k6y fun _ _ h => h).trans k68 fun _ _ h => h
    have k28 : Keep none_ y2 y8 := (k3y.trans k4y fun _ _ h => h).trans k48 fun _ _ h => h
    have rm : SlRep rCell (Old y8) y8 (.slice ma ln.length mc) ln := (hm.mono (Ft.free (Nat.zero_le _))).mono ((Tr.of k28).ft (n := 0) (n' := 0) (Nat.le_refl 0))
    have rw_ : SlRep rCell (Old y8) y8 wv ln := (hw.mono (Ft.free (Nat.zero_le _))).mono ((Tr.of k48).ft (n := 0) (n' := 0) (Nat.le_refl 0))
    try simp -dsimp
    refine call_by (rsame_spec rm rw_) ?_
    rintro _ y9 ⟨⟨b9, rfl, hb9⟩, k9y⟩
    obtain rfl : b9 = true := hb9.2 rfl
    have k69 : Keep none_ y6 y9 := k68.trans k9y fun _ _ h => h
    have hcb9 := hcb.mono ((Tr.of k69).ft (n := 0) (n' := 0) (Nat.le_refl 0))
    have hbb9 := hbb.mono ((Tr.of k69).ft (n := 0) (n' := 0) (Nat.le_refl 0))
    have h300 : (rows.length : Int) ≤ 300 := by have := hok.len; omega
    simp -dsimp
    rw [conv_bytes_str Tryz.elS66 Tryz.intK5 Tryz.strT9 hbb9]
    simp -dsimp
    rw [conv_bytes_str Tryz.elS66 Tryz.intK5 Tryz.strT9 hcb9]
    simp -dsimp [h300]
    exact hK _ _ ⟨rfl, (k12.trans k28 fun _ _ h => h).trans k9y fun _ _ h => h⟩
end Go.Proofs


namespace Go.Proofs.YtgjklplbldgodaaGreatDoor
open Go Go.ChangeShapes Go.WideShapes Go.ChangeAt Go.RowKit Go.HC

theorem own0 : ownKnob Tryz.prog.godebug = none := by kernel_rfl
theorem laid0 : laidOutB Tryz.prog = true := by kernel_rfl
theorem ui : Tryz.prog.underlying 3 = some (.int .i64) := by kernel_rfl
theorem ci : Tryz.prog.cellsOf 3 = 1 := by kernel_rfl
theorem uis : Tryz.prog.underlying 22 = some (.slice 3) := by kernel_rfl
theorem cis : Tryz.prog.cellsOf 22 = 1 := by kernel_rfl
noncomputable def fsS : Array Field := match Tryz.prog.underlying 24 with | some (.struct fs) => fs | _ => #[]
theorem usS : Tryz.prog.underlying 24 = some (.struct fsS) := by kernel_rfl
theorem cS : Tryz.prog.cellsOf 24 = 6 := by kernel_rfl
theorem lS : fsS.map (fun f => (f.type, f.offset)) = #[(3, 0), (3, 1), (3, 2), (3, 3), (22, 4), (22, 5)] := by kernel_rfl
theorem ub : Tryz.prog.underlying 4 = some .bool := by kernel_rfl

theorem door_met (os : Os) (args : Array Value) : laidMetH Tryz.prog Rows.queryOwnRow.laid ((World.doorLaid Tryz.prog 4000 os).forCall (fun _ _ => 0) ⟨#[], args, []⟩).memory :=
  laidMetH_of_parts3 (fuel := 8) (laidMet_of_run' 8 (by kernel_rfl) (by kernel_rfl)) (by kernel_rfl) (by kernel_rfl)

set_option maxHeartbeats 8000000 in
set_option maxRecDepth 100000 in
theorem lifted (os : Os) (started : os.Started) (H : Type) (enc : TypeId × Value → H) :
    ReturnsInHanded {} Tryz.checked os 8 .any (fun w args => (Rows.queryOwnSpec.pre enc Tryz.prog Tryz.f8 Rows.queryOwnRow.domain false w args ∧ laidMetH Tryz.prog Rows.queryOwnRow.laid w) ∧ sizedMet enc Tryz.prog Tryz.f8 (OpenSpec.ofChange Rows.queryOwnSpec) false w args) (Rows.queryOwnSpec.post enc Tryz.prog Tryz.f8 false true false false) := by
  refine returnsInHanded_of_change_and (C := Tryz.checked) (X := fun w _ => laidMetH Tryz.prog Rows.queryOwnRow.laid w) (fun _ _ _ hh h => h.of_heap hh) own0 started (by kernel_rfl) Tryz.func8
    (ChangeSpec.witness_shaped (enc := enc) (C := Tryz.checked) (os := os) (X := fun w _ => laidMetH Tryz.prog Rows.queryOwnRow.laid w) false (World.doorLaid Tryz.prog 4000 os) #[.agg #[.int .i64 0, .int .i64 0, .int .i64 0, .int .i64 0, .slice none 0 0, .slice none 0 0], .slice none 0 0, .int .i64 0, .slice none 0 0, .int .i64 0] 8 rfl (World.shaped_of_RefB (by kernel_rfl) (by kernel_rfl)) (by kernel_rfl) (by kernel_rfl) (by kernel_rfl) (door_met os _)) ?_
  intro W base args ds gs before hval0 hW _ _ _ _
  have hval : ∀ (j : Nat) t v, Tryz.f8.params[j]? = some t → args[j]? = some v → Value.okWide Tryz.prog W .any base t v := hval0
  have hW' := hW
  obtain ⟨p, q, hA0, hV, rfl, _, _⟩ := hW
  have hA : DataW.TrodAll enc Tryz.prog W 0 (fun _ => true) true Tryz.f8.params.toList args.toList ds p := hA0
  have hps : Tryz.f8.params = #[24, 22, 3, 22, 3] := by kernel_rfl
  rw [hps] at hA hval
  have hA1 := hA
  obtain ⟨v0, vs0, d0, ds0, p0, q0, ha0, hd0, hp0, h0, hr0⟩ := trodAll_cons hA1
  obtain ⟨v1, vs1, d1, ds1, p1, q1, ha1, hd1, hp1, h1, hr1⟩ := trodAll_cons hr0
  obtain ⟨v2, vs2, d2, ds2, p2, q2, ha2, hd2, hp2, h2, hr2⟩ := trodAll_cons hr1
  obtain ⟨v3, vs3, d3, ds3, p3, q3, ha3, hd3, hp3, h3, hr3⟩ := trodAll_cons hr2
  obtain ⟨v4, vs4, d4, ds4, p4, q4, ha4, hd4, hp4, h4, hr4⟩ := trodAll_cons hr3
  obtain ⟨rfl, rfl, rfl⟩ := trodAll_nil hr4
  subst ha4; subst hd4; subst hp4
  subst ha3; subst hd3; subst hp3
  subst ha2; subst hd2; subst hp2
  subst ha1; subst hd1; subst hp1
  subst hd0; subst hp0
  obtain rfl : args = #[v0, v1, v2, v3, v4] := by cases args; simp_all
  obtain ⟨rfl, rfl⟩ := trodVars_none hV
  obtain ⟨na0, nb0, nc0, ne0, w0, z0, xs0, ys0, rfl, x0, y0⟩ := open_shape usS cS lS ui ci uis cis (hval 0 24 v0 rfl rfl) h0
  obtain ⟨a1, x1⟩ := open_intRep uis ui ci (hval 1 22 v1 rfl rfl) h1
  obtain ⟨a2, rfl, _, _, _⟩ := open_int ui (hval 2 3 v2 rfl rfl) h2
  obtain ⟨a3, x3⟩ := open_intRep uis ui ci (hval 3 22 v3 rfl rfl) h3
  obtain ⟨a4, rfl, _, _, _⟩ := open_int ui (hval 4 3 v4 rfl rfl) h4
  clear hA0 hval0
  simp only [List.append_nil] at hW' hA ⊢
  have hlt := fun x hx => hW'.lt x hx
  refine (calls_of (queryOwn_spec x0 (fun _ h => h) y0 (fun _ h => h) x1 (fun _ h => h) a2 x3 (fun _ h => h) a4)).mono fun e W' ⟨he, hb⟩ => ?_
  subst he
  refine ⟨_, rfl, _, _, _, _, _, [], hW', trodAll_mk1 (shut_bool ub true), below_trodAll laid0 hb (by kernel_rfl) hA (fun x hx => by simpa using hlt x (by simpa using hx)), rfl, hb.frame _, fun h => by cases h⟩

theorem queryown_holds : Rows.QueryOwnSaid :=
  OpenClaim.holds_of_wide 8 Tryz.f8 rfl rfl rfl rfl rfl rfl rfl ⟨rfl, rfl, rfl, rfl, rfl⟩ rfl rfl rfl rfl rfl (by kernel_rfl) Tryz.func8 (by kernel_rfl)
    (of_decide_eq_true (by kernel_rfl)) (by unfold Func.isWrapper; first | (rw [if_pos (by decide +kernel)]; kernel_rfl) | (rw [if_neg (by decide +kernel)]; exact ⟨rfl, rfl⟩))
    (fun os started H enc _ => lifted os started H enc)

theorem queryown_holds_card : Rows.QueryOwnCardSaid :=
  Claim7.holds_tied_plain_at .later [] [.data, .data, .data] true Rows.queryOwnCard.stood.harness false
    queryown_holds (fun _ h => by cases h) (by kernel_rfl) (fun _ h => by cases h) queryOwn_row_tie rfl ⟨rfl, rfl⟩ (by kernel_rfl) rfl
    (fun f fn hf hfn => by
      obtain rfl : f = 8 := Option.some.inj ((show Tryz.prog.funcNamed "hypercube/hypercubelaw14.QueryOwn" = some 8 by kernel_rfl).symm.trans hf) |>.symm
      obtain rfl : fn = Tryz.f8 := (Option.some.inj (Tryz.func8.symm.trans hfn)).symm
      exact ⟨by kernel_rfl, fun j t ht => by
        have hps : Tryz.f8.params = #[24, 22, 3, 22, 3] := by kernel_rfl
        rw [hps] at ht
        have hm : t ∈ [24, 22, 3, 22, 3] := by simpa using Array.mem_of_getElem? ht
        have hall : ([24, 22, 3, 22, 3].all fun u => !Tryz.prog.wantsStandIn u) = true := by kernel_rfl
        exact (show Tryz.prog.wantsStandIn t = false by simpa using List.all_eq_true.1 hall t hm)⟩)
    (by kernel_rfl)
end Go.Proofs.YtgjklplbldgodaaGreatDoor
