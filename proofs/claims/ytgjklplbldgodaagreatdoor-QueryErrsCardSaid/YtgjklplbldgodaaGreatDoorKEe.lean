/-
  The program's filters over a cell; a serve of nothing.
-/
import Derived.Test.YtgjklplbldgodaaGreatDoorKEd

namespace Go.Proofs
open Go Go.HC

set_option maxHeartbeats 4000000 in
set_option maxRecDepth 10000 in
theorem pby_spec {h : Heap} {cs : List Value} {c : CellM} {fv : Value} {a : Int} {fs : List FilM} (hr : rCell.rep (Old h) h cs c) (hc : CellSmall c) (hf : SlRep rFil (Old h) h fv fs) (hfs : ∀ f ∈ fs, 0 ≤ f.dim ∧ f.dim < 4) :
    CallH Tryz.prog 46 #[.agg cs.toArray, .int .i64 a, fv] h fun r h' => r = .bool (letM a fs c.key) ∧ Keep none_ h h' := by
  refine callH_by fun K hK => ?_
  refine enter [.tmp 6] Tryz.func46 rfl rfl (by kernel_rfl) rfl ?_
  have hf0 := hf
  have hr0 := hr
  obtain ⟨fa, fc, rfl, hfc, hfc'⟩ := hf.val
  obtain ⟨ka, kc, sa, sc, na, nc, xa, xc, rfl, r1, r2, r3, r4⟩ := cell_open hr
  simp -dsimp [boxS_eq]
  generalize hB : Array.push h _ = h1
  have k1 : Keep none_ h h1 := by rw [← hB]; exact .push _ _ _
  have w1 : h1[h.size]? = some (.cells #[.slice ka c.key.length kc, .int .i64 c.count, .slice sa c.sum.length sc, .slice na c.mn.length nc, .slice xa c.mx.length xc] 65 (0, 0)) := by rw [← hB]; exact push_new _ _
  refine loopc (σ := Nat) (fun i => [(1, .int .i64 a), (3, .pointer (some ⟨h.size, 0, none⟩)), (10, .slice fa fs.length fc), (11, .int .i64 fs.length), (12, .int .i64 i)])
    (fun i y => Keep none_ h1 y ∧ i ≤ fs.length ∧ letM a (fs.drop i) c.key = letM a fs c.key) (fun i => fs.length - i) 0 0 (fun i _ => i = fs.length) (endR Tryz.prog [.tmp 6] K).rt (fun _ _ _ h => h) (by simp) ⟨.refl _ _, Nat.zero_le _, rfl⟩ (by kernel_rfl) ?_ ?_
  case refine_1 =>
    rintro i y g ⟨ky, hi, hlet⟩
    have v1 := ky.at w1 (fun h => h)
    have k0y : Keep none_ h y := k1.trans ky fun _ _ h => h
    by_cases hil : i < fs.length
    · have wi := wrap_succ (k := i) (by omega)
      obtain ⟨bk, off, cs, rfl, hfb, hrep, hcs⟩ := (hf0.mono ((Tr.of k0y).ft (Nat.le_refl 0))).get i hil
      obtain rfl : cs = [.int .i64 fs[i].dim, .int .i64 fs[i].lo, .int .i64 fs[i].hi] := hrep
      have hcs : HC.cellsIn y[bk]? (off + i * 3) 3 = some [.int .i64 fs[i].dim, .int .i64 fs[i].lo, .int .i64 fs[i].hi] := hcs
      have hd := hfs _ (List.getElem_mem hil)
      have hstep : letM a (fs.drop i) c.key = ((match pickN (2 ^ fs[i].dim.toNat) (dimsM a) c.key with | [v] => decide (fs[i].lo ≤ v) && decide (v ≤ fs[i].hi) | _ => false) && letM a (fs.drop (i + 1)) c.key) := by
        rw [List.drop_eq_getElem_cons hil]
        rfl
      rw [hlet] at hstep
      obtain ⟨f, ef⟩ : ∃ f, f = fs[i] := ⟨_, rfl⟩
      rw [← ef] at hcs hd hstep
      obtain ⟨D, eD⟩ : ∃ D : Nat, f.dim = D := ⟨f.dim.toNat, by omega⟩
      have hshl := shl_int (k := D) (by omega)
      rw [eD] at hcs hstep
      rw [Int.toNat_natCast] at hstep
      simp -dsimp [-intRes_shl, hil, idxA_nat hil, hcs]
      rw [push_set rfl]
      generalize hP : Array.push y _ = y2
      have k2 : Keep none_ y y2 := by rw [← hP]; exact .push _ _ _
      have k02 : Keep none_ h y2 := k0y.trans k2 fun _ _ h => h
      have wF : y2[y.size]? = some (.cells #[.int .i64 D, .int .i64 f.lo, .int .i64 f.hi] 57 (0, 0)) := by rw [← hP]; exact push_new _ _
      have u1 := k2.at v1 (fun h => h)
      refine drawn_by [⟨0, true, []⟩, ⟨1, true, []⟩, ⟨2, true, []⟩, ⟨3, true, []⟩, ⟨4, true, []⟩, ⟨5, false, []⟩, ⟨6, true, []⟩, ⟨7, true, []⟩] (by kernel_rfl) (by kernel_rfl) ?_
      simp -dsimp [-intRes_shl, wF, u1, hshl]
      refine call_by (narrow_spec a (2 ^ D) (rCell.mono hr0 ((Tr.of k02).ft (Nat.le_refl 0))) hc) ?_
      rintro _ y3 ⟨ds, rfl, rd, k3⟩
      obtain ⟨ka', kc', sa', sc', na', nc', xa', xc', rfl, q1, _⟩ := cell_open rd
      have q1 : SlRep rInt (Ft y2.size none_ y3) y3 (.slice ka' (pickN (2 ^ D) (dimsM a) c.key).length kc') (pickN (2 ^ D) (dimsM a) c.key) := q1
      have ekey : (narrowC a (2 ^ D) c).key = pickN (2 ^ D) (dimsM a) c.key := rfl
      have wF3 := k3.at wF (fun h => h)
      have u3 := k3.at u1 (fun h => h)
      have k03 : Keep none_ h y3 := k02.trans k3 fun _ _ h => h
      obtain ⟨p, ep⟩ : ∃ p, p = pickN (2 ^ D) (dimsM a) c.key := ⟨_, rfl⟩
      rw [ekey]
      rw [← ep] at q1 hstep ⊢
      simp -dsimp [-intRes_shl, again_cons, hshl]
      refine drawn_by [⟨0, true, []⟩, ⟨1, true, []⟩, ⟨2, true, []⟩, ⟨3, true, []⟩, ⟨4, true, []⟩, ⟨5, true, []⟩, ⟨6, true, []⟩, ⟨7, true, []⟩, ⟨8, true, []⟩, ⟨9, true, []⟩, ⟨10, true, []⟩, ⟨11, true, []⟩, ⟨12, true, []⟩, ⟨13, true, []⟩, ⟨14, true, []⟩, ⟨15, true, []⟩, ⟨16, true, []⟩, ⟨17, true, []⟩, ⟨18, true, []⟩] (by kernel_rfl) (by kernel_rfl) ?_
      by_cases hp1 : p.length = 1
      · obtain ⟨v, rfl⟩ : ∃ v, p = [v] := List.length_eq_one_iff.1 hp1
        obtain ⟨b5, o5, e5, _, hc5⟩ := q1.int_at 0 (by simp)
        subst e5
        simp only at hstep
        have h01 : (0 : Nat) < 1 := by decide
        have ix : ∀ sz ar, idxV sz ar (.slice (some ⟨b5, o5, none⟩) 1 kc') (.int .i64 0) = sz.map fun s => .pointer (some ⟨b5, o5 + 0 * s, none⟩) := fun sz ar => idxV_nat (i := 0) h01
        simp only [List.length_singleton, List.getElem_singleton, Nat.add_zero] at hc5 ⊢
        by_cases c1 : v < f.lo
        · simp -dsimp [wF3, hc5, elSz_eq, ix, c1]
          have hf : letM a fs c.key = false := by rw [hstep, decide_eq_false (by omega : ¬ f.lo ≤ v)]; rfl
          exact hK _ _ ⟨by rw [hf], k03⟩
        · by_cases c2 : f.hi < v
          · simp -dsimp [wF3, hc5, elSz_eq, ix, c1, c2]
            have hf : letM a fs c.key = false := by rw [hstep, decide_eq_false (by omega : ¬ v ≤ f.hi), Bool.and_false]; rfl
            exact hK _ _ ⟨by rw [hf], k03⟩
          · simp -dsimp [wF3, hc5, elSz_eq, ix, c1, c2, wi]
            have hf : letM a fs c.key = letM a (fs.drop (i + 1)) c.key := by rw [hstep, decide_eq_true (by omega : f.lo ≤ v), decide_eq_true (by omega : v ≤ f.hi)]; rfl
            exact ⟨i + 1, by simp, rfl, ⟨(ky.trans k2 fun _ _ h => h).trans k3 fun _ _ h => h, hil, hf.symm⟩, by show fs.length - (i + 1) < fs.length - i; omega⟩
      · have hf : letM a fs c.key = false := by
          rw [hstep]
          match p, hp1 with
          | [], _ => rfl
          | [_], h => exact absurd rfl h
          | _ :: _ :: _, _ => rfl
        rw [hf] at hK
        have hb : ((p.length : Int) != 1) = true := by rw [bne_iff_ne]; omega
        simp -dsimp [hb]
        exact hK _ _ ⟨rfl, k03⟩
    · simp -dsimp [hil]
      exact ⟨rfl, i, by simp, rfl, ⟨ky, hi, hlet⟩, by show i = _; omega⟩
  rintro i y g ⟨ky, hi, hlet⟩ hil
  have hil : i = fs.length := hil
  subst hil
  rw [List.drop_length] at hlet
  rw [← hlet] at hK
  simp -dsimp
  exact hK _ _ ⟨rfl, k1.trans ky fun _ _ h => h⟩
end Go.Proofs

/-
  The program's Ask: filters over a set's cells, one by one.
-/
namespace Go.HC
theorem filter_cut {α : Type} (p : α → Bool) (l : List α) {i : Nat} (hi : i < l.length) : l.filter p = (l.take i).filter p ++ ((if p l[i] = true then [l[i]] else []) ++ (l.drop (i + 1)).filter p) := by
  have h1 : l = l.take i ++ l[i] :: l.drop (i + 1) := by rw [← List.drop_eq_getElem_cons hi, List.take_append_drop]
  have h2 : (l.take i ++ l[i] :: l.drop (i + 1)).filter p = (l.take i).filter p ++ ((if p l[i] = true then [l[i]] else []) ++ (l.drop (i + 1)).filter p) := by
    rw [List.filter_append, List.filter_cons]
    split <;> rfl
  rw [← h2, ← h1]
theorem filter_take_succ {α : Type} (p : α → Bool) (l : List α) {i : Nat} (hi : i < l.length) : (l.take (i + 1)).filter p = (l.take i).filter p ++ (if p l[i] = true then [l[i]] else []) := by
  rw [List.take_add_one, List.getElem?_eq_getElem hi, Option.toList_some, List.filter_append, List.filter_cons]
  split <;> rfl
theorem filter_here {α : Type} (p : α → Bool) (l : List α) {i n : Nat} (hi : i < l.length) (hp : p l[i] = true) (hn : n = ((l.take i).filter p).length) : ∃ h : n < (l.filter p).length, (l.filter p)[n] = l[i] := by
  have h1 := filter_cut p l hi
  rw [if_pos hp] at h1
  subst hn
  have hlt : ((l.take i).filter p).length < (l.filter p).length := by rw [h1, List.length_append, List.length_append]; simp; omega
  refine ⟨hlt, ?_⟩
  rw [← Option.some_inj, ← List.getElem?_eq_getElem hlt, h1, List.getElem?_append_right (Nat.le_refl _), Nat.sub_self]
  rfl
end Go.HC
namespace Go.Proofs
open Go Go.HC

set_option maxHeartbeats 2000000 in
set_option maxRecDepth 10000 in
theorem pkeepC_spec {h : Heap} {bs bq : Nat} {fv : Value} {k a : Int} {cs : List Value} {c : CellM} {fs : List FilM} (hbs : h[bs]? = some (.cells #[.int .i64 k] 3 (0, 0))) (hbq : h[bq]? = some (.cells #[.int .i64 a, fv] 27 (0, 0)))
    (hr : rCell.rep (Old h) h cs c) (hc : CellSmall c) (hf : SlRep rFil (Old h) h fv fs) (hfs : ∀ f ∈ fs, 0 ≤ f.dim ∧ f.dim < 4) :
    CallH Tryz.prog 45 #[.agg cs.toArray, .pointer (some ⟨bs, 0, none⟩), .pointer (some ⟨bq, 0, none⟩)] h fun r h' => r = .bool (letM k fs c.key) ∧ Keep none_ h h' := by
  refine callH_by fun K hK => ?_
  refine enter [.tmp 4] Tryz.func45 rfl rfl (by kernel_rfl) rfl ?_
  have hf0 := hf
  have hr0 := hr
  obtain ⟨fa, fc, rfl, hfc, hfc'⟩ := hf.val
  obtain ⟨ka, kc, sa, sc, na, nc, xa, xc, rfl, r1, r2, r3, r4⟩ := cell_open hr
  simp -dsimp [boxS_eq]
  generalize hB : Array.push h _ = h1
  have k1 : Keep none_ h h1 := by rw [← hB]; exact .push _ _ _
  have w1 : h1[h.size]? = some (.cells #[.slice ka c.key.length kc, .int .i64 c.count, .slice sa c.sum.length sc, .slice na c.mn.length nc, .slice xa c.mx.length xc] 65 (0, 0)) := by rw [← hB]; exact push_new _ _
  have w2 := k1.at hbs (fun h => h)
  have w3 := k1.at hbq (fun h => h)
  simp -dsimp [w2, w3]
  refine call_by (pby_spec (rCell.mono hr0 ((Tr.of k1).ft (Nat.le_refl 0))) hc (hf0.mono ((Tr.of k1).ft (Nat.le_refl 0))) hfs) ?_
  rintro _ h2 ⟨rfl, k2⟩
  simp -dsimp
  exact hK _ _ ⟨rfl, k1.trans k2 fun _ _ h => h⟩

set_option maxHeartbeats 4000000 in
set_option maxRecDepth 10000 in
theorem keptC_iter {h0 : Heap} {b1 b2 bs bq : Nat} {lv fv : Value} {k a : Int} {l : List CellM} {fs : List FilM} {F G : Nat → Prop} (hb1 : h0[b1]? = some (.cells #[lv] 43 (0, 0))) (hl : SlRep rCell F h0 lv l) (hb2 : h0[b2]? = some (.cells #[.func (.func 45) #[] #[.pointer (some ⟨bs, 0, none⟩), .pointer (some ⟨bq, 0, none⟩)]] 96 (0, 0)))
    (hbs : h0[bs]? = some (.cells #[.int .i64 k] 3 (0, 0))) (hbq : h0[bq]? = some (.cells #[.int .i64 a, fv] 27 (0, 0))) (hf : SlRep rFil G h0 fv fs) (hfs : ∀ f ∈ fs, 0 ≤ f.dim ∧ f.dim < 4) (hn : l.length < 1000000) (hsm : ∀ d ∈ l, CellSmall d) :
    IterM Tryz.prog 89 #[] #[.pointer (some ⟨b1, 0, none⟩), .pointer (some ⟨b2, 0, none⟩)] (fun cs : List Value => #[.agg cs.toArray]) (cellsA 0 (l.filter fun c => letM k fs c.key))
      (fun xs => xs.length = (l.filter fun c => letM k fs c.key).length) (fun b => b = b1 ∨ b = b2 ∨ b = bs ∨ b = bq ∨ F b ∨ G b) h0 := by
  intro y J M0 h ⟨yf, yu, yv', hyf⟩ hy hJ hsz hFp
  subst hyf
  obtain ⟨p, ep⟩ : ∃ p : CellM → Bool, p = fun c => letM k fs c.key := ⟨_, rfl⟩
  rw [← ep] at hy ⊢
  have hp : ∀ c, letM k fs c.key = p c := fun c => by rw [ep]
  have w1 := (hFp b1 (.inl rfl)).2.2.trans hb1
  have w2 := (hFp b2 (.inr (.inl rfl))).2.2.trans hb2
  have w3 := (hFp bs (.inr (.inr (.inl rfl)))).2.2.trans hbs
  have w4 := (hFp bq (.inr (.inr (.inr (.inl rfl))))).2.2.trans hbq
  have n1 := (hFp b1 (.inl rfl)).2.1
  have n2 := (hFp b2 (.inr (.inl rfl))).2.1
  have n3 := (hFp bs (.inr (.inr (.inl rfl)))).2.1
  have n4 := (hFp bq (.inr (.inr (.inr (.inl rfl))))).2.1
  have hlh : SlRep rCell (Ft 0 M0 h) h lv l := hl.mono fun x hx => by
    obtain ⟨g1, g2, g3⟩ := hFp x (.inr (.inr (.inr (.inr (.inl hx)))))
    exact ⟨⟨nz, by omega, g2⟩, g3⟩
  have hfh : SlRep rFil (Ft 0 M0 h) h fv fs := hf.mono fun x hx => by
    obtain ⟨g1, g2, g3⟩ := hFp x (.inr (.inr (.inr (.inr (.inr hx)))))
    exact ⟨⟨nz, by omega, g2⟩, g3⟩
  obtain ⟨a0, c0, rfl, _, _⟩ := hl.val
  refine callH_by fun K hK => ?_
  refine enter [] Tryz.func89 rfl rfl (by kernel_rfl) rfl ?_
  simp -dsimp [w1]
  refine loopc (σ := Nat) (fun i => [(0, .func yf yu yv'), (1, .pointer (some ⟨b1, 0, none⟩)), (2, .pointer (some ⟨b2, 0, none⟩)), (6, .slice a0 l.length c0), (7, .int .i64 l.length), (8, .int .i64 i)]) (fun i h1 => i ≤ l.length ∧ ∃ xs M, xs.length = ((l.take i).filter p).length ∧ J xs M h1 ∧ Tr M0 M h h1) (fun i => l.length - i) 0 0 (fun i _ => i = l.length) noRet noRet_le (by simp)
    ⟨by omega, [], M0, rfl, hJ, ⟨.refl _ _, fun _ h => .inl h, fun b hb => hy.lt hJ b hb⟩⟩ (by kernel_rfl) ?_ ?_
  · rintro i h1 g ⟨hi, xs, M, hxs, hJ1, t⟩
    by_cases hil : i < l.length
    · have wk := wrap_succ (k := i) (by omega)
      obtain ⟨bl, ol, cs, e1, _, hrep, hx1⟩ := (hlh.mono (t.ft (Nat.le_refl 0))).get i hil
      have hrep0 := hrep
      obtain ⟨ka, kc, sa, sc, na, nc, xa, xc, rfl, r1, _⟩ := cell_open hrep
      have hx1' : HC.cellsIn h1[bl]? (ol + i * 5) 5 = _ := hx1
      simp -dsimp [hil, e1, idxA_nat hil, hx1']
      rw [push_set rfl]
      generalize hB2 : Array.push h1 _ = h2
      have k2 : Keep none_ h1 h2 := by rw [← hB2]; exact .push _ _ _
      have hC : h2[h1.size]? = some (.cells #[.slice ka l[i].key.length kc, .int .i64 l[i].count, .slice sa l[i].sum.length sc, .slice na l[i].mn.length nc, .slice xa l[i].mx.length xc] 65 (0, 0)) := by rw [← hB2]; exact push_new _ _
      have t2 := t.call k2
      have v2 := t2.at w2 n2
      have v3 := t2.at w3 n3
      have v4 := t2.at w4 n4
      have hrep2 := rCell.mono hrep0 ((t.here.call k2).ft (Nat.le_refl 0))
      simp -dsimp [hC, v2]
      refine call_by (pkeepC_spec v3 v4 (rCell.mono hrep2 (Ft.free (Nat.le_refl 0))) (hsm _ (List.getElem_mem hil)) ((hfh.mono (t2.ft (Nat.le_refl 0))).mono (Ft.free (Nat.le_refl 0))) hfs) ?_
      rintro _ h3 ⟨rfl, k3⟩
      have t3 := t2.call k3
      have k13 : Keep none_ h1 h3 := k2.trans k3 fun _ _ h => h
      have hJ3 := hy.call hJ1 k13
      have hC3 := k3.at hC (fun h => h)
      have hrs := filter_take_succ p l hil
      rw [hp]
      cases hk : p l[i] with
      | true =>
        rw [hk, if_pos rfl] at hrs
        simp -dsimp [hC3]
        have hrep3 := rCell.mono hrep0 ((t.here.call k13).ft (Nat.le_refl 0))
        refine callV_by (hy.step (x := _) hJ3 ?_) ?_
        · obtain ⟨h5, e5⟩ := filter_here p l hil hk hxs
          exact ⟨h5, by rw [e5]; exact hrep3⟩
        rintro _ h4 ⟨rfl, M', hJ4, t4⟩
        simp -dsimp [wk]
        exact ⟨i + 1, by simp [e1], rfl, ⟨by omega, _, M', by rw [hrs, List.length_append, List.length_append, hxs]; rfl, hJ4, t3.trans t4⟩, by show l.length - (i + 1) < l.length - i; omega⟩
      | false =>
        rw [hk, if_neg (by decide), List.append_nil] at hrs
        simp -dsimp [wk]
        exact ⟨i + 1, by simp [e1], rfl, ⟨by omega, xs, M, by rw [hrs]; exact hxs, hJ3, t3⟩, by show l.length - (i + 1) < l.length - i; omega⟩
    · simp -dsimp [hil]
      exact ⟨rfl, i, by simp, rfl, ⟨hi, xs, M, hxs, hJ1, t⟩, by show i = l.length; omega⟩
  · rintro i h1 g ⟨hi, xs, M, hxs, hJ1, t⟩ rfl
    simp -dsimp
    rw [List.take_length] at hxs
    exact hK _ _ ⟨xs, M, hxs, hJ1, t⟩
end Go.Proofs

/-
  The program's Ask and Server.
-/
namespace Go.HC
theorem serve_com {M : Mod} {s : SchM} {rows : List RowM} {need : Int} {k : Nat} {l : List CellM} (hs : serveM (comM M rows) need (2 ^ s.cards.length) = some (k, l)) : k < 2 ^ s.cards.length ∧ l = groupC (rows.map (ofM (k : Int))) ∧ (M.look (nameK (k : Int))).isSome = true ∧ andM (k : Int) need = need := by
  obtain ⟨h1, h2, h3⟩ := serve_some hs
  unfold comM at h2
  split at h2
  · rename_i h
    exact ⟨h1, (Option.some.inj h2).symm, h, h3⟩
  · cases h2
theorem set_small {s : SchM} {rows : List RowM} (ok : FactsOk s rows) (k : Int) : (groupC (rows.map (ofM k))).length ≤ 300 ∧ ∀ d ∈ groupC (rows.map (ofM k)), CellSmall d := by
  refine ⟨Nat.le_trans (groupC_le _) (by rw [List.length_map]; exact ok.len), small_group fun d hd => ?_⟩
  obtain ⟨r, hr, rfl⟩ := List.mem_map.1 hd
  have h1 := (ok.key r hr).1
  have h2 := ok.dims.2
  have h3 := ok.ms
  have h4 := (ok.m r hr).1
  have h5 := pickM_le k r.key 0
  exact ⟨show (pickM k 0 r.key).length < _ by omega, show r.m.length < _ by omega, show r.m.length < _ by omega, show r.m.length < _ by omega⟩
end Go.HC
namespace Go.Proofs
open Go Go.HC

set_option maxHeartbeats 4000000 in
set_option maxRecDepth 10000 in
theorem pserver_spec {h : Heap} {v fv : Value} {F : Nat → Prop} {M : Mod} {s : SchM} {rows : List RowM} {a : Int} {fs : List FilM} (st : StAt v F h M) (hu : usedF M.files < 1000000) (hq : SlRep rFil (Old h) h fv fs) (C : CubeAt M s rows) :
    CallH Tryz.prog 20 #[v, .agg #[.int .i64 a, fv]] h fun r h' => ∃ x ok, r = .tuple #[.int .i64 x, .bool ok] ∧ Keep none_ h h' ∧
      ((rightM s.cards a fs = false ∧ x = 0 ∧ ok = false) ∨ (rightM s.cards a fs = true ∧ serveM (comM M rows) (needM a fs) (2 ^ s.cards.length) = none ∧ x = 0 ∧ ok = false) ∨
        (rightM s.cards a fs = true ∧ ∃ k l, serveM (comM M rows) (needM a fs) (2 ^ s.cards.length) = some (k, l) ∧ x = k ∧ ok = true)) := by
  refine callH_by fun K hK => ?_
  refine enter [.tmp 4, .tmp 5] Tryz.func20 rfl rfl (by kernel_rfl) rfl ?_
  have hq0 := hq
  obtain ⟨fa, fc, rfl, _, _⟩ := hq.val
  simp -dsimp [boxS_eq]
  generalize hB : Array.push h _ = h0
  have k0 : Keep none_ h h0 := by rw [← hB]; exact .push _ _ _
  have wQ : h0[h.size]? = some (.cells #[.int .i64 a, .slice fa fs.length fc] 27 (0, 0)) := by rw [← hB]; exact push_new _ _
  try simp -dsimp [wQ]
  refine call_by (pserve_spec (st.keep k0 fun _ _ h => h) hu (hq0.mono ((Tr.of k0).ft (Nat.le_refl 0))) C) ?_
  rintro _ h1 ⟨x, cv, e, rfl, k1, hcase⟩
  have k01 : Keep none_ h h1 := k0.trans k1 fun _ _ h => h
  simp -dsimp
  rcases hcase with ⟨hr, rfl, rfl, rfl⟩ | ⟨hr, hs, rfl, rfl, rfl⟩ | ⟨hr, k, l, hs, rfl, rfl, hl⟩
  · exact hK _ _ ⟨_, _, rfl, k01, .inl ⟨hr, rfl, rfl⟩⟩
  · exact hK _ _ ⟨_, _, rfl, k01, .inr (.inl ⟨hr, hs, rfl, rfl⟩)⟩
  · exact hK _ _ ⟨_, _, rfl, k01, .inr (.inr ⟨hr, k, l, hs, rfl, rfl⟩)⟩

set_option maxHeartbeats 4000000 in
set_option maxRecDepth 10000 in
theorem pask_spec {h : Heap} {v fv : Value} {F : Nat → Prop} {M : Mod} {s : SchM} {rows : List RowM} {a : Int} {fs : List FilM} (st : StAt v F h M) (hu : usedF M.files < 1000000) (hq : SlRep rFil (Old h) h fv fs) (C : CubeAt M s rows) :
    CallH Tryz.prog 18 #[v, .agg #[.int .i64 a, fv]] h fun r h' => ∃ cv e, r = .tuple #[cv, .int .i64 e] ∧ Keep none_ h h' ∧
      ((rightM s.cards a fs = false ∧ cv = .slice none 0 0 ∧ e = 7) ∨ (rightM s.cards a fs = true ∧ serveM (comM M rows) (needM a fs) (2 ^ s.cards.length) = none ∧ cv = .slice none 0 0 ∧ e = 8) ∨
        (rightM s.cards a fs = true ∧ ∃ (k : Nat) (l : List CellM), serveM (comM M rows) (needM a fs) (2 ^ s.cards.length) = some (k, l) ∧ e = 0 ∧ NewC 65 h.size h' cv (askM k l a fs))) := by
  refine callH_by fun K hK => ?_
  refine enter [.tmp 4, .tmp 5] Tryz.func18 rfl rfl (by kernel_rfl) rfl ?_
  have hq0 := hq
  obtain ⟨fa, fc, rfl, _, _⟩ := hq.val
  simp -dsimp [boxS_eq]
  generalize hB : Array.push h _ = h0
  have k0 : Keep none_ h h0 := by rw [← hB]; exact .push _ _ _
  have z0 : h0.size = h.size + 1 := by rw [← hB]; simp
  have wQ : h0[h.size]? = some (.cells #[.int .i64 a, .slice fa fs.length fc] 27 (0, 0)) := by rw [← hB]; exact push_new _ _
  try simp -dsimp [wQ]
  refine call_by (pserve_spec (st.keep k0 fun _ _ h => h) hu (hq0.mono ((Tr.of k0).ft (Nat.le_refl 0))) C) ?_
  rintro _ h1 ⟨x, cv, e, rfl, k1, hcase⟩
  have k01 : Keep none_ h h1 := k0.trans k1 fun _ _ h => h
  simp -dsimp
  rcases hcase with ⟨hr, rfl, rfl, rfl⟩ | ⟨hr, hs, rfl, rfl, rfl⟩ | ⟨hr, k, l, hs, rfl, rfl, hl⟩
  · simp -dsimp
    exact hK _ _ ⟨_, _, rfl, (k01.pushed _).setted _ fun hh => by have := k01.size; omega, .inl ⟨hr, rfl, rfl⟩⟩
  · simp -dsimp
    exact hK _ _ ⟨_, _, rfl, (k01.pushed _).setted _ fun hh => by have := k01.size; omega, .inr (.inl ⟨hr, hs, rfl, rfl⟩)⟩
  obtain ⟨hkl, el, hlook, hand⟩ := serve_com hs
  obtain ⟨hln, hsm⟩ := set_small C.ok (k : Int)
  rw [← el] at hln hsm
  have hfs : ∀ f ∈ fs, 0 ≤ f.dim ∧ f.dim < 4 := fun f hf => by
    have hr' := hr
    have hd := C.ok.dims
    unfold rightM at hr'
    split at hr'
    · cases hr'
    · have := rightF_ok hr' f hf
      omega
  obtain ⟨la, lc, rfl, _, _⟩ := hl.val
  simp -dsimp
  rw [push_set rfl]
  generalize hD : Array.push (Array.push h1 _) _ = h2
  have s1 := k01.size
  have sz0 := k1.size
  have z2 : h2.size = h1.size + 2 := by rw [← hD]; simp
  have k2 : Keep none_ h1 h2 := by rw [← hD]; exact ((Keep.refl none_ h1).pushed _).pushed _
  have k02 : Keep none_ h h2 := k01.trans k2 fun _ _ h => h
  have wS2 : h2[h1.size]? = some (.cells #[.int .i64 k] 3 (0, 0)) := by rw [← hD]; exact push_at (push_new _ _)
  have wO2 : h2[h1.size + 1]? = some (.cells #[.slice none 0 0] 43 (0, 0)) := by rw [← hD]; exact push_get (by simp)
  have wQ2 := (k1.trans k2 fun _ _ h => h).at wQ (fun h => h)
  refine call_by (K' := fun r h' => r = .func (.func 89) #[] #[.pointer (some ⟨h2.size, 0, none⟩), .pointer (some ⟨h2.size + 1, 0, none⟩)] ∧ h' = (h2.push (.cells #[.slice la l.length lc] 43)).push (.cells #[.func (.func 45) #[] #[.pointer (some ⟨h1.size, 0, none⟩), .pointer (some ⟨h.size, 0, none⟩)]] 96)) ?_ ?_
  · refine callH_by fun K hK => ?_
    refine enter [.tmp 4] Tryz.func44 rfl rfl (by kernel_rfl) rfl ?_
    simp -dsimp [boxS_eq]
    exact hK _ _ ⟨rfl, rfl⟩
  rintro _ h3 ⟨rfl, e3⟩
  have k3 : Keep none_ h2 h3 := by rw [e3]; exact ((Keep.refl none_ h2).pushed _).pushed _
  have z3 : h3.size = h2.size + 2 := by rw [e3]; simp
  have wX : h3[h2.size]? = some (.cells #[.slice la l.length lc] 43 (0, 0)) := by rw [e3]; exact push_at (push_new _ _)
  have wY : h3[h2.size + 1]? = some (.cells #[.func (.func 45) #[] #[.pointer (some ⟨h1.size, 0, none⟩), .pointer (some ⟨h.size, 0, none⟩)]] 96 (0, 0)) := by rw [e3]; exact push_get (by simp)
  clear e3
  have k03 : Keep none_ h h3 := k02.trans k3 fun _ _ h => h
  have wS := k3.at wS2 (fun h => h)
  have wO := k3.at wO2 (fun h => h)
  have wQ := k3.at wQ2 (fun h => h)
  have hl3 : SlRep rCell (Ft h0.size none_ h1) h3 (.slice la l.length lc) l := hl.mono fun b hb => ⟨hb, (k2.trans k3 fun _ _ h => h : Keep none_ h1 h3).blk b hb.2.1 (fun h => h)⟩
  have hf3 : SlRep rFil (Old h) h3 (.slice fa fs.length fc) fs := hq0.mono fun b hb => ⟨hb, k03.blk b hb.2.1 (fun h => h)⟩
  obtain ⟨b8, e8⟩ : ∃ b8, b8 = h1.size + 1 := ⟨_, rfl⟩
  rw [← e8] at wO
  obtain ⟨L, eL⟩ : ∃ L : List CellM, L = l.filter fun c => letM k fs c.key := ⟨_, rfl⟩
  have hLl : L.length ≤ l.length := by rw [eL]; exact List.length_filter_le _ _
  have hLs : ∀ d ∈ L, CellSmall d := fun d hd => hsm d (by rw [eL] at hd; exact (List.mem_filter.1 hd).1)
  have hit := keptC_iter wX hl3 wY wS wQ hf3 hfs (by omega) hsm
  rw [← eL] at hit
  obtain ⟨I, hI⟩ : ∃ I : List (List Value) → (Nat → Prop) → Heap → Prop, ∀ xs M h', I xs M h' ↔ (M b8 ∧ (∀ b, M b → b < h'.size ∧ (b = b8 ∨ h3.size ≤ b)) ∧ xs.length ≤ L.length ∧ ∃ v own, h'[b8]? = some (.cells #[v] 43 (0, 0)) ∧
      Gr rCell 65 h.size M h' v ((L.take xs.length).map (narrowC k a)) own ∧ ∀ bk, own = some bk → h3.size + 2 ≤ bk) := ⟨_, fun _ _ _ => Iff.rfl⟩
  simp -dsimp
  rw [← e8]
  refine range_m (val := fun cs : List Value => #[.agg cs.toArray]) (first := #[]) (by simp) (by simp) hit I
    ?_ ?_ (fun b => b = b8) ?_ ?_ (by kernel_rfl) (by kernel_rfl) (fun _ => rfl) (by intro p hp; simp at hp; subst hp; decide) ?_ ?_
  · exact fun hi b hb => (((hI _ _ _).1 hi).2.1 b hb).1
  · intro xs M h4 h5 hi m1 m2 k
    obtain ⟨hM, hlt, hx, v, own, w1, g, ho⟩ := (hI _ _ _).1 hi
    exact (hI _ _ _).2 ⟨hM, fun b hb => ⟨Nat.lt_of_lt_of_le (hlt b hb).1 k.size, (hlt b hb).2⟩, hx, v, own, k.at w1 (by omega), g.lp (fun b hb => (hlt b hb).1) m2 (fun e => by have := ho _ e; omega) k, ho⟩
  · intro b hb
    rcases hb with rfl | rfl | rfl | rfl | hb | hb
    · exact ⟨by omega, by omega⟩
    · exact ⟨by omega, by omega⟩
    · exact ⟨by omega, by omega⟩
    · exact ⟨by omega, by omega⟩
    · have q1 := hb.2.1
      have q2 := hb.1.1
      exact ⟨by omega, by omega⟩
    · have q1 := hb.2.1
      exact ⟨by omega, by omega⟩
  · intro h4 k4 hz4
    refine (hI _ _ _).2 ⟨.inl rfl, fun b hb => ?_, Nat.zero_le _, _, none, k4.at wO (fun h => h), .nil _ _ _ _ _, fun b hb => by cases hb⟩
    rcases hb with hb | hb | hb
    · exact ⟨by omega, .inl hb⟩
    · exact ⟨by omega, .inr (by omega)⟩
    · exact ⟨by omega, .inr (by omega)⟩
  · rintro xs cs M h4 hi4 ⟨hxk, hrep⟩ hz4 m1 m2 t
    obtain ⟨hM, hlt, hx, v, own, w1, g, ho⟩ := (hI _ _ _).1 hi4
    obtain ⟨ka, kc, sa, sc, na, nc, xa, xc, rfl, r1, _⟩ := cell_open hrep
    have hlt' : ∀ b, M b → b < h4.size := fun b hb => (hlt b hb).1
    simp -dsimp
    rw [push_set rfl]
    generalize hB2 : Array.push h4 _ = h5
    have k5 : Keep none_ h4 h5 := by rw [← hB2]; exact .push _ _ _
    have hC : h5[h4.size]? = some (.cells #[.slice ka L[xs.length].key.length kc, .int .i64 L[xs.length].count, .slice sa L[xs.length].sum.length sc, .slice na L[xs.length].mn.length nc, .slice xa L[xs.length].mx.length xc] 65 (0, 0)) := by rw [← hB2]; exact push_new _ _
    refine ⟨k5, fun h6 k6 hz6 => ?_⟩
    have l4 := lt_of_blk w1
    have hzz : h5.size = h4.size + 1 := by rw [← hB2]; simp
    have t46 : Tr M M h4 h6 := (Tr.call ⟨.refl _ _, fun _ h => .inl h, hlt'⟩ k5).trans (.lp (fun b hb => Nat.lt_of_lt_of_le (hlt' b hb) k5.size) m2 k6)
    have g6 := (g.call k5).lp (fun b hb => Nat.lt_of_lt_of_le (hlt' b hb) k5.size) m2 (fun e => by have := ho _ e; omega) k6
    have w6 := k6.at (k5.at w1 (fun h => h)) (by omega)
    have hC6 := k6.at hC (by omega)
    have u6 := t.trans t46
    have wS6 := u6.at wS (by omega)
    have wQ6 := u6.at wQ (by omega)
    have hrep6 := rCell.mono hrep (t46.ft (Nat.le_refl _))
    obtain ⟨va, vn, vc, rfl, hvn⟩ := g6.vals
    refine drawn_by [⟨0, true, []⟩, ⟨1, true, []⟩, ⟨2, true, []⟩, ⟨3, true, []⟩, ⟨4, true, []⟩, ⟨5, false, [0]⟩, ⟨6, false, [0]⟩, ⟨7, false, []⟩, ⟨8, false, []⟩] (by kernel_rfl) (by kernel_rfl) ?_
    simp -dsimp [w6, hC6, wS6, wQ6]
    refine call_by (narrow_spec k a (rCell.mono hrep6 (Ft.free (Nat.zero_le _))) (hLs _ (List.getElem_mem hxk))) ?_
    rintro _ h7 ⟨ds, rfl, rd, k7⟩
    have rd7 := rCell.mono rd (t46.ret (n := h.size) (by have := k03.size; have := t.size; have := t46.size; omega))
    obtain ⟨ka', kc', sa', sc', na', nc', xa', xc', rfl, q1, _⟩ := cell_open rd
    have w7 := k7.at w6 (fun h => h)
    have t7 := t46.call k7
    have g7 := g6.call k7
    have hlm : ((L.take xs.length).map (narrowC k a)).length = xs.length := by rw [List.length_map, List.length_take]; omega
    have w7p : ∀ o, (h7.push o)[b8]? = some (.cells #[.slice va vn vc] 43 (0, 0)) := fun o => push_at w7
    simp -dsimp [again_cons, w7, w7p]
    refine gr_app1 (x := narrowC k a L[xs.length]) rfl cellT g7 t7.lt rd7 rfl (by omega) (by omega) ?_
    intro v' h8 own' g8 t8 k8 ho8
    have w8 := k8.at w7 (fun e => by have := ho _ e; omega)
    have ho8' : ∀ b, own' = some b → h3.size + 2 ≤ b := fun b e => (ho8 _ e).elim (ho b) (by have := t7.size; omega)
    obtain ⟨va', vn', vc', rfl, hvn'⟩ := g8.vals
    have hl8 := lt_of_blk w8
    simp -dsimp [again_cons, w8]
    have t9 := (t7.trans t8).set (.cells #[.slice va' vn' vc'] 43) (.inl hM)
    refine ⟨_, (hI _ _ _).2 ⟨.inl hM, fun b hb => ⟨t9.lt b hb, ?_⟩, by simp; omega, _, own', set_same _ hl8, ?_, ho8'⟩, t9, .inl m1, .inl m2, (set_other _ (by omega)).trans ((k8.blk _ (by have := t7.size; omega) fun e => by have := ho _ e; omega).trans (k7.blk _ (by omega) fun h => h)), (set_other _ (by omega)).trans ((k8.blk _ (by have := t7.size; omega) fun e => by have := ho _ e; omega).trans (k7.blk _ (by omega) fun h => h))⟩
    · rcases hb with hb | hb
      · exact (hlt b hb).2
      · exact .inr (by have := ho8' b hb; omega)
    rw [List.length_append, List.length_singleton, take_snoc hxk, List.map_append]
    exact g8.set _ (.inl hM) (fun e => by have := ho8' _ e; omega)
  · rintro xs M h4 hxl hi4 hdm hz4 m1 m2 t
    obtain ⟨hM, hlt, hx, v, own, w1, g, ho⟩ := (hI _ _ _).1 hi4
    have T4 := Tr.from_ k03 t (fun b hb => by omega)
    rw [hxl, List.take_length] at g
    obtain ⟨va, vn, vc, rfl, hvn⟩ := g.vals
    have hLL : (L.map (narrowC (k : Int) a)).length = L.length := List.length_map _
    simp -dsimp [w1]
    refine call_by (cgroup_spec ((g.newC (n0 := 0) (Nat.zero_le _) (fun _ _ => Nat.zero_le _)).rep (Nat.le_refl 0)) (by omega) fun d hd => ?_) ?_
    · obtain ⟨c, hc, rfl⟩ := List.mem_map.1 hd
      exact narrow_small (hLs c hc)
    rintro v5 h5 ⟨g5, k5⟩
    have T5 := T4.call k5
    have hdm5 := k5.at hdm (fun h => h)
    simp -dsimp
    rw [takeS_cons hdm5]
    simp -dsimp
    have u := T5.set (.deferred none) m1
    have ek : Keep none_ h5 (h5.setIfInBounds h3.size (.deferred none)) → True := fun _ => trivial
    refine hK _ _ ⟨_, _, rfl, u.keep, .inr (.inr ⟨hr, k, l, hs, rfl, ?_⟩)⟩
    have e : groupC (L.map (narrowC (k : Int) a)) = askM k l a fs := by rw [eL]; rfl
    rw [← e]
    have hk4 := t.size
    exact (g5.keepS ((Keep.refl (fun b => b = h3.size) h5).setted _ fun _ => rfl) (fun b hb => by omega)).older (by omega)
end Go.Proofs

/-
  The document's facts, cells and Server.
-/
namespace Go.HC
/-- What the facts' file says. -/
def FactsIn (M : Mod) : Prop := (M.look nmFact).isSome = true ∧ DecOk (M.nowOf nmFact)
theorem CubeAt.facts {M : Mod} {s : SchM} {rows : List RowM} (C : CubeAt M s rows) : FactsIn M ∧ schB (M.nowOf nmFact) = s ∧ rowsB (M.nowOf nmFact) = rows := by
  obtain ⟨h1, h2, h3⟩ := dec_enc C.ok
  rw [← C.fact] at h1 h2 h3
  exact ⟨⟨C.there, h1⟩, h2, h3⟩
end Go.HC
namespace Go.Proofs
open Go Go.HC

end Go.Proofs

/-
  The document's Server.
-/
namespace Go.HC
end Go.HC
namespace Go.Proofs
open Go Go.HC

end Go.Proofs

/-
  The document's filters over a cell.
-/
namespace Go.HC
end Go.HC
namespace Go.Proofs
open Go Go.HC

end Go.Proofs

/-
  The document's Ask.
-/
namespace Go.HC
theorem cel_sml {s : SchM} {k : Int} {c : CellM} (h : CelOk s k c) : Sml s.ms.toNat c := ⟨by have := h.klen; have : (dimsM k).length ≤ 4 := cntD_le k 4; omega, h.sum, h.mn, h.mx⟩
end Go.HC
namespace Go.Proofs
open Go Go.HC

end Go.Proofs

/-
  Ask of a store whose facts cannot be read.
-/
namespace Go.Proofs
open Go Go.HC

set_option maxHeartbeats 1000000 in
set_option maxRecDepth 10000 in
theorem pserve_not {h : Heap} {v fv : Value} {F : Nat → Prop} {M : Mod} {a : Int} {n : Nat} {fa : Option Addr} {fc : Nat} (st : StAt v F h M) (hu : usedF M.files < 1000000) (hd : (M.nowOf nmFact).length < 1000000) (hfv : fv = .slice fa n fc) (hno : ¬ FactsIn M) :
    CallH Tryz.prog 43 #[v, .agg #[.int .i64 a, fv]] h fun r h' => r = .tuple #[.int .i64 0, .slice none 0 0, .int .i64 8] ∧ Keep none_ h h' := by
  subst hfv
  refine callH_by fun K hK => ?_
  refine enter [.cell 4 3, .cell 5 43, .tmp 6] Tryz.func43 rfl rfl (by kernel_rfl) rfl ?_
  have hvp : ∃ p, v = .pointer p := by obtain ⟨bs, bm, es, clock, tv, own, R, rfl, _⟩ := st; exact ⟨_, rfl⟩
  obtain ⟨vp, rfl⟩ := hvp
  simp -dsimp [boxS_eq]
  rw [show h.size + 1 + 1 + 1 = h.size + 3 from rfl, show h.size + 1 + 1 = h.size + 2 from rfl]
  generalize hB : Array.push (Array.push (Array.push (Array.push h _) _) _) _ = h0
  have k0 : Keep none_ h h0 := by rw [← hB]; exact ((((Keep.refl none_ h).pushed _).pushed _).pushed _).pushed _
  have z0 : h0.size = h.size + 4 := by rw [← hB]; simp
  have wV : h0[h.size]? = some (.cells #[.pointer vp] 36 (0, 0)) := by rw [← hB]; exact push_at (push_at (push_at (push_new _ _)))
  have wK : h0[h.size + 2]? = some (.cells #[.int .i64 0] 3 (0, 0)) := by rw [← hB]; exact push_at (push_get (by simp))
  have wL : h0[h.size + 3]? = some (.cells #[.slice none 0 0] 43 (0, 0)) := by rw [← hB]; exact push_get (by simp)
  have hsetk : ∀ {z : Heap} (o o' : Obj), Keep none_ h z → Keep none_ h ((z.setIfInBounds (h.size + 2) o).setIfInBounds (h.size + 3) o') := fun o o' kz => (kz.setted _ fun hh => by omega).setted _ fun hh => by omega
  have n23 : h.size + 2 ≠ h.size + 3 := by omega
  have hget2 : ∀ (z : Heap) (o o' : Obj), h.size + 2 < z.size → ((z.setIfInBounds (h.size + 2) o).setIfInBounds (h.size + 3) o')[h.size + 2]? = some o := fun z o o' hz => (set_other _ (by omega)).trans (set_same _ hz)
  have hget3 : ∀ (z : Heap) (o o' : Obj), h.size + 3 < z.size → ((z.setIfInBounds (h.size + 2) o).setIfInBounds (h.size + 3) o')[h.size + 3]? = some o' := fun z o o' hz => set_same _ (by simpa using hz)
  simp -dsimp [wV]
  refine call_by (read_spec (st.keep k0 fun _ _ h => h) (by omega) nmFact) ?_
  rintro _ h1 ⟨u, ou, rfl, gu, k1, hou⟩
  have k01 : Keep none_ h h1 := k0.trans k1 fun _ _ h => h
  have wK1 := k1.at wK (fun h => h)
  have wL1 := k1.at wL (fun h => h)
  cases hth : (M.look nmFact).isSome with
  | false =>
    obtain ⟨ua, uc, rfl⟩ := gu.val
    simp -dsimp [wK1, wL1, set_other _ n23, hget2 _ _ _ (lt_of_blk wK1), hget3 _ _ _ (lt_of_blk wL1)]
    exact hK _ _ ⟨rfl, hsetk _ _ k01⟩
  | true =>
    have hub : SlRep rByte (Old h1) h1 u (M.nowOf nmFact) := gu.bytes.mono fun b hb => ⟨⟨nz, gu.own_lt b hb, fun h => h⟩, rfl⟩
    obtain ⟨ua, uc, rfl⟩ := gu.val
    simp -dsimp
    refine call_by (pdecode_spec hub hd) ?_
    rintro _ h2 ⟨cv, ms, rv, e, rfl, k2, hcase⟩
    rcases hcase with ⟨hyes, _⟩ | ⟨_, rfl, rfl, rfl, rfl⟩
    · exact absurd ⟨hth, hyes⟩ hno
    have k02 : Keep none_ h h2 := k01.trans k2 fun _ _ h => h
    simp -dsimp
    rw [push_set rfl]
    generalize hD : Array.push h2 _ = h3
    have k3 : Keep none_ h2 h3 := by rw [← hD]; exact .push _ _ _
    have k03 : Keep none_ h h3 := k02.trans k3 fun _ _ h => h
    have wK3 := k3.at (k2.at wK1 (fun h => h)) (fun h => h)
    have wL3 := k3.at (k2.at wL1 (fun h => h)) (fun h => h)
    simp -dsimp [wK3, wL3, set_other _ n23, hget2 _ _ _ (lt_of_blk wK3), hget3 _ _ _ (lt_of_blk wL3)]
    exact hK _ _ ⟨rfl, hsetk _ _ k03⟩

set_option maxHeartbeats 1000000 in
set_option maxRecDepth 10000 in
theorem pask_not {h : Heap} {v fv : Value} {F : Nat → Prop} {M : Mod} {a : Int} {n : Nat} {fa : Option Addr} {fc : Nat} (st : StAt v F h M) (hu : usedF M.files < 1000000) (hd : (M.nowOf nmFact).length < 1000000) (hfv : fv = .slice fa n fc) (hno : ¬ FactsIn M) :
    CallH Tryz.prog 18 #[v, .agg #[.int .i64 a, fv]] h fun r h' => r = .tuple #[.slice none 0 0, .int .i64 8] ∧ Keep none_ h h' := by
  refine callH_by fun K hK => ?_
  refine enter [.tmp 4, .tmp 5] Tryz.func18 rfl rfl (by kernel_rfl) rfl ?_
  subst hfv
  simp -dsimp [boxS_eq]
  generalize hB : Array.push h _ = h0
  have k0 : Keep none_ h h0 := by rw [← hB]; exact .push _ _ _
  have wQ : h0[h.size]? = some (.cells #[.int .i64 a, .slice fa n fc] 27 (0, 0)) := by rw [← hB]; exact push_new _ _
  try simp -dsimp [wQ]
  refine call_by (pserve_not (st.keep k0 fun _ _ h => h) hu hd rfl hno) ?_
  rintro _ h1 ⟨rfl, k1⟩
  have k01 : Keep none_ h h1 := k0.trans k1 fun _ _ h => h
  simp -dsimp
  exact hK _ _ ⟨rfl, (k01.pushed _).setted _ fun hh => by have := k01.size; omega⟩

end Go.Proofs

/-
  law13's and law14's small functions.
-/
namespace Go.Proofs
open Go Go.HC

theorem within13_spec (a n : Int) (hn : 0 < n) (hn' : n < 1000000000) (h : Heap) : CallH Tryz.prog 40 #[.int .i64 a, .int .i64 n] h fun r h' => r = .int .i64 (withinM a n) ∧ h' = h := by
  refine enter [.tmp 4] Tryz.func40 rfl rfl (by kernel_rfl) rfl ?_
  have h1 := Int.tmod_lt_of_pos a hn
  have hne : n ≠ 0 := by omega
  simp -dsimp [hne]
  by_cases hlt : a.tmod n < 0
  · have hw : IntKind.i64.wrap (a.tmod n + n) = a.tmod n + n := by
      have h2 : -n < a.tmod n := by
        have := Int.tmod_lt_of_pos (-a) hn
        rw [Int.neg_tmod] at this
        omega
      exact wrap_i64 (by omega) (by omega)
    simp -dsimp [hlt, hw, withinM]
  · simp -dsimp [hlt, withinM]

theorem within14_spec (a n : Int) (hn : 0 < n) (hn' : n < 1000000000) (h : Heap) : CallH Tryz.prog 17 #[.int .i64 a, .int .i64 n] h fun r h' => r = .int .i64 (withinM a n) ∧ h' = h := by
  refine enter [.tmp 4] Tryz.func17 rfl rfl (by kernel_rfl) rfl ?_
  have h1 := Int.tmod_lt_of_pos a hn
  have hne : n ≠ 0 := by omega
  simp -dsimp [hne]
  by_cases hlt : a.tmod n < 0
  · have hw : IntKind.i64.wrap (a.tmod n + n) = a.tmod n + n := by
      have h2 : -n < a.tmod n := by
        have := Int.tmod_lt_of_pos (-a) hn
        rw [Int.neg_tmod] at this
        omega
      exact wrap_i64 (by omega) (by omega)
    simp -dsimp [hlt, hw, withinM]
  · simp -dsimp [hlt, withinM]

set_option maxHeartbeats 1000000 in
theorem few_spec {d m p q : Int} {ca sa : Option Addr} {cn cc sn sc : Nat} (h : Heap) :
    CallH Tryz.prog 13 #[.agg #[.int .i64 d, .int .i64 m, .int .i64 p, .int .i64 q, .slice ca cn cc, .slice sa sn sc]] h fun r h' => r = .bool (decide (cn ≤ 20) && decide (sn ≤ 60)) ∧ Keep none_ h h' := by
  refine callH_by fun K hK => ?_
  refine enter [.tmp 2] Tryz.func13 rfl rfl (by kernel_rfl) rfl ?_
  simp -dsimp [boxS_eq]
  by_cases h1 : cn ≤ 20
  · have h1' : (cn : Int) ≤ 20 := by omega
    by_cases h2 : sn ≤ 60
    · have h2' : (sn : Int) ≤ 60 := by omega
      simp -dsimp [h1', h2']
      exact hK _ _ ⟨by rw [decide_eq_true h1, decide_eq_true h2]; rfl, .push _ _ _⟩
    · have h2' : ¬ (sn : Int) ≤ 60 := by omega
      simp -dsimp [h1', h2']
      exact hK _ _ ⟨by rw [decide_eq_true h1, decide_eq_false h2]; rfl, .push _ _ _⟩
  · have h1' : ¬ (cn : Int) ≤ 20 := by omega
    simp -dsimp [h1']
    exact hK _ _ ⟨by rw [decide_eq_false h1]; rfl, .push _ _ _⟩

set_option maxHeartbeats 1000000 in
set_option maxRecDepth 10000 in
theorem smake_spec {d m p q : Int} {ca sa : Option Addr} {cn cc sn sc : Nat} {h : Heap} {s : SchM} {rows : List RowM}
    (hfacts : ∀ y : Heap, Keep none_ h y → CallH Tryz.prog 39 #[.int .i64 d, .slice ca cn cc, .int .i64 m, .slice sa sn sc] y fun r h' => ∃ sv rv, r = .tuple #[.agg #[sv, .int .i64 s.ms], rv] ∧ SlRep rInt (Ft y.size none_ h') h' sv s.cards ∧ SlRep rRow (Ft y.size none_ h') h' rv rows ∧ Keep none_ y h') :
    CallH Tryz.prog 14 #[.agg #[.int .i64 d, .int .i64 m, .int .i64 p, .int .i64 q, .slice ca cn cc, .slice sa sn sc]] h fun r h' => ∃ sv rv, r = .tuple #[.agg #[sv, .int .i64 s.ms], rv, .agg #[.int .i64 (3 + withinM p 12), .int .i64 (withinM q 2)]] ∧ Keep none_ h h' ∧ SlRep rInt (Ft h.size none_ h') h' sv s.cards ∧ SlRep rRow (Ft h.size none_ h') h' rv rows := by
  refine callH_by fun K hK => ?_
  refine enter [.cell 2 30, .tmp 3, .cell 4 33] Tryz.func14 rfl rfl (by kernel_rfl) rfl ?_
  simp -dsimp [boxS_eq]
  generalize hB : Array.push (Array.push (Array.push h _) _) _ = h0
  have k0 : Keep none_ h h0 := by rw [← hB]; exact (((Keep.refl none_ h).pushed _).pushed _).pushed _
  have z0 : h0.size = h.size + 3 := by rw [← hB]; simp
  have wA : h0[h.size]? = some (.cells #[.int .i64 d, .int .i64 m, .int .i64 p, .int .i64 q, .slice ca cn cc, .slice sa sn sc] 24 (0, 0)) := by rw [← hB]; exact push_at (push_at (push_new _ _))
  have wS : h0[h.size + 1]? = some (.cells #[.slice none 0 0, .int .i64 0] 30 (0, 0)) := by rw [← hB]; exact push_at (push_get (by simp))
  have wC : h0[h.size + 2]? = some (.cells #[.int .i64 0, .int .i64 0] 33 (0, 0)) := by rw [← hB]; exact push_get (by simp)
  try simp -dsimp [wA]
  refine call_by (hfacts _ k0) ?_
  rintro _ h1 ⟨sv, rv, rfl, hs, hr, k1⟩
  obtain ⟨a1, c1, rfl, _, _⟩ := hs.val
  obtain ⟨a2, c2, rfl, _, _⟩ := hr.val
  have k01 : Keep none_ h h1 := k0.trans k1 fun _ _ h => h
  simp -dsimp
  rw [push_set rfl]
  obtain ⟨b5, e5⟩ : ∃ b5, b5 = h1.size := ⟨_, rfl⟩
  rw [← e5]
  generalize hD : Array.push h1 _ = h2
  have k2 : Keep none_ h1 h2 := by rw [← hD]; exact .push _ _ _
  have k02 : Keep none_ h h2 := k01.trans k2 fun _ _ h => h
  have k12 : Keep none_ h0 h2 := k1.trans k2 fun _ _ h => h
  have wN : h2[b5]? = some (.cells #[.slice a1 s.cards.length c1, .int .i64 s.ms] 30 (0, 0)) := by rw [← hD, e5]; exact push_new _ _
  have wA2 := k12.at wA (fun h => h)
  have wS2 := k12.at wS (fun h => h)
  have wC2 := k12.at wC (fun h => h)
  have l1 := lt_of_blk wS2
  have l2 := lt_of_blk wC2
  have hw1 := withinM_bound (a := p) (n := 12) (by omega)
  have hw3 : IntKind.i64.wrap (3 + withinM p 12) = 3 + withinM p 12 := wrap_i64 (by omega) (by omega)
  refine drawn_byT (.node 9 10 (.leaf [⟨0, true, []⟩, ⟨1, true, []⟩, ⟨2, true, []⟩, ⟨3, true, []⟩, ⟨6, true, []⟩, ⟨7, true, []⟩, ⟨4, false, [0, 1, 6, 7]⟩, ⟨5, true, []⟩, ⟨8, false, [0, 1, 5]⟩, ⟨9, false, [0, 1]⟩, ⟨10, false, [1]⟩, ⟨11, true, []⟩, ⟨12, false, []⟩]) (.leaf [⟨0, true, []⟩, ⟨1, true, []⟩, ⟨2, true, []⟩, ⟨3, true, []⟩, ⟨6, true, []⟩, ⟨7, true, []⟩, ⟨4, false, [0, 1, 6, 7]⟩, ⟨5, true, []⟩, ⟨8, false, [0, 1, 5]⟩, ⟨10, false, [1, 5]⟩, ⟨11, true, []⟩, ⟨9, false, [1, 11]⟩, ⟨12, false, []⟩])) (by kernel_rfl) (by kernel_rfl) ⟨?L0, ?L1⟩
  all_goals
    rw [treeW_leaf]
    simp -dsimp [wN, wA2]
    refine call_by (within13_spec p 12 (by omega) (by omega) _) ?_
    rintro _ h3 ⟨rfl, eh⟩
    subst h3
    simp -dsimp [again_cons, wN, wA2, hw3]
    refine call_by (within13_spec q 2 (by omega) (by omega) _) ?_
    rintro _ h3 ⟨rfl, eh⟩
    subst h3
    simp -dsimp [again_cons, wN, wA2, wS2, wC2, hw3]
    generalize hZ : Array.setIfInBounds (Array.setIfInBounds h2 (h.size + 1) _) (h.size + 1 + 1) _ = z
    have y1 : z[h.size + 1]? = some (.cells #[.slice a1 s.cards.length c1, .int .i64 s.ms] 30 (0, 0)) := by rw [← hZ]; exact (set_other _ (by omega)).trans (set_same _ l1)
    have y2 : z[h.size + 1 + 1]? = some (.cells #[.int .i64 (3 + withinM p 12), .int .i64 (withinM q 2)] 33 (0, 0)) := by rw [← hZ]; exact set_same _ (by simpa using l2)
    have kz : Keep none_ h z := by rw [← hZ]; exact (k02.setted _ fun hh => by omega).setted _ fun hh => by omega
    have ez : ∀ b, Ft h0.size none_ h1 b → Ft h.size none_ z b ∧ z[b]? = h1[b]? := fun b hb => by
      have q1 := hb.1.1
      have q2 := hb.2.1
      have e : z[b]? = h1[b]? := by rw [← hZ, set_other _ (by omega), set_other _ (by omega)]; exact k2.blk b q2 (fun h => h)
      exact ⟨⟨hb.1.at (by omega) e, by rw [← hZ]; have := k2.size; simp; omega, fun h => h⟩, e⟩
    have hsm1 : ∀ o, (Array.setIfInBounds h2 (h.size + 1) o)[h.size + 1]? = some o := fun o => set_same _ l1
    simp -dsimp [y2, hsm1]
    exact hK _ _ ⟨_, _, rfl, kz, hs.mono ez, hr.mono ez⟩
end Go.Proofs

/-
  law13's and law14's put.
-/
namespace Go.Proofs
open Go Go.HC

set_option maxHeartbeats 1000000 in
set_option maxRecDepth 10000 in
theorem put14_spec {v : Value} {F G : Nat → Prop} {h : Heap} {M : Mod} (s : StAt v F h M) {n n' : Nat} (hn : M.Small n) (hn' : n < 1000000000) (x : Nm) {bv : Value} {b : List UInt8}
    (hb : SlRep rByte G h bv b) (hG : ∀ b, G b → b < h.size) (hbl : b.length < 1000000000) (hm : (M.write x b).2.Small n') (hm' : n' < 1000000000) :
    CallH Tryz.prog 32 #[v, .string x, bv] h fun _ h' => ∃ F', StAt v F' h' ((M.write x b).2.sync x).2 ∧ Keep F h h' ∧ ∀ b, F' b → F b ∨ h.size ≤ b := by
  refine callH_by fun K hK => ?_
  refine enter [] Tryz.func32 rfl rfl (by kernel_rfl) rfl ?_
  simp -dsimp
  refine call_by (write_spec s hn hn' x hb hG hbl) ?_
  rintro _ h1 ⟨rfl, F1, s1, k1, hF1⟩
  simp -dsimp
  refine call_by (sync_spec s1 hm hm' x) ?_
  rintro _ h2 ⟨rfl, F2, s2, k2, hF2⟩
  simp -dsimp
  refine hK _ _ ⟨F2, s2, k1.trans k2 (fun b hb hf => (hF1 b hf).elim id fun h => absurd hb (by omega)), fun b hf => ?_⟩
  rcases hF2 b hf with h3 | h3
  · exact hF1 b h3
  · exact .inr (by have := k1.size; omega)

set_option maxHeartbeats 1000000 in
set_option maxRecDepth 10000 in
theorem put13_spec {v : Value} {F G : Nat → Prop} {h : Heap} {M : Mod} (s : StAt v F h M) {n n' : Nat} (hn : M.Small n) (hn' : n < 1000000000) (x : Nm) {bv : Value} {b : List UInt8}
    (hb : SlRep rByte G h bv b) (hG : ∀ b, G b → b < h.size) (hbl : b.length < 1000000000) (hm : (M.write x b).2.Small n') (hm' : n' < 1000000000) :
    CallH Tryz.prog 78 #[v, .string x, bv] h fun _ h' => ∃ F', StAt v F' h' ((M.write x b).2.sync x).2 ∧ Keep F h h' ∧ ∀ b, F' b → F b ∨ h.size ≤ b := by
  refine callH_by fun K hK => ?_
  refine enter [] Tryz.func78 rfl rfl (by kernel_rfl) rfl ?_
  simp -dsimp
  refine call_by (write_spec s hn hn' x hb hG hbl) ?_
  rintro _ h1 ⟨rfl, F1, s1, k1, hF1⟩
  simp -dsimp
  refine call_by (sync_spec s1 hm hm' x) ?_
  rintro _ h2 ⟨rfl, F2, s2, k2, hF2⟩
  simp -dsimp
  refine hK _ _ ⟨F2, s2, k1.trans k2 (fun b hb hf => (hF1 b hf).elim id fun h => absurd hb (by omega)), fun b hf => ?_⟩
  rcases hF2 b hf with h3 | h3
  · exact hF1 b h3
  · exact .inr (by have := k1.size; omega)
end Go.Proofs

/-
  The document's cells as bytes.
-/
namespace Go.HC
def tripB (c : CellM) (k : Nat) : List UInt8 := w8 (c.sum.getD k 0) ++ w8 (c.mn.getD k 0) ++ w8 (c.mx.getD k 0)
def zcellB (c : CellM) : List UInt8 := c.key.map byteM ++ w2 c.count ++ (List.range c.sum.length).flatMap (tripB c)
theorem zencC_eq (set : Int) (l : List CellM) : encC set l = [byteM set] ++ w2 l.length ++ l.flatMap zcellB := rfl
theorem tripB_len (c : CellM) (k : Nat) : (tripB c k).length = 24 := by unfold tripB; simp [w8_len]
theorem rangeF_snoc {n j : Nat} (f : Nat → List UInt8) (hj : j < n) : ((List.range n).take (j + 1)).flatMap f = ((List.range n).take j).flatMap f ++ f j := by
  have h := flat_snoc f (l := List.range n) (i := j) (by simpa using hj)
  rw [List.getElem_range] at h
  exact h
end Go.HC
namespace Go.Proofs
open Go Go.HC

set_option maxHeartbeats 8000000 in
set_option maxRecDepth 10000 in
theorem cencode_spec {h : Heap} {lv : Value} {l : List CellM} {m : Nat} (set : Int) (hl : SlRep rCell (Old h) h lv l) (hn : l.length ≤ 1000) (hm : m ≤ 4) (hc : ∀ c ∈ l, Sml m c) :
    CallH Tryz.prog 38 #[.int .i64 set, lv] h fun r h' => SlRep rByte (Ft h.size none_ h') h' r (encC set l) ∧ Keep none_ h h' := by
  refine callH_by fun K hK => ?_
  refine enter [.tmp 4] Tryz.func38 rfl rfl (by kernel_rfl) rfl ?_
  obtain ⟨a1, c1, rfl, _, _⟩ := hl.val
  have hcb : ∀ c ∈ l, (zcellB c).length ≤ 200 := fun c hcc => by
    have h1 := hc c hcc
    have h2 := flat_len (f := tripB c) (k := 24) (l := List.range c.sum.length) fun x _ => by rw [tripB_len]; exact Nat.le_refl _
    rw [List.length_range, h1.sum] at h2
    have h3 := h1.key
    have h4 : (w2 c.count).length = 2 := rfl
    unfold zcellB
    rw [List.length_append, List.length_append, List.length_map, h4, h1.sum]
    omega
  have hpre : ∀ i, ((l.take i).flatMap zcellB).length ≤ 200000 := fun i => by
    have h2 := flat_len (f := zcellB) (k := 200) (l := l.take i) fun x hx => hcb x (List.mem_of_mem_take hx)
    rw [List.length_take] at h2
    omega
  simp -dsimp [wrap_byte]
  generalize hB : Array.push h _ = h1
  have z1 : h1.size = h.size + 1 := by rw [← hB]; simp
  have k01 : Keep none_ h h1 := by rw [← hB]; exact .push _ _ _
  have wB : h1[h.size]? = some (.cells #[.int .u8 (byteM set).toNat] 5 (0, 0)) := by rw [← hB]; exact push_new _ _
  obtain ⟨M1, eM⟩ : ∃ M1 : Nat → Prop, M1 = fun b => b = h.size := ⟨_, rfl⟩
  have hM1 : ∀ b, M1 b ↔ b = h.size := fun b => by rw [eM]
  have g1 : Gr rByte 5 h.size M1 h1 (.slice (some ⟨h.size, 0, none⟩) 1 1) [byteM set] (some h.size) := Gr.raw wB ((hM1 _).2 rfl) rfl rfl (Nat.le_refl _) (by decide) rfl (bytes_map.2 rfl)
  have t1 : Tr none_ M1 h h1 := ⟨k01, fun b hb => .inr (by have := (hM1 b).1 hb; omega), fun b hb => by have := (hM1 b).1 hb; omega⟩
  refine call_by (rtwo1_spec l.length h1) ?_
  rintro _ h2 ⟨⟨aw, cw, rfl⟩, sw, k2⟩
  have hw2 : ∀ n, (w2 n).length = 2 := fun n => rfl
  simp -dsimp
  refine gr_bytes byteT (g1.call k2) (t1.call k2).lt sw (by simp [hw2]) (by simp [hw2]) ?_
  intro v3 h3 own3 g3 t3 k3 ho3
  have t03 := (t1.call k2).trans t3
  obtain ⟨P, eP⟩ : ∃ P, P = [byteM set] ++ w2 l.length := ⟨_, rfl⟩
  have hPl : P.length = 3 := by rw [eP]; rfl
  rw [← eP] at g3
  simp -dsimp
  refine loopc (σ := Nat × Value) (fun t => [(1, .slice a1 l.length c1), (5, t.2), (6, .int .i64 t.1)])
    (fun t y => t.1 ≤ l.length ∧ ∃ M own, Tr none_ M h y ∧ Gr rByte 5 h.size M y t.2 (P ++ (l.take t.1).flatMap zcellB) own) (fun t => l.length - t.1) (0, v3) 0 (fun t _ => t.1 = l.length) noRet noRet_le (by simp)
    ⟨Nat.zero_le _, _, own3, t03, by simpa using g3⟩ (by kernel_rfl) ?_ ?_
  · rintro ⟨i, v⟩ y g ⟨hi, M, own, t, gv⟩
    simp only at hi gv
    have wi := wrap_succ (k := i) (by omega)
    by_cases hil : i < l.length
    · obtain ⟨bl, ol, cs, rfl, hFl, hrep, hxl⟩ := hl.get i hil
      obtain ⟨ka, kc, sa, sc, na, nc, xa, xc, rfl, qk, qs, qn, qx⟩ := cell_open hrep
      have hx := (congrArg (HC.cellsIn · (ol + i * 5) 5) (t.old bl hFl).2).trans hxl
      have hci := hc l[i] (List.getElem_mem hil)
      have hpi := hpre i
      obtain ⟨c, ec⟩ : ∃ c, c = l[i] := ⟨_, rfl⟩
      rw [← ec] at qk qs qn qx hx hci
      obtain ⟨B, eB⟩ : ∃ B, B = P ++ (l.take i).flatMap zcellB := ⟨_, rfl⟩
      have hBl : B.length ≤ 200003 := by rw [eB, List.length_append]; omega
      rw [← eB] at gv
      have hkl := hci.key
      have hsl := hci.sum
      have hnl := hci.mn
      have hxl' := hci.mx
      simp -dsimp [hil, idxA_nat hil, hx]
      rw [push_set rfl]
      generalize hY : Array.push y _ = y1
      have ky : Keep none_ y y1 := by rw [← hY]; exact .push _ _ _
      have wC : y1[y.size]? = some (.cells #[.slice ka c.key.length kc, .int .i64 c.count, .slice sa c.sum.length sc, .slice na c.mn.length nc, .slice xa c.mx.length xc] 65 (0, 0)) := by rw [← hY]; exact push_new _ _
      have t0 := t.call ky
      have gv0 := gv.call ky
      have fC : ∀ {M' : Nat → Prop} {z : Heap}, Tr M M' y1 z → z[y.size]? = _ := fun T => T.at wC fun hb => by have := t.lt _ hb; omega
      refine loopc (σ := Nat × Value) (fun t => [(1, .slice (some ⟨bl, ol, none⟩) l.length c1), (5, t.2), (6, .int .i64 i), (7, .pointer (some ⟨y.size, 0, none⟩)), (8, .int .i64 t.1)])
        (fun t z => t.1 ≤ c.key.length ∧ ∃ M' own, Tr M M' y1 z ∧ Gr rByte 5 h.size M' z t.2 (B ++ (c.key.take t.1).map byteM) own) (fun t => c.key.length - t.1) (0, v) 2 (fun t _ => t.1 = c.key.length) noRet noRet_le (by simp)
        ⟨Nat.zero_le _, M, own, t0.here, by simpa using gv0⟩ (by kernel_rfl) ?_ ?_
      · rintro ⟨j, v⟩ z g ⟨hj, M', own, T, gv⟩
        simp only at hj gv
        have wj := wrap_succ (k := j) (by omega)
        by_cases hjl : j < c.key.length
        · obtain ⟨b5, o5, rfl, hF5, hc5⟩ := (qk.mono (t0.trans T).old).int_at j hjl
          simp -dsimp [fC T, idxA_nat hjl, hjl, hc5, wrap_byte]
          refine gr_app1 (x := byteM c.key[j]) rfl byteT gv T.lt rfl rfl (by simp; omega) (by simp; omega) ?_
          intro v5 h5 own5 g5 t5 k5 ho5
          simp -dsimp [wj]
          exact ⟨(j + 1, v5), by simp, rfl, ⟨by show j + 1 ≤ _; omega, _, own5, T.trans t5, by show Gr rByte _ _ _ h5 v5 _ own5; rw [map_snoc byteM hjl, ← List.append_assoc]; exact g5⟩, by show c.key.length - (j + 1) < c.key.length - j; omega⟩
        · simp -dsimp [fC T, hjl]
          exact ⟨rfl, (j, v), by simp, rfl, ⟨hj, M', own, T, gv⟩, by show j = c.key.length; omega⟩
      rintro ⟨j, v⟩ z g ⟨hj, M', own, T, gv⟩ hjl
      simp only at hj gv hjl
      subst hjl
      rw [List.take_length] at gv
      simp -dsimp [fC T]
      refine call_by (rtwo1_spec c.count z) ?_
      rintro _ z2 ⟨⟨aw, cw, rfl⟩, sw, kz⟩
      simp -dsimp
      refine gr_bytes byteT (gv.call kz) (T.call kz).lt sw (by simp [hw2]; omega) (by simp [hw2]; omega) ?_
      intro v5 z3 own5 g5 t5 k5 ho5
      have T3 := (T.call kz).trans t5
      obtain ⟨C, eC⟩ : ∃ C, C = B ++ c.key.map byteM ++ w2 c.count := ⟨_, rfl⟩
      have hCl : C.length ≤ 201000 := by rw [eC]; simp [hw2]; omega
      rw [← eC] at g5
      simp -dsimp
      refine loopc (σ := Nat × Value) (fun t => [(1, .slice (some ⟨bl, ol, none⟩) l.length c1), (5, t.2), (6, .int .i64 i), (7, .pointer (some ⟨y.size, 0, none⟩)), (9, .int .i64 t.1)])
        (fun t z => t.1 ≤ c.sum.length ∧ ∃ M' own, Tr M M' y1 z ∧ Gr rByte 5 h.size M' z t.2 (C ++ ((List.range c.sum.length).take t.1).flatMap (tripB c)) own) (fun t => c.sum.length - t.1) (0, v5) 4 (fun t _ => t.1 = c.sum.length) noRet noRet_le (by simp)
        ⟨Nat.zero_le _, _, own5, T3, by simpa using g5⟩ (by kernel_rfl) ?_ ?_
      · rintro ⟨j, v⟩ z0 g ⟨hj, M0, own0, T0, gv⟩
        simp only at hj gv
        have wj := wrap_succ (k := j) (by omega)
        by_cases hjl : j < c.sum.length
        · have hjn : j < c.mn.length := by omega
          have hjx : j < c.mx.length := by omega
          obtain ⟨bs, os', e1, hFs, hs0⟩ := qs.int_at j hjl
          obtain ⟨bn, on, e2, hFn, hn0⟩ := qn.int_at j hjn
          obtain ⟨bx, ox, e3, hFx, hx0⟩ := qx.int_at j hjx
          subst e1; subst e2; subst e3
          have fs : ∀ {M' : Nat → Prop} {z : Heap}, Tr M M' y1 z → HC.cellIn z[bs]? (os' + j) = _ := fun T => (congrArg (HC.cellIn · (os' + j)) ((t0.trans T).old bs hFs).2).trans hs0
          have fn : ∀ {M' : Nat → Prop} {z : Heap}, Tr M M' y1 z → HC.cellIn z[bn]? (on + j) = _ := fun T => (congrArg (HC.cellIn · (on + j)) ((t0.trans T).old bn hFn).2).trans hn0
          have fx : ∀ {M' : Nat → Prop} {z : Heap}, Tr M M' y1 z → HC.cellIn z[bx]? (ox + j) = _ := fun T => (congrArg (HC.cellIn · (ox + j)) ((t0.trans T).old bx hFx).2).trans hx0
          have hfl := flat_len (f := tripB c) (k := 24) (l := (List.range c.sum.length).take j) fun x _ => by rw [tripB_len]; exact Nat.le_refl _
          rw [List.length_take] at hfl
          obtain ⟨D, eD⟩ : ∃ D, D = C ++ ((List.range c.sum.length).take j).flatMap (tripB c) := ⟨_, rfl⟩
          have hDl : D.length ≤ 202000 := by rw [eD, List.length_append]; omega
          rw [← eD] at gv
          have e8 := w8_len c.sum[j]
          have e9 := w8_len c.mn[j]
          have e10 := w8_len c.mx[j]
          simp -dsimp [fC T0, hjl]
          refine drawn_by [⟨0, true, []⟩, ⟨1, true, []⟩, ⟨2, true, []⟩, ⟨3, true, []⟩, ⟨4, true, []⟩, ⟨5, true, []⟩, ⟨8, true, []⟩, ⟨9, true, []⟩, ⟨10, true, []⟩, ⟨11, true, []⟩, ⟨12, true, []⟩, ⟨15, true, []⟩, ⟨16, true, []⟩, ⟨17, true, []⟩, ⟨18, true, []⟩, ⟨19, true, []⟩, ⟨6, false, [0, 8, 9, 10, 11, 12, 15, 16, 17, 18, 19]⟩, ⟨7, false, [8, 9, 10, 11, 12, 15, 16, 17, 18, 19]⟩, ⟨13, false, [15, 16, 17, 18, 19]⟩, ⟨14, false, [15, 16, 17, 18, 19]⟩, ⟨20, false, []⟩, ⟨21, false, []⟩, ⟨22, true, []⟩] (by kernel_rfl) (by kernel_rfl) ?_
          simp -dsimp [fC T0, idxV_nat hjl, idxV_nat hjn, idxV_nat hjx, elSz_eq, fs T0, fn T0, fx T0]
          refine call_by (reight_spec c.sum[j] z0) ?_
          rintro _ z1 ⟨⟨aw, cw, rfl⟩, sw1, k1⟩
          have T1 := T0.call k1
          simp -dsimp [again_cons, fC T1, idxV_nat hjl, idxV_nat hjn, idxV_nat hjx, elSz_eq, fs T1, fn T1, fx T1]
          refine gr_bytes byteT (gv.call k1) T1.lt sw1 (by rw [e8]; omega) (by rw [e8]; omega) ?_
          intro v2 z2 own2 g2 t2 k2 ho2
          have T2 := T1.trans t2
          simp -dsimp [again_cons, fC T2, idxV_nat hjl, idxV_nat hjn, idxV_nat hjx, elSz_eq, fs T2, fn T2, fx T2]
          refine call_by (reight_spec c.mn[j] z2) ?_
          rintro _ z3 ⟨⟨aw, cw, rfl⟩, sw3, k3⟩
          have T3 := T2.call k3
          simp -dsimp [again_cons, fC T3, idxV_nat hjl, idxV_nat hjn, idxV_nat hjx, elSz_eq, fs T3, fn T3, fx T3]
          refine gr_bytes byteT (g2.call k3) T3.lt sw3 (by rw [List.length_append, e8, e9]; omega) (by rw [List.length_append, e8, e9]; omega) ?_
          intro v4 z4 own4 g4 t4 k4 ho4
          have T4 := T3.trans t4
          simp -dsimp [again_cons, fC T4, idxV_nat hjl, idxV_nat hjn, idxV_nat hjx, elSz_eq, fs T4, fn T4, fx T4]
          refine call_by (reight_spec c.mx[j] z4) ?_
          rintro _ z5 ⟨⟨aw, cw, rfl⟩, sw5, k5⟩
          have T5 := T4.call k5
          simp -dsimp [again_cons]
          refine gr_bytes byteT (g4.call k5) T5.lt sw5 (by rw [List.length_append, List.length_append, e8, e9, e10]; omega) (by rw [List.length_append, List.length_append, e8, e9, e10]; omega) ?_
          intro v6 z6 own6 g6 t6 k6 ho6
          have T6 := T5.trans t6
          have etr : tripB c j = w8 c.sum[j] ++ w8 c.mn[j] ++ w8 c.mx[j] := by
            unfold tripB
            rw [List.getD_eq_getElem?_getD, List.getD_eq_getElem?_getD, List.getD_eq_getElem?_getD, List.getElem?_eq_getElem hjl, List.getElem?_eq_getElem hjn, List.getElem?_eq_getElem hjx]
            rfl
          simp -dsimp [wj]
          exact ⟨(j + 1, v6), by simp, rfl, ⟨by show j + 1 ≤ _; omega, _, own6, T6, by show Gr rByte _ _ _ z6 v6 _ own6; rw [rangeF_snoc _ hjl, ← List.append_assoc, ← eD, etr, ← List.append_assoc, ← List.append_assoc]; exact g6⟩, by show c.sum.length - (j + 1) < c.sum.length - j; omega⟩
        · simp -dsimp [fC T0, hjl]
          exact ⟨rfl, (j, v), by simp, rfl, ⟨hj, M0, own0, T0, gv⟩, by show j = c.sum.length; omega⟩
      rintro ⟨j, v⟩ z4 g ⟨hj, M', own, T, gv⟩ hjl
      simp only at hj gv hjl
      subst hjl
      rw [List.take_of_length_le (by simp)] at gv
      simp -dsimp [wi]
      exact ⟨(i + 1, v), by simp, rfl, ⟨by show i + 1 ≤ _; omega, M', own, t0.trans T, by
        show Gr rByte _ _ _ z4 v _ own
        rw [flat_snoc zcellB hil, ← List.append_assoc, ← eB, ← ec]
        unfold zcellB
        rw [← List.append_assoc, ← List.append_assoc, ← eC]
        exact gv⟩, by show l.length - (i + 1) < l.length - i; omega⟩
    · simp -dsimp [hil]
      exact ⟨rfl, (i, v), by simp, rfl, ⟨hi, M, own, t, gv⟩, by show i = l.length; omega⟩
  rintro ⟨i, v⟩ y g ⟨hi, M, own, t, gv⟩ hil
  simp only at hi gv hil
  subst hil
  rw [List.take_length, eP, ← zencC_eq] at gv
  simp -dsimp
  exact hK _ _ ⟨gv.rep (Nat.le_refl _) (fun b hb => t.fresh b (gv.mu b hb)), t.keep⟩
end Go.Proofs

/-
  How big a store gets: writes, syncs.
-/
namespace Go.HC
theorem Mod.Small.up {M : Mod} {m m' : Nat} (h : M.Small m) (hm : m ≤ m') : M.Small m' := ⟨Nat.le_trans h.used hm, Nat.le_trans h.files hm, Nat.le_trans h.trace hm⟩
theorem small_write {M : Mod} {m : Nat} (hs : SortedF M.files) (h : M.Small m) (x : Nm) (b : List UInt8) : (M.write x b).2.Small (m + b.length + 1) := by
  unfold Mod.write
  split
  · exact h.up (by omega)
  · split
    · exact h.up (by omega)
    · have h1 := used_put (x := x) (f := ⟨b, (M.look x).bind (·.sure), false⟩) hs
      have h2 := length_put (x := x) (f := ⟨b, (M.look x).bind (·.sure), false⟩) (l := M.files)
      have := h.used
      have := h.files
      have := h.trace
      simp only at h1
      refine ⟨?_, ?_, ?_⟩
      · show usedF (putF _ _ _) ≤ _; omega
      · show (putF _ _ _).length ≤ _; omega
      · show (M.trace ++ [_]).length ≤ _; simp; omega
theorem small_sync {M : Mod} {m : Nat} (hs : SortedF M.files) (h : M.Small m) (x : Nm) : (M.sync x).2.Small (m + 1) := by
  unfold Mod.sync
  split
  · exact h.up (by omega)
  · rename_i f hf
    have h1 := used_put (x := x) (f := ⟨f.now, some f.now, true⟩) hs
    have h2 := length_put (x := x) (f := ⟨f.now, some f.now, true⟩) (l := M.files)
    have hf' : lookF x M.files = some f := hf
    rw [hf'] at h1
    have := h.used
    have := h.files
    have := h.trace
    simp only [Option.map_some, Option.getD_some] at h1
    refine ⟨?_, ?_, ?_⟩
    · show usedF (putF _ _ _) ≤ _; omega
    · show (putF _ _ _).length ≤ _; omega
    · show (M.trace ++ [_]).length ≤ _; simp; omega
end Go.HC

/-
  law14's stores, plainly: two that hold the same; what is there behind Start and Both.
-/
namespace Go.HC
/-- Names, and what stands in the files. -/
def nowL (l : Files) : List (Nm × List UInt8) := l.map fun p => (p.1, p.2.now)
def putN (x : Nm) (b : List UInt8) : List (Nm × List UInt8) → List (Nm × List UInt8)
  | [] => [(x, b)]
  | p :: l => if x = p.1 then (x, b) :: l else if nLt x p.1 then (x, b) :: p :: l else p :: putN x b l
def lookN (x : Nm) : List (Nm × List UInt8) → Option (List UInt8)
  | [] => none
  | p :: l => if x = p.1 then some p.2 else lookN x l
theorem nowL_put (x : Nm) (f : FileM) : ∀ l : Files, nowL (putF x f l) = putN x f.now (nowL l)
  | [] => rfl
  | p :: l => by
    have ih := nowL_put x f l
    unfold nowL at ih ⊢
    rw [putF, List.map_cons, putN]
    split
    · rfl
    · split
      · rfl
      · rw [List.map_cons, ih]
theorem lookN_now (x : Nm) : ∀ l : Files, lookN x (nowL l) = (lookF x l).map (·.now)
  | [] => rfl
  | p :: l => by
    have ih := lookN_now x l
    unfold nowL at ih ⊢
    rw [List.map_cons, lookN, lookF]
    split
    · rfl
    · exact ih
theorem nowL_same {x : Nm} {f g : FileM} (he : f.now = g.now) : ∀ {l : Files}, SortedF l → lookF x l = some f → nowL (putF x g l) = nowL l
  | [], _, h => by cases h
  | p :: l, hs, h => by
    obtain ⟨h1, h2⟩ := List.pairwise_cons.1 hs
    rw [lookF] at h
    rw [putF]
    split
    · rename_i hx
      rw [if_pos hx] at h
      cases h
      unfold nowL
      rw [List.map_cons, List.map_cons]
      simp only
      rw [← he, hx]
    · rename_i hx
      rw [if_neg hx] at h
      rw [if_neg fun hlt => by
        have := h1 _ (mem_lookF h)
        exact nLt_asymm hlt this]
      have ih := nowL_same he h2 h
      unfold nowL at ih ⊢
      rw [List.map_cons, List.map_cons, ih]
theorem usedF_now : ∀ l : Files, usedF l = ((nowL l).map fun p => p.2.length).sum
  | [] => rfl
  | p :: l => by
    have ih := usedF_now l
    unfold nowL at ih ⊢
    rw [usedF_cons, List.map_cons, List.map_cons, List.sum_cons, ih]
/-- Two stores that hold the same files. -/
structure Alike (M N : Mod) : Prop where
  now : nowL M.files = nowL N.files
  limit : M.limit = N.limit
theorem Alike.refl (M : Mod) : Alike M M := ⟨rfl, rfl⟩
theorem Alike.symm {M N : Mod} (h : Alike M N) : Alike N M := ⟨h.now.symm, h.limit.symm⟩
theorem Alike.trans {M N O : Mod} (h : Alike M N) (h' : Alike N O) : Alike M O := ⟨h.now.trans h'.now, h.limit.trans h'.limit⟩
theorem Alike.look {M N : Mod} (h : Alike M N) (x : Nm) : (M.look x).map (·.now) = (N.look x).map (·.now) := by
  unfold Mod.look
  rw [← lookN_now, ← lookN_now, h.now]
theorem Alike.isSome {M N : Mod} (h : Alike M N) (x : Nm) : (M.look x).isSome = (N.look x).isSome := by
  have := congrArg Option.isSome (h.look x)
  rwa [Option.isSome_map, Option.isSome_map] at this
theorem Alike.nowOf {M N : Mod} (h : Alike M N) (x : Nm) : M.nowOf x = N.nowOf x := by unfold Mod.nowOf; rw [h.look]
theorem Alike.used {M N : Mod} (h : Alike M N) : usedF M.files = usedF N.files := by rw [usedF_now, usedF_now, h.now]
theorem Alike.names {M N : Mod} (h : Alike M N) : M.names = N.names := by
  have e : ∀ M : Mod, M.names = (nowL M.files).map (·.1) := fun M => by unfold Mod.names nowL; rw [List.map_map]; rfl
  rw [e, e, h.now]
theorem Alike.fits {M N : Mod} (h : Alike M N) (x : Nm) (b : List UInt8) : M.fits x b = N.fits x b := by unfold Mod.fits; rw [h.used, h.nowOf, h.limit]
theorem Alike.write {M N : Mod} (h : Alike M N) (x : Nm) (b : List UInt8) : Alike (M.write x b).2 (N.write x b).2 := by
  unfold Mod.write
  split
  · exact h
  · rw [h.fits]
    split
    · exact h
    · exact ⟨by unfold Mod.wrote; simp only; rw [nowL_put, nowL_put, h.now], h.limit⟩
theorem Alike.sync {M : Mod} (hs : SortedF M.files) (x : Nm) : Alike M (M.sync x).2 := by
  unfold Mod.sync
  split
  · exact .refl _
  · rename_i f hf
    exact ⟨(nowL_same (f := f) (g := ⟨f.now, some f.now, true⟩) rfl hs hf).symm, rfl⟩
/-- A write that fits. -/
theorem write_fits {M : Mod} {x : Nm} {b : List UInt8} (hn : nameOk x = true) (hf : (usedF M.files : Int) + b.length ≤ M.limit) : M.write x b = (0, M.wrote x b) := by
  unfold Mod.write
  rw [if_neg (by rw [hn]; decide)]
  have : M.fits x b = true := by
    unfold Mod.fits
    have := Int.natCast_nonneg (M.nowOf x).length
    exact decide_eq_true (by omega)
  rw [if_neg (by rw [this]; decide)]
theorem look_wrote (M : Mod) (x y : Nm) (b : List UInt8) : ((M.wrote x b).look y).map (·.now) = if y = x then some b else (M.look y).map (·.now) := by
  unfold Mod.look Mod.wrote
  simp only
  rw [lookF_put]
  split <;> rfl
theorem isSome_wrote (M : Mod) (x y : Nm) (b : List UInt8) : ((M.wrote x b).look y).isSome = (decide (y = x) || (M.look y).isSome) := by
  have := congrArg Option.isSome (look_wrote M x y b)
  rw [Option.isSome_map] at this
  rw [this]
  by_cases h : y = x
  · rw [if_pos h, decide_eq_true h]; rfl
  · rw [if_neg h, decide_eq_false h, Option.isSome_map]; rfl
theorem nowOf_wrote (M : Mod) (x y : Nm) (b : List UInt8) : (M.wrote x b).nowOf y = if y = x then b else M.nowOf y := by
  unfold Mod.nowOf
  rw [look_wrote]
  split <;> rfl
theorem name_ok : ∀ k : Fin 16, nameOk (nameK (k.val : Int)) = true ∧ nameK (k.val : Int) ≠ nmFact := by decide +kernel
theorem nameK_ok {k : Nat} (hk : k < 16) : nameOk (nameK (k : Int)) = true ∧ nameK (k : Int) ≠ nmFact := name_ok ⟨k, hk⟩
theorem nameK_eq {j k : Nat} (hj : j < 16) (hk : k < 16) : nameK (j : Int) = nameK (k : Int) ↔ j = k := ⟨fun h => by have := nameK_inj ⟨j, hj⟩ ⟨k, hk⟩ h; exact congrArg Fin.val this, fun h => by rw [h]⟩
theorem fact_ok : nameOk nmFact = true := by decide +kernel
/-- How long files are. -/
theorem encF_len {s : SchM} {rows : List RowM} (ok : FactsOk s rows) : (encF s rows).length = 8 + s.cards.length + rows.length * (s.cards.length + 8 * s.ms.toNat) := by
  have h := flat_size (f := rowB) (w := s.cards.length + 8 * s.ms.toNat) (l := rows) fun r hr => by rw [rowB_len, (ok.key r hr).1, (ok.m r hr).1]
  have e : encF s rows = [67, 85, 66, 49] ++ [byteM s.cards.length] ++ s.cards.map byteM ++ [byteM s.ms] ++ w2 rows.length ++ rows.flatMap rowB := rfl
  rw [e]
  simp only [List.length_append, h, List.length_map, List.length_cons, List.length_nil, w2]
  omega
theorem encC_len {s : SchM} {rows : List RowM} (ok : FactsOk s rows) {k : Int} (h0 : 0 ≤ k) (hk : k < 2 ^ s.cards.length) : (encC k (groupC (rows.map (ofM k)))).length ≤ 3 + rows.length * 54 := by
  have c := cub_ok ok h0 hk
  have hd := ok.dims
  have hm := ok.ms
  have hl : (dimsM k).length ≤ 4 := List.length_filter_le (bitM k) (List.range 4)
  have h := flat_size (f := cellB) (w := (dimsM k).length + 2 + 24 * s.ms.toNat) (l := groupC (rows.map (ofM k))) fun x hx => cellB_len (c.cel x hx)
  have hg := groupC_le (rows.map (ofM k))
  rw [List.length_map] at hg
  rw [encC_eq]
  simp only [List.length_append, h, List.length_cons, List.length_nil, w2]
  have h1 : (groupC (rows.map (ofM k))).length * ((dimsM k).length + 2 + 24 * s.ms.toNat) ≤ rows.length * 54 := Nat.mul_le_mul hg (by omega)
  omega
/-- The two stores of a law: the program's, the document's; facts, and cuboids of these sets. -/
structure Two (L : Int) (M N : Mod) (s : SchM) (rows : List RowM) (ks : List Nat) (n : Nat) : Prop where
  alike : Alike M N
  cube : CubeAt M s rows
  okM : M.Ok
  okN : N.Ok
  com : ∀ k : Nat, k < 16 → ((M.look (nameK k)).isSome = true ↔ k ∈ ks)
  smM : M.Small n
  smN : N.Small n
  limit : M.limit = L
theorem Alike.cube {M N : Mod} {s : SchM} {rows : List RowM} (h : Alike M N) (c : CubeAt M s rows) : CubeAt N s rows :=
  ⟨by rw [← h.isSome]; exact c.there, by rw [← h.nowOf]; exact c.fact, c.ok, fun k hk hs => by rw [← h.nowOf]; exact c.set k hk (by rw [h.isSome]; exact hs)⟩
theorem Alike.com {M N : Mod} (h : Alike M N) (rows : List RowM) : comM M rows = comM N rows := by
  funext k
  unfold comM
  rw [h.isSome]
/-- One cuboid more. -/
theorem Two.add {L : Int} {M N : Mod} {s : SchM} {rows : List RowM} {ks : List Nat} {n : Nat} (t : Two L M N s rows ks n) {k : Nat} (hk : k < 2 ^ s.cards.length) (hn : ((n + (encC k (groupC (rows.map (ofM k)))).length : Nat) : Int) ≤ L) :
    Two L (((M.write (nameK k) (encC k (groupC (rows.map (ofM k))))).2.sync (nameK k)).2) ((N.write (nameK k) (encC k (groupC (rows.map (ofM k))))).2) s rows (k :: ks) (n + (encC k (groupC (rows.map (ofM k)))).length + 2) := by
  have hd := t.cube.ok.dims
  have hp : 2 ^ s.cards.length ≤ 2 ^ 4 := Nat.pow_le_pow_right (by decide) hd.2
  have hk16 : k < 16 := by omega
  obtain ⟨b, eb⟩ : ∃ b, b = encC (k : Int) (groupC (rows.map (ofM (k : Int)))) := ⟨_, rfl⟩
  rw [← eb] at hn ⊢
  have hu := t.smM.used
  have hw := write_fits (M := M) (b := b) (nameK_ok hk16).1 (by rw [t.limit]; omega)
  have a1 := t.alike.write (nameK k) b
  have o1 := t.okM.write (nameK (k : Int)) b
  have a2 := Alike.sync o1.sorted (nameK (k : Int))
  have a3 := a2.symm.trans a1
  have hc : CubeAt (M.write (nameK (k : Int)) b).2 s rows := by
    rw [hw]
    refine ⟨?_, ?_, t.cube.ok, fun j hj hs => ?_⟩
    · rw [isSome_wrote, t.cube.there, Bool.or_true]
    · rw [nowOf_wrote, if_neg fun e => (nameK_ok hk16).2 e.symm]; exact t.cube.fact
    · have hj16 : j < 16 := by omega
      rw [nowOf_wrote]
      by_cases e : j = k
      · subst e; rw [if_pos rfl, eb]
      · rw [if_neg fun e' => e ((nameK_eq hj16 hk16).1 e')]
        rw [isSome_wrote, decide_eq_false fun e' => e ((nameK_eq hj16 hk16).1 e'), Bool.false_or] at hs
        exact t.cube.set j hj hs
  have s1 := small_write t.okM.sorted t.smM (nameK (k : Int)) b
  have s2 := small_sync o1.sorted s1 (nameK (k : Int))
  have s3 := small_write t.okN.sorted t.smN (nameK (k : Int)) b
  refine ⟨a3, a2.cube hc, o1.sync _, t.okN.write _ _, fun j hj => ?_, s2.up (by omega), s3.up (by omega), by rw [← a2.limit, hw]; exact t.limit⟩
  rw [← a2.isSome, hw, isSome_wrote, Bool.or_eq_true, t.com j hj, decide_eq_true_eq, nameK_eq hj hk16, List.mem_cons]
/-- Facts alone. -/
theorem Two.start {L : Int} {s : SchM} {rows : List RowM} (ok : FactsOk s rows) (hL : ((encF s rows).length : Int) ≤ L) :
    Two L (((Mod.new L).write nmFact (encF s rows)).2.sync nmFact).2 (((Mod.new L).write nmFact (encF s rows)).2.sync nmFact).2 s rows [] ((encF s rows).length + 2) := by
  obtain ⟨b, eb⟩ : ∃ b, b = encF s rows := ⟨_, rfl⟩
  rw [← eb] at hL ⊢
  have hw := write_fits (M := Mod.new L) (x := nmFact) (b := b) fact_ok (by show ((0 : Nat) : Int) + _ ≤ L; omega)
  have o0 := Mod.Ok.new L
  have o1 := o0.write nmFact b
  have a2 := Alike.sync o1.sorted nmFact
  have hno : ∀ x, (Mod.new L).look x = none := fun x => rfl
  have hd := ok.dims
  have hp : 2 ^ s.cards.length ≤ 2 ^ 4 := Nat.pow_le_pow_right (by decide) hd.2
  have hc : CubeAt ((Mod.new L).write nmFact b).2 s rows := by
    rw [hw]
    refine ⟨?_, ?_, ok, fun j hj hs => ?_⟩
    · rw [isSome_wrote, decide_eq_true rfl]; rfl
    · rw [nowOf_wrote, if_pos rfl, eb]
    · rw [isSome_wrote, decide_eq_false (nameK_ok (k := j) (by omega)).2, hno] at hs
      cases hs
  have s0 : (Mod.new L).Small 0 := ⟨Nat.le_refl _, Nat.le_refl _, Nat.le_refl _⟩
  have s1 := small_write o0.sorted s0 nmFact b
  have s2 := small_sync o1.sorted s1 nmFact
  refine ⟨.refl _, a2.cube hc, o1.sync _, o1.sync _, fun j hj => ?_, s2.up (by omega), s2.up (by omega), by rw [← a2.limit, hw]; rfl⟩
  rw [← a2.isSome, hw, isSome_wrote, decide_eq_false (nameK_ok hj).2, hno]
  simp
/-- What facts of numbers take. -/
theorem facts_len {s : SchM} {rows : List RowM} (ok : FactsOk s rows) (hr : rows.length ≤ 40) : (encF s rows).length ≤ 812 := by
  have hd := ok.dims
  have hm := ok.ms
  have hl := encF_len ok
  have h1 : rows.length * (s.cards.length + 8 * s.ms.toNat) ≤ 40 * 20 := Nat.mul_le_mul hr (by omega)
  omega
theorem factsM_len (d : Int) (cards : List Int) (m : Int) (ns : List Int) : (factsM d cards m ns).2.length ≤ 40 := by
  simp only [factsM, List.length_map]
  exact List.length_take_le 40 ns
end Go.HC

/-
  law13's Start, law14's Both.
-/
namespace Go.HC
/-- What stands ahead of n is as it was; what lay there reads as it did. -/
theorem late_old {hs y : Heap} (kk : Keep (fun b => hs.size ≤ b) hs y) : ∀ b, Old hs b → Old y b ∧ y[b]? = hs[b]? := fun b hb => by
  have e1 : y[b]? = hs[b]? := kk.blk b hb.2.1 (by have := hb.2.1; omega)
  exact ⟨⟨nz, Nat.lt_of_lt_of_le hb.2.1 kk.size, fun h => h⟩, e1⟩
theorem late_none {hs y : Heap} (kk : Keep (fun b => hs.size ≤ b) hs y) : Keep none_ hs y := ⟨kk.size, fun b hb _ => kk.blk b hb (by omega)⟩
theorem late_trans {hs y z : Heap} {F : Nat → Prop} (kk : Keep (fun b => hs.size ≤ b) hs y) (k : Keep F y z) (hF : ∀ b, F b → hs.size ≤ b) : Keep (fun b => hs.size ≤ b) hs z :=
  kk.trans k fun b _ hf => hF b hf
/-- The store with facts alone. -/
def stM (L : Int) (s : SchM) (rows : List RowM) : Mod := (((Mod.new L).write nmFact (encF s rows)).2.sync nmFact).2
end Go.HC
namespace Go.Proofs
open Go Go.HC
/-- Two stores that lie apart, and behind h0. -/
structure Pair (v w : Value) (F G : Nat → Prop) (n : Nat) (h : Heap) (M N : Mod) : Prop where
  st : StAt v F h M
  rf : RefAt w G h N
  f0 : ∀ b, F b → n ≤ b
  g0 : ∀ b, G b → n ≤ b
  dis : ∀ b, F b → ¬ G b
theorem Pair.keep {v w : Value} {F G S : Nat → Prop} {n : Nat} {h h' : Heap} {M N : Mod} (p : Pair v w F G n h M N) (k : Keep S h h') (hS : ∀ b, S b → b < n) : Pair v w F G n h' M N :=
  ⟨p.st.keep k fun b hb hs => by have := p.f0 b hb; have := hS b hs; omega, p.rf.keep k fun b hb hs => by have := p.g0 b hb; have := hS b hs; omega, p.f0, p.g0, p.dis⟩
theorem Pair.none {v w : Value} {F G : Nat → Prop} {n : Nat} {h h' : Heap} {M N : Mod} (p : Pair v w F G n h M N) (k : Keep none_ h h') : Pair v w F G n h' M N := p.keep k fun _ h => h.elim
/-- The program's store is changed. -/
theorem Pair.stepF {v w : Value} {F F' G : Nat → Prop} {n : Nat} {h h' : Heap} {M M' N : Mod} (p : Pair v w F G n h M N) (hn : n ≤ h.size) (s : StAt v F' h' M') (k : Keep F h h') (hF : ∀ b, F' b → F b ∨ h.size ≤ b) : Pair v w F' G n h' M' N :=
  ⟨s, p.rf.keep k fun b hb hs => p.dis b hs hb, fun b hb => (hF b hb).elim (p.f0 b) fun h => by omega, p.g0, fun b hb hg => (hF b hb).elim (fun h => p.dis b h hg) fun h => by have := p.rf.lt b hg; omega⟩
theorem Pair.stepG {v w : Value} {F G G' : Nat → Prop} {n : Nat} {h h' : Heap} {M N N' : Mod} (p : Pair v w F G n h M N) (hn : n ≤ h.size) (s : RefAt w G' h' N') (k : Keep G h h') (hG : ∀ b, G' b → G b ∨ h.size ≤ b) : Pair v w F G' n h' M N' :=
  ⟨p.st.keep k fun b hb hs => p.dis b hb hs, s, p.f0, fun b hb => (hG b hb).elim (p.g0 b) fun h => by omega, fun b hb hg => (hG b hg).elim (fun h => p.dis b hb h) fun h => by have := p.st.lt b hb; omega⟩

set_option maxHeartbeats 1000000 in
set_option maxRecDepth 10000 in
theorem start_spec {h : Heap} {cv rv : Value} {s : SchM} {rows : List RowM} (L : Int) (hc : SlRep rInt (Old h) h cv s.cards) (hr : SlRep rRow (Old h) h rv rows) (ok : FactsOk s rows) (hL : ((encF s rows).length : Int) ≤ L) (hL' : L ≤ 1000000000) :
    CallH Tryz.prog 41 #[.agg #[cv, .int .i64 s.ms], rv, .int .i64 L] h fun r h' => ∃ p w F G, r = .tuple #[.pointer (some p), w] ∧ Pair (.pointer (some p)) w F G h.size h' (stM L s rows) (stM L s rows) ∧ Keep none_ h h' := by
  refine callH_by fun K hK => ?_
  refine enter [.tmp 6, .tmp 7] Tryz.func41 rfl rfl (by kernel_rfl) rfl ?_
  have hc0 := hc
  have hr0 := hr
  obtain ⟨ca, cc, rfl, _, _⟩ := hc.val
  obtain ⟨ra, rc, rfl, _, _⟩ := hr.val
  have hlen := encF_len ok
  have hd := ok.dims
  have hms := ok.ms
  have hll := ok.len
  have hle : (encF s rows).length < 100000 := by
    have : rows.length * (s.cards.length + 8 * s.ms.toNat) ≤ 300 * 20 := Nat.mul_le_mul hll (by omega)
    omega
  simp -dsimp [boxS_eq]
  generalize hB : Array.push h _ = h0
  have k0 : Keep none_ h h0 := by rw [← hB]; exact .push _ _ _
  have z0 : h0.size = h.size + 1 := by rw [← hB]; simp
  have wA : h0[h.size]? = some (.cells #[.slice ca s.cards.length cc, .int .i64 s.ms] 30 (0, 0)) := by rw [← hB]; exact push_new _ _
  refine call_by (new_spec L h0) ?_
  rintro v h1 ⟨F0, s0, k1, hF0⟩
  have hvp : ∃ p, v = .pointer (some p) := by obtain ⟨bs, bm, es, clock, tv, own, R, rfl, _⟩ := s0; exact ⟨_, rfl⟩
  obtain ⟨vp, rfl⟩ := hvp
  simp -dsimp
  refine call_by (rnew_spec L h1) ?_
  rintro w h2 ⟨G0, g0, k2, hG0⟩
  have hwp : ∃ p, w = .pointer (some p) := by obtain ⟨bs, fv, of, lv, ol, R, rfl, _⟩ := g0; exact ⟨_, rfl⟩
  obtain ⟨wp, rfl⟩ := hwp
  have k02 : Keep none_ h h2 := (k0.trans k1 fun _ _ h => h).trans k2 fun _ _ h => h
  have wA2 := (k1.trans k2 fun _ _ h => h).at wA (fun h => h)
  have p2 : Pair (.pointer (some vp)) (.pointer (some wp)) F0 G0 h.size h2 (Mod.new L) (Mod.new L) := ⟨s0.keep k2 fun _ _ h => h, g0, fun b hb => by have := hF0 b hb; omega, fun b hb => by have := hG0 b hb; have := k1.size; omega, fun b hb hg => by have := s0.lt b hb; have := hG0 b hg; omega⟩
  simp -dsimp [wA2]
  refine call_by (rencode_spec (hc0.mono ((Tr.of k02).ft (Nat.le_refl 0))) (hr0.mono ((Tr.of k02).ft (Nat.le_refl 0))) hd.2 (by omega) fun r hr => ⟨by rw [(ok.key r hr).1]; omega, by rw [(ok.m r hr).1]; omega⟩) ?_
  rintro bv h3 ⟨hb, k3⟩
  have k03 : Keep none_ h h3 := k02.trans k3 fun _ _ h => h
  have p3 := p2.none k3
  have sm0 : (Mod.new L).Small 0 := ⟨Nat.le_refl _, Nat.le_refl _, Nat.le_refl _⟩
  have o0 := Mod.Ok.new L
  have sm1 := small_write o0.sorted sm0 nmFact (encF s rows)
  have o1 := o0.write nmFact (encF s rows)
  have z3 := k03.size
  have e1 : ((Mod.new L).write nmFact (encF s rows)).2.limit = L := by
    unfold Mod.write
    split
    · rfl
    · split <;> rfl
  simp -dsimp
  refine call_by (put13_spec p3.st sm0 (by omega) nmFact hb (fun b h => h.2.1) (by omega) sm1 (by omega)) ?_
  rintro _ h4 ⟨F1, s1, k4, hF1⟩
  have p4 := p3.stepF z3 s1 k4 hF1
  have t34 : ∀ b, Ft h2.size none_ h3 b → Old h4 b ∧ h4[b]? = h3[b]? := fun b hb => by
    have e : h4[b]? = h3[b]? := k4.blk b hb.2.1 fun hf => by have := p2.st.lt b hf; have := hb.1.1; omega
    exact ⟨⟨nz, Nat.lt_of_lt_of_le hb.2.1 k4.size, fun h => h⟩, e⟩
  simp -dsimp
  refine call_by (rwrite_spec p4.rf sm0 (by omega) (by show _ ≤ L; omega) (by show L ≤ _; omega) nmFact (hb.mono t34) (fun b h => h.2.1) (by omega)) ?_
  rintro _ h5 ⟨rfl, G1, g1, k5, hG1⟩
  have p5 := p4.stepG (by have := k4.size; omega) g1 k5 hG1
  simp -dsimp
  refine call_by (rsync_spec p5.rf sm1 (by omega) nmFact) ?_
  rintro _ h6 ⟨rfl, G2, g2, k6, hG2⟩
  have p6 := p5.stepG (by have := k4.size; have := k5.size; omega) g2 k6 hG2
  simp -dsimp
  refine hK _ _ ⟨vp, _, F1, G2, rfl, p6, ?_⟩
  have q4 : Keep none_ h h4 := k03.trans k4 fun b hb hf => absurd (p3.f0 b hf) (by omega)
  have q5 : Keep none_ h h5 := q4.trans k5 fun b hb hf => absurd (p4.g0 b hf) (by omega)
  exact q5.trans k6 fun b hb hf => absurd (p5.g0 b hf) (by omega)
end Go.Proofs

/-
  law14's Both.
-/
namespace Go.Proofs
open Go Go.HC

/-- The set that a number stands for. -/
def setN (cards : List Int) (x : Int) : Nat := (withinM x (2 ^ cards.length)).toNat
theorem setN_eq {cards : List Int} (x : Int) : ((setN cards x : Nat) : Int) = withinM x (2 ^ cards.length) := by
  have := withinM_bound (a := x) (pow2_pos cards.length)
  unfold setN
  omega
theorem setN_lt {cards : List Int} (x : Int) : setN cards x < 2 ^ cards.length := by
  have h1 := withinM_bound (a := x) (pow2_pos cards.length)
  have h2 := setN_eq (cards := cards) x
  have : ((2 ^ cards.length : Nat) : Int) = 2 ^ cards.length := by simp
  omega

set_option maxHeartbeats 1000000 in
set_option maxRecDepth 100000 in
theorem both14_spec {h : Heap} {d m p q : Int} {cv nv sv : Value} {cards ns sets : List Int} (hc : SlRep rInt (Old h) h cv cards) (hn : SlRep rInt (Old h) h nv ns) (hs : SlRep rInt (Old h) h sv sets) :
    CallH Tryz.prog 15 #[.agg #[.int .i64 d, .int .i64 m, .int .i64 p, .int .i64 q, cv, nv], sv] h fun r h' => ∃ vp w F G M N ks n, r = .tuple #[.pointer (some vp), w] ∧ Keep none_ h h' ∧ Pair (.pointer (some vp)) w F G h.size h' M N ∧
      Two 100000 M N (factsM d cards m ns).1 (factsM d cards m ns).2 ks n ∧ n ≤ 23000 ∧ ∀ j, (hj : j < sets.length) → j < 10 → setN (factsM d cards m ns).1.cards sets[j] ∈ ks := by
  refine callH_by fun K hK => ?_
  refine enter [.tmp 4, .tmp 5] Tryz.func15 rfl rfl (by kernel_rfl) rfl ?_
  have hc0 := hc
  have hn0 := hn
  have hs0 := hs
  obtain ⟨ca, cc, rfl, _, _⟩ := hc.val
  obtain ⟨na, nc, rfl, _, _⟩ := hn.val
  obtain ⟨sa, sc, rfl, hsc, _⟩ := hs.val
  have hok := factsM_ok d cards m ns
  have hr40 := factsM_len d cards m ns
  simp -dsimp [boxS_eq]
  generalize hB : Array.push h _ = h0
  have k0 : Keep none_ h h0 := by rw [← hB]; exact .push _ _ _
  have z0 : h0.size = h.size + 1 := by rw [← hB]; simp
  have wA : h0[h.size]? = some (.cells #[.int .i64 d, .int .i64 m, .int .i64 p, .int .i64 q, .slice ca cards.length cc, .slice na ns.length nc] 24 (0, 0)) := by rw [← hB]; exact push_new _ _
  try simp -dsimp [wA]
  refine call_by (smake_spec fun y ky => facts1_spec d m ((hc0.mono ((Tr.of (k0.trans ky fun _ _ h => h)).ft (Nat.le_refl 0)))) (hn0.mono ((Tr.of (k0.trans ky fun _ _ h => h)).ft (Nat.le_refl 0)))) ?_
  rintro _ h1 ⟨cv1, rv1, rfl, k1, hcv, hrv⟩
  generalize hfs : (factsM d cards m ns).1 = s at *
  generalize hfr : (factsM d cards m ns).2 = rows at *
  obtain ⟨c1a, c1c, rfl, _, _⟩ := hcv.val
  obtain ⟨r1a, r1c, rfl, _, _⟩ := hrv.val
  simp -dsimp
  generalize hD : Array.push (Array.push h1 _) _ = h2
  have k2 : Keep none_ h1 h2 := by rw [← hD]; exact ((Keep.refl none_ h1).pushed _).pushed _
  have z2 : h2.size = h1.size + 2 := by rw [← hD]; simp
  have v1 : h2[h1.size]? = some (.cells #[.slice none 0 0, .int .i64 0] 30 (0, 0)) := by rw [← hD]; exact push_at (push_new _ _)
  have v2 : h2[h1.size + 1]? = some (.cells #[.int .i64 0, .int .i64 0] 33 (0, 0)) := by rw [← hD]; exact push_get (by simp)
  have hsm1 : ∀ o, (Array.setIfInBounds h2 h1.size o)[h1.size]? = some o := fun o => set_same _ (lt_of_blk v1)
  simp -dsimp [v1, v2, set_other _ (show h1.size ≠ h1.size + 1 by omega), hsm1]
  generalize hE : Array.setIfInBounds (Array.setIfInBounds h2 _ _) _ _ = h3
  have kE : Keep none_ h1 h3 := by rw [← hE]; exact (k2.setted _ fun hh => by omega).setted _ fun hh => by omega
  have k13 : Keep none_ h h3 := (k0.trans k1 fun _ _ h => h).trans kE fun _ _ h => h
  have vS : h3[h1.size]? = some (.cells #[.slice c1a s.cards.length c1c, .int .i64 s.ms] 30 (0, 0)) := by rw [← hE]; exact (set_other _ (by omega)).trans (set_same _ (by omega))
  have hL : ((encF s rows).length : Int) ≤ 100000 := by have := facts_len hok hr40; omega
  have hd := hok.dims
  have hms := hok.ms
  have tE : ∀ b, Ft h0.size none_ h1 b → Old h3 b ∧ h3[b]? = h1[b]? := fun b hb => by
    have e : h3[b]? = h1[b]? := kE.blk b hb.2.1 (fun h => h)
    exact ⟨⟨nz, Nat.lt_of_lt_of_le hb.2.1 kE.size, fun h => h⟩, e⟩
  have rc3 := hcv.mono tE
  have rr3 := hrv.mono tE
  try simp -dsimp [vS]
  refine call_by (start_spec 100000 rc3 rr3 hok hL (by decide)) ?_
  rintro _ h4 ⟨vp, w, F0, G0, rfl, p4, k4⟩
  simp -dsimp
  have hp0 := pow2_pos s.cards.length
  have hp4 : (2 : Int) ^ s.cards.length ≤ 2 ^ 4 := pow2_le hd.2
  have hsh := shl_one (k := s.cards.length) (by omega)
  have hshv : binV Tryz.prog .shl 3 (.int .i64 1) (.int .u64 (IntKind.u64.wrap (s.cards.length : Int))) = some (.int .i64 (2 ^ s.cards.length)) := hsh
  have z13 := k13.size
  have vS4 := k4.at vS (fun h => h)
  have w0 : Keep (fun b => h3.size ≤ b) h3 h4 := k4.weaken fun _ _ h => h.elim
  have hle := facts_len hok hr40
  have hs3 : SlRep rInt (Old h3) h3 (.slice sa sets.length sc) sets := hs0.mono ((Tr.of k13).ft (Nat.le_refl 0))
  have hl1 := lt_of_blk vS
  refine loopc (σ := Nat) (fun i => [(1, .slice sa sets.length sc), (6, .pointer (some ⟨h1.size, 0, none⟩)), (7, .slice r1a rows.length r1c), (9, .pointer (some vp)), (10, w), (11, .int .i64 i)])
    (fun i y => (i ≤ sets.length ∧ i ≤ 10) ∧ Keep (fun b => h3.size ≤ b) h3 y ∧ ∃ F G M N ks n, Pair (.pointer (some vp)) w F G h3.size y M N ∧ Two 100000 M N s rows ks n ∧ n ≤ 900 + 2200 * i ∧ ∀ j, (hj : j < sets.length) → j < i → setN s.cards sets[j] ∈ ks)
    (fun i => 10 - i) 0 0 (fun i _ => ¬ (i < sets.length ∧ i < 10)) noRet noRet_le (by simp)
    ⟨⟨Nat.zero_le _, Nat.zero_le _⟩, w0, F0, G0, _, _, [], _, p4, Two.start hok hL, by omega, fun j _ hj => absurd hj (by omega)⟩ (by kernel_rfl) ?_ ?_
  case refine_2 =>
    rintro i y g ⟨⟨hi1, hi2⟩, ky, F, G, M, N, ks, n, py, ty, hn, hks⟩ hin
    simp -dsimp
    refine hK _ _ ⟨vp, w, F, G, M, N, ks, n, rfl, k13.trans (late_none ky) fun _ _ h => h, ⟨py.st, py.rf, fun b hb => by have := py.f0 b hb; omega, fun b hb => by have := py.g0 b hb; omega, py.dis⟩, ty, by omega, fun j hj h10 => hks j hj (by omega)⟩
  rintro i y g ⟨⟨hi1, hi2⟩, ky, F, G, M, N, ks, n, py, ty, hn, hks⟩
  have wi := wrap_succ (k := i) (by omega)
  have vSy : y[h1.size]? = _ := ky.at vS (by omega)
  by_cases hil : i < sets.length
  · by_cases h10 : i < 10
    · have h10' : (i : Int) < 10 := by omega
      obtain ⟨b1, o1, e1, _, hx⟩ := (hs3.mono (late_old ky)).int_at i hil
      subst e1
      obtain ⟨x, ex⟩ : ∃ x, x = sets[i] := ⟨_, rfl⟩
      rw [← ex] at hx
      have hk := setN_lt (cards := s.cards) x
      have hke := setN_eq (cards := s.cards) x
      have hkb := withinM_bound (a := x) hp0
      simp -dsimp [hil, h10']
      refine drawn_by [⟨0, true, []⟩, ⟨1, true, []⟩, ⟨2, true, []⟩, ⟨3, true, []⟩, ⟨4, true, []⟩, ⟨5, true, []⟩, ⟨6, true, []⟩, ⟨7, true, []⟩, ⟨8, true, []⟩, ⟨9, false, []⟩, ⟨10, true, []⟩] (by kernel_rfl) (by kernel_rfl) ?_
      simp -dsimp [-intRes_shl, vSy, idxV_nat hil, elSz_eq, hx, hshv]
      refine call_by (within14_spec x _ hp0 (by omega) _) ?_
      rintro _ y' ⟨rfl, hh⟩
      obtain rfl := hh.symm
      rw [← hke]
      obtain ⟨k, ek⟩ : ∃ k, k = setN s.cards x := ⟨_, rfl⟩
      rw [← ek] at hk hke ⊢
      simp -dsimp [again_cons]
      have hrow : ∀ r ∈ rows, r.key.length < 64 ∧ r.m.length = s.ms.toNat := fun r hr => ⟨by rw [(hok.key r hr).1]; omega, (hok.m r hr).1⟩
      refine call_by (rfacts_spec (m := s.ms.toNat) (k : Int) (rr3.mono (late_old ky)) (by omega) (by omega) hrow) ?_
      rintro lv y1 ⟨hl, k1'⟩
      have hz0 : (0 : Int) ≤ k := by omega
      have hz1 : (k : Int) < 2 ^ s.cards.length := by omega
      have hcub := cub_ok hok hz0 hz1
      simp -dsimp
      refine call_by (cencode_spec (m := s.ms.toNat) (k : Int) hl (by have := hcub.len; omega) (by omega) fun c hc => cel_sml (hcub.cel c hc)) ?_
      rintro bv y2 ⟨hb, k2'⟩
      have hlb := encC_len hok hz0 hz1
      have sm1 := small_write ty.okM.sorted ty.smM (nameK (k : Int)) (encC (k : Int) (groupC (rows.map (ofM (k : Int)))))
      simp -dsimp
      refine call_by (rname_spec hz0 (by omega) y2) ?_
      rintro _ y2a ⟨rfl, kna⟩
      have ky2 : Keep none_ y y2a := (k1'.trans k2' fun _ _ h => h).trans kna fun _ _ h => h
      have p2 := py.none ky2
      have z2' := ky2.size
      have zy := ky.size
      have hb := hb.mono fun b hb => (show Ft y1.size none_ y2a b ∧ y2a[b]? = y2[b]? from ⟨⟨hb.1.at (Nat.le_refl _) (kna.blk b hb.2.1 fun h => h), Nat.lt_of_lt_of_le hb.2.1 kna.size, fun h => h⟩, kna.blk b hb.2.1 fun h => h⟩)
      simp -dsimp
      refine call_by (put14_spec p2.st ty.smM (by omega) (nameK (k : Int)) hb (fun b h => h.2.1) (by omega) sm1 (by omega)) ?_
      rintro _ y3 ⟨F1, s3, k3, hF1⟩
      have p3 := p2.stepF (by omega) s3 k3 hF1
      have t23 : ∀ b, Ft y1.size none_ y2a b → Old y3 b ∧ y3[b]? = y2a[b]? := fun b hb => by
        have e : y3[b]? = y2a[b]? := k3.blk b hb.2.1 fun hf => by have := py.st.lt b hf; have := hb.1.1; have := k1'.size; omega
        exact ⟨⟨nz, Nat.lt_of_lt_of_le hb.2.1 k3.size, fun h => h⟩, e⟩
      simp -dsimp
      refine call_by (rname_spec hz0 (by omega) y3) ?_
      rintro _ y3a ⟨rfl, knb⟩
      have p3 := p3.none knb
      have hb3 := (hb.mono t23).mono ((Tr.of knb).ft (Nat.le_refl 0))
      simp -dsimp
      have hlim : N.limit = 100000 := by rw [← ty.alike.limit]; exact ty.limit
      refine call_by (rwrite_spec p3.rf ty.smN (by omega) (by omega) (by omega) (nameK (k : Int)) hb3 (fun b h => h.2.1) (by omega)) ?_
      rintro _ y4 ⟨rfl, G1, g4, k4', hG1⟩
      have z3' := k3.size
      have z3b := knb.size
      have p5 := p3.stepG (by omega) g4 k4' hG1
      have t5 := ty.add (k := k) hk (by omega)
      have q4 : Keep (fun b => h3.size ≤ b) h3 y4 := late_trans (late_trans (late_trans (late_trans ky ky2 fun _ h => h.elim) k3 p2.f0) knb fun _ h => h.elim) k4' p3.g0
      simp -dsimp [wi]
      refine ⟨i + 1, by simp, rfl, ⟨⟨hil, h10⟩, q4, F1, G1, _, _, k :: ks, _, p5, t5, by omega, fun j hj hji => ?_⟩, by show 10 - (i + 1) < 10 - i; omega⟩
      rcases Nat.lt_or_ge j i with h' | h'
      · exact List.mem_cons_of_mem _ (hks j hj h')
      · have : j = i := by omega
        subst this
        rw [← ex, ← ek]
        exact List.mem_cons_self
    · have h10' : ¬ (i : Int) < 10 := by omega
      simp -dsimp [hil, h10']
      exact ⟨rfl, i, by simp, rfl, ⟨⟨hi1, hi2⟩, ky, F, G, M, N, ks, n, py, ty, hn, hks⟩, fun hh => h10 hh.2⟩
  · simp -dsimp [hil]
    exact ⟨rfl, i, by simp, rfl, ⟨⟨hi1, hi2⟩, ky, F, G, M, N, ks, n, py, ty, hn, hks⟩, fun hh => hil hh.1⟩
end Go.Proofs

/-
  Queries, plainly: what is told, of any store of facts and cuboids.
-/
namespace Go.HC
/-- The cells that a query is told; its word; who serves it. -/
def ansM (com : Nat → Option (List CellM)) (cards : List Int) (a : Int) (fs : List FilM) : List CellM :=
  if rightM cards a fs = true then match serveM com (needM a fs) (2 ^ cards.length) with
    | some b => askM b.1 b.2 a fs
    | none => []
  else []
def errM (com : Nat → Option (List CellM)) (cards : List Int) (a : Int) (fs : List FilM) : Int :=
  if rightM cards a fs = true then match serveM com (needM a fs) (2 ^ cards.length) with
    | some _ => 0
    | none => 8
  else 7
def srvM (com : Nat → Option (List CellM)) (cards : List Int) (a : Int) (fs : List FilM) : Int × Bool :=
  if rightM cards a fs = true then match serveM com (needM a fs) (2 ^ cards.length) with
    | some b => (b.1, true)
    | none => (0, false)
  else (0, false)
end Go.HC

/-
  law14's Query, plainly: filters of numbers; each row's own law.
-/
namespace Go.HC
theorem cardAt_get {cards : List Int} {d : Int} (h0 : 0 ≤ d) (h : d < cards.length) : cardAt cards d = cards[d.toNat]'(by omega) := by
  unfold cardAt
  rw [List.getElem?_eq_getElem (by omega)]
  rfl
end Go.HC

/-
  law14's Query.
-/
namespace Go.Proofs
open Go Go.HC

end Go.Proofs

/-
  Ask and Server of both, told by ansM, errM, srvM.
-/
namespace Go.Proofs
open Go Go.HC

theorem pask2_spec {h : Heap} {v fv : Value} {F : Nat → Prop} {M : Mod} {s : SchM} {rows : List RowM} {a : Int} {fs : List FilM} (st : StAt v F h M) (hu : usedF M.files < 1000000) (hq : SlRep rFil (Old h) h fv fs) (C : CubeAt M s rows) :
    CallH Tryz.prog 18 #[v, .agg #[.int .i64 a, fv]] h fun r h' => ∃ cv, r = .tuple #[cv, .int .i64 (errM (comM M rows) s.cards a fs)] ∧ Keep none_ h h' ∧ SlRep rCell (Ft h.size none_ h') h' cv (ansM (comM M rows) s.cards a fs) := by
  refine (pask_spec st hu hq C).mono fun r h1 hr => ?_
  obtain ⟨cv, e, rfl, k, hc⟩ := hr
  refine ⟨cv, ?_, k, ?_⟩
  · unfold errM
    rcases hc with ⟨h1, _, rfl⟩ | ⟨h1, h2, _, rfl⟩ | ⟨h1, x, l, h2, rfl, _⟩
    · rw [if_neg (by rw [h1]; decide)]
    · rw [if_pos h1, h2]
    · rw [if_pos h1, h2]
  · unfold ansM
    rcases hc with ⟨h1, rfl, rfl⟩ | ⟨h1, h2, rfl, rfl⟩ | ⟨h1, x, l, h2, rfl, hn⟩
    · rw [if_neg (by rw [h1]; decide)]; exact ⟨none, 0, [], rfl, Nat.le_refl _, by decide, .inl rfl, rfl⟩
    · rw [if_pos h1, h2]; exact ⟨none, 0, [], rfl, Nat.le_refl _, by decide, .inl rfl, rfl⟩
    · rw [if_pos h1, h2]; exact hn.rep (Nat.le_refl _)

theorem srv_of {com : Nat → Option (List CellM)} {cards : List Int} {a : Int} {fs : List FilM} {x : Int} {ok : Bool} (h : (rightM cards a fs = false ∧ x = 0 ∧ ok = false) ∨ (rightM cards a fs = true ∧ serveM com (needM a fs) (2 ^ cards.length) = none ∧ x = 0 ∧ ok = false) ∨
        (rightM cards a fs = true ∧ ∃ k l, serveM com (needM a fs) (2 ^ cards.length) = some (k, l) ∧ x = k ∧ ok = true)) : x = (srvM com cards a fs).1 ∧ ok = (srvM com cards a fs).2 := by
  unfold srvM
  rcases h with ⟨h1, rfl, rfl⟩ | ⟨h1, h2, rfl, rfl⟩ | ⟨h1, k, l, h2, rfl, rfl⟩
  · rw [if_neg (by rw [h1]; decide)]; exact ⟨rfl, rfl⟩
  · rw [if_pos h1, h2]; exact ⟨rfl, rfl⟩
  · rw [if_pos h1, h2]; exact ⟨rfl, rfl⟩

theorem pserver2_spec {h : Heap} {v fv : Value} {F : Nat → Prop} {M : Mod} {s : SchM} {rows : List RowM} {a : Int} {fs : List FilM} (st : StAt v F h M) (hu : usedF M.files < 1000000) (hq : SlRep rFil (Old h) h fv fs) (C : CubeAt M s rows) :
    CallH Tryz.prog 20 #[v, .agg #[.int .i64 a, fv]] h fun r h' => r = .tuple #[.int .i64 (srvM (comM M rows) s.cards a fs).1, .bool (srvM (comM M rows) s.cards a fs).2] ∧ Keep none_ h h' := by
  refine (pserver_spec st hu hq C).mono fun r h1 hr => ?_
  obtain ⟨x, ok, rfl, k, hc⟩ := hr
  obtain ⟨rfl, rfl⟩ := srv_of hc
  exact ⟨rfl, k⟩

end Go.Proofs

/-
  law14's known.
-/
namespace Go.HC
def sch1 : SchM := ⟨[2], 0⟩
def row1 : RowM := ⟨[1], []⟩
def cel1 : CellM := ⟨[1], 1, [], [], []⟩
theorem facts1_ok : FactsOk sch1 [row1] := by
  refine ⟨by decide, fun c hc => ?_, by decide, by decide, fun r hr => ?_, fun r hr => ?_⟩
  · rw [show sch1.cards = [2] from rfl, List.mem_singleton] at hc; subst hc; decide
  · rw [List.mem_singleton] at hr; subst hr
    refine ⟨rfl, fun i h h' => ?_⟩
    have : i = 0 := by have : i < 1 := h; omega
    subst this
    show (0 : Int) ≤ 1 ∧ (1 : Int) < 2
    decide
  · rw [List.mem_singleton] at hr; subst hr
    exact ⟨rfl, fun x hx => by cases hx⟩
theorem group1 : groupC ([row1].map (ofM ((1 : Nat) : Int))) = [cel1] := by kernel_rfl
theorem two1 : ∃ M N n, M = (((stM 1000 sch1 [row1]).write (nameK ((1 : Nat) : Int)) (encC ((1 : Nat) : Int) [cel1])).2.sync (nameK ((1 : Nat) : Int))).2 ∧ Two 1000 M N sch1 [row1] [1] n ∧ n ≤ 1000 := by
  have l1 : (encF sch1 [row1]).length = 10 := by kernel_rfl
  have l2 : (encC ((1 : Nat) : Int) [cel1]).length = 6 := by kernel_rfl
  have t0 := Two.start (L := 1000) facts1_ok (by rw [l1]; decide)
  have t1 := t0.add (k := 1) (by decide) (by rw [group1, l1, l2]; decide)
  rw [group1, l1, l2] at t1
  exact ⟨_, _, _, rfl, t1, by decide⟩
theorem ask1 {M : Mod} (h0 : (M.look (nameK ((0 : Nat) : Int))).isSome = false) (h1 : (M.look (nameK ((1 : Nat) : Int))).isSome = true) :
    errM (comM M [row1]) [2] 0 [] = 0 ∧ ansM (comM M [row1]) [2] 0 [] = [⟨[], 1, [], [], []⟩] ∧ srvM (comM M [row1]) [2] 1 [] = (1, true) := by
  have c0 : comM M [row1] 0 = none := by unfold comM; rw [if_neg (by rw [h0]; decide)]
  have c1 : comM M [row1] 1 = some [cel1] := by unfold comM; rw [if_pos h1, group1]
  have hs : ∀ need : Int, andM ((1 : Nat) : Int) need = need → serveM (comM M [row1]) need 2 = some (1, [cel1]) := fun need hn => by
    have e1 : serveM (comM M [row1]) need 1 = none := by
      rw [serve_none]
      intro x hx _
      rw [show x = 0 by omega, c0]
    rw [serve_succ, e1]
    unfold stepM
    rw [if_pos hn, c1]
  have q0 : serveM (comM M [row1]) (needM 0 []) (2 ^ [(2 : Int)].length) = some (1, [cel1]) := hs 0 (by decide)
  have q1 : serveM (comM M [row1]) (needM 1 []) (2 ^ [(2 : Int)].length) = some (1, [cel1]) := hs 1 (by decide)
  have r0 : rightM [2] 0 [] = true := by decide
  have r1 : rightM [2] 1 [] = true := by decide
  unfold errM ansM srvM
  rw [if_pos r0, if_pos r0, if_pos r1, q0, q1]
  exact ⟨rfl, by kernel_rfl, rfl⟩
end Go.HC
namespace Go.Proofs
open Go Go.HC

set_option maxHeartbeats 4000000 in
set_option maxRecDepth 10000 in
theorem known14_spec (h : Heap) : CallH Tryz.prog 12 #[] h fun r h' => r = .bool true ∧ Keep none_ h h' := by
  refine callH_by fun K hK => ?_
  refine enter [.tmp 0] Tryz.func12 rfl rfl (by kernel_rfl) rfl ?_
  simp -dsimp
  refine call_by (new_spec 1000 h) ?_
  rintro v h1 ⟨F0, s0, k1, hF0⟩
  have hvp : ∃ p, v = .pointer (some p) := by obtain ⟨bs, bm, es, clock, tv, own, R, rfl, _⟩ := s0; exact ⟨_, rfl⟩
  obtain ⟨vp, rfl⟩ := hvp
  simp -dsimp
  refine call_by (pask_not s0 (by decide) (by decide) rfl fun hf => by have := hf.1; cases this) ?_
  rintro _ h2 ⟨rfl, k2⟩
  have s2 := s0.keep k2 fun _ _ h => h
  simp -dsimp
  generalize hB : Array.push (Array.push (Array.push h2 _) _) _ = h3
  have k3 : Keep none_ h2 h3 := by rw [← hB]; exact (((Keep.refl none_ h2).pushed _).pushed _).pushed _
  have s3 := s2.keep k3 fun _ _ h => h
  have w1 : h3[h2.size]? = some (.cells #[.int .i64 2] 3 (0, 0)) := by rw [← hB]; exact push_at (push_at (push_new _ _))
  have w2 : h3[h2.size + 1]? = some (.cells #[.int .i64 1] 3 (0, 0)) := by rw [← hB]; exact push_at (push_get (by simp))
  have w3 : h3[h2.size + 2]? = some (.cells #[.slice (some ⟨h2.size + 1, 0, none⟩) 1 1, .slice none 0 0] 62 (0, 0)) := by rw [← hB]; exact push_get (by simp)
  have rC : SlRep rInt (Old h3) h3 (.slice (some ⟨h2.size, 0, none⟩) 1 1) sch1.cards :=
    ⟨_, 1, _, rfl, Nat.le_refl _, by decide, .inr ⟨h2.size, 0, _, _, _, rfl, ⟨nz, lt_of_blk w1, fun h => h⟩, w1, rfl⟩, .single rfl⟩
  have rR : SlRep rRow (Old h3) h3 (.slice (some ⟨h2.size + 2, 0, none⟩) 1 1) [row1] := by
    refine ⟨_, 1, [.slice (some ⟨h2.size + 1, 0, none⟩) 1 1, .slice none 0 0], rfl, Nat.le_refl _, by decide, .inr ⟨h2.size + 2, 0, _, _, _, rfl, ⟨nz, lt_of_blk w3, fun h => h⟩, w3, rfl⟩, .single ?_⟩
    refine ⟨_, _, rfl, ?_, .nil _ _ _⟩
    exact ⟨_, 1, _, rfl, Nat.le_refl _, by decide, .inr ⟨h2.size + 1, 0, _, _, _, rfl, ⟨nz, lt_of_blk w2, fun h => h⟩, w2, rfl⟩, .single rfl⟩
  have hzz : h2.size + 1 + 1 = h2.size + 2 := rfl
  refine call_by (rencode_spec (s := sch1) rC rR (by decide) (by decide) fun r hr => by rw [List.mem_singleton] at hr; subst hr; decide) ?_
  rintro bv h4 ⟨hb, k4⟩
  have s4 := s3.keep k4 fun _ _ h => h
  have sm0 : (Mod.new 1000).Small 0 := ⟨Nat.le_refl _, Nat.le_refl _, Nat.le_refl _⟩
  have o0 := Mod.Ok.new 1000
  have l1 : (encF sch1 [row1]).length = 10 := by kernel_rfl
  have sm1 := small_write o0.sorted sm0 nmFact (encF sch1 [row1])
  have o1 := o0.write nmFact (encF sch1 [row1])
  have sm2 := small_sync o1.sorted sm1 nmFact
  rw [l1] at sm1 sm2
  simp -dsimp
  refine call_by (put14_spec s4 sm0 (by omega) nmFact hb (fun b h => h.2.1) (by omega) sm1 (by omega)) ?_
  rintro _ h5 ⟨F1, s5, k5, hF1⟩
  simp -dsimp
  generalize hC : Array.push (Array.push h5 _) _ = h6
  have k6 : Keep none_ h5 h6 := by rw [← hC]; exact ((Keep.refl none_ h5).pushed _).pushed _
  have s6 := s5.keep k6 fun _ _ h => h
  have w4 : h6[h5.size]? = some (.cells #[.int .i64 1] 3 (0, 0)) := by rw [← hC]; exact push_at (push_new _ _)
  have w5 : h6[h5.size + 1]? = some (.cells #[.slice (some ⟨h5.size, 0, none⟩) 1 1, .int .i64 1, .slice none 0 0, .slice none 0 0, .slice none 0 0] 65 (0, 0)) := by rw [← hC]; exact push_get (by simp)
  have rL : SlRep rCell (Old h6) h6 (.slice (some ⟨h5.size + 1, 0, none⟩) 1 1) [cel1] := by
    refine ⟨_, 1, [.slice (some ⟨h5.size, 0, none⟩) 1 1, .int .i64 1, .slice none 0 0, .slice none 0 0, .slice none 0 0], rfl, Nat.le_refl _, by decide, .inr ⟨h5.size + 1, 0, _, _, _, rfl, ⟨nz, lt_of_blk w5, fun h => h⟩, w5, rfl⟩, .single ?_⟩
    refine ⟨_, _, _, _, rfl, ?_, .nil _ _ _, .nil _ _ _, .nil _ _ _⟩
    exact ⟨_, 1, _, rfl, Nat.le_refl _, by decide, .inr ⟨h5.size, 0, _, _, _, rfl, ⟨nz, lt_of_blk w4, fun h => h⟩, w4, rfl⟩, .single rfl⟩
  refine call_by (cencode_spec (m := 0) 1 rL (by decide) (by decide) fun c hc => by rw [List.mem_singleton] at hc; subst hc; exact ⟨by decide, rfl, rfl, rfl⟩) ?_
  rintro cv h7 ⟨hc, k7⟩
  have s7 := s6.keep k7 fun _ _ h => h
  obtain ⟨M, N, n, eM, tw, hn⟩ := two1
  have l2 : (encC 1 [cel1]).length = 6 := by kernel_rfl
  have sm3 := small_write (o1.sync nmFact).sorted sm2 (nameK 1) (encC 1 [cel1])
  rw [l2] at sm3
  simp -dsimp
  refine call_by (put14_spec s7 sm2 (by omega) (nameK 1) hc (fun b h => h.2.1) (by omega) sm3 (by omega)) ?_
  rintro _ h8 ⟨F2, s8, k8, hF2⟩
  replace s8 : StAt (.pointer (some vp)) F2 h8 M := by rw [eM]; exact s8
  have hu := tw.smM.used
  have hc0 : (M.look (nameK ((0 : Nat) : Int))).isSome = false := by
    cases hq : (M.look (nameK ((0 : Nat) : Int))).isSome with
    | false => rfl
    | true => exact absurd ((tw.com 0 (by decide)).1 hq) (by decide)
  have hc1 : (M.look (nameK ((1 : Nat) : Int))).isSome = true := (tw.com 1 (by decide)).2 (by decide)
  obtain ⟨a1, a2, a3⟩ := ask1 hc0 hc1
  simp -dsimp
  refine call_by (pask2_spec (a := 0) (fs := []) s8 (by omega) (.nil _ _ _) tw.cube) ?_
  rintro _ h9 ⟨lv, rfl, k9, hl⟩
  rw [show sch1.cards = [2] from rfl, a1] 
  rw [show sch1.cards = [2] from rfl, a2] at hl
  have s9 := s8.keep k9 fun _ _ h => h
  have r9 : SlRep rCell (Old h9) h9 lv [⟨[], 1, [], [], []⟩] := hl.mono (Ft.free (Nat.zero_le _))
  obtain ⟨la, lc, rfl, _, _⟩ := r9.val
  simp -dsimp
  refine call_by (pserver2_spec (a := 1) (fs := []) s9 (by omega) (.nil _ _ _) tw.cube) ?_
  rintro _ h10 ⟨rfl, k10⟩
  rw [show sch1.cards = [2] from rfl, a3]
  have r10 := r9.mono ((Tr.of k10).ft (Nat.le_refl 0))
  obtain ⟨b3, o3, cs3, e3, hf3, hrep3, hx3⟩ := r10.get 0 (by simp)
  obtain ⟨ka, kc, sa, sc, na', nc', xa, xc, rfl, _⟩ := cell_open hrep3
  have hx3' : HC.cellIn h10[b3]? (o3 + 1) = some (.int .i64 1) := by
    have := cellsIn_cell (d := 1) hx3 (by decide)
    simpa using this
  cases e3
  simp -dsimp [hx3', idxA_zero (show 0 < 1 by decide)]
  have q2 : Keep none_ h h4 := ((k1.trans k2 fun _ _ h => h).trans k3 fun _ _ h => h).trans k4 fun _ _ h => h
  have q5 : Keep none_ h h5 := q2.trans k5 fun b hb hf => absurd (hF0 b hf) (by omega)
  have q7 : Keep none_ h h7 := (q5.trans k6 fun _ _ h => h).trans k7 fun _ _ h => h
  have q8 : Keep none_ h h8 := q7.trans k8 fun b hb hf => by
    rcases hF1 b hf with h1' | h1'
    · have := hF0 b h1'; omega
    · have := q2.size; omega
  exact hK _ _ ⟨rfl, (q8.trans k9 fun _ _ h => h).trans k10 fun _ _ h => h⟩
end Go.Proofs

/-
  The rows of law14, plainly.
-/
namespace Go.HC
theorem FactsOk.sub {s : SchM} {rows rows' : List RowM} (ok : FactsOk s rows) (h : rows'.Sublist rows) : FactsOk s rows' :=
  ⟨ok.dims, ok.cards, ok.ms, Nat.le_trans h.length_le ok.len, fun r hr => ok.key r (h.subset hr), fun r hr => ok.m r (h.subset hr)⟩
end Go.HC

/-
  A query's cells, plainly: how long their parts are.
-/
namespace Go.HC
end Go.HC

/-
  Queries that may not be.
-/
namespace Go.HC
/-- law14's ten. -/
def badL (cards : List Int) (w : Int) : List (Int × List FilM) :=
  [(2 ^ cards.length, []), (-1, []), (0, [⟨cards.length, 0, 0⟩]), (0, [⟨-1, 0, 0⟩]), (0, [⟨0, -1, 0⟩]), (0, [⟨0, 0, cardAt cards 0⟩]), (0, [⟨0, 1, 0⟩]), (0, [⟨0, 0, 0⟩, ⟨0, 0, 0⟩]), (2 ^ cards.length + w, []), (0, [⟨cards.length + w, 0, 0⟩])]
theorem bad_one {cards : List Int} {f : FilM} {fs : List FilM} (h : f.dim < 0 ∨ (cards.length : Int) ≤ f.dim ∨ f.lo < 0 ∨ f.hi < f.lo ∨ cardAt cards f.dim ≤ f.hi) : rightM cards 0 (f :: fs) = false := by
  unfold rightM
  split
  · rfl
  · rw [rightF, if_pos (by rcases h with h | h | h | h | h; exact .inl h; exact .inr (.inl h); exact .inr (.inr (.inl h)); exact .inr (.inr (.inr (.inl h))); exact .inr (.inr (.inr (.inr (.inl h)))))]
theorem bad_right {s : SchM} (_ok : SchOk s) {w : Int} (hw : 0 ≤ w) : ∀ x ∈ badL s.cards w, rightM s.cards x.1 x.2 = false := by
  intro x hx
  have hp := pow2_pos s.cards.length
  unfold badL at hx
  simp only [List.mem_cons, List.not_mem_nil, or_false] at hx
  have big : ∀ a fs, 2 ^ s.cards.length ≤ a → rightM s.cards a fs = false := fun a fs h => by unfold rightM; rw [if_pos (.inr h)]
  rcases hx with rfl | rfl | rfl | rfl | rfl | rfl | rfl | rfl | rfl | rfl
  · exact big _ _ (Int.le_refl _)
  · unfold rightM; rw [if_pos (.inl (by show (-1 : Int) < 0; decide))]
  · exact bad_one (.inr (.inl (Int.le_refl _)))
  · exact bad_one (.inl (by show (-1 : Int) < 0; decide))
  · exact bad_one (.inr (.inr (.inl (by show (-1 : Int) < 0; decide))))
  · exact bad_one (.inr (.inr (.inr (.inr (Int.le_refl _)))))
  · exact bad_one (.inr (.inr (.inr (.inl (by show (0 : Int) < 1; decide)))))
  · unfold rightM
    split
    · rfl
    · rw [rightF]
      split
      · rfl
      · rw [rightF, if_pos]
        exact .inr (.inr (.inr (.inr (.inr (by decide +kernel)))))
  · exact big _ _ (by show _ ≤ _ + w; omega)
  · exact bad_one (.inr (.inl (by show (s.cards.length : Int) ≤ s.cards.length + w; omega)))
theorem bad_out {com : Nat → Option (List CellM)} {cards : List Int} {a : Int} {fs : List FilM} (h : rightM cards a fs = false) : errM com cards a fs = 7 ∧ ansM com cards a fs = [] ∧ srvM com cards a fs = (0, false) := by
  unfold errM ansM srvM
  rw [if_neg (by rw [h]; decide), if_neg (by rw [h]; decide), if_neg (by rw [h]; decide)]
  exact ⟨rfl, rfl, rfl⟩
def FilsAt (fs : List FilM) : Value → Heap → Prop := fun v h => SlRep rFil (Old h) h v fs
def QryAt (a : Int) (fs : List FilM) : Value → Heap → Prop := fun v h => ∃ w, v = .agg #[.int .i64 a, w] ∧ SlRep rFil (Old h) h w fs
theorem FilsAt.push (h : Heap) (f : FilM) (e : TypeId) : FilsAt [f] (.slice (some ⟨h.size, 0, none⟩) 1 1) (h.push (.cells #[.int .i64 f.dim, .int .i64 f.lo, .int .i64 f.hi] e)) := by
  have w : (h.push (.cells #[.int .i64 f.dim, .int .i64 f.lo, .int .i64 f.hi] e))[h.size]? = some (.cells #[.int .i64 f.dim, .int .i64 f.lo, .int .i64 f.hi] e (0, 0)) := push_new _ _
  exact ⟨_, 1, _, rfl, Nat.le_refl _, by decide, .inr ⟨h.size, 0, _, _, _, rfl, ⟨nz, lt_of_blk w, fun h => h⟩, w, rfl⟩, .single rfl⟩
theorem FilsAt.push2 (h : Heap) (f g : FilM) (e : TypeId) : FilsAt [f, g] (.slice (some ⟨h.size, 0, none⟩) 2 2) (h.push (.cells #[.int .i64 f.dim, .int .i64 f.lo, .int .i64 f.hi, .int .i64 g.dim, .int .i64 g.lo, .int .i64 g.hi] e)) := by
  have w : (h.push (.cells #[.int .i64 f.dim, .int .i64 f.lo, .int .i64 f.hi, .int .i64 g.dim, .int .i64 g.lo, .int .i64 g.hi] e))[h.size]? = some (.cells #[.int .i64 f.dim, .int .i64 f.lo, .int .i64 f.hi, .int .i64 g.dim, .int .i64 g.lo, .int .i64 g.hi] e (0, 0)) := push_new _ _
  exact ⟨_, 2, _, rfl, Nat.le_refl _, by decide, .inr ⟨h.size, 0, _, _, _, rfl, ⟨nz, lt_of_blk w, fun h => h⟩, w, rfl⟩, ⟨[_, _, _], _, rfl, rfl, .single rfl⟩⟩
theorem FilsAt.keep {fs : List FilM} {v : Value} {h h' : Heap} (q : FilsAt fs v h) (k : Keep none_ h h') : FilsAt fs v h' := SlRep.mono q ((Tr.of k).ft (n := 0) (n' := 0) (Nat.le_refl 0))
theorem QryAt.keep {a : Int} {fs : List FilM} {v : Value} {h h' : Heap} (q : QryAt a fs v h) (k : Keep none_ h h') : QryAt a fs v h' := by
  obtain ⟨w, e, q⟩ := q
  exact ⟨w, e, FilsAt.keep q k⟩
end Go.HC

/-
  Queries in a row; a slice of one number that grows.
-/
namespace Go.HC
/-- A query: a set, filters. -/
def rQry : Rp (Int × List FilM) where
  sz := 2
  pos := by decide
  rep F h cs x := ∃ v, cs = [.int .i64 x.1, v] ∧ SlRep rFil F h v x.2
  len := by rintro F h cs c ⟨v, rfl, _⟩; rfl
  one := by
    rintro F h cs c ⟨v, rfl, h1⟩
    obtain ⟨_, _, rfl, _⟩ := h1.val
    rfl
  mono := by
    rintro F F' h h' cs c ⟨v, rfl, h1⟩ hm
    exact ⟨v, rfl, h1.mono hm⟩
/-- A slice of one number is laid. -/
theorem gr_one {M M0 : Nat → Prop} {h h0 : Heap} (x : Int) (e n : Nat) (t : Tr M0 M h0 h) :
    Gr rInt e n (fun b => M b ∨ b = h.size) (h.push (.cells #[.int .i64 x] e)) (.slice (some ⟨h.size, 0, none⟩) 1 1) [x] (some h.size) ∧ Tr M (fun b => M b ∨ b = h.size) h (h.push (.cells #[.int .i64 x] e)) := by
  have t1 := t.here.pushM (.cells #[.int .i64 x] e)
  refine ⟨⟨?_, fun b hb => .inr (by cases hb; rfl)⟩, t1⟩
  exact .inr ⟨h.size, 1, #[.int .i64 x], [.int .i64 x], rfl, rfl, push_new _ _, fun hf => hf.2.2 (.inr rfl), rfl, Nat.le_refl _, by decide, rfl, .single rfl⟩
theorem app_one {P : Program} {K : Value → Heap → Prop} {T e ty : Nat} {cs : Array Bool} {F : Nat → Prop} {y : Heap} {b : Option Addr} {m c2 : Nat} {x : Int} {ys : List Int} (hT : ElemT P T e rInt 8) (hy : SlRep rInt F y (.slice b m c2) ys) (hF : ∀ b, F b → b < y.size)
    (hl : (ys.length + 1) * 8 ≤ 140737488355328) (hk : ∀ v' h', SlRep rInt (Ft y.size none_ h') h' v' (x :: ys) → Keep none_ y h' → K v' h') :
    builtinS P .append #[T, T] ty cs #[.slice (some ⟨y.size, 0, none⟩) 1 1, .slice b m c2] (y.push (.cells #[.int .i64 x] e)) K := by
  obtain ⟨g, t⟩ := gr_one x e y.size (Tr.start y)
  have hy' : SlRep rInt F (y.push (.cells #[.int .i64 x] e)) (.slice b m c2) ys := hy.mono fun c hc => ⟨hc, push_old _ (hF c hc)⟩
  obtain ⟨news, hm, _, _, hC, hE⟩ := hy'.open_
  refine gr_append (F2 := F) hT g t.lt hm hC (ints_map.2 (ints_map.1 hE)) (by simp only [List.length_cons, List.length_nil]; omega) (by simp only [List.length_cons, List.length_nil]; omega) ?_
  intro v' h' own' g2 t2 k2 ho
  have hp : (y.push (.cells #[.int .i64 x] e)).size = y.size + 1 := by simp
  refine hk v' h' (g2.rep (Nat.le_refl _) fun c hc => ?_) ?_
  · rcases ho c hc with h1 | h1
    · cases h1; exact Nat.le_refl _
    · omega
  · refine ⟨by have := k2.size; omega, fun c hc _ => ?_⟩
    rw [k2.blk c (by omega) (fun e => by cases e; omega), push_old _ hc]
end Go.HC

/-
  Slices of numbers, with how much they take.
-/
namespace Go.HC
open Go.ChangeShapes Go.WideShapes Go.ChangeAt Go.RowKit
section
variable {H : Type} {enc : TypeId × Value → H} {P : Program} {W : World} {base : Nat}
theorem open_intW {t e : TypeId} {v : Value} {d : DataW H} {p : List MemPlace} (ht : P.underlying t = some (.slice e)) (he : P.underlying e = some (.int .i64)) (hc : P.cellsOf e = 1) (hb : P.bytesOf e = 8)
    (hval : Value.okWide P W .any base t v) (hd : DataW.Trod enc P W 0 (fun _ => true) true t v d p) (hw : (DataW.weights P t d).all (· ≤ reachBytes) = true) : ∃ xs : List Int, SlRep rInt (fun b => b < W.heap.size) W.heap v xs ∧ (xs.length + 1) * 8 ≤ 140737488355328 := by
  obtain ⟨a, n, c, zs, rfl, rfl, h1, h2, h3, _⟩ := open_rep ht he hc hval hd
  refine ⟨zs, ⟨a, c, _, rfl, h1, h2, h3, ints_map.2 rfl⟩, ?_⟩
  obtain ⟨fuel, hf⟩ := hd
  rcases DataW.trod_slice ht hf with ⟨hcs, hx⟩ | ⟨a', len, cap, elems, rest, n, _, hcs, hx, _, _, _, hlen, _⟩
  · simp [Value.cells] at hcs
    rw [hcs.2.1]
    decide
  · simp [Value.cells] at hcs
    simp only [Prod.mk.injEq] at hx
    rw [hx.1] at hw
    unfold DataW.weights at hw
    simp only [ht, List.all_cons, Bool.and_eq_true, decide_eq_true_eq, List.length_map, hb] at hw
    have h := hw.1
    have er : reachBytes = 140737488351232 := rfl
    rw [er, hlen, ← hcs.2.1] at h
    omega
end
end Go.HC
