/-
  hypercubelaw7.HashOwn returns true for all arguments, and its arguments read behind the call as they read ahead of it; no condition.
-/
import Derived.Test.YtjkefplcbmdndaaKBc
import Derived.Test.YtjkefplcbmdndaaRows
/-
  HashOwn: the walk.
-/
namespace Go.HC
/-- A table after puts. -/
def putsM (l : List CellM) : Tab := l.foldl (fun T c => (putM T c).getD T) (newM 50)
theorem putsM_take {l : List CellM} {i : Nat} (hi : i < l.length) : putsM (l.take (i + 1)) = (putM (putsM (l.take i)) l[i]).getD (putsM (l.take i)) := by
  unfold putsM
  rw [List.take_add_one, List.getElem?_eq_getElem hi, Option.toList_some, List.foldl_append]
  rfl
theorem lvl_len (s : Int) : ∀ (n i : Nat), lvlM s i n ≤ n
  | 0, _ => Nat.le_refl _
  | n + 1, i => by
    have := lvl_len s n (i + 1)
    rw [lvlM]
    split <;> omega
end Go.HC
namespace Go.Proofs
open Go Go.HC

set_option maxHeartbeats 4000000 in
set_option maxRecDepth 10000 in
theorem hashOwns_spec {F1 F2 : Nat → Prop} {h : Heap} {cv nv : Value} {cards ns : List Int} (dims ms set by_ : Int) (hc : SlRep rInt F1 h cv cards) (hF1 : ∀ b, F1 b → b < h.size) (hn : SlRep rInt F2 h nv ns) (hF2 : ∀ b, F2 b → b < h.size) :
    CallH Try.prog 7 #[.int .i64 dims, cv, .int .i64 ms, nv, .int .i64 set, .int .i64 by_] h fun r h' => r = .bool true ∧ Keep none_ h h' := by
  refine callH_by fun K hK => ?_
  refine enter [.tmp 12] Try.func7 rfl rfl (by kernel_rfl) rfl ?_
  replace hc := hc.mono (F' := Old h) (h' := h) fun b hb => ⟨⟨nz, hF1 b hb, fun h => h⟩, rfl⟩
  replace hn := hn.mono (F' := Old h) (h' := h) fun b hb => ⟨⟨nz, hF2 b hb, fun h => h⟩, rfl⟩
  obtain ⟨a0, c0, rfl, _, _⟩ := hc.val
  obtain ⟨a1, c1, rfl, _, _⟩ := hn.val
  simp -dsimp
  refine call_by (hknown_spec h) ?_
  rintro _ h0 ⟨rfl, k0⟩
  have t0 := Tr.of k0
  simp -dsimp
  refine call_by (facts1_spec dims ms (hc.mono (t0.ft (Nat.le_refl 0))) (hn.mono (t0.ft (Nat.le_refl 0)))) ?_
  rintro _ h1 ⟨sv, rv, rfl, s1, r1, k1⟩
  have hok := factsM_ok dims cards ms ns
  generalize hfs : (factsM dims cards ms ns).1 = s at *
  generalize hfr : (factsM dims cards ms ns).2 = rows at *
  obtain ⟨sa, sc, rfl, _, _⟩ := s1.val
  obtain ⟨ra, rc, rfl, _, _⟩ := r1.val
  simp -dsimp
  rw [push_set rfl]
  generalize hB : Array.push h1 _ = h2
  have k2 : Keep none_ h1 h2 := by rw [← hB]; exact .push _ _ _
  have hS : h2[h1.size]? = some (.cells #[.slice sa s.cards.length sc, .int .i64 s.ms] 25 (0, 0)) := by rw [← hB]; exact push_new _ _
  have u2 : Keep none_ h h2 := (k0.trans k1 fun _ _ h => h).trans k2 fun _ _ h => h
  have hdim := hok.dims

  refine call_by (set2_spec s.ms set ((s1.mono (Ft.free (Nat.zero_le _))).mono ((Tr.of k2).ft (Nat.le_refl 0))) hdim.2) ?_
  rintro _ h3 ⟨rfl, k3⟩
  obtain ⟨a, ea⟩ : ∃ a, a = withinM set (2 ^ s.cards.length) := ⟨_, rfl⟩
  rw [← ea]
  have u3 := u2.trans k3 fun _ _ h => h
  have k13 := k2.trans k3 fun _ _ h => h
  have hml := hok.ms
  have hlen := hok.len
  have r3 := (r1.mono (Ft.free (n' := 0) (Nat.zero_le _))).mono ((Tr.of k13).ft (Nat.le_refl 0))
  have hz2 : h2.size = h1.size + 1 := by rw [← hB]; simp
  have hz3 := k3.size
  simp -dsimp
  refine call_by (make_spec a ((r1.mono (Ft.free (Nat.zero_le _))).mono ((Tr.of k13).ft (Nat.le_refl 0))) (by omega) fun r hr => ⟨by rw [(hok.key r hr).1]; omega, by rw [(hok.m r hr).1]; omega⟩) ?_
  rintro lv h4 ⟨l4, k4⟩
  have hcells := hok.cell a
  obtain ⟨l, el⟩ : ∃ l, l = rows.map (ofM a) := ⟨_, rfl⟩
  rw [← el] at l4 hcells
  have hll : l.length = rows.length := by rw [el]; simp
  obtain ⟨la, lc, rfl, _, _⟩ := l4.val
  have u4 := u3.trans k4 fun _ _ h => h
  simp -dsimp
  refine call_by (hnew_spec 50 (by decide) h4) ?_
  rintro tv h5 ⟨F, t5, k5, nF⟩
  simp -dsimp
  refine call_by (hnew_spec 50 (by decide) h5) ?_
  rintro ov h6 ⟨O, o6, k6, nO⟩
  simp -dsimp
  refine call_by (rnew7_spec 50 (by decide) h6) ?_
  rintro xv h7 ⟨G, x7, k7, nG⟩
  have hk5 := k5.size
  have hk6 := k6.size
  have hk7 := k7.size
  have hFlt := t5.lt
  have hOlt := o6.lt
  have w7 : Twin h4.size tv xv h7 (newM 50) 50 s.ms.toNat (lvlM a 0 s.cards.length) F G :=
    ⟨(t5.keep k6 (fun _ _ h => h)).keep k7 (fun _ _ h => h), x7, newM_ok 50, List.length_replicate, fun b hb hg => by have := hFlt b hb; have := nG b hg; omega, nF, fun b hb => by have := nG b hb; omega, fun j d hd => by
      unfold newM at hd; rw [List.getElem?_replicate] at hd; split at hd <;> cases hd⟩
  have o7 := o6.keep k7 (fun _ _ h => h)
  have v7 : Keep none_ h4 h7 := (k5.trans k6 fun _ _ h => h).trans k7 fun _ _ h => h
  obtain ⟨bs, htv⟩ : ∃ bs, tv = .pointer (some ⟨bs, 0, none⟩) := by obtain ⟨bs, _, _, _, e, _⟩ := t5; exact ⟨bs, e⟩
  obtain ⟨bo, hov⟩ : ∃ bs, ov = .pointer (some ⟨bs, 0, none⟩) := by obtain ⟨bs, _, _, _, e, _⟩ := o6; exact ⟨bs, e⟩
  obtain ⟨bx, hxv⟩ : ∃ bx, xv = .pointer (some ⟨bx, 0, none⟩) := by obtain ⟨bs, _, _, _, _, _, _, e, _⟩ := x7; exact ⟨bs, e⟩
  subst htv; subst hov; subst hxv
  have hmt : s.ms.toNat < 1000000000 := by omega
  have hOd : ∀ b, O b → ¬ F b ∧ ¬ G b := fun b hb => ⟨fun hf => by have := hFlt b hf; have := nO b hb; omega, fun hg => by have := hOlt b hb; have := nG b hg; omega⟩
  simp -dsimp
  refine loopc (σ := Nat) (fun i => [(5, .int .i64 by_), (14, .slice ra rows.length rc), (15, .int .i64 a), (16, .slice la l.length lc), (17, .pointer (some ⟨bs, 0, none⟩)), (18, .pointer (some ⟨bo, 0, none⟩)), (19, .pointer (some ⟨bx, 0, none⟩)), (20, .int .i64 i)])
    (fun i y => ∃ F G, Twin h4.size (.pointer (some ⟨bs, 0, none⟩)) (.pointer (some ⟨bx, 0, none⟩)) y (putsM (l.take i)) 50 s.ms.toNat (lvlM a 0 s.cards.length) F G ∧ Keep none_ h4 y ∧ TabAt (.pointer (some ⟨bo, 0, none⟩)) O y (newM 50) ∧ (∀ b, O b → ¬ F b ∧ ¬ G b) ∧ i ≤ l.length) (fun i => l.length - i) 0 0 (fun i _ => i = l.length)
    noRet noRet_le (by simp) ⟨F, G, by rw [List.take_zero]; exact w7, v7, o7, hOd, Nat.zero_le _⟩ (by kernel_rfl) ?_ ?_
  · rintro i y1 g ⟨F, G, w, v1, o1, hO, hi⟩
    have wi := wrap_succ (k := i) (by omega)
    by_cases hil : i < l.length
    · obtain ⟨bl, ol, cs, rfl, hfb, hrep4, hx4⟩ := l4.get i hil
      have hci := hcells l[i] (List.getElem_mem hil)
      obtain ⟨ka, kc, sa', sc', na, nc, xa, xc, rfl, q4, _⟩ := cell_open hrep4
      have hx : ∀ {y : Heap}, Keep none_ h4 y → HC.cellsIn y[bl]? (ol + i * 5) 5 = _ := fun c => (congrArg (fun o => HC.cellsIn o (ol + i * 5) 5) (c.blk bl hfb.2.1 (fun h => h))).trans hx4
      have hrep : ∀ {y : Heap}, Keep none_ h4 y → rCell.rep (Old y) y _ l[i] := fun c => rCell.mono hrep4 (Tr.of c).old
      simp -dsimp [hil, idxA_nat hil, elSz_eq, hx v1]
      refine call_by (hput_spec w.t (by rw [w.len]; omega) (w.small hmt) (hrep v1) Old.lt (hci.sml.small hmt)) ?_
      rintro _ y2 ⟨rfl, F2, t2, kk2, n2⟩
      have v2 := keep_on v1 kk2 w.newF (Nat.le_refl _)
      have o2 := o1.keep kk2 fun b hb => (hO b hb).1
      simp -dsimp [idxA_nat hil, elSz_eq, hx v2]
      have x2 := w.x.keep kk2 fun b hb hf => w.dis b hf hb
      refine call_by (rput7_spec x2 (hrep v2) hci.keyOk (by rw [w.len]; omega) (by rw [w.len]; omega) hmt hci.sml fun k d hd => (w.cells k d hd).sml) ?_
      rintro _ y3 ⟨rfl, G2, x3, kk3, n3⟩
      have v3 := keep_on v2 kk3 w.newG (Nat.le_refl _)
      have o3 := o2.keep kk3 fun b hb => (hO b hb).2
      have w3 := w.put hci v1.size t2 kk2 n2 x3 kk3 n3
      rw [← putsM_take hil] at w3
      have hO3 : ∀ b, O b → ¬ F2 b ∧ ¬ G2 b := fun b hb => ⟨fun hf => (n2 b hf).elim (hO b hb).1 fun h => by have := o1.lt b hb; omega, fun hg => (n3 b hg).elim (hO b hb).2 fun h => by have := o2.lt b hb; omega⟩
      simp -dsimp [wi]
      exact ⟨i + 1, by simp, rfl, ⟨F2, G2, w3, v3, o3, hO3, by omega⟩, by show l.length - (i + 1) < l.length - i; omega⟩
    · simp -dsimp [hil]
      exact ⟨rfl, i, by simp, rfl, ⟨F, G, w, v1, o1, hO, hi⟩, by show i = l.length; omega⟩
  rintro i y0 g ⟨F, G, w, v0, o0, hO, hi⟩ hil
  have hil : i = l.length := hil
  subst hil
  rw [List.take_length] at w
  have p4 : ∀ c ∈ l, c.key.length = lvlM a 0 s.cards.length ∧ c.sum.length = s.ms.toNat := fun c hc => ⟨(hcells c hc).len, (hcells c hc).sml.sum⟩
  obtain ⟨p, ep⟩ : ∃ p : CellM → Prop, p = fun c => c.key.length = lvlM a 0 s.cards.length ∧ c.sum.length = s.ms.toNat := ⟨_, rfl⟩
  have hpp : ∀ c, p c → c.key.length = lvlM a 0 s.cards.length ∧ c.sum.length = s.ms.toNat := fun c hc => by rw [ep] at hc; exact hc
  have hp : ∀ c d, Like d c → p c → p d := fun c d hl hc => by rw [ep] at hc ⊢; exact ⟨by rw [hl.1]; exact hc.1, by rw [hl.2.2.2]; exact hc.2⟩
  have sh0 := l4.shk (p := p) (by omega) (fun c hc => by rw [ep]; exact p4 c hc) v0
  have hkl : lvlM a 0 s.cards.length ≤ 4 := by
    have := lvl_len a s.cards.length 0
    have := hok.dims.2
    omega
  obtain ⟨kl, ekl⟩ : ∃ kl, kl = lvlM a 0 s.cards.length := ⟨_, rfl⟩
  rw [← ekl] at hkl hpp
  obtain ⟨B, eB⟩ : ∃ B, B = Ft h3.size none_ h4 := ⟨_, rfl⟩
  rw [← eB] at sh0
  simp -dsimp
  refine loopc (σ := Nat) (fun i => [(5, .int .i64 by_), (14, .slice ra rows.length rc), (15, .int .i64 a), (16, .slice la l.length lc), (17, .pointer (some ⟨bs, 0, none⟩)), (18, .pointer (some ⟨bo, 0, none⟩)), (19, .pointer (some ⟨bx, 0, none⟩)), (21, .int .i64 i)])
    (fun i y => Sh B h3.size h4.size l.length p (.slice la l.length lc) y0 y ∧ i ≤ l.length) (fun i => l.length - i) 0 2 (fun i _ => i = l.length) noRet noRet_le (by simp) ⟨sh0, Nat.zero_le _⟩ (by kernel_rfl) ?_ ?_
  · rintro i z7 g7 ⟨z, hi⟩
    have wi := wrap_succ (k := i) (by omega)
    by_cases hil : i < l.length
    · simp -dsimp [hil]
      refine loopc (σ := Nat) (fun j => [(5, .int .i64 by_), (14, .slice ra rows.length rc), (15, .int .i64 a), (16, .slice la l.length lc), (17, .pointer (some ⟨bs, 0, none⟩)), (18, .pointer (some ⟨bo, 0, none⟩)), (19, .pointer (some ⟨bx, 0, none⟩)), (21, .int .i64 i), (22, .int .i64 j)]) (fun j y => Sh B h3.size h4.size l.length p (.slice la l.length lc) y0 y ∧ j ≤ s.ms.toNat) (fun j => s.ms.toNat - j) 0 4 (fun j _ => j = s.ms.toNat) noRet noRet_le (by simp) ⟨z, Nat.zero_le _⟩ (by kernel_rfl) ?_ ?_
      · rintro j z9 g9 ⟨w9, hj⟩
        have wj := wrap_succ (k := j) (by omega)
        obtain ⟨bk, off, c, d, kv, sv, nv', xv', e, hf, hx, hpd, qk, qs, qn⟩ := w9.get hil
        cases e
        have hdl := hpp _ hpd
        obtain ⟨na, nc, rfl, _, _⟩ := qs.val
        have hx3 : HC.cellIn z9[bk]? (off + i * 5 + 2) = _ := cellsIn_cell (d := 2) hx (by decide)
        by_cases hjl : j < s.ms.toNat
        · have hjn : j < d.sum.length := by omega
          obtain ⟨bn, on, o1, rfl, hw1, w10⟩ := w9.int hp qs hjn by_
          simp -dsimp [idxA_nat hil, idxA_nat hjn, elSz_eq, hx3, hjn, hw1, wj]
          exact ⟨j + 1, by simp, rfl, ⟨w10, by omega⟩, by show s.ms.toNat - (j + 1) < s.ms.toNat - j; omega⟩
        · have hjn : ¬ j < d.sum.length := by omega
          simp -dsimp [idxA_nat hil, elSz_eq, hx3, hjn]
          exact ⟨rfl, j, by simp, rfl, ⟨w9, hj⟩, by show j = s.ms.toNat; omega⟩
      · rintro j z8 g8 ⟨z8', hj⟩ _
        simp -dsimp
        refine loopc (σ := Nat) (fun j => [(5, .int .i64 by_), (14, .slice ra rows.length rc), (15, .int .i64 a), (16, .slice la l.length lc), (17, .pointer (some ⟨bs, 0, none⟩)), (18, .pointer (some ⟨bo, 0, none⟩)), (19, .pointer (some ⟨bx, 0, none⟩)), (21, .int .i64 i), (23, .int .i64 j)]) (fun j y => Sh B h3.size h4.size l.length p (.slice la l.length lc) y0 y ∧ j ≤ kl) (fun j => kl - j) 0 6 (fun j _ => j = kl) noRet noRet_le (by simp) ⟨z8', Nat.zero_le _⟩ (by kernel_rfl) ?_ ?_
        · rintro j z9 g9 ⟨w9, hj⟩
          have wj := wrap_succ (k := j) (by omega)
          obtain ⟨bk, off, c, d, kv, sv, nv', xv', e, hf, hx, hpd, qk, qs, qn⟩ := w9.get hil
          cases e
          have hdl := hpp _ hpd
          obtain ⟨na, nc, rfl, _, _⟩ := qk.val
          have hx3 : HC.cellIn z9[bk]? (off + i * 5) = _ := cellsIn_cell (d := 0) hx (by decide)
          by_cases hjl : j < kl
          · have hjn : j < d.key.length := by omega
            obtain ⟨bn, on, o1, rfl, hw1, w10⟩ := w9.int hp qk hjn 0
            simp -dsimp [idxA_nat hil, idxA_nat hjn, elSz_eq, hx3, hjn, hw1, wj]
            exact ⟨j + 1, by simp, rfl, ⟨w10, by omega⟩, by show kl - (j + 1) < kl - j; omega⟩
          · have hjn : ¬ j < d.key.length := by omega
            simp -dsimp [idxA_nat hil, elSz_eq, hx3, hjn]
            exact ⟨rfl, j, by simp, rfl, ⟨w9, hj⟩, by show j = kl; omega⟩
        · rintro j z9 g9 ⟨z9', hj⟩ _
          simp -dsimp [wi]
          exact ⟨i + 1, by simp, rfl, ⟨z9', by omega⟩, by show l.length - (i + 1) < l.length - i; omega⟩
    · simp -dsimp [hil]
      exact ⟨rfl, i, by simp, rfl, ⟨z, hi⟩, by show i = l.length; omega⟩
  rintro i y1 g1 ⟨z1, hi⟩ _
  have q1 := z1.keep
  have hF4 : ∀ b, F b → ¬ (h3.size ≤ b ∧ b < h4.size) := fun b hb h => by have := w.newF b hb; omega
  have hG4 : ∀ b, G b → ¬ (h3.size ≤ b ∧ b < h4.size) := fun b hb h => by have := w.newG b hb; omega
  replace w : Twin h4.size (.pointer (some ⟨bs, 0, none⟩)) (.pointer (some ⟨bx, 0, none⟩)) y1 (putsM l) 50 s.ms.toNat (lvlM a 0 s.cards.length) F G := { w with t := w.t.keep q1 hF4, x := w.x.keep q1 hG4 }
  simp -dsimp
  refine call_by (hcells_th w.t (by rw [w.len]; omega) (w.small hmt)) ?_
  rintro cv y2 ⟨E, own, gr, k2', nE, nO'⟩
  have c2 : SlRep rCell (Ft y1.size none_ y2) y2 cv (cellsM (putsM l)) := gr.rep.mono fun b hb => hb.elim (fun hf => ⟨⟨⟨(nE b hf).1, fun _ => (nE b hf).2.2⟩, (nE b hf).2.1, fun h => h⟩, rfl⟩) fun ho => ⟨⟨⟨nO' b ho, fun _ => gr.thaw b ho⟩, gr.own_lt b ho, fun h => h⟩, rfl⟩
  obtain ⟨ca, cn, cc, hcv, hcn⟩ : ∃ ca cn cc, cv = .slice ca cn cc ∧ cn = (cellsM (putsM l)).length := by
    obtain ⟨ca, cc, e, _⟩ := c2.val
    exact ⟨ca, _, cc, e, rfl⟩
  subst hcv
  have sz0 := v0.size
  have sz1 := q1.size
  have sz2 := k2'.size
  have sz4 := k4.size
  have hFl := w.t.lt
  have hGl := w.x.lt
  have hwl := w.len
  have hwc := w.cells
  have p2 : ∀ c ∈ cellsM (putsM l), c.mn.length = s.ms.toNat := fun c hc => by
    obtain ⟨k, hk⟩ := cellsM_mem.1 hc
    exact (w.cells k c hk).sml.mn
  obtain ⟨r, er⟩ : ∃ r : CellM → Prop, r = fun c => c.mn.length = s.ms.toNat := ⟨_, rfl⟩
  have hrr : ∀ c, r c → c.mn.length = s.ms.toNat := fun c hc => by rw [er] at hc; exact hc
  have hr : ∀ c d, Like d c → r c → r d := fun c d hl hc => by rw [er] at hc ⊢; exact hl.2.1.trans hc
  have sh2 := c2.sh (p := r) (by omega) fun c hc => by rw [er]; exact p2 c hc
  rw [← hcn] at sh2
  have hcl := taken_le (putsM l)
  rw [← cells_len, ← hcn, hwl] at hcl
  obtain ⟨B2, eB2⟩ : ∃ B2, B2 = Ft y1.size none_ y2 := ⟨_, rfl⟩
  rw [← eB2] at sh2
  simp -dsimp
  refine loopc (σ := Nat) (fun i => [(5, .int .i64 by_), (14, .slice ra rows.length rc), (15, .int .i64 a), (17, .pointer (some ⟨bs, 0, none⟩)), (18, .pointer (some ⟨bo, 0, none⟩)), (19, .pointer (some ⟨bx, 0, none⟩)), (24, .slice ca cn cc), (25, .int .i64 i)])
    (fun i y => Sh B2 y1.size y2.size cn r (.slice ca cn cc) y2 y ∧ i ≤ cn) (fun i => cn - i) 0 8 (fun i _ => i = cn) noRet noRet_le (by simp) ⟨sh2, Nat.zero_le _⟩ (by kernel_rfl) ?_ ?_
  · rintro i z7 g7 ⟨z, hi⟩
    have wi := wrap_succ (k := i) (by omega)
    by_cases hil : i < cn
    · obtain ⟨bk, off, c, o, e, hw7, z8⟩ := z.count hr hil by_
      cases e
      simp -dsimp [hil, idxA_nat hil, elSz_eq, hw7]
      generalize hB8 : Array.setIfInBounds z7 bk o = z7' at z8
      refine loopc (σ := Nat) (fun j => [(5, .int .i64 by_), (14, .slice ra rows.length rc), (15, .int .i64 a), (17, .pointer (some ⟨bs, 0, none⟩)), (18, .pointer (some ⟨bo, 0, none⟩)), (19, .pointer (some ⟨bx, 0, none⟩)), (24, .slice (some ⟨bk, off, none⟩) cn cc), (25, .int .i64 i), (26, .int .i64 j)]) (fun j y => Sh B2 y1.size y2.size cn r (.slice (some ⟨bk, off, none⟩) cn cc) y2 y ∧ j ≤ s.ms.toNat) (fun j => s.ms.toNat - j) 0 10 (fun j _ => j = s.ms.toNat) noRet noRet_le (by simp) ⟨z8, Nat.zero_le _⟩ (by kernel_rfl) ?_ ?_
      · rintro j z9 g9 ⟨w9, hj⟩
        have wj := wrap_succ (k := j) (by omega)
        obtain ⟨bk', off', c', d, kv, sv, nv', xv', e, hf, hx, hpd, qk, qs, qn⟩ := w9.get hil
        cases e
        have hdl := hrr _ hpd
        obtain ⟨na, nc, rfl, _, _⟩ := qn.val
        have hx3 : HC.cellIn z9[bk]? (off + i * 5 + 3) = _ := cellsIn_cell (d := 3) hx (by decide)
        by_cases hjl : j < s.ms.toNat
        · have hjn : j < d.mn.length := by omega
          obtain ⟨bn, on, o1, rfl, hw1, w10⟩ := w9.int hr qn hjn by_
          simp -dsimp [idxA_nat hil, idxA_nat hjn, elSz_eq, hx3, hjn, hw1, wj]
          exact ⟨j + 1, by simp, rfl, ⟨w10, by omega⟩, by show s.ms.toNat - (j + 1) < s.ms.toNat - j; omega⟩
        · have hjn : ¬ j < d.mn.length := by omega
          simp -dsimp [idxA_nat hil, elSz_eq, hx3, hjn]
          exact ⟨rfl, j, by simp, rfl, ⟨w9, hj⟩, by show j = s.ms.toNat; omega⟩
      · rintro j z9 g9 ⟨z9', hj⟩ _
        simp -dsimp [wi]
        exact ⟨i + 1, by simp, rfl, ⟨z9', by omega⟩, by show cn - (i + 1) < cn - i; omega⟩
    · simp -dsimp [hil]
      exact ⟨rfl, i, by simp, rfl, ⟨z, hi⟩, by show i = cn; omega⟩
  rintro i y3 g3 ⟨z3, _⟩ _
  have q3 := z3.keep
  have sz3 := q3.size
  have o3 : TabAt (.pointer (some ⟨bo, 0, none⟩)) O y3 (newM 50) := by
    have o1 := o0.keep q1 fun b hb hS => by have := nO b hb; omega
    exact (o1.keep k2' fun _ _ h => h).keep q3 fun b hb hS => by have := o1.lt b hb; omega
  have t3 := (w.t.keep k2' fun _ _ h => h).keep q3 fun b hb hS => by have := hFl b hb; omega
  have x3 := (w.x.keep k2' fun _ _ h => h).keep q3 fun b hb hS => by have := hGl b hb; omega
  have hGl3 := hGl
  have kk : Keep none_ h3 y3 := (((k4.trans v0 fun _ _ h => h).trans q1 fun b hb hS => absurd hS (by omega)).trans k2' fun _ _ h => h).trans q3 fun b hb hS => absurd hS (by omega)
  have u9 := u3.trans kk fun _ _ h => h
  simp -dsimp
  refine call_by (rnew7_spec 50 (by decide) y3) ?_
  rintro yv y4 ⟨H, h4', k34, nH⟩
  obtain ⟨by', hyv⟩ : ∃ b, yv = .pointer (some ⟨b, 0, none⟩) := by obtain ⟨bs, _, _, _, _, _, _, e, _⟩ := h4'; exact ⟨bs, e⟩
  subst hyv
  simp -dsimp
  refine call_by (make_spec a (r3.mono ((Tr.of (kk.trans k34 fun _ _ h => h)).ft (Nat.le_refl 0))) (by omega) fun r hr => ⟨by rw [(hok.key r hr).1]; omega, by rw [(hok.m r hr).1]; omega⟩) ?_
  rintro mv y5 ⟨m5, k45⟩
  rw [← el] at m5
  obtain ⟨ma, mc, rfl, _, _⟩ := m5.val
  have sz34 := k34.size
  have sz45 := k45.size
  have hHl := h4'.lt
  have hcN : ∀ (k : Nat) (d : CellM), (putsM (l.take 0))[k]? = some (some d) → CellOk s.ms.toNat (lvlM a 0 s.cards.length) d := fun j d hd => by
    rw [List.take_zero] at hd
    have hd : (newM 50)[j]? = some (some d) := hd
    unfold newM at hd; rw [List.getElem?_replicate] at hd; split at hd <;> cases hd
  simp -dsimp
  refine loopc (σ := Nat) (fun i => [(17, .pointer (some ⟨bs, 0, none⟩)), (18, .pointer (some ⟨bo, 0, none⟩)), (19, .pointer (some ⟨bx, 0, none⟩)), (27, .pointer (some ⟨by', 0, none⟩)), (28, .slice ma l.length mc), (29, .int .i64 i)])
    (fun i y => ∃ H, RTabT (.pointer (some ⟨by', 0, none⟩)) H y (putsM (l.take i)) ∧ (putsM (l.take i)).length = 50 ∧ (∀ (k : Nat) (d : CellM), (putsM (l.take i))[k]? = some (some d) → CellOk s.ms.toNat (lvlM a 0 s.cards.length) d) ∧
      (∀ b, H b → (y3.size ≤ b ∧ b < y4.size) ∨ y5.size ≤ b) ∧ Keep (fun b => (y3.size ≤ b ∧ b < y4.size) ∨ y5.size ≤ b) y5 y ∧ i ≤ l.length) (fun i => l.length - i) 0 12 (fun i _ => i = l.length)
    noRet noRet_le (by simp) ⟨H, by rw [List.take_zero]; exact h4'.keep k45 (fun _ _ h => h), List.length_replicate, hcN, fun b hb => .inl ⟨nH b hb, hHl b hb⟩, .refl _ _, Nat.zero_le _⟩ (by kernel_rfl) ?_ ?_
  · rintro i z1 g ⟨H, hz, hlz, hcz, hH, kz, hi⟩
    have wi := wrap_succ (k := i) (by omega)
    have szz := kz.size
    by_cases hil : i < l.length
    · obtain ⟨bl, ol, cs, rfl, hfb, hrep5, hx5⟩ := m5.get i hil
      have hci := hcells l[i] (List.getElem_mem hil)
      have hft : ∀ b, Ft y4.size none_ y5 b → Old z1 b ∧ z1[b]? = y5[b]? := fun b hb => ⟨⟨nz, Nat.lt_of_lt_of_le hb.2.1 szz, fun h => h⟩, kz.blk b hb.2.1 (by have := hb.1.1; have := hb.2.1; omega)⟩
      obtain ⟨ka, kc, sa', sc', na, nc, xa, xc, rfl, q4, _⟩ := cell_open hrep5
      have hx : HC.cellsIn z1[bl]? (ol + i * 5) 5 = _ := (congrArg (fun o => HC.cellsIn o (ol + i * 5) 5) (hft bl hfb).2).trans hx5
      simp -dsimp [hil, idxA_nat hil, elSz_eq, hx]
      refine call_by (rput7_spec hz (rCell.mono hrep5 hft) hci.keyOk (by rw [hlz]; omega) (by rw [hlz]; omega) hmt hci.sml fun k d hd => (hcz k d hd).sml) ?_
      rintro _ z2 ⟨rfl, H2, hz2, kz2, nz2⟩
      have hzl := hz.lt
      rw [← putsM_take hil] at hz2
      simp -dsimp [wi]
      refine ⟨i + 1, by simp, rfl, ⟨H2, hz2, ?_, ?_, fun b hb => ?_, kz.trans kz2 fun b _ hb => hH b hb, by omega⟩, by show l.length - (i + 1) < l.length - i; omega⟩
      · rw [putsM_take hil]
        cases hp : putM (putsM (l.take i)) l[i] with
        | none => exact hlz
        | some T' => rw [Option.getD_some, put_len hp]; exact hlz
      · rw [putsM_take hil]
        cases hp : putM (putsM (l.take i)) l[i] with
        | none => exact hcz
        | some T' => exact put_cells hcz hci (fun d hd => hd.join hci) hp
      · rcases nz2 b hb with hb | hb
        · exact hH b hb
        · exact .inr (by omega)
    · simp -dsimp [hil]
      exact ⟨rfl, i, by simp, rfl, ⟨H, hz, hlz, hcz, hH, kz, hi⟩, by show i = l.length; omega⟩
  rintro i y6 g6 ⟨H6, hz, hlz, hcz, hH, kz, hi⟩ hil
  have hil : i = l.length := hil
  subst hil
  rw [List.take_length] at hz hlz hcz
  have k35 := k34.trans k45 fun _ _ h => h
  have t6 := (t3.keep k35 fun _ _ h => h).keep kz fun b hb hS => by have := hFl b hb; omega
  have x6' := (x3.keep k35 fun _ _ h => h).keep kz fun b hb hS => by have := hGl b hb; omega
  have o6' := (o3.keep k35 fun _ _ h => h).keep kz fun b hb hS => by have := o3.lt b hb; omega
  have u10 : Keep none_ h y6 := (u9.trans k35 fun _ _ h => h).trans kz fun b hb hS => absurd hS (by have := u9.size; omega)
  have hsm : TabSmall (putsM l) := fun k d hd => (hcz k d hd).sml.small hmt
  simp -dsimp
  refine call_by (hcells_th t6 (by rw [hlz]; omega) hsm) ?_
  rintro dv y7 ⟨E7, own7, gr7, k67, nE7, nO7⟩
  have d7 : SlRep rCell (Old y7) y7 dv (cellsM (putsM l)) := gr7.rep.mono fun b hb => ⟨⟨nz, hb.elim (fun hf => (nE7 b hf).2.1) fun ho => gr7.own_lt b ho, fun h => h⟩, rfl⟩
  simp -dsimp
  refine call_by (rcells7_spec (hz.keep k67 fun _ _ h => h) (by rw [hlz]; omega) hmt fun k d hd => (hcz k d hd).sml) ?_
  rintro ev y8 ⟨e8, k78⟩
  simp -dsimp
  refine call_by (rsame_spec (d7.mono ((Tr.of k78).ft (Nat.le_refl 0))) (e8.mono (Ft.free (Nat.zero_le _)))) ?_
  rintro _ y9 ⟨⟨t10, rfl, ht10⟩, k89⟩
  have ht10 : t10 = true := ht10.2 rfl
  subst ht10
  have k69 := (k67.trans k78 fun _ _ h => h).trans k89 fun _ _ h => h
  simp -dsimp
  refine call_by (len_spec (o6'.keep k69 fun _ _ h => h)) ?_
  rintro _ y9' ⟨rfl, hh⟩
  subst y9'
  rw [newM_taken]
  simp -dsimp
  refine call_by (rlen_spec (x6'.keep k69 fun _ _ h => h)) ?_
  rintro _ y9' ⟨rfl, hh⟩
  subst y9'
  simp -dsimp
  refine call_by (len_spec (t6.keep k69 fun _ _ h => h)) ?_
  rintro _ y9' ⟨rfl, hh⟩
  subst y9'
  simp -dsimp
  exact hK _ _ ⟨rfl, u10.trans k69 fun _ _ h => h⟩
end Go.Proofs


namespace Go.Proofs.Ytjkefplcbmdndaa
open Go Go.ChangeShapes Go.WideShapes Go.ChangeAt Go.RowKit Go.HC

theorem own0 : ownKnob Try.prog.godebug = none := by kernel_rfl
theorem laid0 : laidOutB Try.prog = true := by kernel_rfl
theorem ui : Try.prog.underlying 3 = some (.int .i64) := by kernel_rfl
theorem uis : Try.prog.underlying 22 = some (.slice 3) := by kernel_rfl
theorem ci : Try.prog.cellsOf 3 = 1 := by kernel_rfl
theorem ub : Try.prog.underlying 4 = some .bool := by kernel_rfl

set_option maxHeartbeats 8000000 in
set_option maxRecDepth 100000 in
theorem lifted (os : Os) (started : os.Started) (H : Type) (enc : TypeId × Value → H) :
    ReturnsInHanded {} Try.checked os 7 .any (Rows.hashOwnSpec.pre6 enc Try.prog Try.f7 Rows.hashOwnRow.domain false) (Rows.hashOwnSpec.post enc Try.prog Try.f7 false true false false) := by
  refine returnsInHanded_of_change (C := Try.checked) own0 started (by kernel_rfl) Try.func7
    (ChangeSpec.witness6 (enc := enc) (C := Try.checked) false ⟨#[], #[.int .i64 0, .slice none 0 0, .int .i64 0, .slice none 0 0, .int .i64 0, .int .i64 0], []⟩ 8 (by kernel_rfl) (by kernel_rfl) (by kernel_rfl) (by kernel_rfl)) ?_
  intro W base args ds gs before hval0 hW _ _
  have hval : ∀ (j : Nat) t v, Try.f7.params[j]? = some t → args[j]? = some v → Value.okWide Try.prog W .any base t v := hval0
  have hW' := hW
  obtain ⟨p, q, hA0, hV, rfl, _, _⟩ := hW
  have hA : DataW.TrodAll enc Try.prog W 0 (fun _ => true) true Try.f7.params.toList args.toList ds p := hA0
  have hps : Try.f7.params = #[3, 22, 3, 22, 3, 3] := by kernel_rfl
  rw [hps] at hA hval
  have hA1 := hA
  obtain ⟨v0, vs0, d0, ds0, p0, q0, ha0, hd0, hp0, h0, hr0⟩ := trodAll_cons hA1
  obtain ⟨v1, vs1, d1, ds1, p1, q1, ha1, hd1, hp1, h1, hr1⟩ := trodAll_cons hr0
  obtain ⟨v2, vs2, d2, ds2, p2, q2, ha2, hd2, hp2, h2, hr2⟩ := trodAll_cons hr1
  obtain ⟨v3, vs3, d3, ds3, p3, q3, ha3, hd3, hp3, h3, hr3⟩ := trodAll_cons hr2
  obtain ⟨v4, vs4, d4, ds4, p4, q4, ha4, hd4, hp4, h4, hr4⟩ := trodAll_cons hr3
  obtain ⟨v5, vs5, d5, ds5, p5, q5, ha5, hd5, hp5, h5, hr5⟩ := trodAll_cons hr4
  obtain ⟨rfl, rfl, rfl⟩ := trodAll_nil hr5
  subst ha5; subst hd5; subst hp5
  subst ha4; subst hd4; subst hp4
  subst ha3; subst hd3; subst hp3
  subst ha2; subst hd2; subst hp2
  subst ha1; subst hd1; subst hp1
  subst hd0; subst hp0
  obtain rfl : args = #[v0, v1, v2, v3, v4, v5] := by cases args; simp_all
  obtain ⟨rfl, rfl⟩ := trodVars_none hV
  obtain ⟨a0, rfl, _, _, _⟩ := open_int ui (hval 0 3 v0 rfl rfl) h0
  obtain ⟨a1, x1⟩ := open_intRep uis ui ci (hval 1 22 v1 rfl rfl) h1
  obtain ⟨a2, rfl, _, _, _⟩ := open_int ui (hval 2 3 v2 rfl rfl) h2
  obtain ⟨a3, x3⟩ := open_intRep uis ui ci (hval 3 22 v3 rfl rfl) h3
  obtain ⟨a4, rfl, _, _, _⟩ := open_int ui (hval 4 3 v4 rfl rfl) h4
  obtain ⟨a5, rfl, _, _, _⟩ := open_int ui (hval 5 3 v5 rfl rfl) h5
  clear hA0 hval0
  simp only [List.append_nil] at hW' hA ⊢
  have hlt := fun x hx => hW'.lt x hx
  refine (calls_of (hashOwns_spec a0 a2 a4 a5 x1 (fun _ h => h) x3 (fun _ h => h))).mono fun e W' ⟨he, hb⟩ => ?_
  subst he
  refine ⟨_, rfl, _, _, _, _, _, [], hW', trodAll_mk1 (shut_bool ub true), below_trodAll laid0 hb (by kernel_rfl) hA (fun x hx => by simpa using hlt x (by simpa using hx)), rfl, hb.frame _, fun h => by cases h⟩

theorem hashown_holds : Rows.HashOwnSaid :=
  OpenClaim.holds_of_wide 7 Try.f7 rfl rfl rfl rfl rfl rfl rfl ⟨rfl, rfl, rfl, rfl, rfl⟩ rfl rfl rfl rfl rfl (by kernel_rfl) Try.func7 (by kernel_rfl)
    (of_decide_eq_true (by kernel_rfl)) (by unfold Func.isWrapper; first | (rw [if_pos (by decide +kernel)]; kernel_rfl) | (rw [if_neg (by decide +kernel)]; exact ⟨rfl, rfl⟩))
    (fun os started H enc _ => lifted os started H enc)
end Go.Proofs.Ytjkefplcbmdndaa
