/-
  The program's table: made; a cell is put.
-/
import Derived.Test.YtjkefplcbmdndaaH5
namespace Go.HC
theorem zeros_succ (z : Value) (n : Nat) (_hs : 0 < z.cells.size) : (zeros z (n + 1)).toList = z.cells.toList ++ (zeros z n).toList := by
  unfold zeros
  simp only [Array.toList_map, Array.toList_range]
  rw [Nat.succ_mul, Nat.add_comm, List.range_add, List.map_append, List.map_map]
  congr 1
  · apply List.ext_getElem
    · simp
    · intro i h1 h2
      have h3 : i < z.cells.size := by simpa using h2
      simp [Nat.mod_eq_of_lt h3, h3]
  · apply List.map_congr_left
    intro i _
    simp
theorem zeros_elems {α : Type} {R : Rp α} {F : Nat → Prop} {h : Heap} {z : Value} {x : α} (hr : R.rep F h z.cells.toList x) : ∀ (n : Nat), Elems R F h (zeros z n).toList (List.replicate n x)
  | 0 => by simp [zeros, Elems]
  | n + 1 => by
    have hl := R.len hr
    have hp := R.pos
    rw [zeros_succ z n (by simp at hl; omega), List.replicate_succ]
    exact ⟨_, _, rfl, hr, zeros_elems hr n⟩
/-- No row of a stored cell is too long. -/
def TabSmall (T : Tab) : Prop := ∀ (k : Nat) (c : CellM), T[k]? = some (some c) → CellSmall c
theorem joinC_small {a b : CellM} (h : CellSmall a) : CellSmall (joinC a b) :=
  ⟨h.key, by have := h.sum; simp [joinC]; omega, by have := h.mn; simp [joinC]; omega, by have := h.mx; simp [joinC]; omega⟩
theorem put_small {T T' : Tab} {c : CellM} (h : TabSmall T) (hc : CellSmall c) (hp : putM T c = some T') : TabSmall T' := by
  unfold putM at hp
  split at hp
  · cases hp
  · rename_i k hf
    simp only [Option.some.injEq] at hp
    subst hp
    intro m d hd
    rw [List.getElem?_set] at hd
    split at hd
    · split at hd
      · simp only [Option.some.injEq] at hd
        split at hd
        · rename_i e he
          cases hd
          exact joinC_small (h _ _ he)
        · cases hd; exact hc
      · cases hd
    · exact h m d hd
end Go.HC
namespace Go.Proofs
open Go Go.HC

set_option maxRecDepth 10000 in
theorem hnew_spec (n : Nat) (hn : n < 1000000000) (h : Heap) : CallH Try.prog 16 #[.int .i64 n] h fun r h' => ∃ F, TabAt r F h' (newM n) ∧ Keep none_ h h' ∧ ∀ b, F b → h.size ≤ b := by
  refine callH_by fun K hK => ?_
  refine enter [.tmp 2] Try.func16 rfl rfl (by kernel_rfl) rfl ?_
  have hmx : max (n : Int) 0 = n := by omega
  have hms : ∀ (K : Value → Heap → Prop) (h : Heap), makeSliceS Try.prog 60 (.int .i64 (n : Int)) (.int .i64 (n : Int)) h K = K (.slice (some ⟨h.size, 0, none⟩) n n) (h.push (.cells (zeros (.agg #[.slice none 0 0, .int .i64 0, .slice none 0 0, .slice none 0 0, .slice none 0 0, .bool false]) n) 68)) := by
    intro K h
    have := make_slice (P := Try.prog) (K := K) (h := h) (k := .i64) (k' := .i64) (n := (n : Int)) Try.elS60 Try.szS68 Try.byS68 Try.zS68 rfl (by omega) (by omega) (by omega)
    simpa using this
  simp -dsimp [hmx, hms, boxS_eq]
  generalize hH : (h.push _).push _ = h2
  have hp1 : ∀ o, (h.push o).size = h.size + 1 := fun o => by simp
  have hz : h2.size = h.size + 2 := by rw [← hH]; simp
  have hk : Keep none_ h h2 := by rw [← hH]; exact ((Keep.refl none_ h).pushed _).pushed _
  have hb1 : h2[h.size]? = some (.cells (zeros (.agg #[.slice none 0 0, .int .i64 0, .slice none 0 0, .slice none 0 0, .slice none 0 0, .bool false]) n) 68 (0, 0)) := by rw [← hH]; exact push_at (push_new _ _)
  have hb2 : h2[h.size + 1]? = some (.cells #[.slice (some ⟨h.size, 0, none⟩) n n, .int .i64 0] 62 (0, 0)) := by rw [← hH, ← hp1]; exact push_new _ _
  have hel : Elems rSlot none_ h2 (zeros (.agg #[.slice none 0 0, .int .i64 0, .slice none 0 0, .slice none 0 0, .slice none 0 0, .bool false]) n).toList (newM n) := zeros_elems (R := rSlot) (x := none) (show (Value.agg #[.slice none 0 0, .int .i64 0, .slice none 0 0, .slice none 0 0, .slice none 0 0, .bool false]).cells.toList = [.slice none 0 0, .int .i64 0, .slice none 0 0, .slice none 0 0, .slice none 0 0, .bool false] from rfl) n
  have hlen : (newM n).length = n := List.length_replicate
  refine hK _ _ ⟨tfoot (h.size + 1) (some h.size) none_, ⟨h.size + 1, .slice (some ⟨h.size, 0, none⟩) n n, some h.size, none_, rfl, rfl, ?_, ?_, fun b hb => hb.elim, by simp, newM_ok n⟩, hk, ?_⟩
  · rw [newM_taken]; exact hb2
  · refine .inr ⟨h.size, n, _, _, by rw [hlen], rfl, hb1, fun h => h, ?_, by rw [hlen]; exact Nat.le_refl _, by omega, rfl, ?_⟩
    · have := hel.len
      rw [hlen] at this
      simpa using this
    · have hl := hel.len
      rw [List.take_of_length_le (by rw [hl]; exact Nat.le_refl _)]
      exact hel
  · rintro b (rfl | hb | hb)
    · omega
    · cases hb; omega
    · exact hb.elim

theorem TabC.widen {h : Heap} {T : Tab} {bs : Nat} {sv : Value} {os : Option Nat} {R : Nat → Prop} (s : TabC h T bs sv os R) {G : Nat → Prop} (hG : ∀ b, G b → b < h.size ∧ b ≠ bs ∧ os ≠ some b) : TabC h T bs sv os (fun b => R b ∨ G b) where
  str := s.str
  slots := s.slots.mono (fun _ hb => ⟨.inl hb, rfl⟩) fun b hb => ⟨fun hR => hR.elim (fun h => (s.sep b h).2.2 hb) (fun h => (hG b h).2.2 hb), rfl⟩
  sep := fun _ hb => hb.elim (s.sep _) (hG _)
  o1 := s.o1
  ok := s.ok
theorem tfoot_sub {bs n : Nat} {os : Option Nat} {R R' : Nat → Prop} (h3 : ∀ b, R' b → R b ∨ n ≤ b) : ∀ b, tfoot bs os R' b → tfoot bs os R b ∨ n ≤ b := by
  rintro b (rfl | h | h)
  · exact .inl (.inl rfl)
  · exact .inl (.inr (.inl h))
  · exact (h3 b h).imp (fun h => .inr (.inr h)) id

set_option maxHeartbeats 40000000 in
set_option maxRecDepth 10000 in
theorem hput_spec {v : Value} {F G : Nat → Prop} {h : Heap} {T : Tab} (s : TabAt v F h T) (hT : T.length < 1000000000) (hsm : TabSmall T) {cs : List Value} {c : CellM} (hr : rCell.rep G h cs c) (hG : ∀ b, G b → b < h.size) (hc : CellSmall c) :
    CallH Try.prog 18 #[v, .agg cs.toArray] h fun r h' => r = .bool (putM T c).isSome ∧ ∃ F', TabAt v F' h' ((putM T c).getD T) ∧ Keep F h h' ∧ ∀ b, F' b → F b ∨ h.size ≤ b := by
  refine callH_by fun K hK => ?_
  obtain ⟨bs, sv, os, R, rfl, rfl, s⟩ := s
  refine enter [.tmp 4] Try.func18 rfl rfl (by kernel_rfl) rfl ?_
  have hr0 := hr
  obtain ⟨kv, sv1, nv, xv, rfl, r1, r2, r3, r4⟩ := hr
  obtain ⟨ka, kc, rfl, _, _⟩ := r1.val
  obtain ⟨sa, sc, rfl, _, _⟩ := r2.val
  obtain ⟨na, nc, rfl, _, _⟩ := r3.val
  obtain ⟨xa, xc, rfl, _, _⟩ := r4.val
  have hRl : ∀ b, R b → b < h.size := fun b hb => (s.sep b hb).1
  have hol := s.slots.own_lt
  have hbs := lt_of_blk s.str
  simp -dsimp [boxS_eq]
  generalize hB : h.push _ = h0
  have k0 : Keep none_ h h0 := by rw [← hB]; exact .push _ _ _
  have hz0 : h0.size = h.size + 1 := by rw [← hB]; simp
  have hc0 : h0[h.size]? = some (.cells #[.slice ka c.key.length kc, .int .i64 c.count, .slice sa c.sum.length sc, .slice na c.mn.length nc, .slice xa c.mx.length xc] 39 (0, 0)) := by rw [← hB]; exact push_new _ _
  have s0 := s.mono (h' := h0) (by omega) fun b hb => k0.blk b (s.lt b hb) (fun h => h)
  have q1 : SlRep rInt G h0 (.slice ka c.key.length kc) c.key := r1.mono fun b hb => ⟨hb, k0.blk b (hG b hb) (fun h => h)⟩
  refine call_by (find_spec s0.at hT q1 (fun b hb => by have := hG b hb; omega)) ?_
  rintro _ h1 ⟨rfl, k1⟩
  have k01 := k0.trans k1 (fun _ _ h => h)
  have e1 := k1.size
  have s1 := s0.mono (h' := h1) e1 fun b hb => k1.blk b (s0.lt b hb) (fun h => h)
  have hs1 := s1.str
  have hc1 := k1.at hc0 (fun h => h)
  cases hf : findM T c.key with
  | none =>
    have hp : putM T c = none := by unfold putM; rw [hf]
    rw [hp] at hK
    simp -dsimp
    exact hK _ _ ⟨rfl, _, s1.at, k01.none, fun b hb => .inl hb⟩
  | some k =>
    obtain ⟨hk, hor, _⟩ := find_spec_some hf
    have hneg : ¬ ((k : Int) < 0) := by omega
    obtain ⟨ta, tc, rfl⟩ := s.slots.val
    obtain ⟨bk, es, rfl, rfl, hrs, hce⟩ := s1.slots.elem k hk
    obtain ⟨w0, wn, w2, w3, w4, rfl, hkey, u0, u2, u3, u4⟩ := slot_cells hrs
    have hce' : HC.cellsIn h1[bk]? (k * 6) 6 = some [w0, .int .i64 wn, w2, w3, w4, .bool T[k].isSome] := hce
    have hidx : ∀ (K : Value → Heap → Prop) (h : Heap), indexAddrS Try.prog 60 (.slice (some ⟨bk, 0, none⟩) T.length tc) (.int .i64 (k : Int)) h K = K (.pointer (some ⟨bk, k * 6, none⟩)) h := by
      intro K h
      rw [indexAddrS_slice _ _ _ _ _ _ (by omega) (by omega) rfl]
      simp [elSz]
    have hidv : ∀ sz ar kk, idxV sz ar (.slice (some ⟨bk, 0, none⟩) T.length tc) (.int kk (k : Int)) = sz.map fun s => .pointer (some ⟨bk, k * s, none⟩) := by
      intro sz ar kk
      rw [idxV_slice (by omega) (by omega) rfl]
      simp
    simp -dsimp [hneg, hs1, hidx, hce', u0, u2, u3, u4]
    generalize hB2 : Array.setIfInBounds _ h1.size _ = h2
    have k2 : Keep none_ h1 h2 := by rw [← hB2]; exact ((Keep.refl none_ h1).pushed _).setted _ (fun hh => absurd hh (by omega))
    have hz2 : h2.size = h1.size + 1 := by rw [← hB2]; simp
    have hfb : h2[h1.size]? = some (.cells #[w0, .int .i64 wn, w2, w3, w4, .bool T[k].isSome] 68 (0, 0)) := by rw [← hB2]; exact set_same _ (by simp)
    have k02 := k01.trans k2 (fun _ _ h => h)
    have s2 := s1.mono (h' := h2) (by omega) fun b hb => k2.blk b (s1.lt b hb) (fun h => h)
    have hs2 := s2.str
    have hc2 := k2.at hc1 (fun h => h)
    have hsat : T[k]? = some T[k] := List.getElem?_eq_getElem hk
    have hr2 : rCell.rep G h2 [.slice ka c.key.length kc, .int .i64 c.count, .slice sa c.sum.length sc, .slice na c.mn.length nc, .slice xa c.mx.length xc] c := rCell.mono hr0 fun b hb => ⟨hb, k02.blk b (hG b hb) (fun h => h)⟩
    cases hta : T[k] with
    | some d =>
      have hp : putM T c = some (T.set k (some (joinC d c))) := by unfold putM; rw [hf]; simp only; rw [hsat, hta]
      rw [hta] at hfb hrs
      obtain ⟨hok', htk, _⟩ := put_ok s.ok hp
      have htk' : takenM (T.set k (some (joinC d c))) = takenM T := taken_set_old (by rw [hsat, hta])
      rw [hp] at hK
      obtain ⟨ds0, hd1, hd2⟩ := hrs
      have hdl := rCell.len hd1
      obtain rfl : ds0 = [w0, .int .i64 wn, w2, w3, w4] := by
        match ds0, hdl with
        | [a, b, c, d, e], _ =>
          simp at hd2
          obtain ⟨rfl, rfl, rfl, rfl, rfl⟩ := hd2
          rfl
      have hd2' : rCell.rep R h2 [w0, .int .i64 wn, w2, w3, w4] d := rCell.mono hd1 fun b hb => ⟨hb, k2.blk b (by have := hRl b hb; omega) (fun h => h)⟩
      have hds : CellSmall d := hsm k d (by rw [hsat, hta])
      simp -dsimp
      refine drawn_by [⟨0, true, []⟩, ⟨1, true, []⟩, ⟨2, true, []⟩, ⟨3, true, []⟩, ⟨4, true, []⟩, ⟨5, true, []⟩, ⟨6, true, []⟩, ⟨7, true, []⟩, ⟨8, false, [0, 1, 2, 3, 4]⟩, ⟨9, true, []⟩, ⟨10, true, []⟩, ⟨11, false, []⟩] (by kernel_rfl) (by kernel_rfl) ?_
      simp -dsimp [hs2, hc2, hfb]
      refine call_by (join_spec hd2' (fun b hb => by have := hRl b hb; omega) hds hr2 (fun b hb => by have := hG b hb; omega)) ?_
      rintro _ h3 ⟨ds, E, rfl, hr3, k3, hE⟩
      have e3 := k3.size
      have s3 := s2.mono (h' := h3) e3 fun b hb => k3.blk b (s2.lt b hb) (fun h => h)
      have hs3 := s3.str
      have l2 : ∀ b, tfoot bs (some bk) R b → b < h.size := fun b hb => s.lt b hb
      have s3w := s3.widen (G := E) fun b hb => ⟨(hE b hb).2, fun e => by have := (hE b hb).1; omega, fun e => by have := (hE b hb).1; have := l2 b (.inr (.inl e)); omega⟩
      have hlen3 := rCell.len hr3
      have hone3 := rCell.one hr3
      have hr3' : rCell.rep (fun b => R b ∨ E b) h3 ds (joinC d c) := rCell.mono hr3 fun b hb => ⟨.inr hb, rfl⟩
      obtain ⟨z0, z1, z2, z3, z4, rfl⟩ : ∃ z0 z1 z2 z3 z4, ds = [z0, z1, z2, z3, z4] := by
        match ds, hlen3 with
        | [a, b, c, d, e], _ => exact ⟨a, b, c, d, e, rfl⟩
      obtain ⟨bk', tc', o, hv', how, hwr, hg4⟩ := s3w.slots.setF (i := k) (d := 0) (x := some (joinC d c)) (news := [z0, z1, z2, z3, z4]) hk (show 0 + 5 ≤ 6 from by decide) hone3 (by
        rw [hta]
        rintro cs0 ⟨ds1, hq1, rfl⟩
        have hql := rCell.len hq1
        refine ⟨[z0, z1, z2, z3, z4], hr3', ?_⟩
        have h5 : ds1.length = 5 := hql
        simp [h5])
      simp only [List.all_cons, List.all_nil, Bool.and_true, Bool.and_eq_true] at hone3
      obtain ⟨y0, y1, y2, y3, y4⟩ := hone3
      have hbk' : bk = bk' := by simpa using how
      subst hbk'
      have hwr' : writeIn h3[bk]? (k * 6) [z0, z1, z2, z3, z4] = some o := hwr
      have hnb : bk ≠ bs := fun e => s.o1 (by rw [e])
      have hs4 : (h3.setIfInBounds bk o)[bs]? = some (.cells #[.slice (some ⟨bk, 0, none⟩) T.length tc, .int .i64 (takenM T)] 62 (0, 0)) := (set_other _ hnb).trans hs3
      simp -dsimp [again_cons, hs3, hidv, elSz, hwr']
      generalize hH : h3.setIfInBounds bk o = h5 at hs4 hg4 ⊢
      have hz5 : h5.size = h3.size := by rw [← hH]; simp
      have hold : ∀ b, b ≠ bk → h5[b]? = h3[b]? := fun b hn' => by rw [← hH, set_other _ (fun e => hn' e.symm)]
      have hfin : TabC h5 (T.set k (some (joinC d c))) bs (.slice (some ⟨bk, 0, none⟩) T.length tc) (some bk) (fun b => R b ∨ E b) := by
        refine ⟨by rw [htk']; exact hs4, hg4, fun b hb => ⟨by have := (s3w.sep b hb).1; omega, (s3w.sep b hb).2⟩, s.o1, hok'⟩
      refine hK _ _ ⟨rfl, _, hfin.at, ⟨by omega, fun b hb hn => ?_⟩, tfoot_sub fun b hb => hb.imp id fun h => by have := (hE b h).1; omega⟩
      rw [hold b (fun e => hn (.inr (.inl (by rw [e])))), k3.blk b (by omega) (fun h => h), k02.blk b hb (fun h => h)]
    | none =>
      have hp : putM T c = some (T.set k (some c)) := by unfold putM; rw [hf]; simp only; rw [hsat, hta]
      rw [hta] at hfb
      obtain ⟨hok', htk, _⟩ := put_ok s.ok hp
      have htk' : takenM (T.set k (some c)) = takenM T + 1 := taken_set_new (by rw [hsat, hta])
      rw [hp] at hK
      have htl := taken_le T
      have wn1 : IntKind.i64.wrap ((takenM T : Int) + 1) = ((takenM T + 1 : Nat) : Int) := by rw [wrap_i64 (by omega) (by omega)]; rfl
      simp -dsimp
      refine drawn_by [⟨0, true, []⟩, ⟨1, true, []⟩, ⟨2, true, []⟩, ⟨3, true, []⟩, ⟨4, true, []⟩, ⟨5, true, []⟩, ⟨6, false, [0, 1, 2, 3, 4]⟩, ⟨7, false, [0, 1, 2, 3, 4]⟩, ⟨8, true, []⟩, ⟨9, false, []⟩] (by kernel_rfl) (by kernel_rfl) ?_
      simp -dsimp [hs2, hc2]
      refine call_by (hashOwn_spec hr2 (fun b hb => by have := hG b hb; omega) hc) ?_
      rintro _ h3 ⟨ds, E, rfl, hr3, k3, hE⟩
      have e3 := k3.size
      have s3 := s2.mono (h' := h3) e3 fun b hb => k3.blk b (s2.lt b hb) (fun h => h)
      have hs3 := s3.str
      have l2 : ∀ b, tfoot bs (some bk) R b → b < h.size := fun b hb => s.lt b hb
      have s3w := s3.widen (G := E) fun b hb => ⟨(hE b hb).2, fun e => by have := (hE b hb).1; omega, fun e => by have := (hE b hb).1; have := l2 b (.inr (.inl e)); omega⟩
      have hlen3 := rCell.len hr3
      have hone3 := rCell.one hr3
      have hr3' : rCell.rep (fun b => R b ∨ E b) h3 ds c := rCell.mono hr3 fun b hb => ⟨.inr hb, rfl⟩
      obtain ⟨z0, z1, z2, z3, z4, rfl⟩ : ∃ z0 z1 z2 z3 z4, ds = [z0, z1, z2, z3, z4] := by
        match ds, hlen3 with
        | [a, b, c, d, e], _ => exact ⟨a, b, c, d, e, rfl⟩
      simp only [List.all_cons, List.all_nil, Bool.and_true, Bool.and_eq_true] at hone3
      obtain ⟨y0, y1, y2, y3, y4⟩ := hone3
      obtain ⟨bk', tc', o, hv', how, hwr, hg4⟩ := s3w.slots.setE (i := k) (x := some c) (news := [z0, z1, z2, z3, z4, .bool true]) hk ⟨_, hr3', rfl⟩
      have hbk' : bk = bk' := by simpa using how
      subst hbk'
      have hwr' : writeIn h3[bk]? (k * 6) [z0, z1, z2, z3, z4, .bool true] = some o := hwr
      have hnb : bk ≠ bs := fun e => s.o1 (by rw [e])
      have hs4 : (h3.setIfInBounds bk o)[bs]? = some (.cells #[.slice (some ⟨bk, 0, none⟩) T.length tc, .int .i64 (takenM T)] 62 (0, 0)) := (set_other _ hnb).trans hs3
      simp -dsimp [again_cons, hs3, hidv, elSz, hwr', hs4, wn1]
      generalize hH : (h3.setIfInBounds bk o).setIfInBounds bs _ = h5
      have hz5 : h5.size = h3.size := by rw [← hH]; simp
      have hold : ∀ b, b ≠ bs → b ≠ bk → h5[b]? = h3[b]? := fun b hn hn' => by rw [← hH, set_other _ (fun e => hn e.symm), set_other _ (fun e => hn' e.symm)]
      have hfin : TabC h5 (T.set k (some c)) bs (.slice (some ⟨bk, 0, none⟩) T.length tc) (some bk) (fun b => R b ∨ E b) := by
        refine ⟨?_, ?_, ?_, s.o1, hok'⟩
        · rw [htk', ← hH]; exact set_same _ (by have := lt_of_blk hs4; exact this)
        · exact hg4.mono (fun b hb => ⟨hb, by rw [← hH]; exact set_other _ (fun e => (s3w.sep b hb).2.1 e.symm)⟩) fun b hb => ⟨fun hRE => (s3w.sep b hRE).2.2 hb, by
            cases hb
            rw [← hH]; exact set_other _ (fun e => hnb e.symm)⟩
        · exact fun b hb => ⟨by have := (s3w.sep b hb).1; omega, (s3w.sep b hb).2⟩
      refine hK _ _ ⟨rfl, _, hfin.at, ⟨by omega, fun b hb hn => ?_⟩, tfoot_sub fun b hb => hb.imp id fun h => by have := (hE b h).1; omega⟩
      rw [hold b (fun e => hn (.inl e)) (fun e => hn (.inr (.inl (by rw [e])))), k3.blk b (by omega) (fun h => h), k02.blk b hb (fun h => h)]
end Go.Proofs
