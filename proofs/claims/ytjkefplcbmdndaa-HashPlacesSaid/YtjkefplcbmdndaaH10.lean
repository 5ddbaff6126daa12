/-
  The program's table: a key's cell; the law's example.
-/
import Derived.Test.YtjkefplcbmdndaaH9
namespace Go.Proofs
open Go Go.HC

set_option maxHeartbeats 40000000 in
set_option maxRecDepth 10000 in
theorem hget_spec {v : Value} {F G : Nat → Prop} {h : Heap} {T : Tab} (s : TabAt v F h T) (hT : T.length < 1000000000) (hsm : TabSmall T) {kv : Value} {key : List Int} (hk : SlRep rInt G h kv key) (hG : ∀ b, G b → b < h.size) :
    CallH Try.prog 22 #[v, kv] h fun r h' => ∃ ds E, r = .tuple #[.agg ds.toArray, .bool (getM T key).isSome] ∧ rCell.rep E h' ds ((getM T key).getD ⟨[], 0, [], [], []⟩) ∧ Keep none_ h h' ∧ ∀ b, E b → h.size ≤ b ∧ b < h'.size := by
  refine callH_by fun K hK => ?_
  obtain ⟨bs, sv, os, R, rfl, rfl, s⟩ := s
  obtain ⟨ka, kc, rfl, hkc, hkc'⟩ := hk.val
  refine enter [.cell 4 39, .tmp 5] Try.func22 rfl rfl (by kernel_rfl) rfl ?_
  have hRl : ∀ b, R b → b < h.size := fun b hb => (s.sep b hb).1
  obtain ⟨ta, tc, rfl⟩ := s.slots.val
  simp -dsimp
  generalize hB : h.push _ = h0
  have k0 : Keep none_ h h0 := by rw [← hB]; exact .push _ _ _
  have hz0 : h0.size = h.size + 1 := by rw [← hB]; simp
  have hr0 : h0[h.size]? = some (.cells #[.slice none 0 0, .int .i64 0, .slice none 0 0, .slice none 0 0, .slice none 0 0] 39 (0, 0)) := by rw [← hB]; exact push_new _ _
  have s0 := s.mono (h' := h0) (by omega) fun b hb => k0.blk b (s.lt b hb) (fun h => h)
  have q1 : SlRep rInt G h0 (.slice ka key.length kc) key := hk.mono fun b hb => ⟨hb, k0.blk b (hG b hb) (fun h => h)⟩
  refine call_by (find_spec s0.at hT q1 (fun b hb => by have := hG b hb; omega)) ?_
  rintro _ h1 ⟨rfl, k1⟩
  have k01 := k0.trans k1 (fun _ _ h => h)
  have e1 := k1.size
  have s1 := s0.mono (h' := h1) e1 fun b hb => k1.blk b (s0.lt b hb) (fun h => h)
  have hs1 := s1.str
  have hr1 := k1.at hr0 (fun h => h)
  have hset : ∀ o, (h1.setIfInBounds h.size o)[h.size]? = some o := fun o => set_same _ (by omega)
  have nrep : ∀ h', rCell.rep none_ h' [.slice none 0 0, .int .i64 0, .slice none 0 0, .slice none 0 0, .slice none 0 0] ⟨[], 0, [], [], []⟩ := fun h' => ⟨_, _, _, _, rfl, .nil _ _ _, .nil _ _ _, .nil _ _ _, .nil _ _ _⟩
  have kset : ∀ o, Keep none_ h (h1.setIfInBounds h.size o) := fun o => k01.setted _ (fun hh => absurd hh (by omega))
  cases hf : findM T key with
  | none =>
    have hg : getM T key = none := by unfold getM; rw [hf]
    rw [hg] at hK
    simp -dsimp [hr1, hset]
    exact hK _ _ ⟨_, none_, rfl, nrep _, kset _, fun b hb => hb.elim⟩
  | some k =>
    obtain ⟨hkl, hor, _⟩ := find_spec_some hf
    have hneg : ¬ ((k : Int) < 0) := by omega
    obtain ⟨bk, es, rfl, rfl, hrs, hce⟩ := s1.slots.elem k hkl
    obtain ⟨w0, wn, w2, w3, w4, rfl, hkey, u0, u2, u3, u4⟩ := slot_cells hrs
    have hce' : HC.cellsIn h1[bk]? (k * 6) 6 = some [w0, .int .i64 wn, w2, w3, w4, .bool T[k].isSome] := hce
    have hc5 : cellIn h1[bk]? (k * 6 + 5) = some (.bool T[k].isSome) := cellsIn_cell (d := 5) hce' (by decide)
    have hidx : ∀ (K : Value → Heap → Prop) (h : Heap), indexAddrS Try.prog 60 (.slice (some ⟨bk, 0, none⟩) T.length tc) (.int .i64 (k : Int)) h K = K (.pointer (some ⟨bk, k * 6, none⟩)) h := by
      intro K h
      rw [indexAddrS_slice _ _ _ _ _ _ (by omega) (by omega) rfl]
      simp [elSz]
    have hsat : T[k]? = some T[k] := List.getElem?_eq_getElem hkl
    have hgk : getM T key = T[k] := by unfold getM; rw [hf]; simp only; rw [hsat]; rfl
    cases hta : T[k] with
    | none =>
      rw [hta] at hc5 hgk
      rw [hgk] at hK
      simp -dsimp [hneg, hs1, hidx, hc5, hr1, hset]
      exact hK _ _ ⟨_, none_, rfl, nrep _, kset _, fun b hb => hb.elim⟩
    | some d =>
      rw [hta] at hc5 hgk hrs
      rw [hgk] at hK
      obtain ⟨ds0, hd1, hd2⟩ := hrs
      have hdl := rCell.len hd1
      obtain rfl : ds0 = [w0, .int .i64 wn, w2, w3, w4] := by
        match ds0, hdl with
        | [a, b, c, d, e], _ =>
          simp at hd2
          obtain ⟨rfl, rfl, rfl, rfl, rfl⟩ := hd2
          rfl
      have hc05 : HC.cellsIn h1[bk]? (k * 6) 5 = some [w0, .int .i64 wn, w2, w3, w4] := by
        have := hce'
        cases hb : h1[bk]? with
        | none => rw [hb] at this; cases this
        | some o =>
          cases o with
          | cells c e fz =>
            rw [hb, cellsIn_some] at this
            rw [cellsIn_some]
            split at this
            · rename_i hle
              rw [if_pos (by omega)]
              simp only [Option.some.injEq] at this
              have h6 : ((c.toList.drop (k * 6)).take 6).take 5 = (c.toList.drop (k * 6)).take 5 := by rw [List.take_take]; rfl
              rw [← h6, this]; rfl
            · cases this
          | _ => rw [hb] at this; cases this
      have hds : CellSmall d := hsm k d (by rw [hsat, hta])
      simp -dsimp [hneg, hs1, hidx, hc5, hc05]
      refine call_by (hashOwn_spec hd1 (fun b hb => by have := hRl b hb; omega) hds) ?_
      rintro _ h2 ⟨ds, E, rfl, hr2, k2, hE⟩
      have e2 := k2.size
      have hlen3 := rCell.len hr2
      have hone3 := rCell.one hr2
      obtain ⟨z0, z1, z2, z3, z4, rfl⟩ : ∃ z0 z1 z2 z3 z4, ds = [z0, z1, z2, z3, z4] := by
        match ds, hlen3 with
        | [a, b, c, d, e], _ => exact ⟨a, b, c, d, e, rfl⟩
      simp only [List.all_cons, List.all_nil, Bool.and_true, Bool.and_eq_true] at hone3
      obtain ⟨y0, y1, y2, y3, y4⟩ := hone3
      have hr2' := k2.at hr1 (fun h => h)
      have hset2 : ∀ o, (h2.setIfInBounds h.size o)[h.size]? = some o := fun o => set_same _ (by omega)
      simp -dsimp [hr2', hset2, y0, y1, y2, y3, y4]
      generalize hH : h2.setIfInBounds h.size _ = h3
      have hz3 : h3.size = h2.size := by rw [← hH]; simp
      have hold : ∀ b, b ≠ h.size → h3[b]? = h2[b]? := fun b hn => by rw [← hH, set_other _ (fun e => hn e.symm)]
      refine hK _ _ ⟨[z0, z1, z2, z3, z4], E, rfl, rCell.mono hr2 fun b hb => ⟨hb, hold b (by have := (hE b hb).1; omega)⟩, ⟨by omega, fun b hb _ => by rw [hold b (by omega), k2.blk b (by omega) (fun h => h), k01.blk b hb (fun h => h)]⟩, fun b hb => by have := hE b hb; omega⟩
end Go.Proofs
