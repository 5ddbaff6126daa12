/-
  The program's table: its cells are told; a key's cell is told.
-/
import Derived.Test.YtjkefplcbmdndaaH6
namespace Go.HC
theorem cells_take {T : Tab} {k : Nat} (hk : k < T.length) : cellsM (T.take (k + 1)) = cellsM (T.take k) ++ (match T[k] with | some c => [c] | none => []) := by
  unfold cellsM
  rw [List.take_add_one, List.getElem?_eq_getElem hk, List.filterMap_append]
  cases T[k] <;> rfl
end Go.HC
namespace Go.Proofs
open Go Go.HC

set_option maxHeartbeats 40000000 in
set_option maxRecDepth 10000 in
theorem hcells_spec {v : Value} {F : Nat → Prop} {h : Heap} {T : Tab} (s : TabAt v F h T) (hT : T.length < 1000000000) (hsm : TabSmall T) :
    CallH Try.prog 26 #[v] h fun r h' => ∃ E own, Grow rCell 39 E h' r (cellsM T) own ∧ Keep none_ h h' ∧ (∀ b, E b → h.size ≤ b ∧ b < h'.size) ∧ ∀ b, own = some b → h.size ≤ b := by
  refine callH_by fun K hK => ?_
  obtain ⟨bs, sv, os, R, rfl, rfl, s⟩ := s
  refine enter [.tmp 2] Try.func26 rfl rfl (by kernel_rfl) rfl ?_
  have hs := s.str
  have hRl : ∀ b, R b → b < h.size := fun b hb => (s.sep b hb).1
  obtain ⟨ta, tc, rfl⟩ := s.slots.val
  simp -dsimp [hs]
  refine loop' (σ := Nat × Value) (fun t => [(3, t.2), (9, .slice ta T.length tc), (10, .int .i64 T.length), (11, .int .i64 t.1)]) (fun _ => [])
    (fun t h1 => Keep none_ h h1 ∧ t.1 ≤ T.length ∧ ∃ E own, Grow rCell 39 E h1 t.2 (cellsM (T.take t.1)) own ∧ (∀ b, E b → h.size ≤ b ∧ b < h1.size) ∧ ∀ b, own = some b → h.size ≤ b)
    (fun t => T.length - t.1) (0, .slice none 0 0) ?_ rfl ⟨.refl _ _, Nat.zero_le _, none_, none, .nil _ _ _ _, (fun b hb => hb.elim), fun b hb => by cases hb⟩ (by kernel_rfl) ?_
  · intro p hp
    simp at hp
    rcases hp with rfl | rfl | rfl | rfl <;> simp
  · rintro ⟨k, tv⟩ h1 g ⟨k1, hk, E, own, hg, hE, ho⟩
    simp only at hk hg
    have e1 := k1.size
    have s1 := s.mono (h' := h1) e1 fun b hb => k1.blk b (s.lt b hb) (fun h => h)
    obtain ⟨va, vc, htv⟩ := hg.val
    obtain ⟨m, hm⟩ : ∃ m, (cellsM (T.take k)).length = m := ⟨_, rfl⟩
    have hmT : m ≤ T.length := by
      rw [← hm, cells_len]
      exact Nat.le_trans (taken_le _) (by simp; omega)
    rw [hm] at htv
    subst htv
    by_cases hkl : k < T.length
    · obtain ⟨bk, es, rfl, hown, hrs, hce⟩ := s1.slots.elem k hkl
      obtain ⟨w0, wn, w2, w3, w4, rfl, hkey, u0, u2, u3, u4⟩ := slot_cells hrs
      have hce' : HC.cellsIn h1[bk]? (k * 6) 6 = some [w0, .int .i64 wn, w2, w3, w4, .bool T[k].isSome] := hce
      have hidx : ∀ (K : Value → Heap → Prop) (h : Heap), indexAddrS Try.prog 60 (.slice (some ⟨bk, 0, none⟩) T.length tc) (.int .i64 (k : Int)) h K = K (.pointer (some ⟨bk, k * 6, none⟩)) h := by
        intro K h
        rw [indexAddrS_slice _ _ _ _ _ _ (by omega) (by omega) rfl]
        simp [elSz]
      have wk : IntKind.i64.wrap ((k : Int) + 1) = ((k + 1 : Nat) : Int) := by rw [wrap_i64 (by omega) (by omega)]; rfl
      have hct := cells_take hkl
      simp -dsimp [hkl, hidx, hce', u0, u2, u3, u4]
      generalize hB2 : Array.setIfInBounds _ h1.size _ = h2
      have k2 : Keep none_ h1 h2 := by rw [← hB2]; exact ((Keep.refl none_ h1).pushed _).setted _ (fun hh => absurd hh (by omega))
      have hz2 : h2.size = h1.size + 1 := by rw [← hB2]; simp
      have hfb : h2[h1.size]? = some (.cells #[w0, .int .i64 wn, w2, w3, w4, .bool T[k].isSome] 68 (0, 0)) := by rw [← hB2]; exact set_same _ (by simp)
      have k02 := k1.trans k2 (fun _ _ h => h)
      have lo := hg.own_lt
      have hg2 : Grow rCell 39 E h2 (.slice va m vc) (cellsM (T.take k)) own := hg.mono (fun b hb => ⟨hb, k2.blk b (hE b hb).2 (fun h => h)⟩) fun b hb => ⟨fun hEb => by
        rcases hg with ⟨_, _, rfl⟩ | ⟨_, _, _, _, _, rfl, _, hn, _⟩
        · cases hb
        · cases hb; exact hn hEb, k2.blk b (lo b hb) (fun h => h)⟩
      cases hta : T[k] with
      | none =>
        rw [hta] at hfb hct
        simp only [List.append_nil] at hct
        rw [← hct] at hg2
        simp -dsimp [wk]
        refine ⟨(k + 1, .slice va m vc), ?_, rfl, ⟨k02, by show k + 1 ≤ T.length; omega, E, own, hg2, fun b hb => by have := hE b hb; omega, ho⟩, by show T.length - (k + 1) < T.length - k; omega⟩
        intro p hp
        simp at hp
        rcases hp with rfl | rfl | rfl | rfl <;> simp
      | some d =>
        rw [hta] at hfb hct hrs
        obtain ⟨ds0, hd1, hd2⟩ := hrs
        have hdl := rCell.len hd1
        obtain rfl : ds0 = [w0, .int .i64 wn, w2, w3, w4] := by
          match ds0, hdl with
          | [a, b, c, d, e], _ =>
            simp at hd2
            obtain ⟨rfl, rfl, rfl, rfl, rfl⟩ := hd2
            rfl
        have hd2' : rCell.rep R h2 [w0, .int .i64 wn, w2, w3, w4] d := rCell.mono hd1 fun b hb => ⟨hb, k2.blk b (by have := hRl b hb; omega) (fun h => h)⟩
        have hds : CellSmall d := hsm k d (by rw [List.getElem?_eq_getElem hkl, hta])
        simp -dsimp [hfb]
        refine call_by (hashOwn_spec hd2' (fun b hb => by have := hRl b hb; omega) hds) ?_
        rintro _ h3 ⟨ds, E3, rfl, hr3, k3, hE3⟩
        have e3 := k3.size
        have hlen3 := rCell.len hr3
        have hone3 := rCell.one hr3
        obtain ⟨z0, z1, z2, z3, z4, rfl⟩ : ∃ z0 z1 z2 z3 z4, ds = [z0, z1, z2, z3, z4] := by
          match ds, hlen3 with
          | [a, b, c, d, e], _ => exact ⟨a, b, c, d, e, rfl⟩
        simp only [List.all_cons, List.all_nil, Bool.and_true, Bool.and_eq_true] at hone3
        obtain ⟨y0, y1, y2, y3, y4⟩ := hone3
        have lo2 := hg2.own_lt
        have hg3 : Grow rCell 39 (fun b => E b ∨ E3 b) h3 (.slice va m vc) (cellsM (T.take k)) own := hg2.mono (fun b hb => ⟨.inl hb, k3.blk b (by have := (hE b hb).2; omega) (fun h => h)⟩) fun b hb => ⟨fun hEb => by
          rcases hEb with hEb | hEb
          · rcases hg with ⟨_, _, rfl⟩ | ⟨_, _, _, _, _, rfl, _, hn, _⟩
            · cases hb
            · cases hb; exact hn hEb
          · have := (hE3 b hEb).1; have := lo2 b hb; omega, k3.blk b (lo2 b hb) (fun h => h)⟩
        have hFF : ∀ b, E b ∨ E3 b → b < h3.size := fun b hb => hb.elim (fun h => by have := (hE b h).2; omega) (fun h => (hE3 b h).2)
        have hps : (h3.push (.cells #[z0, z1, z2, z3, z4] 39)).size = h3.size + 1 := by simp
        have hr4 : rCell.rep (fun b => E b ∨ E3 b) (h3.push (.cells #[z0, z1, z2, z3, z4] 39)) [z0, z1, z2, z3, z4] d := rCell.mono hr3 fun b hb => ⟨.inr hb, push_old _ (hE3 b hb).2⟩
        simp -dsimp
        refine append_grow (F := fun b => E b ∨ E3 b) (F2 := fun b => b = h3.size) (ys := [d]) cellT (hg3.push hFF _) (fun b hb => by have := hFF b hb; omega) rfl
          (.inr ⟨h3.size, 0, _, _, _, rfl, rfl, push_new _ _, rfl⟩) (.single hr4) (by rw [hm]; simp; omega) (by rw [hm]; simp; omega) ?_
        intro tv' h5 own' hg5 kk5 ho5
        rw [hps] at ho5
        have e5 := kk5.size
        rw [hps] at e5
        rw [← hct] at hg5
        simp -dsimp [wk]
        refine ⟨(k + 1, tv'), ?_, rfl, ⟨⟨by omega, fun b hb _ => by rw [kk5.blk b (by omega) (fun e => by have := ho b e; omega), push_old _ (by omega), k3.blk b (by omega) (fun h => h), k02.blk b hb (fun h => h)]⟩, by show k + 1 ≤ T.length; omega, _, own', hg5, fun b hb => hb.elim (fun h => by have := hE b h; omega) (fun h => by have := hE3 b h; omega), fun b hb => (ho5 b hb).elim (ho b) (fun h => by omega)⟩, by show T.length - (k + 1) < T.length - k; omega⟩
        intro p hp
        simp at hp
        rcases hp with rfl | rfl | rfl | rfl <;> simp
    · have hall : T.take k = T := List.take_of_length_le (by omega)
      rw [hall] at hg hm
      simp -dsimp [hkl]
      refine call_by (cloneCell_spec hg (fun b hb => (hE b hb).2) (by rw [hm]; omega)) ?_
      rintro _ h2 ⟨own2, hg2, k2, ho2⟩
      obtain ⟨a2, c2, hv2⟩ := hg2.val
      rw [hm] at hv2
      subst hv2
      have e2 := k2.size
      simp -dsimp
      exact hK _ _ ⟨E, own2, hg2, k1.trans k2 (fun _ _ h => h), fun b hb => by have := hE b hb; omega, fun b hb => by have := ho2 b hb; omega⟩
end Go.Proofs
