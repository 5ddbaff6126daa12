/-
  The contracts of what is done to the program's store: a file is made sure, published, removed; what was done is told.
-/
import Derived.Test.YtcopaleccjpdjaaS3
namespace Go.Proofs
open Go Go.HC

set_option maxRecDepth 10000 in
theorem sync_spec {v : Value} {F : Nat → Prop} {h : Heap} {M : Mod} (s : StAt v F h M) {n : Nat} (hn : M.Small n) (hn' : n < 1000000000) (x : Nm) :
    CallH Try.prog 27 #[v, .string x] h fun r h' => r = .int .i64 (M.sync x).1 ∧ ∃ F', StAt v F' h' (M.sync x).2 ∧ Keep F h h' ∧ ∀ b, F' b → F b ∨ h.size ≤ b := by
  obtain ⟨bs, bm, es, clock, tv, own, R, rfl, rfl, s⟩ := s
  refine enter [.tmp 4] Try.func27 rfl rfl (by kernel_rfl) rfl ?_
  have hs := s.str
  simp -dsimp [hs]
  rw [lookup_str (kt := 9) (et := 71) (by simp) (by kernel_rfl) Try.zS71 s.map]
  obtain ⟨q1, q2⟩ := s.files.zero x
  rw [q2]
  generalize (getE x es).getD _ = fv at q1 ⊢
  obtain ⟨nv, sv, sx, si, rfl, q5, q6, q7⟩ := q1
  obtain ⟨a1, c1, rfl, _, _⟩ := q5.val
  obtain ⟨a2, c2, rfl, _, _⟩ := q6.val
  simp -dsimp
  generalize hH : (Array.push _ _).setIfInBounds _ _ = h1
  have k1 : Keep none_ h h1 := by rw [← hH]; exact ((Keep.refl none_ h).pushed _).setted _ (fun hh => absurd hh (by omega))
  have s1 := s.mono k1.size fun b hb => k1.blk b (s.lt b hb) (by simp [none_])
  have hf1 : h1[h.size]? = some (.cells #[.slice a1 ((lookF x M.files).getD noFile).now.length c1, .slice a2 sx.length c2, .bool si, .bool ((lookF x M.files).getD noFile).safe] 71 (0, 0)) := by
    rw [← hH]; exact set_same _ (by simp)
  have hs1 := s1.str
  cases hl : lookF x M.files with
  | none =>
    have hw : M.sync x = (5, M) := by simp [Mod.sync, Mod.look, hl]
    rw [hw]
    simp -dsimp
    exact ⟨_, s1.fin, k1.none, fun b hb => .inl hb⟩
  | some f =>
  have hw : M.sync x = (0, ⟨M.limit, putF x ⟨f.now, some f.now, true⟩ M.files, M.trace ++ [(2, x)]⟩) := by simp [Mod.sync, Mod.look, hl]
  rw [hw]
  rw [hl] at hf1 q5
  simp only [Option.getD_some] at hf1 q5
  simp -dsimp
  refine drawn_by [⟨0, true, []⟩, ⟨1, true, []⟩, ⟨2, true, []⟩, ⟨3, true, []⟩, ⟨4, true, []⟩, ⟨5, true, []⟩, ⟨6, true, []⟩, ⟨7, true, []⟩, ⟨8, true, []⟩, ⟨9, false, [0, 1, 2, 3, 4, 5, 6]⟩, ⟨10, false, [0, 1, 2, 3, 4]⟩, ⟨11, false, []⟩] (by kernel_rfl) (by kernel_rfl) ?_
  simp -dsimp [hs1, hf1, again_cons]
  rw [update_str (kt := 9) (et := 71) (by simp) (by kernel_rfl) s1.map]
  generalize hH4 : h1.setIfInBounds bm _ = h4
  have hbm : bm < h1.size := lt_of_blk s1.map
  have k4 : Keep (fun b => b = bm) h1 h4 := by rw [← hH4]; exact .set h1 _ (fun _ => rfl)
  have k04 : Keep (fun b => b = bm) h h4 := k1.none.trans k4 (fun _ _ h => h)
  have hb4 : h4[bm]? = some (.map (entsOf kStr (putE x (.agg #[.slice a1 f.now.length c1, .slice a1 f.now.length c1, .bool true, .bool true]) clock es)) (clockE x es clock)) := by
    rw [← hH4]; exact set_same _ hbm
  have q5' := q5.mono (F' := R) (h' := h4) fun b hb => ⟨hb, k04.blk b (s.sep b hb).1 (s.sep b hb).2.2.1⟩
  have s4 := s.put (R' := R) (f := ⟨f.now, some f.now, true⟩) hb4 k04 ⟨_, _, f.now, true, rfl, q5', q5', rfl⟩ (fun b hb => hb) (fun b hb => .inl hb) (fun _ => rfl)
  have hs4 := s4.str
  simp -dsimp
  refine call_by (did_spec s4 2 x (by have := hn.trace; simp only; omega)) ?_
  rintro _ h5 ⟨rfl, tv5, own5, s5, k5, ho5⟩
  simp -dsimp
  refine ⟨_, s5.fin, (k04.weaken (fun b _ hb => .inr (.inl hb))).trans k5 (fun b hb hf => hf), fun b hb => (ho5 b hb).imp id fun h => by have := k04.size; omega⟩

set_option maxRecDepth 10000 in
theorem remove_spec {v : Value} {F : Nat → Prop} {h : Heap} {M : Mod} (s : StAt v F h M) {n : Nat} (hn : M.Small n) (hn' : n < 1000000000) (x : Nm) :
    CallH Try.prog 19 #[v, .string x] h fun r h' => r = .int .i64 (M.remove x).1 ∧ ∃ F', StAt v F' h' (M.remove x).2 ∧ Keep F h h' ∧ ∀ b, F' b → F b ∨ h.size ≤ b := by
  obtain ⟨bs, bm, es, clock, tv, own, R, rfl, rfl, s⟩ := s
  refine enter [.tmp 4] Try.func19 rfl rfl (by kernel_rfl) rfl ?_
  have hs := s.str
  simp -dsimp [hs]
  rw [lookup_str (kt := 9) (et := 71) (by simp) (by kernel_rfl) Try.zS71 s.map]
  obtain ⟨q1, q2⟩ := s.files.zero x
  rw [q2]
  generalize (getE x es).getD _ = fv at q1 ⊢
  obtain ⟨nv, sv, sx, si, rfl, q5, q6, q7⟩ := q1
  obtain ⟨a1, c1, rfl, _, _⟩ := q5.val
  obtain ⟨a2, c2, rfl, _, _⟩ := q6.val
  simp -dsimp
  generalize hH : (Array.push _ _).setIfInBounds _ _ = h1
  have k1 : Keep none_ h h1 := by rw [← hH]; exact ((Keep.refl none_ h).pushed _).setted _ (fun hh => absurd hh (by omega))
  have s1 := s.mono k1.size fun b hb => k1.blk b (s.lt b hb) (by simp [none_])
  have hs1 := s1.str
  cases hl : lookF x M.files with
  | none =>
    have hw : M.remove x = (5, M) := by simp [Mod.remove, Mod.look, hl]
    rw [hw]
    simp -dsimp
    exact ⟨_, s1.fin, k1.none, fun b hb => .inl hb⟩
  | some f =>
  have hw : M.remove x = (0, ⟨M.limit, delF x M.files, M.trace ++ [(4, x)]⟩) := by simp [Mod.remove, Mod.look, hl]
  rw [hw]
  simp -dsimp [hs1]
  rw [delete_str (T := 64) (kt := 9) (et := 71) rfl (by simp) (by kernel_rfl) s1.map]
  generalize hH4 : h1.setIfInBounds bm _ = h4
  have hbm : bm < h1.size := lt_of_blk s1.map
  have k4 : Keep (fun b => b = bm) h1 h4 := by rw [← hH4]; exact .set h1 _ (fun _ => rfl)
  have k04 : Keep (fun b => b = bm) h h4 := k1.none.trans k4 (fun _ _ h => h)
  have hb4 : h4[bm]? = some (.map (entsOf kStr (delE x es)) clock) := by
    rw [← hH4]; exact set_same _ hbm
  have s4 := s.del hb4 k04
  have hs4 := s4.str
  simp -dsimp
  refine call_by (did_spec s4 4 x (by have := hn.trace; simp only; omega)) ?_
  rintro _ h5 ⟨rfl, tv5, own5, s5, k5, ho5⟩
  simp -dsimp
  refine ⟨_, s5.fin, (k04.weaken (fun b _ hb => .inr (.inl hb))).trans k5 (fun b hb hf => hf), fun b hb => (ho5 b hb).imp id fun h => by have := k04.size; omega⟩

theorem ops_free {F G : Nat → Prop} {h h' : Heap} : ∀ {xs : List (Int × Nm)} {cs : List Value}, Elems rOp F h cs xs → Elems rOp G h' cs xs
  | [], _, h => h
  | _ :: _, _, ⟨c1, c2, e, ⟨d1, d2, e1, h1, h2⟩, h3⟩ => ⟨c1, c2, e, ⟨d1, d2, e1, h1, h2⟩, ops_free h3⟩
set_option maxRecDepth 10000 in
theorem trace_spec {v : Value} {F : Nat → Prop} {h : Heap} {M : Mod} (s : StAt v F h M) {n : Nat} (hn : M.Small n) (hn' : n < 1000000000) :
    CallH Try.prog 31 #[v] h fun r h' => ∃ own, Grow rOp 53 none_ h' r M.trace own ∧ Keep none_ h h' ∧ ∀ b, own = some b → h.size ≤ b := by
  obtain ⟨bs, bm, es, clock, tv, own, R, rfl, rfl, s⟩ := s
  refine enter [.tmp 2] Try.func31 rfl rfl (by kernel_rfl) rfl ?_
  have hs := s.str
  have htr := s.tr
  obtain ⟨a, c, rfl⟩ := s.tr.val
  simp -dsimp [hs]
  refine call_by (clone_op s.tr.rep (fun b hb => hb.elim (fun h => h.elim) (s.tr.own_lt b)) (by have := hn.trace; omega)) ?_
  rintro r h2 ⟨own2, hg, hk, ho⟩
  obtain ⟨a', c', rfl⟩ := hg.val
  simp -dsimp
  refine ⟨own2, ?_, hk, ho⟩
  rcases hg with hn | ⟨bk, c, arr, cs, e1, e2, e3, e4, e5, e6, e7, e8, e9⟩
  · exact .inl hn
  · exact .inr ⟨bk, c, arr, cs, e1, e2, e3, fun h => h, e5, e6, e7, e8, ops_free e9⟩
end Go.Proofs
