/-
  The contract of the program's store: a file is published.
-/
import Derived.Test.YtcopaleccjpdjaaS4
namespace Go.Proofs
open Go Go.HC

set_option maxRecDepth 10000 in
theorem publish_spec {v : Value} {F : Nat → Prop} {h : Heap} {M : Mod} (s : StAt v F h M) {n : Nat} (hn : M.Small n) (hn' : n < 1000000000) (x y : Nm) :
    CallH Try.prog 32 #[v, .string x, .string y] h fun r h' => r = .int .i64 (M.publish x y).1 ∧ ∃ F', StAt v F' h' (M.publish x y).2 ∧ Keep F h h' ∧ ∀ b, F' b → F b ∨ h.size ≤ b := by
  obtain ⟨bs, bm, es, clock, tv, own, R, rfl, rfl, s⟩ := s
  refine enter [.tmp 6] Try.func32 rfl rfl (by kernel_rfl) rfl ?_
  have hs := s.str
  simp -dsimp
  refine call_by (name_spec y h) ?_
  rintro _ h0 ⟨rfl, hh⟩
  obtain rfl := hh.symm
  cases hnm : nameOk y with
  | false =>
    have hw : M.publish x y = (1, M) := by simp [Mod.publish, hnm]
    rw [hw]
    simp -dsimp
    exact ⟨_, s.fin, .refl _ _, fun b hb => .inl hb⟩
  | true =>
  simp -dsimp [hs]
  rw [lookup_str (kt := 9) (et := 71) (by simp) (by kernel_rfl) Try.zS71 s.map]
  obtain ⟨q1, q2⟩ := s.files.zero x
  rw [q2]
  generalize hfv : (getE x es).getD _ = fv at q1 ⊢
  have q1' := q1
  obtain ⟨nv, sv, sx, si, rfl, q5, q6, q7⟩ := q1
  obtain ⟨a1, c1, rfl, _, _⟩ := q5.val
  obtain ⟨a2, c2, rfl, _, _⟩ := q6.val
  simp -dsimp
  generalize hH : (Array.push _ _).setIfInBounds _ _ = h1
  have k1 : Keep none_ h h1 := by rw [← hH]; exact ((Keep.refl none_ h).pushed _).setted _ (fun hh => absurd hh (by omega))
  have s1 := s.mono k1.size fun b hb => k1.blk b (s.lt b hb) (by simp [none_])
  have hf1 : h1[h.size]? = some (.cells #[.slice a1 ((lookF x M.files).getD noFile).now.length c1, .slice a2 sx.length c2, .bool si, .bool ((lookF x M.files).getD noFile).safe] 71 (0, 0)) := by
    rw [← hH]; exact set_same _ (by simp)
  have hs1 := s1.str
  simp -dsimp [hs1]
  rw [lookup_str (kt := 9) (et := 71) (by simp) (by kernel_rfl) Try.zS71 s1.map]
  obtain ⟨p1, p2⟩ := s.files.zero y
  rw [p2]
  generalize (getE y es).getD _ = gv at p1 ⊢
  obtain ⟨nv', sv', sx', si', rfl, p5, p6, p7⟩ := p1
  obtain ⟨b1, d1, rfl, _, _⟩ := p5.val
  obtain ⟨b2, d2, rfl, _, _⟩ := p6.val
  simp -dsimp
  generalize hH2 : (Array.push _ _).setIfInBounds _ _ = h2
  have k2 : Keep none_ h1 h2 := by rw [← hH2]; exact ((Keep.refl none_ h1).pushed _).setted _ (fun hh => absurd hh (by omega))
  have k12 := k1.trans k2 (fun _ _ h => h)
  have s2 := s1.mono k2.size fun b hb => k2.blk b (s1.lt b hb) (by simp [none_])
  have hf2 := k2.at hf1 (by simp [none_])
  have hs2 := s2.str
  cases hl : lookF x M.files with
  | none =>
    have hw : M.publish x y = (5, M) := by simp [Mod.publish, hnm, Mod.look, hl]
    rw [hw]
    simp -dsimp
    exact ⟨_, s2.fin, k12.none, fun b hb => .inl hb⟩
  | some f =>
  rw [hl] at hf2 q1'
  simp only [Option.getD_some] at hf2 q1'
  simp -dsimp [hf2]
  cases hsf : f.safe with
  | false =>
    have hw : M.publish x y = (6, M) := by simp [Mod.publish, hnm, Mod.look, hl, hsf]
    rw [hw]
    simp -dsimp
    exact ⟨_, s2.fin, k12.none, fun b hb => .inl hb⟩
  | true =>
  simp -dsimp
  cases hl2 : lookF y M.files with
  | some g =>
    have hw : M.publish x y = (9, M) := by simp [Mod.publish, hnm, Mod.look, hl, hsf, hl2]
    rw [hw]
    simp -dsimp
    exact ⟨_, s2.fin, k12.none, fun b hb => .inl hb⟩
  | none =>
  have hw : M.publish x y = (0, ⟨M.limit, putF y f (delF x M.files), M.trace ++ [(3, y)]⟩) := by simp [Mod.publish, hnm, Mod.look, hl, hsf, hl2]
  rw [hw]
  simp -dsimp [hs2]
  rw [delete_str (T := 64) (kt := 9) (et := 71) rfl (by simp) (by kernel_rfl) s2.map]
  generalize hH4 : h2.setIfInBounds bm _ = h4
  have hbm : bm < h2.size := lt_of_blk s2.map
  have k4 : Keep (fun b => b = bm) h2 h4 := by rw [← hH4]; exact .set h2 _ (fun _ => rfl)
  have k04 : Keep (fun b => b = bm) h h4 := k12.none.trans k4 (fun _ _ h => h)
  have hb4 : h4[bm]? = some (.map (entsOf kStr (delE x es)) clock) := by
    rw [← hH4]; exact set_same _ hbm
  have s4 := s.del hb4 k04
  have hs4 := s4.str
  have hlt : h.size < h1.size := lt_of_blk hf1
  have hne : h.size ≠ bm := by have := lt_of_blk s.map; omega
  have hf4 : h4[h.size]? = some (.cells #[.slice a1 f.now.length c1, .slice a2 sx.length c2, .bool si, .bool f.safe] 71 (0, 0)) :=
    (k4.blk _ (Nat.lt_of_lt_of_le hlt k2.size) hne).trans hf2
  simp -dsimp
  refine drawn_by [⟨0, true, []⟩, ⟨1, true, []⟩, ⟨2, true, []⟩, ⟨3, true, []⟩, ⟨4, true, []⟩, ⟨5, true, []⟩, ⟨6, false, []⟩] (by kernel_rfl) (by kernel_rfl) ?_
  simp -dsimp [hs4, hf4]
  rw [update_str (kt := 9) (et := 71) (by simp) (by kernel_rfl) s4.map]
  generalize hH6 : h4.setIfInBounds bm _ = h6
  have k6 : Keep (fun b => b = bm) h4 h6 := by rw [← hH6]; exact .set h4 _ (fun _ => rfl)
  have k06 : Keep (fun b => b = bm) h h6 := k04.trans k6 (fun _ _ h => h)
  have hb6 : h6[bm]? = some (.map (entsOf kStr (putE y (.agg #[.slice a1 f.now.length c1, .slice a2 sx.length c2, .bool si, .bool f.safe]) clock (delE x es))) (clockE y (delE x es) clock)) := by
    rw [← hH6]; exact set_same _ (lt_of_blk s4.map)
  have s6 := s4.put (R' := R) (x := y) (f := f) hb6 k6 (q1'.mono fun b hb => ⟨hb, k06.blk b (s.sep b hb).1 (s.sep b hb).2.2.1⟩) (fun b hb => hb) (fun b hb => .inl hb) (s.ok.look hl)
  have hs6 := s6.str
  simp -dsimp
  refine call_by (did_spec s6 3 y (by have := hn.trace; simp only; omega)) ?_
  rintro _ h5 ⟨rfl, tv5, own5, s5, k5, ho5⟩
  simp -dsimp
  refine ⟨_, s5.fin, (k06.weaken (fun b _ hb => .inr (.inl hb))).trans k5 (fun b hb hf => hf), fun b hb => (ho5 b hb).imp id fun h => by have := k06.size; omega⟩
end Go.Proofs
