/-
  The document's store: what changes it.
-/
import Derived.Test.YtcopaleccjpdjaaR4
namespace Go.Proofs
open Go Go.HC

theorem RefC.widen {h : Heap} {M : Mod} {bs : Nat} {fv : Value} {of : Option Nat} {lv : Value} {ol : Option Nat} {R : Nat → Prop} (s : RefC h M bs fv of lv ol R) {G : Nat → Prop} (hG : ∀ b, G b → b < h.size ∧ b ≠ bs ∧ of ≠ some b ∧ ol ≠ some b) :
    RefC h M bs fv of lv ol (fun b => R b ∨ G b) where
  str := s.str
  fs := s.fs.mono (fun b hb => ⟨.inl hb, rfl⟩) fun b hb => ⟨fun hR => hR.elim (fun h => (s.sep b h).2.2.1 hb) (fun h => (hG b h).2.2.1 hb), rfl⟩
  tr := s.tr
  sep := fun b hb => hb.elim (s.sep b) (hG b)
  o1 := s.o1
  o2 := s.o2
  o3 := s.o3
  ok := s.ok

set_option maxRecDepth 10000 in
theorem rremove_spec {v : Value} {F : Nat → Prop} {h : Heap} {M : Mod} (s : RefAt v F h M) {n : Nat} (hn : M.Small n) (hn' : n < 1000000000) (x : Nm) :
    CallH Try.prog 43 #[v, .string x] h fun r h' => r = .int .i64 (M.remove x).1 ∧ ∃ F', RefAt v F' h' (M.remove x).2 ∧ Keep F h h' ∧ ∀ b, F' b → F b ∨ h.size ≤ b := by
  refine callH_by fun K hK => ?_
  have s0 := s
  have hfl := hn.files
  have htl := hn.trace
  obtain ⟨bs, fv, of, lv, ol, R, rfl, rfl, s⟩ := s
  refine enter [.tmp 4] Try.func43 rfl rfl (by kernel_rfl) rfl ?_
  simp -dsimp
  refine call_by (find_spec s0 (by omega) x) ?_
  rintro _ h' ⟨rfl, hh⟩
  obtain rfl := hh.symm
  unfold Mod.remove at hK
  cases hl : M.look x with
  | none =>
    rw [hl] at hK
    simp -dsimp
    exact hK _ _ ⟨rfl, _, s0, .refl _ _, fun b hb => .inl hb⟩
  | some g =>
    rw [hl] at hK
    simp -dsimp
    refine call_by (drop_spec s hl (by omega)) ?_
    rintro _ h1 ⟨rfl, fv1, of1, s1, k1, ho1⟩
    simp -dsimp
    refine call_by (done_spec s1 4 x (by show M.trace.length < _; omega)) ?_
    rintro _ h2 ⟨rfl, lv2, ol2, s2, k2, ho2⟩
    simp -dsimp
    have e1 := k1.size
    have e2 := k2.size
    refine hK _ _ ⟨rfl, _, s2.at, ⟨by omega, fun b hb hn => ?_⟩, rfoot_sub (fun b hb => .inr (ho1 b hb)) (fun b hb => (ho2 b hb).imp id fun h => by omega) (fun b hb => .inl hb)⟩
    rw [k2.blk b (by omega) (fun h => h.elim (fun h => hn (.inl h)) (fun h => hn (.inr (.inr (.inl h))))), k1.blk b hb (fun h => hn (.inl h))]

set_option maxRecDepth 10000 in
theorem rsync_spec {v : Value} {F : Nat → Prop} {h : Heap} {M : Mod} (s : RefAt v F h M) {n : Nat} (hn : M.Small n) (hn' : n < 1000000000) (x : Nm) :
    CallH Try.prog 28 #[v, .string x] h fun r h' => r = .int .i64 (M.sync x).1 ∧ ∃ F', RefAt v F' h' (M.sync x).2 ∧ Keep F h h' ∧ ∀ b, F' b → F b ∨ h.size ≤ b := by
  refine callH_by fun K hK => ?_
  have s0 := s
  have hfl := hn.files
  have htl := hn.trace
  obtain ⟨bs, fv, of, lv, ol, R, rfl, rfl, s⟩ := s
  refine enter [.tmp 4] Try.func28 rfl rfl (by kernel_rfl) rfl ?_
  have hs := s.str
  simp -dsimp
  refine call_by (find_spec s0 (by omega) x) ?_
  rintro _ h' ⟨rfl, hh⟩
  obtain rfl := hh.symm
  unfold Mod.sync at hK
  cases hl : M.look x with
  | none =>
    rw [hl] at hK
    simp -dsimp
    exact hK _ _ ⟨rfl, _, s0, .refl _ _, fun b hb => .inl hb⟩
  | some g =>
    rw [hl] at hK
    obtain ⟨hk, hat⟩ := at_pos s.ok.sorted hl
    have hput := put_old (f := ⟨g.now, some g.now, true⟩) s.ok.sorted hl
    generalize posF x M.files = k at hk hput hat ⊢
    obtain ⟨bk, c, o, hfv, how, hwr, hg1⟩ := s.fs.setF (d := 3) (news := [.bool true]) (x := (x, ⟨g.now, some g.now, true⟩)) hk (by decide) rfl (by
      rintro cs ⟨bv, ov, ox, had, rfl, r1, r2, r3⟩
      rw [hat] at r1 ⊢
      exact ⟨bv, ov, ox, had, rfl, r1, r2, rfl⟩)
    rw [← hput] at hg1
    subst hfv
    subst how
    have hidx : ∀ (K : Value → Heap → Prop) (h : Heap), indexAddrS Try.prog 81 (.slice (some ⟨bk, 0, none⟩) M.files.length c) (.int .i64 (k : Int)) h K = K (.pointer (some ⟨bk, k * 5, none⟩)) h := by
      intro K h
      rw [indexAddrS_slice _ _ _ _ _ _ (by omega) (by omega) rfl]
      simp [elSz]
    have hwr' : writeIn h[bk]? (k * 5 + 3) [.bool true] = some o := hwr
    simp -dsimp [hs, hidx, hwr']
    generalize hH : h.setIfInBounds bk o = h1 at hg1 ⊢
    have hz1 : h1.size = h.size := by rw [← hH]; simp
    have hold : ∀ b, b ≠ bk → h1[b]? = h[b]? := fun b hn => by rw [← hH, set_other _ (fun e => hn e.symm)]
    have hne : bk ≠ bs := fun e => s.o1 (by rw [e])
    have s1 : RefC h1 ⟨M.limit, putF x ⟨g.now, some g.now, true⟩ M.files, M.trace⟩ bs (.slice (some ⟨bk, 0, none⟩) M.files.length c) (some bk) lv ol R :=
      ⟨(hold bs hne.symm).trans hs, hg1, s.tr.mono (fun b hb => hb.elim) fun b hb => ⟨fun h => h, hold b (fun e => s.o3 bk rfl (e ▸ hb))⟩, fun b hb => ⟨by have := (s.sep b hb).1; omega, (s.sep b hb).2⟩, s.o1, s.o2, s.o3, s.ok.put (fun _ => rfl) _ _⟩
    refine call_by (done_spec s1 2 x (by show M.trace.length < _; omega)) ?_
    rintro _ h2 ⟨rfl, lv2, ol2, s2, k2, ho2⟩
    simp -dsimp
    have e2 := k2.size
    refine hK _ _ ⟨rfl, _, s2.at, ⟨by omega, fun b hb hn => ?_⟩, rfoot_sub (fun b hb => .inl hb) (fun b hb => (ho2 b hb).imp id fun h => by omega) (fun b hb => .inl hb)⟩
    rw [k2.blk b (by omega) (fun h => h.elim (fun h => hn (.inl h)) (fun h => hn (.inr (.inr (.inl h))))), hold b (fun e => hn (.inr (.inl (by rw [e]))))]

set_option maxHeartbeats 4000000 in
set_option maxRecDepth 10000 in
theorem rpublish_spec {v : Value} {F : Nat → Prop} {h : Heap} {M : Mod} (s : RefAt v F h M) {n : Nat} (hn : M.Small n) (hn' : n < 1000000000) (x y : Nm) :
    CallH Try.prog 33 #[v, .string x, .string y] h fun r h' => r = .int .i64 (M.publish x y).1 ∧ ∃ F', RefAt v F' h' (M.publish x y).2 ∧ Keep F h h' ∧ ∀ b, F' b → F b ∨ h.size ≤ b := by
  refine callH_by fun K hK => ?_
  have s0 := s
  have hfl := hn.files
  have htl := hn.trace
  obtain ⟨bs, fv, of, lv, ol, R, rfl, rfl, s⟩ := s
  refine enter [.tmp 6] Try.func33 rfl rfl (by kernel_rfl) rfl ?_
  have hs := s.str
  have hbl := lt_of_blk hs
  simp -dsimp
  refine call_by (right_spec y h) ?_
  rintro _ h' ⟨rfl, hh⟩
  obtain rfl := hh.symm
  unfold Mod.publish at hK
  cases hno : nameOk y with
  | false =>
    rw [hno] at hK
    simp -dsimp
    exact hK _ _ ⟨rfl, _, s0, .refl _ _, fun b hb => .inl hb⟩
  | true =>
    rw [hno] at hK
    simp -dsimp
    refine call_by (find_spec s0 (by omega) x) ?_
    rintro _ h' ⟨rfl, hh⟩
    obtain rfl := hh.symm
    cases hl : M.look x with
    | none =>
      rw [hl] at hK
      simp -dsimp
      exact hK _ _ ⟨rfl, _, s0, .refl _ _, fun b hb => .inl hb⟩
    | some g =>
      rw [hl] at hK
      obtain ⟨hk, hat⟩ := at_pos s.ok.sorted hl
      have hgok : g.Ok := s.ok.look hl
      have hdrop := fun (h' : Heap) (fv : Value) (s : RefC h' M bs fv of lv ol R) => drop_spec s hl (by omega)
      generalize posF x M.files = k at hk hat hdrop ⊢
      obtain ⟨fa, fc, rfl⟩ := s.fs.val
      obtain ⟨bk, off, cs, rfl, hF, hr, hc⟩ := s.fs.rep.get k hk
      have hbk : bk < h.size := by
        rcases hF with h | h
        · exact (s.sep _ h).1
        · exact s.fs.own_lt _ h
      obtain ⟨cs', _, hq1, hq2, hcel, hel⟩ := s.fs.cells
      have hrR : rFile.rep R h cs M.files[k] := by
        have hget := hel.get k hk
        rcases hcel with h0 | ⟨bk', off', arr, e, fz, he, hF', hb', ht⟩
        · exfalso
          have := hel.len
          rw [h0] at this
          have h2 : 0 < M.files.length * rFile.sz := Nat.mul_pos (by omega) rFile.pos
          simp at this
          omega
        · simp only [Option.some.injEq, Addr.mk.injEq, and_true] at he
          obtain ⟨rfl, rfl⟩ := he
          rw [hb', cellsIn_some] at hc
          split at hc
          · simp only [Option.some.injEq] at hc
            rw [← hc]
            rw [← ht, List.drop_take, List.take_take] at hget
            rw [List.drop_drop] at hget
            have hlen := hel.len
            have h3 : k * rFile.sz + rFile.sz ≤ cs'.length := by
              rw [hlen, ← Nat.succ_mul]; exact Nat.mul_le_mul_right _ hk
            rw [Nat.min_eq_left (by omega)] at hget
            exact hget
          · cases hc
      obtain ⟨bv, ov, ox, had, rfl, r1, r2, r3⟩ := hrR
      rw [hat] at r1 r3 hc
      obtain ⟨ba, bc, rfl, _, _⟩ := r1.val
      obtain ⟨oa, oc, rfl, _, _⟩ := r2.val
      have hcell : cellIn h[bk]? (off + k * 5 + 3) = some (.bool g.safe) := by
        have := cellsIn_cell (d := 3) hc (by decide)
        simpa [rFile] using this
      have hcells : HC.cellsIn h[bk]? (off + k * 5) 5 = some [.string x, .slice ba g.now.length bc, .slice oa ox.length oc, .bool g.safe, .bool had] := hc
      have hidx : ∀ (K : Value → Heap → Prop) (h : Heap), indexAddrS Try.prog 81 (.slice (some ⟨bk, off, none⟩) M.files.length fc) (.int .i64 (k : Int)) h K = K (.pointer (some ⟨bk, off + k * 5, none⟩)) h := by
        intro K h
        rw [indexAddrS_slice _ _ _ _ _ _ (by omega) (by omega) rfl]
        simp [elSz]
      cases hsf : g.safe with
      | false =>
        rw [hsf] at hcell
        simp only [hsf] at hK
        simp -dsimp [hs, hidx, hcell]
        exact hK _ _ ⟨rfl, _, s0, .refl _ _, fun b hb => .inl hb⟩
      | true =>
        rw [hsf] at hcell hcells
        simp only [hsf] at hK
        have hg : g = ⟨g.now, some g.now, true⟩ := by
          have h1 := hgok hsf
          obtain ⟨nw, su, sf⟩ := g
          simp only at h1 hsf ⊢
          rw [h1, hsf]
        simp -dsimp [hs, hidx, hcell]
        refine call_by (find_spec s0 (by omega) y) ?_
        rintro _ h' ⟨rfl, hh⟩
        obtain rfl := hh.symm
        cases hly : M.look y with
        | some g2 =>
          rw [hly] at hK
          simp -dsimp
          exact hK _ _ ⟨rfl, _, s0, .refl _ _, fun b hb => .inl hb⟩
        | none =>
          rw [hly] at hK
          simp -dsimp [hs, hidx, hcells]
          generalize hH : Array.setIfInBounds _ h.size _ = h1
          have hz1 : h1.size = h.size + 1 := by rw [← hH]; simp
          have k1 : Keep none_ h h1 := by rw [← hH]; exact ((Keep.refl none_ h).pushed _).setted _ (fun hh => absurd hh (by omega))
          have hb1 : h1[h.size]? = some (.cells #[.string x, .slice ba g.now.length bc, .slice oa ox.length oc, .bool true, .bool had] 89 (0, 0)) := by rw [← hH]; exact set_same _ (by simp)
          have s1 := s.mono (h' := h1) (by omega) fun b hb => k1.blk b (s.lt b hb) (fun h => h)
          refine call_by (hdrop h1 _ s1) ?_
          rintro _ h2 ⟨rfl, fv2, of2, s2, k2, ho2⟩
          have hb2 := k2.at hb1 (by omega)
          have e2 := k2.size
          have hRl : ∀ b, R b → b < h.size := fun b hb => (s.sep b hb).1
          have hdl := (delF_sub x M.files).length_le
          have hr2 : rFile.rep R h2 [.string y, .slice ba g.now.length bc, .slice none 0 0, .bool true, .bool false] (y, ⟨g.now, some g.now, true⟩) :=
            ⟨_, .slice none 0 0, [], false, rfl, r1.mono fun b hb => ⟨hb, by rw [k2.blk b (by have := hRl b hb; omega) (s.sep b hb).2.1, k1.blk b (hRl b hb) (fun h => h)]⟩, .nil _ _ _, rfl⟩
          simp -dsimp [hb2]
          refine call_by (put_spec s2 hr2 (fun _ => rfl) (by show (delF x M.files).length < _; omega)) ?_
          rintro _ h3 ⟨rfl, fv3, of3, s3, k3, ho3⟩
          simp -dsimp
          refine call_by (done_spec s3 3 y (by show M.trace.length < _; omega)) ?_
          rintro _ h4 ⟨rfl, lv4, ol4, s4, k4, ho4⟩
          have e3 := k3.size
          have e4 := k4.size
          simp -dsimp
          have hfin : RefC h4 ⟨M.limit, putF y g (delF x M.files), M.trace ++ [(3, y)]⟩ bs fv3 of3 lv4 ol4 R := by
            rw [hg]; exact s4
          have hlol := s.tr.own_lt
          have hlof := s.fs.own_lt
          refine hK _ _ ⟨rfl, _, hfin.at, ⟨by omega, fun b hb hn => ?_⟩, rfoot_sub (fun b hb => (ho3 b hb).elim (fun e => .inr (by have := ho2 b e; omega)) (fun h => .inr (by omega))) (fun b hb => (ho4 b hb).imp id fun h => by omega) (fun b hb => .inl hb)⟩
          rw [k4.blk b (by omega) (fun h => h.elim (fun h => hn (.inl h)) (fun h => hn (.inr (.inr (.inl h))))), k3.blk b (by omega) (fun h => h.elim (fun h => hn (.inl h)) (fun h => by have := ho2 b h; omega)), k2.blk b (by omega) (fun h => hn (.inl h)), k1.blk b hb (fun h => h)]
end Go.Proofs
