/-
  The document's store: what looks only: used, names, read, trace.
-/
import Derived.Test.YtcopaleccjpdjaaR3
namespace Go.HC
theorem used_take : ∀ {l : Files} {i : Nat} (h : i < l.length), usedF (l.take (i + 1)) = usedF (l.take i) + l[i].2.now.length
  | p :: l, 0, _ => by simp
  | p :: l, i + 1, h => by
    simp only [List.take_succ_cons, usedF_cons, List.getElem_cons_succ]
    rw [used_take (l := l) (i := i) (by simpa using h)]; omega
theorem used_take_le : ∀ {l : Files} {i : Nat}, usedF (l.take i) ≤ usedF l
  | [], i => by simp
  | p :: l, 0 => by simp
  | p :: l, i + 1 => by
    simp only [List.take_succ_cons, usedF_cons]
    have := used_take_le (l := l) (i := i); omega
end Go.HC
namespace Go.Proofs
open Go Go.HC
theorem rfoot_sub {bs n : Nat} {of of' ol ol' : Option Nat} {R R' : Nat → Prop} (h1 : ∀ b, of' = some b → of = some b ∨ n ≤ b) (h2 : ∀ b, ol' = some b → ol = some b ∨ n ≤ b) (h3 : ∀ b, R' b → R b ∨ n ≤ b) : ∀ b, rfoot bs of' ol' R' b → rfoot bs of ol R b ∨ n ≤ b := by
  rintro b (rfl | h | h | h)
  · exact .inl (.inl rfl)
  · exact (h1 b h).imp (fun h => .inr (.inl h)) id
  · exact (h2 b h).imp (fun h => .inr (.inr (.inl h))) id
  · exact (h3 b h).imp (fun h => .inr (.inr (.inr h))) id

set_option maxRecDepth 10000 in
theorem rused_spec {v : Value} {F : Nat → Prop} {h : Heap} {M : Mod} (s : RefAt v F h M) (hn : usedF M.files < 1099511627776) (hn' : M.files.length < 1000000000) :
    CallH Try.prog 45 #[v] h fun r h' => r = .int .i64 (usedF M.files) ∧ h' = h := by
  refine callH_by fun K hK => ?_
  obtain ⟨bs, fv, of, lv, ol, R, rfl, rfl, s⟩ := s
  refine enter [.tmp 2] Try.func45 rfl rfl (by kernel_rfl) rfl ?_
  have hs := s.str
  obtain ⟨fa, fc, rfl⟩ := s.fs.val
  have hrep := s.fs.rep
  simp -dsimp
  refine loop' (σ := Nat) (fun k => [(0, .pointer (some ⟨bs, 0, none⟩)), (3, .int .i64 (usedF (M.files.take k))), (4, .int .i64 k)]) (fun _ => []) (fun k h' => h' = h ∧ k ≤ M.files.length) (fun k => M.files.length - k) 0 ?_ rfl ⟨rfl, Nat.zero_le _⟩ (by kernel_rfl) ?_
  · intro p hp
    simp at hp
    rcases hp with rfl | rfl | rfl <;> simp
  · rintro k h' g ⟨rfl, hk⟩
    by_cases hkl : k < M.files.length
    · obtain ⟨bk, off, cs, rfl, hF, hr, hc⟩ := hrep.get k hkl
      obtain ⟨bv, ov, ox, had, rfl, h1, h2, h3⟩ := hr
      obtain ⟨ba, bc, rfl, _, _⟩ := h1.val
      have hcell : cellIn h'[bk]? (off + k * 5 + 1) = some (.slice ba M.files[k].2.now.length bc) := by
        have := cellsIn_cell (d := 1) hc (by decide)
        simpa [rFile] using this
      have hidx : ∀ (K : Value → Heap → Prop) (h : Heap), indexAddrS Try.prog 81 (.slice (some ⟨bk, off, none⟩) M.files.length fc) (.int .i64 (k : Int)) h K = K (.pointer (some ⟨bk, off + k * 5, none⟩)) h := by
        intro K h
        rw [indexAddrS_slice _ _ _ _ _ _ (by omega) (by omega) rfl]
        simp [elSz]
      have wk : IntKind.i64.wrap ((k : Int) + 1) = ((k + 1 : Nat) : Int) := by rw [wrap_i64 (by omega) (by omega)]; rfl
      have hut := used_take hkl
      have hul := used_take_le (l := M.files) (i := k + 1)
      have wu : IntKind.i64.wrap ((usedF (M.files.take k) : Int) + (M.files[k].2.now.length : Int)) = ((usedF (M.files.take (k + 1)) : Nat) : Int) := by rw [wrap_i64 (by omega) (by omega)]; omega
      simp -dsimp [hs, hkl, hidx, hcell, wk, wu]
      refine ⟨k + 1, ?_, rfl, ⟨rfl, by omega⟩, by show M.files.length - (k + 1) < M.files.length - k; omega⟩
      intro p hp
      simp at hp
      rcases hp with rfl | rfl | rfl <;> simp
    · have hall : M.files.take k = M.files := List.take_of_length_le (by omega)
      simp -dsimp [hs, hkl, hall]
      exact hK _ _ ⟨rfl, rfl⟩

set_option maxRecDepth 10000 in
theorem rnames_spec {v : Value} {F : Nat → Prop} {h : Heap} {M : Mod} (s : RefAt v F h M) (hn' : M.files.length < 1000000000) :
    CallH Try.prog 44 #[v] h fun r h' => ∃ own, Grow rStr 9 none_ h' r M.names own ∧ Keep none_ h h' ∧ ∀ b, own = some b → h.size ≤ b := by
  refine callH_by fun K hK => ?_
  obtain ⟨bs, fv, of, lv, ol, R, rfl, rfl, s⟩ := s
  refine enter [.tmp 2] Try.func44 rfl rfl (by kernel_rfl) rfl ?_
  obtain ⟨fa, fc, rfl⟩ := s.fs.val
  simp -dsimp
  refine loop' (σ := Nat × Value) (fun t => [(0, .pointer (some ⟨bs, 0, none⟩)), (3, t.2), (4, .int .i64 t.1)]) (fun _ => [])
    (fun t h' => Keep none_ h h' ∧ t.1 ≤ M.files.length ∧ ∃ own, Grow rStr 9 none_ h' t.2 (M.names.take t.1) own ∧ ∀ b, own = some b → h.size ≤ b) (fun t => M.files.length - t.1) (0, .slice none 0 0) ?_ rfl ⟨.refl _ _, Nat.zero_le _, none, .nil _ _ _ _, fun b hb => by cases hb⟩ (by kernel_rfl) ?_
  · intro p hp
    simp at hp
    rcases hp with rfl | rfl | rfl <;> simp
  · rintro ⟨k, tv⟩ h1 g ⟨k1, hk, own, hg, ho⟩
    simp only at hk hg
    have s1 := s.mono k1.size fun b hb => k1.blk b (s.lt b hb) (fun h => h)
    have hs := s1.str
    have hrep := s1.fs.rep
    have hnl : M.names.length = M.files.length := by simp [Mod.names]
    by_cases hkl : k < M.files.length
    · obtain ⟨bk, off, cs, rfl, hF, hr, hc⟩ := hrep.get k hkl
      obtain ⟨bv, ov, ox, had, rfl, h1', h2, h3⟩ := hr
      have hcell : cellIn h1[bk]? (off + k * 5) = some (.string M.files[k].1) := by
        have := cellsIn_cell (d := 0) hc (by decide)
        simpa [rFile] using this
      have hidx : ∀ (K : Value → Heap → Prop) (h : Heap), indexAddrS Try.prog 81 (.slice (some ⟨bk, off, none⟩) M.files.length fc) (.int .i64 (k : Int)) h K = K (.pointer (some ⟨bk, off + k * 5, none⟩)) h := by
        intro K h
        rw [indexAddrS_slice _ _ _ _ _ _ (by omega) (by omega) rfl]
        simp [elSz]
      have wk : IntKind.i64.wrap ((k : Int) + 1) = ((k + 1 : Nat) : Int) := by rw [wrap_i64 (by omega) (by omega)]; rfl
      have htk : (M.names.take k).length = k := by rw [List.length_take, hnl]; omega
      obtain ⟨ta, tc, htv⟩ := hg.val
      rw [htk] at htv
      subst htv
      simp -dsimp [hs, hkl, hidx, hcell]
      have l1 := hg.own_lt
      refine append_grow (F2 := fun b => b = h1.size) (ys := [M.files[k].1]) strT (hg.push (fun _ h => h.elim) _) (fun _ h => h.elim) rfl
        (.inr ⟨h1.size, 0, _, _, _, rfl, rfl, push_new _ _, rfl⟩) (.single rfl) (by rw [htk]; simp; omega) (by rw [htk]; simp; omega) ?_
      intro tv' h2 own' hg2 kk2 ho2
      have hps : (h1.push (.cells #[.string M.files[k].1] 9)).size = h1.size + 1 := by simp
      rw [hps] at ho2
      have e2 := kk2.size
      have e1 := k1.size
      rw [hps] at e2
      have hnt : M.names.take k ++ [M.files[k].1] = M.names.take (k + 1) := by
        rw [List.take_add_one, List.getElem?_eq_getElem (by omega)]
        simp [Mod.names]
      rw [hnt] at hg2
      simp -dsimp [wk]
      refine ⟨(k + 1, tv'), ?_, rfl, ⟨⟨by omega, fun b hb _ => by rw [kk2.blk b (by omega) (fun e => by have := ho b e; omega), push_old _ (by omega), k1.blk b hb (fun h => h)]⟩, by show k + 1 ≤ M.files.length; omega, own', hg2, fun b hb => (ho2 b hb).elim (ho b) (fun h => by omega)⟩, by show M.files.length - (k + 1) < M.files.length - k; omega⟩
      intro p hp
      simp at hp
      rcases hp with rfl | rfl | rfl <;> simp
    · have hall : M.names.take k = M.names := List.take_of_length_le (by omega)
      rw [hall] at hg
      simp -dsimp [hs, hkl]
      exact hK _ _ ⟨own, hg, k1, ho⟩

set_option maxRecDepth 10000 in
theorem rread_spec {v : Value} {F : Nat → Prop} {h : Heap} {M : Mod} (s : RefAt v F h M) (hn : usedF M.files < 1000000000) (hn' : M.files.length < 1000000000) (x : Nm) :
    CallH Try.prog 26 #[v, .string x] h fun r h' => ∃ u own, r = .tuple #[u, .bool (M.look x).isSome] ∧ Grow rByte 5 none_ h' u (M.nowOf x) own ∧ Keep none_ h h' ∧ ∀ b, own = some b → h.size ≤ b := by
  refine callH_by fun K hK => ?_
  have s0 := s
  obtain ⟨bs, fv, of, lv, ol, R, rfl, rfl, s⟩ := s
  refine enter [.tmp 4, .tmp 5] Try.func26 rfl rfl (by kernel_rfl) rfl ?_
  have hs := s.str
  obtain ⟨fa, fc, rfl⟩ := s.fs.val
  simp -dsimp
  refine call_by (find_spec s0 hn' x) ?_
  rintro _ h' ⟨rfl, hh⟩
  obtain rfl := hh.symm
  cases hl : M.look x with
  | none =>
    have hno : M.nowOf x = [] := by unfold Mod.nowOf; rw [hl]; rfl
    rw [hl, hno] at hK
    simp -dsimp
    exact hK _ _ ⟨_, none, rfl, .nil _ _ _ _, .refl _ _, fun b hb => by cases hb⟩
  | some g =>
    obtain ⟨hk, hat⟩ := at_pos s.ok.sorted hl
    have hno : M.nowOf x = g.now := by unfold Mod.nowOf; rw [hl]; rfl
    have hle := now_le s.ok x
    rw [hno] at hle
    rw [hl, hno] at hK
    generalize posF x M.files = k at hk hat ⊢
    obtain ⟨bk, off, cs, rfl, hF, hr, hc⟩ := s.fs.rep.get k hk
    obtain ⟨bv, ov, ox, had, rfl, r1, r2, r3⟩ := hr
    rw [hat] at r1 hc
    obtain ⟨ba, bc, rfl, _, _⟩ := r1.val
    have hcell : cellIn h[bk]? (off + k * 5 + 1) = some (.slice ba g.now.length bc) := by
      have := cellsIn_cell (d := 1) hc (by decide)
      simpa [rFile] using this
    have hidx : ∀ (K : Value → Heap → Prop) (h : Heap), indexAddrS Try.prog 81 (.slice (some ⟨bk, off, none⟩) M.files.length fc) (.int .i64 (k : Int)) h K = K (.pointer (some ⟨bk, off + k * 5, none⟩)) h := by
      intro K h
      rw [indexAddrS_slice _ _ _ _ _ _ (by omega) (by omega) rfl]
      simp [elSz]
    have hs0 := push_at (o := .cells #[] 5) hs
    have hc0 : cellIn (h.push (.cells #[] 5))[bk]? (off + k * 5 + 1) = some (.slice ba g.now.length bc) := by
      have hbk : bk < h.size := by
        rcases hF with h | h
        · exact (s.sep _ h).1
        · exact s.fs.own_lt _ h
      rw [push_old _ hbk]; exact hcell
    simp -dsimp [hs0, hidx, hc0]
    refine clone_bytes byteT r1 (fun b hb => by
      rcases hb with h | h
      · exact (s.sep _ h).1
      · exact s.fs.own_lt _ h) (Nat.le_trans hle (by omega)) ?_
    intro u h1 own hg1 kk1 ho1 hz1
    obtain ⟨ua, uc, rfl⟩ := hg1.val
    simp -dsimp
    exact hK _ _ ⟨_, own, rfl, hg1, kk1, ho1⟩

set_option maxRecDepth 10000 in
theorem rtrace_spec {v : Value} {F : Nat → Prop} {h : Heap} {M : Mod} (s : RefAt v F h M) (hn : M.trace.length < 1000000000) :
    CallH Try.prog 30 #[v] h fun r h' => ∃ own, Grow rOp 85 none_ h' r M.trace own ∧ Keep none_ h h' ∧ ∀ b, own = some b → h.size ≤ b := by
  refine callH_by fun K hK => ?_
  obtain ⟨bs, fv, of, lv, ol, R, rfl, rfl, s⟩ := s
  refine enter [.tmp 2] Try.func30 rfl rfl (by kernel_rfl) rfl ?_
  have hs := s.str
  obtain ⟨la, lc, rfl⟩ := s.tr.val
  obtain ⟨cs, _, hc1, hc2, hcel, hel⟩ := s.tr.cells
  have hs0 := push_at (o := .cells #[] 85) hs
  simp -dsimp [hs0]
  refine clone_cells (F := none_) (F2 := fun b => ol = some b) (xs := M.trace) ropT (fun _ h => h.elim) s.tr.own_lt rfl hcel hel (by omega) (by omega) ?_
  intro u h1 own hg1 kk1 ho1 hz1
  obtain ⟨ua, uc, rfl⟩ := hg1.val
  simp -dsimp
  exact hK _ _ ⟨own, hg1, kk1, ho1⟩
end Go.Proofs
