/-
  The document's store: the contracts of its small functions.
-/
import Derived.Test.YtcopaleccjpdjaaR1
import Derived.Test.YtcopaleccjpdjaaHC21
namespace Go.Proofs
open Go Go.HC

theorem right_spec (x : Nm) (h : Heap) : CallH Try.prog 48 #[.string x] h fun r h' => r = .bool (nameOk x) ∧ h' = h := by
  refine enter [.tmp 2] Try.func48 rfl rfl (by kernel_rfl) rfl ?_
  simp -dsimp
  by_cases h1 : 1 ≤ x.size
  · have : (1 : Int) ≤ x.size := by omega
    simp -dsimp [this]
    have h2 : ((x.size : Int) ≤ 20) ↔ x.size ≤ 20 := by omega
    simp [nameOk, h1, h2]
  · have : ¬ (1 : Int) ≤ x.size := by omega
    simp -dsimp [this]
    simp [nameOk, h1]

set_option maxRecDepth 10000 in
theorem done_spec {h : Heap} {M : Mod} {bs : Nat} {fv : Value} {of : Option Nat} {lv : Value} {ol : Option Nat} {R : Nat → Prop} (s : RefC h M bs fv of lv ol R) (k : Int) (x : Nm) (hn : M.trace.length < 1000000000) :
    CallH Try.prog 47 #[.pointer (some ⟨bs, 0, none⟩), .int .i64 k, .string x] h fun r h' => r = .tuple #[] ∧ ∃ lv' ol',
      RefC h' ⟨M.limit, M.files, M.trace ++ [(k, x)]⟩ bs fv of lv' ol' R ∧ Keep (fun b => b = bs ∨ ol = some b) h h' ∧ ∀ b, ol' = some b → ol = some b ∨ h.size ≤ b := by
  refine enter [] Try.func47 rfl rfl (by kernel_rfl) rfl ?_
  have hs := s.str
  obtain ⟨fa, fc, rfl⟩ := s.fs.val
  simp -dsimp [hs]
  refine append_grow (F2 := fun b => b = h.size) ropT (s.tr.push (fun _ h => h.elim) _) (fun _ h => h.elim) (ys := [(k, x)]) rfl
    (.inr ⟨h.size, 0, _, _, _, rfl, rfl, push_new _ _, rfl⟩) (.single ⟨[.int .i64 k], [.string x], rfl, rfl, rfl⟩) (by simp; omega) (by simp; omega) ?_
  intro tv' h' own' hg hk ho
  have hs1 := hk.at (push_at (o := .cells #[Value.int IntKind.i64 k, Value.string x] 85) hs) s.o2
  have hbs := lt_of_blk hs1
  obtain ⟨a, c, rfl⟩ := hg.val
  simp -dsimp [hs1]
  have hps : (h.push (.cells #[Value.int IntKind.i64 k, Value.string x] 85)).size = h.size + 1 := by simp
  rw [hps] at ho
  have hsz : h.size + 1 ≤ h'.size := hps ▸ hk.size
  have hbl := lt_of_blk hs
  have hlen : (M.trace ++ [(k, x)]).length = M.trace.length + 1 := by simp
  rw [hlen] at hg
  generalize hH : h'.setIfInBounds bs _ = h2
  have hold : ∀ b, b < h.size → ol ≠ some b → b ≠ bs → h2[b]? = h[b]? := by
    intro b hb h1 h2
    rw [← hH, set_other _ (fun e => h2 e.symm), hk.blk b (by omega) h1, push_old _ hb]
  have hsz2 : h2.size = h'.size := by rw [← hH]; simp
  have hown' : ∀ b, own' = some b → b ≠ bs := fun b hb e => by
    subst e
    exact (ho _ hb).elim s.o2 (fun h => by omega)
  refine ⟨.slice a (M.trace.length + 1) c, own', ⟨?_, ?_, ?_, ?_, s.o1, fun e => hown' bs e rfl, ?_, ?_⟩, ⟨by omega, fun b hb hn => hold b hb (fun e => hn (.inr e)) (fun e => hn (.inl e))⟩, fun b hb => (ho b hb).imp id fun h => by omega⟩
  · rw [← hH]; exact set_same _ hbs
  · exact s.fs.mono (fun b hb => ⟨hb, hold b (s.sep b hb).1 (s.sep b hb).2.2.2 (s.sep b hb).2.1⟩) fun b hb => ⟨fun hR => (s.sep b hR).2.2.1 hb, hold b (s.fs.own_lt b hb) (s.o3 b hb) (fun e => s.o1 (e ▸ hb))⟩
  · exact hg.mono (fun _ h => h.elim) fun b hb => ⟨fun h => h, by rw [← hH]; exact set_other _ (fun e => hown' b hb e.symm)⟩
  · exact fun b hb => ⟨by have := (s.sep b hb).1; omega, (s.sep b hb).2.1, (s.sep b hb).2.2.1, fun e => (ho b e).elim (s.sep b hb).2.2.2 (fun h => by have := (s.sep b hb).1; omega)⟩
  · exact fun b hb e => (ho b e).elim (s.o3 b hb) (fun h => by have := s.fs.own_lt b hb; omega)
  · exact ⟨s.ok.sorted, s.ok.files⟩

set_option maxHeartbeats 4000000 in
set_option maxRecDepth 10000 in
theorem drop_spec {h : Heap} {M : Mod} {bs : Nat} {fv : Value} {of : Option Nat} {lv : Value} {ol : Option Nat} {R : Nat → Prop} (s : RefC h M bs fv of lv ol R) {x : Nm} {g : FileM} (hl : M.look x = some g) (hn : M.files.length < 1000000000) :
    CallH Try.prog 51 #[.pointer (some ⟨bs, 0, none⟩), .int .i64 (posF x M.files)] h fun r h' => r = .tuple #[] ∧ ∃ fv' of',
      RefC h' ⟨M.limit, delF x M.files, M.trace⟩ bs fv' of' lv ol R ∧ Keep (fun b => b = bs) h h' ∧ ∀ b, of' = some b → h.size ≤ b := by
  refine callH_by fun K hK => ?_
  refine enter [] Try.func51 rfl rfl (by kernel_rfl) rfl ?_
  have hs := s.str
  obtain ⟨hk, _⟩ := at_pos s.ok.sorted hl
  have hdel := del_pos s.ok.sorted hl
  generalize posF x M.files = k at hk hdel ⊢
  obtain ⟨fa, fc, rfl⟩ := s.fs.val
  obtain ⟨cs, _, hc1, hc2, hcel, hel⟩ := s.fs.cells
  have hof : ∀ b, of = some b → b < h.size := s.fs.own_lt
  have hR : ∀ b, R b → b < h.size := fun b hb => (s.sep b hb).1
  obtain ⟨p1, p2⟩ := cut_cells (i := 0) (j := k) (c := fc) hcel hel (by omega) (by omega) hc1
  obtain ⟨q1, q2⟩ := cut_cells (i := k + 1) (j := M.files.length) (c := fc) hcel hel (by omega) (by omega) hc1
  have hpc1 : ∀ sz kk, pieceV sz none (some (.int kk (k : Int))) (.slice fa M.files.length fc) = sz.map fun s => .slice (piece fa 0 fc s) k fc := by
    intro sz kk
    cases sz <;> simp [pieceV, natV]; omega
  have wk : IntKind.i64.wrap ((k : Int) + 1) = (k : Int) + 1 := wrap_i64 (by omega) (by omega)
  have hpc2 : ∀ sz kk, pieceV sz (some (.int kk ((k : Int) + 1))) none (.slice fa M.files.length fc) = sz.map fun s => .slice (piece fa (k + 1) fc s) (M.files.length - (k + 1)) (fc - (k + 1)) := by
    intro sz kk
    have e1 : (0 : Int) ≤ (k : Int) + 1 := by omega
    have e2 : ((k : Int) + 1).toNat = k + 1 := by omega
    have e3 : k + 1 ≤ M.files.length ∧ M.files.length ≤ fc := by omega
    cases sz <;> simp [pieceV, natV, e1, e2, e3]
  simp -dsimp
  refine drawn_by [⟨0, true, []⟩, ⟨2, true, []⟩, ⟨3, true, []⟩, ⟨4, true, []⟩, ⟨5, true, []⟩, ⟨6, true, []⟩, ⟨7, true, []⟩, ⟨9, true, []⟩, ⟨10, true, []⟩, ⟨11, true, []⟩, ⟨12, true, []⟩, ⟨13, true, []⟩, ⟨14, true, []⟩, ⟨15, true, []⟩, ⟨1, false, [0, 2, 3, 4, 5, 6, 7, 9, 10, 11, 12, 13, 14, 15]⟩, ⟨8, false, [0, 9, 10, 11, 12, 13, 14, 15]⟩, ⟨16, false, [0]⟩, ⟨17, true, []⟩, ⟨18, true, []⟩, ⟨19, false, []⟩] (by kernel_rfl) (by kernel_rfl) ?_
  simp -dsimp [hs, hpc1, hpc2, wk, elSz]
  have hs0 : (h.push (.cells #[] 89))[bs]? = _ := (push_old _ (lt_of_blk hs)).trans hs
  simp -dsimp [again_cons, hs0, hpc1, hpc2, wk, elSz]
  have hx1 : ((M.files.drop 0).take (k - 0)) = M.files.take k := by simp
  have hx2 : ((M.files.drop (k + 1)).take (M.files.length - (k + 1))) = M.files.drop (k + 1) := List.take_of_length_le (by simp)
  have hl1 : (M.files.take k).length = k := by rw [List.length_take]; omega
  have hl2 : (M.files.drop (k + 1)).length = M.files.length - (k + 1) := by simp
  rw [hx1] at p2
  rw [hx2] at q2
  refine clone_cells (F := R) (F2 := fun b => of = some b) (xs := M.files.take k) fileT hR hof hl1.symm p1 p2 (by omega) (by omega) ?_
  intro v1 h1 own1 hg1 kk1 ho1 hz1
  obtain ⟨a1, c1, hv1⟩ := hg1.val
  rw [hl1] at hv1
  subst hv1
  have hs1 := kk1.at hs (fun h => h)
  simp -dsimp [again_cons, hs1, hpc1, hpc2, wk, elSz]
  refine append_grow (F2 := fun b => of = some b) (ys := M.files.drop (k + 1)) fileT hg1 (fun b hb => by have := hR b hb; omega) hl2.symm (q1.mono fun b hb => ⟨hb, kk1.blk b (hof b hb) (fun h => h)⟩) (q2.mono fun b hb => ⟨hb, kk1.blk b (hR b hb) (fun h => h)⟩) (by rw [hl1, hl2]; omega) (by rw [hl1, hl2]; omega) ?_
  intro v2 h2 own2 hg2 kk2 ho2
  rw [← hdel] at hg2
  obtain ⟨a2, c2, rfl⟩ := hg2.val
  have hbl := lt_of_blk hs
  have hz2 := kk2.size
  have l1 := hg1.own_lt
  have hs2 := kk2.at hs1 (fun e => by have := ho1 bs e; omega)
  simp -dsimp [again_cons, hs2]
  generalize hH : h2.setIfInBounds bs _ = h3
  have hz3 : h3.size = h2.size := by rw [← hH]; simp
  have hold : ∀ b, b < h.size → b ≠ bs → h3[b]? = h[b]? := by
    intro b hb hn
    rw [← hH, set_other _ (fun e => hn e.symm), kk2.blk b (by omega) (fun e => by have := ho1 b e; omega), kk1.blk b hb (fun h => h)]
  have hnew : ∀ b, own2 = some b → h.size ≤ b := fun b hb => (ho2 b hb).elim (ho1 b) (fun h => by omega)
  refine hK _ _ ⟨rfl, .slice a2 (delF x M.files).length c2, own2, ⟨?_, ?_, ?_, ?_, fun e => by have := hnew bs e; omega, s.o2, ?_, ?_⟩, ⟨by omega, fun b hb hn => hold b hb hn⟩, hnew⟩
  · rw [← hH]; exact set_same _ (lt_of_blk hs2)
  · exact hg2.mono (fun b hb => ⟨hb, by rw [← hH]; exact set_other _ (fun e => (s.sep b hb).2.1 e.symm)⟩) fun b hb => ⟨fun hRb => by have := hR b hRb; have := hnew b hb; omega, by rw [← hH]; exact set_other _ (fun e => by have := hnew b hb; omega)⟩
  · exact s.tr.mono (fun b hb => hb.elim) fun b hb => ⟨fun h => h, hold b (s.tr.own_lt b hb) (fun e => s.o2 (e ▸ hb))⟩
  · exact fun b hb => ⟨by have := hR b hb; omega, (s.sep b hb).2.1, fun e => by have := hR b hb; have := hnew b e; omega, (s.sep b hb).2.2.2⟩
  · exact fun b hb e => by have := hnew b hb; have := s.tr.own_lt b e; omega
  · exact s.ok.del x _ _
end Go.Proofs
