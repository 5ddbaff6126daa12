/-
  The document's store: a file is put in its place.
-/
import Derived.Test.YtcopaleccjpdjaaR2
namespace Go.Proofs
open Go Go.HC

theorem RefC.at {h : Heap} {M : Mod} {bs : Nat} {fv : Value} {of : Option Nat} {lv : Value} {ol : Option Nat} {R : Nat → Prop} (s : RefC h M bs fv of lv ol R) : RefAt (.pointer (some ⟨bs, 0, none⟩)) (rfoot bs of ol R) h M := ⟨bs, fv, of, lv, ol, R, rfl, rfl, s⟩
set_option maxHeartbeats 40000000 in
set_option maxRecDepth 10000 in
theorem put_spec {h : Heap} {M : Mod} {bs : Nat} {fv : Value} {of : Option Nat} {lv : Value} {ol : Option Nat} {R : Nat → Prop} (s : RefC h M bs fv of lv ol R) {x : Nm} {f : FileM} {cs : List Value} (hr : rFile.rep R h cs (x, f)) (hf : f.Ok) (hn : M.files.length < 1000000000) :
    CallH Try.prog 49 #[.pointer (some ⟨bs, 0, none⟩), .agg cs.toArray] h fun r h' => r = .tuple #[] ∧ ∃ fv' of',
      RefC h' ⟨M.limit, putF x f M.files, M.trace⟩ bs fv' of' lv ol R ∧ Keep (fun b => b = bs ∨ of = some b) h h' ∧ ∀ b, of' = some b → of = some b ∨ h.size ≤ b := by
  refine callH_by fun K hK => ?_
  have hr0 := hr
  obtain ⟨bv, ov, ox, had, rfl, r1, r2, r3⟩ := hr
  obtain ⟨ba, bc, rfl, _, _⟩ := r1.val
  obtain ⟨oa, oc, rfl, _, _⟩ := r2.val
  simp only at hr0 r1 r2 r3
  refine enter [] Try.func49 rfl rfl (by kernel_rfl) rfl ?_
  have hs := s.str
  have hbl := lt_of_blk hs
  have hR : ∀ b, R b → b < h.size := fun b hb => (s.sep b hb).1
  have hof : ∀ b, of = some b → b < h.size := s.fs.own_lt
  have hol : ∀ b, ol = some b → b < h.size := s.tr.own_lt
  simp -dsimp [boxS_eq]
  generalize hB : h.push _ = hb0
  have kB : Keep none_ h hb0 := by rw [← hB]; exact .push _ _ _
  have hzB : hb0.size = h.size + 1 := by rw [← hB]; simp
  have hbB : hb0[h.size]? = some (.cells #[.string x, .slice ba f.now.length bc, .slice oa ox.length oc, .bool f.safe, .bool had] 89 (0, 0)) := by rw [← hB]; exact push_new _ _
  have sB := s.mono (h' := hb0) (by omega) fun b hb => kB.blk b (s.lt b hb) (fun h => h)
  have hsB := sB.str
  have hrB := rFile.mono hr0 fun b hb => ⟨hb, kB.blk b (hR b hb) (fun h => h)⟩
  refine call_by (find_spec sB.at hn x) ?_
  rintro _ h0' ⟨rfl, hh⟩
  obtain rfl := hh.symm
  cases hl : M.look x with
  | some g =>
    obtain ⟨hk, _⟩ := at_pos s.ok.sorted hl
    have hput := put_old (f := f) s.ok.sorted hl
    generalize posF x M.files = k at hk hput ⊢
    obtain ⟨bk, c, o, hfv, how, hwr, hg1⟩ := sB.fs.setE hk hrB
    subst hfv
    subst how
    rw [← hput] at hg1
    have hplen : (putF x f M.files).length = M.files.length := by rw [hput]; simp
    have hidv : ∀ sz ar kk, idxV sz ar (.slice (some ⟨bk, 0, none⟩) M.files.length c) (.int kk (k : Int)) = sz.map fun s => .pointer (some ⟨bk, k * s, none⟩) := by
      intro sz ar kk
      rw [idxV_slice (by omega) (by omega) rfl]
      simp
    have hwr' : writeIn hb0[bk]? (k * 5) [.string x, .slice ba f.now.length bc, .slice oa ox.length oc, .bool f.safe, .bool had] = some o := hwr
    simp -dsimp
    refine drawn_by [⟨0, true, []⟩, ⟨1, true, []⟩, ⟨2, true, []⟩, ⟨3, true, []⟩, ⟨4, true, []⟩, ⟨5, true, []⟩, ⟨6, true, []⟩, ⟨7, false, []⟩] (by kernel_rfl) (by kernel_rfl) ?_
    simp -dsimp [hsB, hbB, hidv, elSz, hwr']
    generalize hH : hb0.setIfInBounds bk o = h3 at hg1 ⊢
    have hz3 : h3.size = hb0.size := by rw [← hH]; simp
    have hbk := hof bk rfl
    have hold : ∀ b, b < h.size → b ≠ bk → h3[b]? = h[b]? := by
      intro b hb hn
      rw [← hH, set_other _ (fun e => hn e.symm), kB.blk b hb (fun h => h)]
    have hne : bk ≠ bs := fun e => s.o1 (by rw [e])
    refine hK _ _ ⟨rfl, _, _, ⟨?_, hg1, ?_, ?_, s.o1, s.o2, s.o3, ?_⟩, ⟨by omega, fun b hb hn => hold b hb (fun e => hn (.inr (by rw [e])))⟩, fun b hb => .inl hb⟩
    · exact (hold bs hbl hne.symm).trans hs
    · exact s.tr.mono (fun b hb => hb.elim) fun b hb => ⟨fun h => h, hold b (hol b hb) (fun e => s.o3 bk rfl (e ▸ hb))⟩
    · exact fun b hb => ⟨by have := hR b hb; omega, (s.sep b hb).2⟩
    · exact s.ok.put hf _ _
  | none =>
    have hpl := posF_le x M.files
    have hput := put_new (f := f) s.ok.sorted hl
    generalize posF x M.files = k at hpl hput ⊢
    obtain ⟨fa, fc, rfl⟩ := s.fs.val
    obtain ⟨cs, _, hc1, hc2, hcel, hel⟩ := sB.fs.cells
    obtain ⟨p1, p2⟩ := cut_cells (i := 0) (j := k) (c := fc) hcel hel (by omega) (by omega) hc1
    obtain ⟨q1, q2⟩ := cut_cells (i := k) (j := M.files.length) (c := fc) hcel hel (by omega) (by omega) hc1
    have hx1 : ((M.files.drop 0).take (k - 0)) = M.files.take k := by simp
    have hx2 : ((M.files.drop k).take (M.files.length - k)) = M.files.drop k := List.take_of_length_le (by simp)
    have hl1 : (M.files.take k).length = k := by rw [List.length_take]; omega
    have hl2 : (M.files.drop k).length = M.files.length - k := by simp
    rw [hx1] at p2
    rw [hx2] at q2
    have hpc1 : ∀ sz kk, pieceV sz none (some (.int kk (k : Int))) (.slice fa M.files.length fc) = sz.map fun s => .slice (piece fa 0 fc s) k fc := by
      intro sz kk
      cases sz <;> simp [pieceV, natV]; omega
    have hpc2 : ∀ sz kk, pieceV sz (some (.int kk (k : Int))) none (.slice fa M.files.length fc) = sz.map fun s => .slice (piece fa k fc s) (M.files.length - k) (fc - k) := by
      intro sz kk
      have e3 : k ≤ M.files.length ∧ M.files.length ≤ fc := by omega
      cases sz <;> simp [pieceV, natV, e3]
    simp -dsimp
    refine drawn_byT (.node 1 10 (.node 8 10 (.leaf [⟨0, true, []⟩, ⟨2, true, []⟩, ⟨3, true, []⟩, ⟨4, true, []⟩, ⟨5, true, []⟩, ⟨6, true, []⟩, ⟨7, true, []⟩, ⟨9, true, []⟩, ⟨12, true, []⟩, ⟨13, true, []⟩, ⟨14, true, []⟩, ⟨15, true, []⟩, ⟨16, true, []⟩, ⟨17, true, []⟩, ⟨1, false, [0, 2, 3, 4, 5, 6, 7, 9, 12, 13, 14, 15, 16, 17]⟩, ⟨8, false, [0, 9, 12, 13, 14, 15, 16, 17]⟩, ⟨10, false, [0, 12, 13, 14, 15, 16, 17]⟩, ⟨11, false, [0, 12, 13, 14, 15, 16, 17]⟩, ⟨18, false, [0]⟩, ⟨19, true, []⟩, ⟨20, true, []⟩, ⟨21, false, []⟩]) (.leaf [⟨0, true, []⟩, ⟨2, true, []⟩, ⟨3, true, []⟩, ⟨4, true, []⟩, ⟨5, true, []⟩, ⟨6, true, []⟩, ⟨7, true, []⟩, ⟨9, true, []⟩, ⟨12, true, []⟩, ⟨13, true, []⟩, ⟨14, true, []⟩, ⟨15, true, []⟩, ⟨16, true, []⟩, ⟨17, true, []⟩, ⟨1, false, [0, 2, 3, 4, 5, 6, 7, 9, 12, 13, 14, 15, 16, 17]⟩, ⟨10, false, [0, 2, 3, 4, 5, 6, 7, 12, 13, 14, 15, 16, 17]⟩, ⟨8, false, [0, 12, 13, 14, 15, 16, 17]⟩, ⟨11, false, [0, 12, 13, 14, 15, 16, 17]⟩, ⟨18, false, [0]⟩, ⟨19, true, []⟩, ⟨20, true, []⟩, ⟨21, false, []⟩])) (.leaf [⟨0, true, []⟩, ⟨2, true, []⟩, ⟨3, true, []⟩, ⟨4, true, []⟩, ⟨5, true, []⟩, ⟨6, true, []⟩, ⟨7, true, []⟩, ⟨9, true, []⟩, ⟨12, true, []⟩, ⟨13, true, []⟩, ⟨14, true, []⟩, ⟨15, true, []⟩, ⟨16, true, []⟩, ⟨17, true, []⟩, ⟨10, false, [0, 2, 3, 4, 5, 6, 7, 12, 13, 14, 15, 16, 17]⟩, ⟨1, false, [0, 2, 3, 4, 5, 6, 7, 12, 13, 14, 15, 16, 17]⟩, ⟨8, false, [0, 12, 13, 14, 15, 16, 17]⟩, ⟨11, false, [0, 12, 13, 14, 15, 16, 17]⟩, ⟨18, false, [0]⟩, ⟨19, true, []⟩, ⟨20, true, []⟩, ⟨21, false, []⟩])) (by kernel_rfl) (by kernel_rfl) ⟨⟨?A, ?B⟩, ?C⟩
    all_goals rw [treeW_leaf]
    case' A =>
      simp -dsimp [hsB, hbB, hpc1, hpc2, elSz]
      have hs0 : (hb0.push (.cells #[] 89))[bs]? = _ := (push_old _ (lt_of_blk hsB)).trans hsB
      have hb0' : (hb0.push (.cells #[] 89))[h.size]? = _ := (push_old _ (lt_of_blk hbB)).trans hbB
      simp -dsimp [again_cons, hs0, hb0', hpc1, hpc2, elSz]
      refine clone_cells (F := R) (F2 := fun b => of = some b) (xs := M.files.take k) fileT (fun b hb => by have := hR b hb; omega) (fun b hb => by have := hof b hb; omega) hl1.symm p1 p2 (by omega) (by omega) ?_
      intro v2 h2 own2 hg2' kk2 ho2' hz2
      obtain ⟨a2, c2, hv2⟩ := hg2'.val
      rw [hl1] at hv2
      subst hv2
      have hs2 := kk2.at hsB (fun h => h)
      have hb2 := kk2.at hbB (fun h => h)
      simp -dsimp [again_cons, hs2, hb2, hpc1, hpc2, elSz]
      obtain ⟨sb, hsb0⟩ : ∃ sb, sb = h2.size := ⟨_, rfl⟩
      have l2' := hg2'.own_lt
      have hgS := hg2'.push (fun b hb => by have := hR b hb; omega) (.cells #[.string x, .slice ba f.now.length bc, .slice oa ox.length oc, .bool f.safe, .bool had] 89)
      have hsS := push_at (o := .cells #[.string x, .slice ba f.now.length bc, .slice oa ox.length oc, .bool f.safe, .bool had] 89) hs2
      have hbS := push_at (o := .cells #[.string x, .slice ba f.now.length bc, .slice oa ox.length oc, .bool f.safe, .bool had] 89) hb2
      simp -dsimp [hsS]
      rw [← hsb0]
      generalize hHA : h2.push _ = hA at hgS hsS hbS ⊢
      have hg2 := hgS
      have hsA := hsS
      have hbA := hbS
      have hzA : hA.size = h2.size + 1 := by rw [← hHA]; simp
      have kA : Keep none_ hb0 hA := by rw [← hHA]; exact kk2.pushed _
      have ho2 : ∀ b, own2 = some b → hb0.size ≤ b := ho2'
      have hsb : hb0.size ≤ sb := by omega
      have hosb : own2 ≠ some sb := fun e => by have := l2' sb e; omega
      have hbSA : hA[sb]? = some (.cells #[.string x, .slice ba f.now.length bc, .slice oa ox.length oc, .bool f.safe, .bool had] 89 (0, 0)) := by rw [← hHA, hsb0]; exact push_new _ _
    case' B =>
      simp -dsimp [hsB, hbB, hpc1, hpc2, elSz]
      have hs0 : (hb0.push (.cells #[] 89))[bs]? = _ := (push_old _ (lt_of_blk hsB)).trans hsB
      have hb0' : (hb0.push (.cells #[] 89))[h.size]? = _ := (push_old _ (lt_of_blk hbB)).trans hbB
      simp -dsimp [again_cons, hs0, hb0', hpc1, hpc2, elSz]
      have hgE := (Grow.empty rFile 89 (h := hb0) (F := R) (fun b hb => by have := hR b hb; omega)).push (fun b hb => by have := hR b hb; simp; omega) (.cells #[.string x, .slice ba f.now.length bc, .slice oa ox.length oc, .bool f.safe, .bool had] 89)
      have hs0S := push_at (o := .cells #[.string x, .slice ba f.now.length bc, .slice oa ox.length oc, .bool f.safe, .bool had] 89) hs0
      have hb0S := push_at (o := .cells #[.string x, .slice ba f.now.length bc, .slice oa ox.length oc, .bool f.safe, .bool had] 89) hb0'
      simp -dsimp [hs0S]
      have hzX : ((hb0.push (.cells #[] 89)).push (.cells #[.string x, .slice ba f.now.length bc, .slice oa ox.length oc, .bool f.safe, .bool had] 89)).size = hb0.size + 2 := by simp
      have kX : Keep none_ hb0 ((hb0.push (.cells #[] 89)).push (.cells #[.string x, .slice ba f.now.length bc, .slice oa ox.length oc, .bool f.safe, .bool had] 89)) := ((Keep.refl none_ hb0).pushed _).pushed _
      have hbX : ((hb0.push (.cells #[] 89)).push (.cells #[.string x, .slice ba f.now.length bc, .slice oa ox.length oc, .bool f.safe, .bool had] 89))[hb0.size + 1]? = some (.cells #[.string x, .slice ba f.now.length bc, .slice oa ox.length oc, .bool f.safe, .bool had] 89 (0, 0)) := by
        have : (hb0.push (.cells #[] 89)).size = hb0.size + 1 := by simp
        rw [← this]; exact push_new _ _
      generalize hHX : (hb0.push _).push _ = hX at hgE hs0S hb0S hzX kX hbX ⊢
      refine append_grow (F2 := fun b => of = some b) (ys := M.files.take k) fileT hgE (fun b hb => by have := hR b hb; omega) hl1.symm (p1.mono fun b hb => ⟨hb, kX.blk b (by have := hof b hb; omega) (fun h => h)⟩) (p2.mono fun b hb => ⟨hb, kX.blk b (by have := hR b hb; omega) (fun h => h)⟩) (by simp; omega) (by simp; omega) ?_
      intro v2 hA own2 hg2' kk2 ho2'
      rw [List.nil_append] at hg2'
      obtain ⟨a2, c2, hv2⟩ := hg2'.val
      rw [hl1] at hv2
      subst hv2
      have hzA := kk2.size
      have hsA := kk2.at hs0S (fun e => by have := lt_of_blk hsB; simp at e; omega)
      have hbA := kk2.at hb0S (fun e => by simp at e; omega)
      obtain ⟨sb, hsb0⟩ : ∃ sb, sb = hb0.size + 1 := ⟨_, rfl⟩
      have hbSA := kk2.at hbX (fun e => by simp at e)
      simp -dsimp [again_cons, hsA, hbA, hpc1, hpc2, elSz]
      rw [← hsb0] at hbSA ⊢
      have hg2 := hg2'
      have kA : Keep none_ hb0 hA := ⟨by omega, fun b hb _ => by rw [kk2.blk b (by omega) (fun e => by simp at e; omega), kX.blk b hb (fun h => h)]⟩
      have ho2 : ∀ b, own2 = some b → hb0.size ≤ b := fun b hb => (ho2' b hb).elim (fun e => by simp at e; omega) (fun h => by omega)
      have hsb : hb0.size ≤ sb := by omega
      have hosb : own2 ≠ some sb := fun e => (ho2' sb e).elim (fun e => by simp at e; omega) (fun h => by omega)
      have hsA' : hA[bs]? = _ := hsA
    case' C =>
      simp -dsimp [hsB, hbB, hpc1, hpc2, elSz]
      have hs0 := push_at (o := .cells #[.string x, .slice ba f.now.length bc, .slice oa ox.length oc, .bool f.safe, .bool had] 89) hsB
      have hb0' := push_at (o := .cells #[.string x, .slice ba f.now.length bc, .slice oa ox.length oc, .bool f.safe, .bool had] 89) hbB
      simp -dsimp [again_cons, hs0, hb0', hpc1, hpc2, elSz]
      have hs1 := push_at (o := .cells #[] 89) hs0
      have hb1 := push_at (o := .cells #[] 89) hb0'
      simp -dsimp [hs1]
      have hzS : (hb0.push (.cells #[.string x, .slice ba f.now.length bc, .slice oa ox.length oc, .bool f.safe, .bool had] 89)).size = hb0.size + 1 := by simp
      have hgE := Grow.empty rFile 89 (h := hb0.push (.cells #[.string x, .slice ba f.now.length bc, .slice oa ox.length oc, .bool f.safe, .bool had] 89)) (F := R) (fun b hb => by have := hR b hb; omega)
      rw [hzS] at hgE
      have hzX : ((hb0.push (.cells #[.string x, .slice ba f.now.length bc, .slice oa ox.length oc, .bool f.safe, .bool had] 89)).push (.cells #[] 89)).size = hb0.size + 2 := by simp
      have kX : Keep none_ hb0 ((hb0.push (.cells #[.string x, .slice ba f.now.length bc, .slice oa ox.length oc, .bool f.safe, .bool had] 89)).push (.cells #[] 89)) := ((Keep.refl none_ hb0).pushed _).pushed _
      have hbX : ((hb0.push (.cells #[.string x, .slice ba f.now.length bc, .slice oa ox.length oc, .bool f.safe, .bool had] 89)).push (.cells #[] 89))[hb0.size]? = some (.cells #[.string x, .slice ba f.now.length bc, .slice oa ox.length oc, .bool f.safe, .bool had] 89 (0, 0)) := push_at (push_new _ _)
      generalize hHX : (hb0.push _).push _ = hX at hgE hs1 hb1 hzX kX hbX ⊢
      refine append_grow (F2 := fun b => of = some b) (ys := M.files.take k) fileT hgE (fun b hb => by have := hR b hb; omega) hl1.symm (p1.mono fun b hb => ⟨hb, kX.blk b (by have := hof b hb; omega) (fun h => h)⟩) (p2.mono fun b hb => ⟨hb, kX.blk b (by have := hR b hb; omega) (fun h => h)⟩) (by simp; omega) (by simp; omega) ?_
      intro v2 hA own2 hg2' kk2 ho2'
      rw [List.nil_append] at hg2'
      obtain ⟨a2, c2, hv2⟩ := hg2'.val
      rw [hl1] at hv2
      subst hv2
      have hzA := kk2.size
      have hsA := kk2.at hs1 (fun e => by have := lt_of_blk hsB; simp at e; omega)
      have hbA := kk2.at hb1 (fun e => by simp at e; omega)
      obtain ⟨sb, hsb0⟩ : ∃ sb, sb = hb0.size := ⟨_, rfl⟩
      have hbSA := kk2.at hbX (fun e => by simp at e)
      simp -dsimp [again_cons, hsA, hbA, hpc1, hpc2, elSz]
      rw [← hsb0] at hbSA ⊢
      have hg2 := hg2'
      have kA : Keep none_ hb0 hA := ⟨by omega, fun b hb _ => by rw [kk2.blk b (by omega) (fun e => by simp at e; omega), kX.blk b hb (fun h => h)]⟩
      have ho2 : ∀ b, own2 = some b → hb0.size ≤ b := fun b hb => (ho2' b hb).elim (fun e => by simp at e; omega) (fun h => by omega)
      have hsb : hb0.size ≤ sb := by omega
      have hosb : own2 ≠ some sb := fun e => (ho2' sb e).elim (fun e => by simp at e; omega) (fun h => by omega)
    all_goals
      have eA := kA.size
      have hrA := rFile.mono hr0 fun b hb => ⟨hb, by rw [kA.blk b (by have := hR b hb; omega) (fun h => h), kB.blk b (hR b hb) (fun h => h)]⟩
      have hlx : ([(x, f)] : Files).length = 1 := rfl
      refine append_grow (F2 := fun b => b = sb) (ys := [(x, f)]) fileT hg2 (fun b hb => by have := hR b hb; omega) rfl (.inr ⟨sb, 0, _, _, _, rfl, rfl, hbSA, rfl⟩) (.single hrA) (by rw [hl1, hlx]; omega) (by rw [hl1, hlx]; omega) ?_
      intro v4 h4 own4 hg4 kk4 ho4
      have hl4 : (M.files.take k ++ [(x, f)]).length = k + 1 := by rw [List.length_append, hl1]; rfl
      obtain ⟨a4, c4, hv4⟩ := hg4.val
      rw [hl4] at hv4
      subst hv4
      have e4 := kk4.size
      have k4 : Keep none_ hb0 h4 := ⟨by omega, fun b hb _ => by rw [kk4.blk b (by omega) (fun e => by have := ho2 b e; omega), kA.blk b hb (fun h => h)]⟩
      have hs4 := k4.at hsB (fun h => h)
      have hb4 := k4.at hbB (fun h => h)
      simp -dsimp [again_cons, hs4, hb4, hpc1, hpc2, elSz]
      refine append_grow (F2 := fun b => of = some b) (ys := M.files.drop k) fileT hg4 (fun b hb => by have := hR b hb; omega) hl2.symm (q1.mono fun b hb => ⟨hb, k4.blk b (by have := hof b hb; omega) (fun h => h)⟩) (q2.mono fun b hb => ⟨hb, k4.blk b (by have := hR b hb; omega) (fun h => h)⟩) (by rw [hl4, hl2]; omega) (by rw [hl4, hl2]; omega) ?_
      intro v5 h5 own5 hg5 kk5 ho5
      rw [← hput] at hg5
      obtain ⟨a5, c5, rfl⟩ := hg5.val
      have e5 := kk5.size
      have hn4 : ∀ b, own4 = some b → hb0.size ≤ b := fun b hb => (ho4 b hb).elim (ho2 b) (fun h => by omega)
      have hn5 : ∀ b, own5 = some b → hb0.size ≤ b := fun b hb => (ho5 b hb).elim (hn4 b) (fun h => by omega)
      have k5 : Keep none_ hb0 h5 := ⟨by omega, fun b hb _ => by rw [kk5.blk b (by omega) (fun e => by have := hn4 b e; omega), k4.blk b hb (fun h => h)]⟩
      have hs5 := k5.at hsB (fun h => h)
      simp -dsimp [again_cons, hs5]
      generalize hH : h5.setIfInBounds bs _ = h6
      have hz6 : h6.size = h5.size := by rw [← hH]; simp
      have hold : ∀ b, b < h.size → b ≠ bs → h6[b]? = h[b]? := by
        intro b hb hn
        rw [← hH, set_other _ (fun e => hn e.symm), k5.blk b (by omega) (fun h => h), kB.blk b hb (fun h => h)]
      refine hK _ _ ⟨rfl, .slice a5 (putF x f M.files).length c5, own5, ⟨?_, ?_, ?_, ?_, fun e => by have := hn5 bs e; omega, s.o2, ?_, ?_⟩, ⟨by omega, fun b hb hn => hold b hb (fun e => hn (.inl e))⟩, fun b hb => .inr (by have := hn5 b hb; omega)⟩
      · rw [← hH]; exact set_same _ (lt_of_blk hs5)
      · exact hg5.mono (fun b hb => ⟨hb, by rw [← hH]; exact set_other _ (fun e => (s.sep b hb).2.1 e.symm)⟩) fun b hb => ⟨fun hRb => by have := hR b hRb; have := hn5 b hb; omega, by rw [← hH]; exact set_other _ (fun e => by have := hn5 b hb; omega)⟩
      · exact s.tr.mono (fun b hb => hb.elim) fun b hb => ⟨fun h => h, hold b (hol b hb) (fun e => s.o2 (e ▸ hb))⟩
      · exact fun b hb => ⟨by have := hR b hb; omega, (s.sep b hb).2.1, fun e => by have := hR b hb; have := hn5 b e; omega, (s.sep b hb).2.2.2⟩
      · exact fun b hb e => by have := hn5 b hb; have := hol b e; omega
      · exact s.ok.put hf _ _
end Go.Proofs
