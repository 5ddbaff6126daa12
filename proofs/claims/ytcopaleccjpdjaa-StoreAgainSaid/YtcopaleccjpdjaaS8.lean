/-
  The names of the program's store: collected, sorted, told.
-/
import Derived.Test.YtcopaleccjpdjaaS7
namespace Go.Proofs
open Go Go.HC

set_option maxRecDepth 10000 in
theorem appendSeq_spec {f : FuncId} {caps : Array Value} {A : List Nm → Nm → Prop} {Done : List Nm → Prop} {Fp : Nat → Prop} {h : Heap} (hfn : FnOk Try.prog f)
    (hit : Iter Try.prog f #[] caps (fun x : Nm => #[.string x]) A Done Fp h) (hA : ∀ xs x, A xs x → xs.length < 1000000000) (hFp : ∀ b, Fp b → b < h.size) :
    CallH Try.prog 56 #[.slice none 0 0, .func (.func f) #[] caps] h fun r h' => ∃ xs own, Done xs ∧ Grow rStr 9 none_ h' r xs own ∧ Keep none_ h h' ∧ ∀ b, own = some b → h.size ≤ b := by
  refine enter [.tmp 4] Try.func56 rfl rfl (by kernel_rfl) rfl ?_
  simp -dsimp [boxS_eq]
  generalize hH : h.push _ = h1
  have k1 : Keep none_ h h1 := by rw [← hH]; exact .push _ _ _
  have hs1 : h1.size = h.size + 1 := by rw [← hH]; simp
  have hb1 : h1[h.size]? = some (.cells #[.slice none 0 0] 36 (0, 0)) := by rw [← hH]; exact push_new _ _
  have hit1 : Iter Try.prog f #[] caps (fun x : Nm => #[.string x]) A Done Fp h1 := by
    intro y J Z D h2 hyv hy hJ hsz hF
    refine hit y J Z D h2 hyv hy hJ (by omega) fun b hb => ?_
    obtain ⟨_, g2, g3⟩ := hF b hb
    exact ⟨hFp b hb, g2, g3.trans (k1.blk b (hFp b hb) (fun h => h))⟩
  refine range_iter (val := fun x : Nm => #[.string x]) (A := A) (Done := Done) (Fp := Fp) (f := f) (first := #[]) (caps := caps) (by simp) hfn hit1
    (fun xs D h2 => ∃ own v, h2[h.size]? = some (.cells #[v] 36 (0, 0)) ∧ Grow rStr 9 none_ h2 v xs own ∧ own ≠ some h.size ∧ D = fun b => b = h.size ∨ own = some b) (fun _ _ _ => False)
    ?_ ?_ (fun h => h.elim) (fun h => h.elim) (fun b => b = h.size) ⟨none, _, hb1, .nil _ _ _ _, by simp, by funext b; simp⟩ (fun b hb => ⟨by have := hFp b hb; omega, by have := hFp b hb; omega⟩)
    (by kernel_rfl) (by kernel_rfl) (fun _ => rfl) (by intro p hp; simp at hp; subst hp; decide) ?_ ?_ (fun _ _ _ h => h.elim)
  · rintro xs D h2 ⟨own, v, e1, e2, e3, rfl⟩ b (rfl | hb)
    · exact lt_of_blk e1
    · exact e2.own_lt b hb
  · rintro xs D h2 h3 ⟨own, v, e1, e2, e3, rfl⟩ hsz hk
    exact ⟨own, v, (hk _ (.inl rfl)).trans e1, e2.mono (fun _ h => h.elim) (fun b hb => ⟨fun h => h, hk b (.inr hb)⟩), e3, rfl⟩
  · rintro lp xs x D h2 ⟨own, v, e1, e2, e3, rfl⟩ hAx hlp1 hlp2 hnlp hnd
    simp -dsimp
    refine ⟨.refl _ _, fun h3 hs3 ho3 => ?_⟩
    have hne : h.size ≠ lp := by omega
    have e1' := (ho3 _ hne).trans e1
    have hnol : own ≠ some lp := fun e => hnlp (.inr e)
    have e2' : Grow rStr 9 none_ h3 v xs own := e2.mono (fun _ h => h.elim) fun b hb => ⟨fun h => h, ho3 b (fun e => hnol (e ▸ hb))⟩
    have hlen := hA xs x hAx
    obtain ⟨a, c, rfl⟩ := e2.val
    simp -dsimp [e1']
    refine append_grow (F2 := fun b => b = h3.size) strT (e2'.push (fun _ h => h.elim) _) (fun _ h => h.elim) (ys := [x]) rfl
      (.inr ⟨h3.size, 0, _, _, _, rfl, rfl, push_new _ _, rfl⟩) (.single rfl) (by simp; omega) (by simp; omega) ?_
    intro tv' h4 own' hg hk ho
    have hps : (h3.push (.cells #[.string x] 9)).size = h3.size + 1 := by simp
    rw [hps] at ho
    have hsz4 := hk.size
    rw [hps] at hsz4
    have hb3 : h.size < h3.size := lt_of_blk e1'
    have hold : ∀ b, b < h3.size → own ≠ some b → h4[b]? = h3[b]? := fun b hb hn => by
      rw [hk.blk b (by omega) hn, push_old _ hb]
    have e1'' := (hold _ hb3 e3).trans e1'
    obtain ⟨a', c', rfl⟩ := hg.val
    simp -dsimp [e1'']
    have hlen' : (xs ++ [x]).length = xs.length + 1 := by simp
    rw [hlen'] at hg
    have ho' : own' ≠ some h.size := fun e => (ho _ e).elim e3 (fun h => by omega)
    refine ⟨_, ⟨own', _, set_same _ (by omega), hg.mono (fun _ h => h.elim) (fun b hb => ⟨fun h => h, set_other _ (fun e => ho' (e ▸ hb))⟩), ho', rfl⟩, ⟨by simp; omega, ?_⟩, ?_⟩
    · intro b hb hn
      simp only [not_or] at hn
      rw [set_other _ (fun e => hn.1.1 e.symm), hold b hb hn.1.2]
    · rintro b (rfl | hb)
      · exact .inl (.inl rfl)
      · exact (ho b hb).imp .inr (fun h => by omega)
  · rintro xs D h2 hdone ⟨own, v, e1, e2, e3, rfl⟩ hdf hk hD
    obtain ⟨a, c, rfl⟩ := e2.val
    simp -dsimp [e1]
    rw [takeS_cons hdf]
    simp -dsimp
    have hne : h1.size ≠ h.size := by omega
    have hno : own ≠ some h1.size := fun e => (hD _ (.inr e)).elim (fun h => by omega) (fun h => by omega)
    have hk2 : Keep none_ h (h2.setIfInBounds h1.size (.deferred none)) := by
      refine ⟨by have := hk.size; simp; omega, fun b hb _ => ?_⟩
      rw [set_other _ (by omega), hk.blk b (by omega) (by omega), k1.blk b hb (fun h => h)]
    refine ⟨xs, hdone, own, e2.mono (fun _ h => h.elim) (fun b hb => ⟨fun h => h, set_other _ (fun e => hno (e ▸ hb))⟩), hk2, fun b hb => ?_⟩
    rcases hD b (.inr hb) with h | h
    · omega
    · omega
end Go.Proofs
