/-
  The names of the program's store, told in their order.
-/
import Derived.Test.YtcopaleccjpdjaaS8
namespace Go.Proofs
open Go Go.HC

set_option maxRecDepth 10000 in
theorem collect_spec {f : FuncId} {caps : Array Value} {A : List Nm → Nm → Prop} {Done : List Nm → Prop} {Fp : Nat → Prop} {h : Heap} (hfn : FnOk Try.prog f)
    (hit : Iter Try.prog f #[] caps (fun x : Nm => #[.string x]) A Done Fp h) (hA : ∀ xs x, A xs x → xs.length < 1000000000) (hFp : ∀ b, Fp b → b < h.size) :
    CallH Try.prog 53 #[.func (.func f) #[] caps] h fun r h' => ∃ xs own, Done xs ∧ Grow rStr 9 none_ h' r xs own ∧ Keep none_ h h' ∧ ∀ b, own = some b → h.size ≤ b := by
  refine enter [.tmp 2] Try.func53 rfl rfl (by kernel_rfl) rfl ?_
  simp -dsimp
  refine call_by (appendSeq_spec hfn hit hA hFp) ?_
  rintro r h' ⟨xs, own, h1, h2, h3, h4⟩
  obtain ⟨a, c, rfl⟩ := h2.val
  simp -dsimp
  exact ⟨xs, h1, own, h2, h3, h4⟩

set_option maxRecDepth 10000 in
theorem sorted_spec {f : FuncId} {caps : Array Value} {A : List Nm → Nm → Prop} {Done : List Nm → Prop} {Fp : Nat → Prop} {h : Heap} (hfn : FnOk Try.prog f)
    (hit : Iter Try.prog f #[] caps (fun x : Nm => #[.string x]) A Done Fp h) (hA : ∀ xs x, A xs x → xs.length < 1000000000) (hD : ∀ xs, Done xs → xs.length < 1000000000) (hFp : ∀ b, Fp b → b < h.size) :
    CallH Try.prog 39 #[.func (.func f) #[] caps] h fun r h' => ∃ xs own, Done xs ∧ Grow rStr 9 none_ h' r (sortN xs) own ∧ Keep none_ h h' ∧ ∀ b, own = some b → h.size ≤ b := by
  refine enter [.tmp 2] Try.func39 rfl rfl (by kernel_rfl) rfl ?_
  simp -dsimp
  refine call_by (collect_spec hfn hit hA hFp) ?_
  rintro r h' ⟨xs, own, h1, h2, h3, h4⟩
  have h2' := h2
  obtain ⟨a, c, rfl⟩ := h2.val
  simp -dsimp
  refine call_by (sort_spec h2' (by have := hD xs h1; omega)) ?_
  rintro r2 h5 ⟨rfl, h6, h7⟩
  simp -dsimp
  refine ⟨xs, h1, own, h6, h3.trans h7 (fun b hb hh => ?_), h4⟩
  have := h4 b hh
  omega

set_option maxRecDepth 10000 in
theorem names_spec {v : Value} {F : Nat → Prop} {h : Heap} {M : Mod} (s : StAt v F h M) {n : Nat} (hn : M.Small n) (hn' : n < 1000000000) :
    CallH Try.prog 21 #[v] h fun r h' => ∃ own, Grow rStr 9 none_ h' r M.names own ∧ Keep none_ h h' ∧ ∀ b, own = some b → h.size ≤ b := by
  obtain ⟨bs, bm, es, clock, tv, own, R, rfl, rfl, s⟩ := s
  have hperm := files_perm s.ents s.files s.ok.sorted
  have hel : es.length < 1000000000 := by
    have := hperm.length_eq
    have := hn.files
    simp at *
    omega
  refine enter [.tmp 2] Try.func21 rfl rfl (by kernel_rfl) rfl ?_
  have hs := s.str
  simp -dsimp [hs]
  have hkeys : CallH Try.prog 40 #[.map (some bm)] h fun r h' => r = .func (.func 55) #[] #[.pointer (some ⟨h.size, 0, none⟩)] ∧ h' = h.push (.cells #[.map (some bm)] 64) := by
    refine enter [.tmp 2] Try.func40 rfl rfl (by kernel_rfl) rfl ?_
    simp -dsimp [boxS_eq]
  refine call_by hkeys ?_
  rintro _ _ ⟨rfl, rfl⟩
  simp -dsimp
  have hbm := lt_of_blk s.map
  refine call_by (sorted_spec (A := keyA es) (Done := fun xs => (es.map (·.1)).Perm xs) (Fp := fun b => b = h.size ∨ b = bm) (by simp) (keys_iter (push_new _ _) (push_at s.map) s.ents) ?_ ?_ ?_) ?_
  · rintro xs x ⟨rest, hr⟩
    have := hr.length_eq
    simp at this
    omega
  · intro xs hx
    have := hx.length_eq
    simp at this
    omega
  · rintro b (rfl | rfl)
    · simp
    · simp; omega
  · rintro r h2 ⟨xs, own2, hd, hg, hk, ho⟩
    have hnm : sortN xs = M.names := sorted_names (hd.symm.trans hperm) (by
      unfold Mod.names
      rw [List.pairwise_map]; exact s.ok.sorted)
    rw [hnm] at hg
    obtain ⟨a, c, rfl⟩ := hg.val
    simp -dsimp
    refine call_by (clone_str hg.rep (fun b hb => hb.elim (fun h => h.elim) (hg.own_lt b)) (by have := hn.files; simp [Mod.names]; omega)) ?_
    rintro r h3 ⟨own3, hg3, hk3, ho3⟩
    have hg3' := hg3
    obtain ⟨a', c', rfl⟩ := hg3.val
    simp -dsimp
    have hsz := hk.size
    simp at hsz
    refine ⟨own3, ?_, ?_, fun b hb => by have := ho3 b hb; omega⟩
    · rcases hg3' with hn | ⟨bk, c, arr, cs, e1, e2, e3, e4, e5, e6, e7, e8, e9⟩
      · exact .inl hn
      · exact .inr ⟨bk, c, arr, cs, e1, e2, e3, fun h => h, e5, e6, e7, e8, strs_map.2 (strs_map.1 e9)⟩
    · exact ((Keep.push none_ h _).trans hk (fun _ _ h => h)).trans hk3 (fun _ _ h => h)
end Go.Proofs
