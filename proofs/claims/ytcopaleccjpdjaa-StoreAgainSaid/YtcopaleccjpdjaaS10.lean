/-
  What a crash leaves of the program's store: of one file.
-/
import Derived.Test.YtcopaleccjpdjaaS9
namespace Go.Proofs
open Go Go.HC

/-- A contract is proved with its end out of sight. -/
theorem callH_by {P : Program} {f : FuncId} {args : Array Value} {h : Heap} {Q : Value → Heap → Prop} (hc : ∀ K : Value → Heap → Prop, (∀ v h, Q v h → K v h) → CallH P f args h K) : CallH P f args h Q := hc Q fun _ _ h => h
set_option maxRecDepth 10000 in
theorem left_spec {R : Nat → Prop} {h : Heap} {fv : Value} {f : FileM} (hf : FileRep R h fv f) (hR : ∀ b, R b → b < h.size) (how : Int) :
    CallH Try.prog 41 #[fv, .int .i64 how] h fun r h' => ∃ a n c li lx, r = .agg #[.slice a n c, .bool li] ∧ SlRep rByte R h' (.slice a n c) lx ∧ leftF f how = (if li = true then some lx else none) ∧ Keep none_ h h' := by
  refine callH_by fun K hK => ?_
  refine enter [.cell 4 69] Try.func41 rfl rfl (by kernel_rfl) rfl ?_
  obtain ⟨nv, sv, sx, si, rfl, q5, q6, q7⟩ := hf
  obtain ⟨a1, c1, rfl, hc1, _⟩ := q5.val
  obtain ⟨a2, c2, rfl, hc2, _⟩ := q6.val
  simp -dsimp [boxS_eq]
  generalize hH : (h.push _).push _ = h1
  have k1 : Keep none_ h h1 := by rw [← hH]; exact ((Keep.refl none_ h).pushed _).pushed _
  have hb0 : h1[h.size]? = some (.cells #[.slice a1 f.now.length c1, .slice a2 sx.length c2, .bool si, .bool f.safe] 71 (0, 0)) := by
    rw [← hH]; exact push_at (push_new _ _)
  have hb1 : h1[h.size + 1]? = some (.cells #[.slice none 0 0, .bool false] 69 (0, 0)) := by
    rw [← hH]
    have : (h.push (.cells #[.slice a1 f.now.length c1, .slice a2 sx.length c2, .bool si, .bool f.safe] 71)).size = h.size + 1 := by simp
    rw [← this]; exact push_new _ _
  have hs1 : h.size + 1 < h1.size := lt_of_blk hb1
  have hkeep : ∀ o, Keep none_ h (h1.setIfInBounds (h.size + 1) o) := fun o => k1.setted _ (fun hh => absurd hh (by omega))
  have hset : ∀ o, (h1.setIfInBounds (h.size + 1) o)[h.size + 1]? = some o := fun o => set_same o hs1
  by_cases w1 : how = 1
  · subst w1
    simp -dsimp [hb0, hb1, hset]
    refine hK _ _ ⟨_, _, _, _, f.now, rfl, q5.mono fun b hb => ⟨hb, (hkeep _).blk b (hR b hb) (fun h => h)⟩, by simp [leftF], hkeep _⟩
  · by_cases w2 : how = 2
    · subst w2
      obtain ⟨m, hm⟩ : ∃ m, f.now.length / 2 = m := ⟨_, rfl⟩
      have e1 : IntKind.i64.wrap ((f.now.length : Int) / 2) = (m : Int) := by
        have hlt := q5.len_lt
        rw [wrap_i64 (by omega) (by omega)]; omega
      simp -dsimp [hb0, e1]
      rw [sliceS_slice (i := 0) (j := m) (m := c1) Try.elS30 Try.szS5 (.inl ⟨rfl, rfl⟩) (.inr ⟨_, rfl⟩) (.inl ⟨rfl, rfl⟩) (by omega) (by omega) (by omega)]
      have hp := q5.cut (i := 0) (j := m) (m := c1) (by omega) (by omega) (by omega) (by omega)
      rw [List.drop_zero] at hp
      simp -dsimp [hb1, hset]
      refine hK _ _ ⟨_, _, _, _, f.now.take m, rfl, hp.mono fun b hb => ⟨hb, (hkeep _).blk b (hR b hb) (fun h => h)⟩, by simp [leftF, hm], hkeep _⟩
    · have b1 : (how == 1) = false := by simp [w1]
      have b2 : (how == 2) = false := by simp [w2]
      simp -dsimp [b1, b2, hb0, hb1, hset]
      refine hK _ _ ⟨_, _, _, _, sx, rfl, q6.mono fun b hb => ⟨hb, (hkeep _).blk b (hR b hb) (fun h => h)⟩, by simp [leftF, w1, w2, q7], hkeep _⟩
end Go.Proofs
