/-
  The library's sort of one cell.
-/
import Derived.Test.YtjkefplcbmdndaaH7
namespace Go.Proofs
open Go Go.HC
set_option maxRecDepth 10000 in
theorem len64_one (h : Heap) : CallH Try.prog 79 #[.int .u64 1] h fun r h' => (∃ z : Int, r = .int .i64 z) ∧ h' = h := by
  refine callH_by fun K hK => ?_
  refine enter [.tmp 2] Try.func79 rfl rfl (by kernel_rfl) rfl ?_
  simp -dsimp
  rw [indexS_string (c := 1) Try.strT9 (by decide) rfl]
  simp -dsimp
  exact hK _ _ ⟨⟨_, rfl⟩, rfl⟩
set_option maxRecDepth 10000 in
theorem len_one (h : Heap) : CallH Try.prog 64 #[.int .u64 1] h fun r h' => (∃ z : Int, r = .int .i64 z) ∧ h' = h := by
  refine callH_by fun K hK => ?_
  refine enter [.tmp 2] Try.func64 rfl rfl (by kernel_rfl) rfl ?_
  simp -dsimp
  refine call_by (len64_one h) ?_
  rintro _ h' ⟨⟨z, rfl⟩, hh⟩
  obtain rfl := hh.symm
  simp -dsimp
  exact hK _ _ ⟨⟨z, rfl⟩, rfl⟩
set_option maxRecDepth 10000 in
theorem insertion1 (v : Value) (fv : Value) (h : Heap) : CallH Try.prog 83 #[v, .int .i64 0, .int .i64 1, fv] h fun r h' => r = .tuple #[] ∧ h' = h := by
  refine callH_by fun K hK => ?_
  refine enter [] Try.func83 rfl rfl (by kernel_rfl) rfl ?_
  have w1 : IntKind.i64.wrap 1 = 1 := by decide
  simp -dsimp [w1]
  refine loop' (σ := Unit) (fun _ => [(2, .int .i64 1), (8, .int .i64 1)]) (fun _ => []) (fun _ h' => h' = h) (fun _ => 0) () ?_ rfl rfl (by kernel_rfl) ?_
  · intro p hp
    simp at hp
    rcases hp with rfl | rfl <;> simp
  · rintro _ h' g rfl
    simp -dsimp
    exact hK _ _ ⟨rfl, rfl⟩
set_option maxHeartbeats 4000000 in
set_option maxRecDepth 10000 in
theorem pdq1 (v : Value) (z : Int) (fv : Value) (h : Heap) : CallH Try.prog 68 #[v, .int .i64 0, .int .i64 1, .int .i64 z, fv] h fun r h' => r = .tuple #[] ∧ h' = h := by
  refine callH_by fun K hK => ?_
  refine enter [] Try.func68 rfl rfl (by kernel_rfl) rfl ?_
  simp -dsimp
  refine loop' (σ := Unit) (fun _ => [(0, v), (1, .int .i64 0), (2, .int .i64 1), (4, fv)]) (fun _ => []) (fun _ h' => h' = h) (fun _ => 0) () ?_ rfl rfl (by kernel_rfl) ?_
  · intro p hp
    simp at hp
    rcases hp with rfl | rfl | rfl | rfl <;> simp
  · rintro _ h' g rfl
    simp -dsimp
    refine call_by (insertion1 v fv h') ?_
    rintro _ h2 ⟨rfl, hh⟩
    obtain rfl := hh.symm
    simp -dsimp
    exact hK _ _ ⟨rfl, rfl⟩
set_option maxRecDepth 10000 in
theorem sort1_spec (a : Option Addr) (c : Nat) (fv : Value) (h : Heap) : CallH Try.prog 61 #[.slice a 1 c, fv] h fun r h' => r = .tuple #[] ∧ h' = h := by
  refine callH_by fun K hK => ?_
  refine enter [] Try.func61 rfl rfl (by kernel_rfl) rfl ?_
  simp -dsimp
  refine call_by (len_one h) ?_
  rintro _ h' ⟨⟨z, rfl⟩, hh⟩
  obtain rfl := hh.symm
  simp -dsimp
  refine call_by (pdq1 _ z fv h) ?_
  rintro _ h' ⟨rfl, hh⟩
  obtain rfl := hh.symm
  simp -dsimp
  exact hK _ _ ⟨rfl, rfl⟩
end Go.Proofs
