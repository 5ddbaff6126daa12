/-
  The document's order of keys.
-/
import Derived.Test.YtjkefplcbmdndaaH11
namespace Go.HC
def lessM : List Int → List Int → Int
  | [], [] => 0
  | [], _ :: _ => -1
  | _ :: _, [] => 1
  | x :: xs, y :: ys => if x < y then -1 else if y < x then 1 else lessM xs ys
theorem lessM_zero : ∀ {xs ys : List Int}, lessM xs ys = 0 ↔ xs = ys
  | [], [] => by simp [lessM]
  | [], _ :: _ => by simp [lessM]
  | _ :: _, [] => by simp [lessM]
  | x :: xs, y :: ys => by
    rw [lessM]
    split
    · rename_i h
      simp only [List.cons.injEq]
      constructor
      · intro h; omega
      · rintro ⟨rfl, _⟩; omega
    · split
      · rename_i h
        simp only [List.cons.injEq]
        constructor
        · intro h; omega
        · rintro ⟨rfl, _⟩; omega
      · rename_i h1 h2
        rw [lessM_zero]
        simp only [List.cons.injEq]
        constructor
        · intro h; exact ⟨by omega, h⟩
        · rintro ⟨_, h⟩; exact h
end Go.HC
namespace Go.Proofs
open Go Go.HC

set_option maxHeartbeats 4000000 in
set_option maxRecDepth 10000 in
theorem rless_spec {F G : Nat → Prop} {h : Heap} {av bv : Value} {xs ys : List Int} (ha : SlRep rInt F h av xs) (hb : SlRep rInt G h bv ys) :
    CallH Try.prog 31 #[av, bv] h fun r h' => r = .int .i64 (lessM xs ys) ∧ h' = h := by
  refine callH_by fun K hK => ?_
  refine enter [.tmp 4] Try.func31 rfl rfl (by kernel_rfl) rfl ?_
  obtain ⟨a0, c0, rfl, hc0, hc0'⟩ := ha.val
  obtain ⟨a1, c1, rfl, hc1, hc1'⟩ := hb.val
  simp -dsimp
  refine loop' (σ := Nat) (fun k => [(0, .slice a0 xs.length c0), (1, .slice a1 ys.length c1), (5, .int .i64 k)]) (fun _ => []) (fun k h' => h' = h ∧ k ≤ xs.length ∧ k ≤ ys.length ∧ lessM xs ys = lessM (xs.drop k) (ys.drop k)) (fun k => xs.length - k) 0 ?_ rfl ⟨rfl, Nat.zero_le _, Nat.zero_le _, rfl⟩ (by kernel_rfl) ?_
  · intro p hp
    simp at hp
    rcases hp with rfl | rfl | rfl <;> simp
  · rintro k h' g ⟨rfl, hk, hk', hpre⟩
    by_cases hx : k < xs.length
    · by_cases hy : k < ys.length
      · obtain ⟨b1, o1, v1, rfl, _, hr1, hc1⟩ := ha.get1 rfl k hx
        obtain ⟨b2, o2, v2, rfl, _, hr2, hc2⟩ := hb.get1 rfl k hy
        have hv1 : v1 = .int .i64 xs[k] := by simpa [rInt] using hr1
        have hv2 : v2 = .int .i64 ys[k] := by simpa [rInt] using hr2
        subst hv1; subst hv2
        have hid1 : ∀ sz ar kk, idxV sz ar (.slice (some ⟨b1, o1, none⟩) xs.length c0) (.int kk (k : Int)) = sz.map fun s => .pointer (some ⟨b1, o1 + k * s, none⟩) := by
          intro sz ar kk
          rw [idxV_slice (by omega) (by omega) rfl]
          simp
        have hid2 : ∀ sz ar kk, idxV sz ar (.slice (some ⟨b2, o2, none⟩) ys.length c1) (.int kk (k : Int)) = sz.map fun s => .pointer (some ⟨b2, o2 + k * s, none⟩) := by
          intro sz ar kk
          rw [idxV_slice (by omega) (by omega) rfl]
          simp
        have wk : IntKind.i64.wrap ((k : Int) + 1) = ((k + 1 : Nat) : Int) := by rw [wrap_i64 (by omega) (by omega)]; rfl
        rw [List.drop_eq_getElem_cons hx, List.drop_eq_getElem_cons hy, lessM] at hpre
        simp -dsimp [hx, hy]
        refine drawn_by [⟨0, true, []⟩, ⟨1, true, []⟩, ⟨2, true, []⟩, ⟨3, true, []⟩, ⟨4, true, []⟩, ⟨5, true, []⟩, ⟨6, true, []⟩, ⟨7, true, []⟩, ⟨8, true, []⟩] (by kernel_rfl) (by kernel_rfl) ?_
        by_cases h1 : xs[k] < ys[k]
        · rw [if_pos h1] at hpre
          simp -dsimp [hid1, hid2, hc1, hc2, elSz, h1]
          exact hK _ _ ⟨by rw [hpre], rfl⟩
        · rw [if_neg h1] at hpre
          simp -dsimp [hid1, hid2, hc1, hc2, elSz, h1]
          refine drawn_by [⟨0, true, []⟩, ⟨1, true, []⟩, ⟨2, true, []⟩, ⟨3, true, []⟩, ⟨4, true, []⟩, ⟨5, true, []⟩, ⟨6, true, []⟩, ⟨7, true, []⟩, ⟨8, true, []⟩] (by kernel_rfl) (by kernel_rfl) ?_
          by_cases h2 : ys[k] < xs[k]
          · rw [if_pos h2] at hpre
            simp -dsimp [hid1, hid2, hc1, hc2, elSz, h2]
            exact hK _ _ ⟨by rw [hpre], rfl⟩
          · rw [if_neg h2] at hpre
            simp -dsimp [hid1, hid2, hc1, hc2, elSz, h2, wk]
            refine ⟨k + 1, ?_, rfl, ⟨rfl, by omega, by omega, hpre⟩, by show xs.length - (k + 1) < xs.length - k; omega⟩
            intro p hp
            simp at hp
            rcases hp with rfl | rfl | rfl <;> simp
      · have hl : ¬ (xs.length < ys.length) := by omega
        have hg : ys.length < xs.length := by omega
        rw [List.drop_eq_getElem_cons hx, List.drop_of_length_le (l := ys) (by omega), lessM] at hpre
        simp -dsimp [hx, hy, hl, hg]
        exact hK _ _ ⟨by rw [hpre], rfl⟩
    · by_cases hy : k < ys.length
      · have hl : xs.length < ys.length := by omega
        rw [List.drop_of_length_le (l := xs) (by omega), List.drop_eq_getElem_cons hy, lessM] at hpre
        simp -dsimp [hx, hl]
        exact hK _ _ ⟨by rw [hpre], rfl⟩
      · have hl : ¬ (xs.length < ys.length) := by omega
        have hg : ¬ (ys.length < xs.length) := by omega
        rw [List.drop_of_length_le (l := xs) (by omega), List.drop_of_length_le (l := ys) (by omega), lessM] at hpre
        simp -dsimp [hx, hl, hg]
        exact hK _ _ ⟨by rw [hpre], rfl⟩
end Go.Proofs
