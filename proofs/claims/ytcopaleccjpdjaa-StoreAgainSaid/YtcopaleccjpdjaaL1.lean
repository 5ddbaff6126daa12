/-
  The law's small functions: the chapter's example, numbers within a bound.
-/
import Derived.Test.YtcopaleccjpdjaaS9
namespace Go.Proofs
open Go Go.HC

/-- A number from 0 to n - 1. -/
def withinM (a n : Int) : Int := if a.tmod n < 0 then a.tmod n + n else a.tmod n
theorem withinM_bound {a n : Int} (hn : 0 < n) : 0 ≤ withinM a n ∧ withinM a n < n := by
  unfold withinM
  have h1 := Int.tmod_lt_of_pos a hn
  have h2 : -n < a.tmod n := by
    have := Int.tmod_lt_of_pos (-a) hn
    rw [Int.neg_tmod] at this
    omega
  split <;> omega
theorem within_spec (a n : Int) (hn : 0 < n) (hn' : n < 1000000000) (h : Heap) : CallH Try.prog 15 #[.int .i64 a, .int .i64 n] h fun r h' => r = .int .i64 (withinM a n) ∧ h' = h := by
  refine enter [.tmp 4] Try.func15 rfl rfl (by kernel_rfl) rfl ?_
  have h1 := Int.tmod_lt_of_pos a hn
  have hne : n ≠ 0 := by omega
  simp -dsimp [hne]
  by_cases hlt : a.tmod n < 0
  · have hw : IntKind.i64.wrap (a.tmod n + n) = a.tmod n + n := by
      have h2 : -n < a.tmod n := by
        have := Int.tmod_lt_of_pos (-a) hn
        rw [Int.neg_tmod] at this
        omega
      exact wrap_i64 (by omega) (by omega)
    simp -dsimp [hlt, hw, withinM]
  · simp -dsimp [hlt, withinM]

def nA : Nm := ⟨#[97]⟩
def nB : Nm := ⟨#[98]⟩
theorem strT_bytes : True := trivial
set_option maxRecDepth 10000 in
theorem known_spec (h : Heap) : CallH Try.prog 14 #[] h fun r h' => r = .bool true ∧ Keep none_ h h' := by
  refine enter [.tmp 0] Try.func14 rfl rfl (by kernel_rfl) rfl ?_
  simp -dsimp
  refine call_by (new_spec 10 h) ?_
  rintro r h1 ⟨F1, s1, k1, n1⟩
  have sm0 : (Mod.new 10).Small 0 := ⟨Nat.le_refl _, Nat.le_refl _, Nat.le_refl _⟩
  obtain ⟨bs, hr⟩ : ∃ bs, r = .pointer (some ⟨bs, 0, none⟩) := by
    obtain ⟨bs, _, _, _, _, _, _, rfl, _⟩ := s1; exact ⟨bs, rfl⟩
  subst hr
  simp -dsimp
  refine call_by (names_spec s1 sm0 (by omega)) ?_
  rintro r h2 ⟨own2, hg2, k2, _⟩
  obtain ⟨a2, c2, rfl⟩ := hg2.val
  have hl0 : (Mod.new 10).names.length = 0 := rfl
  simp -dsimp [hl0]
  refine const_bytes [120, 121, 122] Try.elS30 Try.intK5 rfl rfl (by decide) ?_
  intro h3 k3 hsz3 hb3
  have k13 : Keep none_ h1 h3 := k2.trans k3 (fun _ _ h => h)
  have s3 := s1.mono k13.size fun b hb => k13.blk b (s1.lt b hb) (fun h => h)
  simp -dsimp
  refine call_by (write_spec s3 sm0 (by omega) nA hb3 (fun b hb => by omega) (by decide)) ?_
  rintro r h4 ⟨rfl, F4, s4, k4, hF4⟩
  have hw : (Mod.new 10).write nA [120, 121, 122] = (0, (Mod.new 10).wrote nA [120, 121, 122]) := by kernel_rfl
  rw [hw] at s4 ⊢
  have sm4 : ((Mod.new 10).wrote nA [120, 121, 122]).Small 100 := ⟨by decide, by decide, by decide⟩
  simp -dsimp
  refine call_by (read_spec s4 (Nat.lt_of_le_of_lt sm4.used (by decide)) nA) ?_
  rintro r h5 ⟨u5, own5, rfl, hg5, k5, ho5⟩
  have hrd : (((Mod.new 10).wrote nA [120, 121, 122]).look nA).isSome = true := by kernel_rfl
  have hno : ((Mod.new 10).wrote nA [120, 121, 122]).nowOf nA = [120, 121, 122] := by kernel_rfl
  rw [hno] at hg5
  rw [hrd]
  have s5 := s4.mono k5.size fun b hb => k5.blk b (s4.lt b hb) (fun h => h)
  obtain ⟨a5, c5, rfl⟩ := hg5.val
  simp -dsimp
  refine make_bytes Try.elS30 Try.szS5 Try.byS5 Try.zS5 (by decide) (by decide) ?_
  intro hg6
  generalize hH6 : h5.push _ = h6 at hg6 ⊢
  have k6 : Keep none_ h5 h6 := by rw [← hH6]; exact .push _ _ _
  have s6 := s5.mono k6.size fun b hb => k6.blk b (s5.lt b hb) (fun h => h)
  simp -dsimp
  refine call_by (write_spec s6 sm4 (by omega) nB hg6.bytes (fun b hb => hg6.own_lt b hb) (by decide)) ?_
  rintro r h7 ⟨rfl, F7, s7, k7, hF7⟩
  have hw7 : ((Mod.new 10).wrote nA [120, 121, 122]).write nB (List.replicate (Int.toNat 8) 0) = (4, (Mod.new 10).wrote nA [120, 121, 122]) := by kernel_rfl
  rw [hw7] at s7 ⊢
  simp -dsimp
  have hg7 : SlRep rByte (fun b => own5 = some b) h7 (.slice a5 3 c5) [120, 121, 122] := hg5.bytes.mono fun b hb => by
    have h1 := ho5 b hb
    have h2 := hg5.own_lt b hb
    have h3 := k6.size
    refine ⟨hb, ?_⟩
    rw [k7.blk b (by omega) (fun hf => by have := s4.lt b hf; omega), k6.blk b h2 (fun h => h)]
  rw [conv_bytes_str Try.elS30 Try.intK5 Try.strT9 hg7]
  have hxyz : (strOf [120, 121, 122] = (⟨#[120, 121, 122]⟩ : ByteArray)) := rfl
  simp -dsimp [hxyz]
  refine call_by (used_spec s7 (Nat.lt_of_le_of_lt sm4.used (by decide))) ?_
  rintro r h8 ⟨rfl, k8⟩
  have hu : usedF ((Mod.new 10).wrote nA [120, 121, 122]).files = 3 := by kernel_rfl
  rw [hu]
  simp -dsimp
  have n4 : ∀ b, b < h.size → ¬ F4 b := fun b hb hf => (hF4 b hf).elim (fun h => by have := n1 b h; omega) (fun h => by have := k13.size; have := k1.size; omega)
  have e1 := k1.size
  have e3 := k13.size
  have e4 := k4.size
  have e5 := k5.size
  have e6 := k6.size
  have e7 := k7.size
  have e8 := k8.size
  refine ⟨by omega, fun b hb _ => ?_⟩
  rw [k8.blk b (by omega) (fun h => h), k7.blk b (by omega) (n4 b hb), k6.blk b (by omega) (fun h => h), k5.blk b (by omega) (fun h => h), k4.blk b (by omega) (fun hf => by have := n1 b hf; omega), k13.blk b (by omega) (fun h => h), k1.blk b hb (fun h => h)]
end Go.Proofs
