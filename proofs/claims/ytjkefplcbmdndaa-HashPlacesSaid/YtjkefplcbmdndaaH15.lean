/-
  HashPlaces: the document's place of a key.
-/
import Derived.Test.YtjkefplcbmdndaaH14
namespace Go.HC
def KeyOk (key : List Int) : Prop := ∀ v ∈ key, 0 ≤ v ∧ v < 1000003
theorem hashM_nonneg {key : List Int} (hk : KeyOk key) : 0 ≤ hashM key := by
  unfold hashM
  generalize h0 : (7 : Int) = z
  have hz : 0 ≤ z := by omega
  clear h0
  induction key generalizing z with
  | nil => exact hz
  | cons v key ih =>
    refine ih (fun w hw => hk w (List.mem_cons_of_mem _ hw)) _ (Int.tmod_nonneg _ ?_)
    have := hk v (List.mem_cons_self ..)
    have h2 : 0 ≤ v.tmod 1000003 := Int.tmod_nonneg _ this.1
    omega
theorem placeM_of {key : List Int} (hk : KeyOk key) {n : Nat} (hn : 0 < n) : (hashM key).tmod n = ((placeM key n : Nat) : Int) := by
  have h0 := hashM_nonneg hk
  unfold placeM
  have h1 : 0 ≤ (hashM key).tmod n := Int.tmod_nonneg _ h0
  have h2 : (hashM key).tmod n < n := Int.tmod_lt_of_pos _ (by omega)
  have h3 : ((hashM key).tmod n + n).tmod n = (hashM key).tmod n := by
    generalize (hashM key).tmod n = x at h1 h2
    rw [Int.tmod_eq_emod_of_nonneg (by omega), Int.add_emod_right, Int.emod_eq_of_lt h1 h2]
  rw [h3, Int.toNat_of_nonneg h1]
end Go.HC
namespace Go.Proofs
open Go Go.HC

set_option maxHeartbeats 4000000 in
set_option maxRecDepth 10000 in
theorem place_spec {G : Nat → Prop} {h : Heap} {kv : Value} {key : List Int} (hk : SlRep rInt G h kv key) (hko : KeyOk key) (n : Nat) (hn : 0 < n) (hn' : n < 1000000000) :
    CallH Try.prog 32 #[kv, .int .i64 n] h fun r h' => r = .int .i64 (placeM key n) ∧ h' = h := by
  refine callH_by fun K hK => ?_
  obtain ⟨ka, kc, rfl, hkc, hkc'⟩ := hk.val
  refine enter [.tmp 4] Try.func32 rfl rfl (by kernel_rfl) rfl ?_
  have hpl := placeM_of hko hn
  have hrem : ∀ x : Int, intRes .rem .i64 x (n : Int) = some (.int .i64 (x.tmod n)) := fun x => intRes_rem _ _ _ (by omega)
  simp -dsimp
  refine loop' (σ := Nat) (fun k => [(0, .slice ka key.length kc), (1, .int .i64 n), (5, .int .i64 (hashM (key.take k))), (6, .int .i64 k)]) (fun _ => []) (fun k h' => h' = h ∧ k ≤ key.length) (fun k => key.length - k) 0 ?_ rfl ⟨rfl, Nat.zero_le _⟩ (by kernel_rfl) ?_
  · intro p hp
    simp at hp
    rcases hp with rfl | rfl | rfl | rfl <;> simp [hashM]
  · rintro k h' g ⟨hhe, hkk⟩
    subst hhe
    by_cases hkl : k < key.length
    · obtain ⟨b1, o1, v1, rfl, _, hr1, hc1⟩ := hk.get1 rfl k hkl
      have hv1 : v1 = .int .i64 key[k] := by simpa [rInt] using hr1
      subst hv1
      have hidx : ∀ (K : Value → Heap → Prop) (h : Heap), indexAddrS Try.prog 22 (.slice (some ⟨b1, o1, none⟩) key.length kc) (.int .i64 (k : Int)) h K = K (.pointer (some ⟨b1, o1 + k, none⟩)) h := by
        intro K h
        rw [indexAddrS_slice _ _ _ _ _ _ (by omega) (by omega) rfl]
        simp [elSz]
      have wk : IntKind.i64.wrap ((k : Int) + 1) = ((k + 1 : Nat) : Int) := by rw [wrap_i64 (by omega) (by omega)]; rfl
      obtain ⟨q0, q1⟩ := hashM_bound (key.take k)
      obtain ⟨p0, p1⟩ := hko key[k] (List.getElem_mem hkl)
      have hst := hashM_take hkl
      have hmd : (key[k]).tmod 1000003 = key[k] := Int.tmod_eq_of_lt p0 p1
      rw [hmd] at hst
      have w1 : IntKind.i64.wrap (31 * hashM (key.take k)) = 31 * hashM (key.take k) := wrap_i64 (by omega) (by omega)
      have w2 : IntKind.i64.wrap (31 * hashM (key.take k) + key[k]) = 31 * hashM (key.take k) + key[k] := wrap_i64 (by omega) (by omega)
      have w3 : IntKind.i64.wrap (31 * hashM (key.take k) + key[k] + 1) = 31 * hashM (key.take k) + key[k] + 1 := wrap_i64 (by omega) (by omega)
      simp -dsimp [hkl, hidx, hc1, w1, w2, w3, ← hst, wk]
      refine ⟨k + 1, ?_, rfl, ⟨rfl, by omega⟩, by show key.length - (k + 1) < key.length - k; omega⟩
      intro p hp
      simp at hp
      rcases hp with rfl | rfl | rfl | rfl <;> simp
    · have hall : key.take k = key := List.take_of_length_le (by omega)
      simp -dsimp [hkl, hall, hrem, hpl]
      exact hK _ _ ⟨rfl, rfl⟩
end Go.Proofs
