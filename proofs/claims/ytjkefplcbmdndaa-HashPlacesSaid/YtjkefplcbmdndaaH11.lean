/-
  The law's example; numbers within a bound; keys that are held against each other.
-/
import Derived.Test.YtjkefplcbmdndaaH10
namespace Go.HC
/-- A number from 0 to n - 1. -/
def withinM (a n : Int) : Int := if a.tmod n < 0 then a.tmod n + n else a.tmod n
theorem withinM_bound {a n : Int} (hn : 0 < n) : 0 ≤ withinM a n ∧ withinM a n < n := by
  unfold withinM
  have h1 := tmod_bound (a := a) hn
  split <;> omega
def cell1 (k : Int) : CellM := ⟨[k], 1, [], [], []⟩
theorem cell1_small (k : Int) : CellSmall (cell1 k) := ⟨by simp [cell1], by simp [cell1], by simp [cell1], by simp [cell1]⟩
end Go.HC
namespace Go.Proofs
open Go Go.HC

theorem within_spec (a n : Int) (hn : 0 < n) (hn' : n < 1000000000) (h : Heap) : CallH Try.prog 15 #[.int .i64 a, .int .i64 n] h fun r h' => r = .int .i64 (withinM a n) ∧ h' = h := by
  refine enter [.tmp 4] Try.func15 rfl rfl (by kernel_rfl) rfl ?_
  have h1 := tmod_bound (a := a) hn
  have hne : n ≠ 0 := by omega
  simp -dsimp [hne]
  by_cases hlt : a.tmod n < 0
  · have hw : IntKind.i64.wrap (a.tmod n + n) = a.tmod n + n := wrap_i64 (by omega) (by omega)
    simp -dsimp [hlt, hw, withinM]
  · simp -dsimp [hlt, withinM]

theorem rep_key1 {h : Heap} {b : Nat} {k : Int} {e : TypeId} {fz : Nat × Nat} (hb : h[b]? = some (.cells #[.int .i64 k] e fz)) : SlRep rInt (fun x => x = b) h (.slice (some ⟨b, 0, none⟩) 1 1) [k] :=
  ⟨_, 1, _, rfl, Nat.le_refl _, by decide, .inr ⟨b, 0, _, _, _, rfl, rfl, hb, rfl⟩, ints_map.2 rfl⟩
theorem rep_cell1 {h : Heap} {b : Nat} {k : Int} {e : TypeId} {fz : Nat × Nat} (hb : h[b]? = some (.cells #[.int .i64 k] e fz)) : rCell.rep (fun x => x = b) h [.slice (some ⟨b, 0, none⟩) 1 1, .int .i64 1, .slice none 0 0, .slice none 0 0, .slice none 0 0] (cell1 k) :=
  ⟨_, _, _, _, rfl, rep_key1 hb, .nil _ _ _, .nil _ _ _, .nil _ _ _⟩
theorem new1_small : TabSmall (newM 1) := fun k d hd => by
  unfold newM at hd
  rw [List.getElem?_replicate] at hd
  split at hd <;> cases hd
theorem one_small {c : CellM} (hc : CellSmall c) : TabSmall [some c] := fun k d hd => by
  match k, hd with
  | 0, hd => simp at hd; rw [← hd]; exact hc
  | k + 1, hd => simp at hd

set_option maxHeartbeats 40000000 in
set_option maxRecDepth 10000 in
theorem hknown_spec (h : Heap) : CallH Try.prog 11 #[] h fun r h' => r = .bool true ∧ Keep none_ h h' := by
  refine callH_by fun K hK => ?_
  refine enter [.tmp 0] Try.func11 rfl rfl (by kernel_rfl) rfl ?_
  simp -dsimp
  refine call_by (hnew_spec 1 (by decide) h) ?_
  rintro tv h0 ⟨F0, t0, k0, n0⟩
  have e0 := k0.size
  obtain ⟨bs, htv⟩ : ∃ bs, tv = .pointer (some ⟨bs, 0, none⟩) := by
    obtain ⟨bs, _, _, _, rfl, _⟩ := t0; exact ⟨bs, rfl⟩
  subst htv
  simp -dsimp
  refine call_by (len_spec t0) ?_
  rintro _ h0' ⟨rfl, hh⟩
  obtain rfl := hh.symm
  rw [newM_taken]
  simp -dsimp
  generalize hB : Array.setIfInBounds _ (h0.size + 1) _ = h1
  have hz1 : h1.size = h0.size + 2 := by rw [← hB]; simp
  have k1 : Keep none_ h0 h1 := by rw [← hB]; exact (((Keep.refl none_ h0).pushed _).pushed _).setted _ (fun hh => absurd hh (by omega))
  have hk1 : h1[h0.size]? = some (.cells #[.int .i64 3] 3 (0, 0)) := by rw [← hB, set_other _ (by omega)]; exact push_at (push_new _ _)
  have hc1 : h1[h0.size + 1]? = some (.cells #[.slice (some ⟨h0.size, 0, none⟩) 1 1, .int .i64 1, .slice none 0 0, .slice none 0 0, .slice none 0 0] 39 (0, 0)) := by rw [← hB]; exact set_same _ (by simp)
  have t1 := t0.keep k1 (fun _ _ h => h)
  have l0 := t0.lt
  refine call_by (hput_spec t1 (by decide) new1_small (rep_cell1 hk1) (fun b hb => by omega) (cell1_small 3)) ?_
  rintro _ h2 ⟨rfl, F2, t2, k2, n2⟩
  rw [put_newOne] at t2 ⊢
  replace t2 : TabAt (.pointer (some ⟨bs, 0, none⟩)) F2 h2 [some (cell1 3)] := t2
  have e2 := k2.size
  have hk2 := k2.at hk1 (fun hf => by have := l0 _ hf; omega)
  have hc2 := k2.at hc1 (fun hf => by have := l0 _ hf; omega)
  have k02 : Keep none_ h h2 := ⟨by omega, fun b hb _ => by rw [k2.blk b (by omega) (fun hf => by have := n0 b hf; omega), k1.blk b (by omega) (fun h => h), k0.blk b hb (fun h => h)]⟩
  have n2' : ∀ b, F2 b → h.size ≤ b := fun b hb => (n2 b hb).elim (n0 b) (fun h => by omega)
  simp -dsimp
  generalize hB3 : h2.push _ = h3
  have hz3 : h3.size = h2.size + 1 := by rw [← hB3]; simp
  have k3 : Keep none_ h2 h3 := by rw [← hB3]; exact .push _ _ _
  have hk3 : h3[h2.size]? = some (.cells #[.int .i64 4] 3 (0, 0)) := by rw [← hB3]; exact push_new _ _
  have hc3 := k3.at hc2 (fun h => h)
  have hkk3 := k3.at hk2 (fun h => h)
  have t3 := t2.keep k3 (fun _ _ h => h)
  have l3 := t3.lt
  refine call_by (hput_spec t3 (by decide) (one_small (cell1_small 3)) (rep_cell1 hk3) (fun b hb => by omega) (cell1_small 4)) ?_
  rintro _ h4 ⟨rfl, F4, t4, k4, n4⟩
  have hp4 : putM [some (cell1 3)] (cell1 4) = none := by kernel_rfl
  rw [hp4] at t4 ⊢
  replace t4 : TabAt (.pointer (some ⟨bs, 0, none⟩)) F4 h4 [some (cell1 3)] := t4
  have e4 := k4.size
  have l2 := t2.lt
  have hc4 := k4.at hc3 (fun hf => by
    rcases n2 _ hf with h | h
    · have := l0 _ h; omega
    · omega)
  have hkk4 := k4.at hkk3 (fun hf => by
    rcases n2 _ hf with h | h
    · have := l0 _ h; omega
    · omega)
  have k04 : Keep none_ h h4 := ⟨by omega, fun b hb _ => by rw [k4.blk b (by omega) (fun hf => by have := n2' b hf; omega), k3.blk b (by omega) (fun h => h), k02.blk b hb (fun h => h)]⟩
  simp -dsimp
  generalize hB5 : h4.push _ = h5
  have hz5 : h5.size = h4.size + 1 := by rw [← hB5]; simp
  have k5 : Keep none_ h4 h5 := by rw [← hB5]; exact .push _ _ _
  have hk5 : h5[h4.size]? = some (.cells #[.int .i64 3] 3 (0, 0)) := by rw [← hB5]; exact push_new _ _
  have t5 := t4.keep k5 (fun _ _ h => h)
  have hc5 := k5.at hc4 (fun h => h)
  have hkk5 := k5.at hkk4 (fun h => h)
  refine call_by (hget_spec t5 (by decide) (one_small (cell1_small 3)) (rep_key1 hk5) (fun b hb => by omega)) ?_
  rintro _ h6 ⟨ds, E, rfl, hr6, k6, hE⟩
  have hg6 : getM [some (cell1 3)] [3] = some (cell1 3) := by kernel_rfl
  rw [hg6] at hr6 ⊢
  obtain ⟨kv, sv, nv, xv, rfl, r1, r2, r3, r4⟩ := hr6
  obtain ⟨ka, kc, rfl, _, _⟩ := r1.val
  obtain ⟨sa, sc, rfl, _, _⟩ := r2.val
  obtain ⟨na, nc, rfl, _, _⟩ := r3.val
  obtain ⟨xa, xc, rfl, _, _⟩ := r4.val
  have e6 := k6.size
  have t6 := t5.keep k6 (fun _ _ h => h)
  have hc6 := k6.at hc5 (fun h => h)
  have hkk6 := k6.at hkk5 (fun h => h)
  simp -dsimp
  generalize hB7 : Array.setIfInBounds _ h6.size _ = h7
  have hz7 : h7.size = h6.size + 1 := by rw [← hB7]; simp
  have k7 : Keep none_ h6 h7 := by rw [← hB7]; exact ((Keep.refl none_ h6).pushed _).setted _ (fun hh => absurd hh (by omega))
  have hg7 : h7[h6.size]? = some (.cells #[.slice ka (cell1 3).key.length kc, .int .i64 (cell1 3).count, .slice sa (cell1 3).sum.length sc, .slice na (cell1 3).mn.length nc, .slice xa (cell1 3).mx.length xc] 39 (0, 0)) := by rw [← hB7]; exact set_same _ (by simp)
  have hc7 := k7.at hc6 (fun h => h)
  have hkk7 := k7.at hkk6 (fun h => h)
  have t7 := t6.keep k7 (fun _ _ h => h)
  simp -dsimp [hc7]
  generalize hB8 : h7.push _ = h8
  have hz8 : h8.size = h7.size + 1 := by rw [← hB8]; simp
  have k8 : Keep none_ h7 h8 := by rw [← hB8]; exact .push _ _ _
  have hs8 : h8[h7.size]? = some (.cells #[.slice (some ⟨h0.size, 0, none⟩) 1 1, .int .i64 1, .slice none 0 0, .slice none 0 0, .slice none 0 0] 39 (0, 0)) := by rw [← hB8]; exact push_new _ _
  have hkk8 := k8.at hkk7 (fun h => h)
  have t8 := t7.keep k8 (fun _ _ h => h)
  have hg8 := k8.at hg7 (fun h => h)
  refine call_by (hgroup1_spec (rep_cell1 hkk8) (fun b hb => by omega) (cell1_small 3) hs8) ?_
  rintro _ h9 ⟨E9, u9, own9, rfl, hgg9, k9, hE9, ho9⟩
  have e9 := k9.size
  have hg9 := k9.at hg8 (fun h => h)
  have t9 := t8.keep k9 (fun _ _ h => h)
  have hct : (cell1 3).count = 1 := rfl
  have htk : takenM [some (cell1 3)] = 1 := rfl
  simp -dsimp [hg9, hct]
  refine call_by (len_spec t9) ?_
  rintro _ h9' ⟨rfl, hh⟩
  obtain rfl := hh.symm
  rw [htk]
  simp -dsimp
  exact hK _ _ ⟨rfl, ((((k04.trans k5 (fun _ _ h => h)).trans k6 (fun _ _ h => h)).trans k7 (fun _ _ h => h)).trans k8 (fun _ _ h => h)).trans k9 (fun _ _ h => h)⟩
end Go.Proofs
