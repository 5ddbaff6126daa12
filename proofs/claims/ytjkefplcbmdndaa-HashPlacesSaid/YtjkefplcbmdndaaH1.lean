/-
  Cells and tables of the program in memory; the contracts of small functions on them.
-/
import Derived.Test.YtjkefplcbmdndaaHM
import Derived.Test.YtjkefplcbmdndaaHC22
import Derived.Test.YtjkefplcbmdndaaHF
namespace Go.HC
theorem Grow.ints {e : TypeId} {F : Nat → Prop} {h : Heap} {v : Value} {xs : List Int} {own : Option Nat} (hg : Grow rInt e F h v xs own) : SlRep rInt (fun b => own = some b) h v xs := by
  obtain ⟨a, c, rfl⟩ := hg.val
  obtain ⟨cs, _, h1, h2, h3, h4⟩ := hg.cells
  exact ⟨a, c, cs, rfl, h1, h2, h3, ints_map.2 (ints_map.1 h4)⟩
def rCell : Rp CellM where
  sz := 5
  pos := by decide
  rep F h cs c := ∃ kv sv nv xv, cs = [kv, .int .i64 c.count, sv, nv, xv] ∧ SlRep rInt F h kv c.key ∧ SlRep rInt F h sv c.sum ∧ SlRep rInt F h nv c.mn ∧ SlRep rInt F h xv c.mx
  len := by rintro F h cs c ⟨kv, sv, nv, xv, rfl, _⟩; rfl
  one := by
    rintro F h cs c ⟨kv, sv, nv, xv, rfl, h1, h2, h3, h4⟩
    obtain ⟨_, _, rfl, _⟩ := h1.val
    obtain ⟨_, _, rfl, _⟩ := h2.val
    obtain ⟨_, _, rfl, _⟩ := h3.val
    obtain ⟨_, _, rfl, _⟩ := h4.val
    rfl
  mono := by
    rintro F F' h h' cs c ⟨kv, sv, nv, xv, rfl, h1, h2, h3, h4⟩ hm
    exact ⟨kv, sv, nv, xv, rfl, h1.mono hm, h2.mono hm, h3.mono hm, h4.mono hm⟩
def rSlot : Rp (Option CellM) where
  sz := 6
  pos := by decide
  rep F h cs s := match s with
    | none => cs = [.slice none 0 0, .int .i64 0, .slice none 0 0, .slice none 0 0, .slice none 0 0, .bool false]
    | some c => ∃ ds, rCell.rep F h ds c ∧ cs = ds ++ [.bool true]
  len := by
    rintro F h cs (_ | c) hr
    · rw [show cs = _ from hr]; rfl
    · obtain ⟨ds, h1, rfl⟩ := hr
      rw [List.length_append, rCell.len h1]; rfl
  one := by
    rintro F h cs (_ | c) hr
    · rw [show cs = _ from hr]; rfl
    · obtain ⟨ds, h1, rfl⟩ := hr
      rw [List.all_append, rCell.one h1]; rfl
  mono := by
    rintro F F' h h' cs (_ | c) hr hm
    · exact hr
    · obtain ⟨ds, h1, rfl⟩ := hr
      exact ⟨ds, rCell.mono h1 hm, rfl⟩
theorem hashM_take {key : List Int} {k : Nat} (hk : k < key.length) : hashM (key.take (k + 1)) = (31 * hashM (key.take k) + key[k].tmod 1000003 + 1).tmod 1000003 := by
  unfold hashM
  rw [List.take_add_one, List.getElem?_eq_getElem hk, List.foldl_append]
  rfl
theorem hashM_bound (key : List Int) : -1000003 < hashM key ∧ hashM key < 1000003 := by
  unfold hashM
  generalize h0 : (7 : Int) = z
  have hz : -1000003 < z ∧ z < 1000003 := by omega
  clear h0
  induction key generalizing z with
  | nil => exact hz
  | cons v key ih => exact ih _ (tmod_bound (by decide))
theorem probe_next (key : List Int) (n i : Nat) : (probe key n i + 1) % n = probe key n (i + 1) := by
  unfold probe
  rw [Nat.mod_add_mod]; rfl
theorem find_hit {T : Tab} {key : List Int} {i : Nat} (hi : i < T.length) (hb : ∀ j, j < i → hitM T key (probe key T.length j) = false) (hh : hitM T key (probe key T.length i) = true) : findM T key = some (probe key T.length i) := by
  unfold findM
  rw [Option.map_eq_some_iff]
  refine ⟨i, ?_, rfl⟩
  rw [List.find?_range_eq_some]
  exact ⟨hh, List.mem_range.2 hi, fun j hj => by simpa using hb j hj⟩
theorem find_miss {T : Tab} {key : List Int} (hb : ∀ j, j < T.length → hitM T key (probe key T.length j) = false) : findM T key = none := by
  unfold findM
  rw [Option.map_eq_none_iff, List.find?_eq_none]
  intro j hj
  rw [hb j (List.mem_range.1 hj)]; simp
end Go.HC
namespace Go.Proofs
open Go Go.HC

theorem intT : ElemT Try.prog 22 3 rInt 8 := ⟨Try.elS22, Try.szS3, Try.byS3, _, Try.zS3, rfl⟩
set_option maxRecDepth 10000 in
theorem cloneInt_spec {F : Nat → Prop} {h : Heap} {v : Value} {xs : List Int} (hv : SlRep rInt F h v xs) (hF : ∀ b, F b → b < h.size) (hn : xs.length < 1099511627776) :
    CallH Try.prog 48 #[v] h fun r h' => ∃ own, Grow rInt 3 none_ h' r xs own ∧ Keep none_ h h' ∧ ∀ b, own = some b → h.size ≤ b := by
  refine enter [.tmp 2] Try.func48 rfl rfl (by kernel_rfl) rfl ?_
  obtain ⟨a, c, cs, rfl, h1, h2, h3, h4⟩ := hv
  cases a with
  | none =>
    simp -dsimp
    have : xs = [] := by
      rcases h3 with h0 | ⟨_, _, _, _, _, hx, _⟩
      · have hl := h4.len
        rw [h0] at hl
        rcases Nat.mul_eq_zero.1 hl.symm with h | h
        · exact List.eq_nil_of_length_eq_zero h
        · exact absurd h (Nat.ne_of_gt rInt.pos)
      · cases hx
    subst this
    exact ⟨none, .nil _ _ _ _, .refl _ _, fun b hb => by cases hb⟩
  | some a =>
    simp -dsimp
    refine clone_cells (F := none_) (F2 := F) intT (fun _ h => h.elim) hF rfl h3 (ints_map.2 (ints_map.1 h4)) (by omega) (by omega) ?_
    intro v' h' own' hg hk ho hz
    obtain ⟨a', c', rfl⟩ := hg.val
    simp -dsimp
    exact ⟨own', hg, hk, ho⟩

set_option maxRecDepth 10000 in
theorem equal_spec {F G : Nat → Prop} {h : Heap} {av bv : Value} {xs ys : List Int} (ha : SlRep rInt F h av xs) (hb : SlRep rInt G h bv ys) :
    CallH Try.prog 47 #[av, bv] h fun r h' => r = .bool (decide (xs = ys)) ∧ h' = h := by
  refine callH_by fun K hK => ?_
  refine enter [.tmp 4] Try.func47 rfl rfl (by kernel_rfl) rfl ?_
  obtain ⟨a0, c0, rfl, hc0, hc0'⟩ := ha.val
  obtain ⟨a1, c1, rfl, hc1, hc1'⟩ := hb.val
  by_cases hl : xs.length = ys.length
  · have hl' : ((xs.length : Int) == (ys.length : Int)) = true := by simp; omega
    have hl2 : ((xs.length : Int) != (ys.length : Int)) = false := by simp [bne]; omega
    simp -dsimp [hl2]
    refine loop' (σ := Nat) (fun k => [(0, .slice a0 xs.length c0), (1, .slice a1 ys.length c1), (12, .int .i64 xs.length), (13, .int .i64 k)]) (fun _ => []) (fun k h' => h' = h ∧ k ≤ xs.length ∧ xs.take k = ys.take k) (fun k => xs.length - k) 0 ?_ rfl ⟨rfl, Nat.zero_le _, rfl⟩ (by kernel_rfl) ?_
    · intro p hp
      simp at hp
      rcases hp with rfl | rfl | rfl | rfl <;> simp
    · rintro k h' g ⟨rfl, hk, hpre⟩
      by_cases hkl : k < xs.length
      · obtain ⟨b1, o1, v1, rfl, _, hr1, hc1⟩ := ha.get1 rfl k hkl
        obtain ⟨b2, o2, v2, rfl, _, hr2, hc2⟩ := hb.get1 rfl k (by omega)
        have hv1 : v1 = .int .i64 xs[k] := by simpa [rInt] using hr1
        have hv2 : v2 = .int .i64 ys[k] := by simpa [rInt] using hr2
        subst hv1; subst hv2
        have hid1 : ∀ sz ar kk, idxV sz ar (.slice (some ⟨b1, o1, none⟩) xs.length c0) (.int kk (k : Int)) = sz.map fun s => .pointer (some ⟨b1, o1 + k * s, none⟩) := by
          intro sz ar kk
          rw [idxV_slice (by omega) (by omega) rfl]
          simp
        have hid2 : ∀ sz ar kk, idxV sz ar (.slice (some ⟨b2, o2, none⟩) ys.length c1) (.int kk (k : Int)) = sz.map fun s => .pointer (some ⟨b2, o2 + k * s, none⟩) := by
          intro sz ar kk
          rw [idxV_slice (by omega) (by omega) rfl]
          simp
        have wk : IntKind.i64.wrap ((k : Int) + 1) = ((k + 1 : Nat) : Int) := by rw [wrap_i64 (by omega) (by omega)]; rfl
        simp -dsimp [hkl]
        refine drawn_by [⟨0, true, []⟩, ⟨1, true, []⟩, ⟨2, true, []⟩, ⟨3, true, []⟩, ⟨4, true, []⟩, ⟨5, true, []⟩, ⟨6, true, []⟩, ⟨7, true, []⟩, ⟨8, true, []⟩] (by kernel_rfl) (by kernel_rfl) ?_
        by_cases he : xs[k] = ys[k]
        · have he2 : (ys[k] != ys[k]) = false := by simp
          simp -dsimp [hid1, hid2, hc1, hc2, elSz, he, wk]
          refine ⟨k + 1, ?_, rfl, ⟨rfl, by omega, ?_⟩, by show xs.length - (k + 1) < xs.length - k; omega⟩
          · intro p hp
            simp at hp
            rcases hp with rfl | rfl | rfl | rfl <;> simp
          · rw [List.take_add_one, List.take_add_one, hpre, List.getElem?_eq_getElem hkl, List.getElem?_eq_getElem (show k < ys.length by omega), he]
        · have he2 : (xs[k] != ys[k]) = true := by simpa [bne] using he
          have hne : decide (xs = ys) = false := decide_eq_false fun e => he (by subst e; rfl)
          simp -dsimp [hid1, hid2, hc1, hc2, elSz, he2]
          exact hK _ _ ⟨by rw [hne], rfl⟩
      · have heq : decide (xs = ys) = true := decide_eq_true (by
          rw [List.take_of_length_le (by omega), List.take_of_length_le (by omega)] at hpre
          exact hpre)
        simp -dsimp [hkl]
        exact hK _ _ ⟨by rw [heq], rfl⟩
  · have hl2 : ((xs.length : Int) != (ys.length : Int)) = true := by simp [bne]; omega
    have hne : decide (xs = ys) = false := decide_eq_false fun e => hl (by rw [e])
    simp -dsimp [hl2]
    exact hK _ _ ⟨by rw [hne], rfl⟩
end Go.Proofs
