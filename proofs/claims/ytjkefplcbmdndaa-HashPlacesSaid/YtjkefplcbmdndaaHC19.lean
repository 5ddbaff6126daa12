/-
  HC, part 19: a store into an element of a slice that has a block of its own.
-/
import Derived.Test.YtjkefplcbmdndaaHC
namespace Go.HC
section
variable {α : Type} {R : Rp α} {F : Nat → Prop} {h : Heap}
theorem Elems.setF {d : Nat} {news : List Value} {x : α} (hd : d + news.length ≤ R.sz) : ∀ {xs : List α} {cs : List Value} (i : Nat) (hi : i < xs.length), Elems R F h cs xs →
    (∀ cs, R.rep F h cs xs[i] → R.rep F h (cs.take d ++ news ++ cs.drop (d + news.length)) x) →
    Elems R F h (cs.take (i * R.sz + d) ++ news ++ cs.drop (i * R.sz + d + news.length)) (xs.set i x)
  | [], _, i, hi, _, _ => by simp at hi
  | y :: xs, cs, 0, _, ⟨c1, c2, e, h1, h2⟩, hr => by
    subst e
    have hl := R.len h1
    refine ⟨_, c2, ?_, hr c1 h1, h2⟩
    rw [Nat.zero_mul, Nat.zero_add, List.take_append_of_le_length (by omega), List.drop_append_of_le_length (by omega)]
    simp
  | y :: xs, cs, i + 1, hi, ⟨c1, c2, e, h1, h2⟩, hr => by
    subst e
    have hl := R.len h1
    have ih := Elems.setF hd i (by simpa using hi) h2 (by simpa using hr)
    refine ⟨c1, _, ?_, h1, ih⟩
    have e1 : (i + 1) * R.sz + d = c1.length + (i * R.sz + d) := by rw [hl, Nat.succ_mul]; omega
    rw [e1, List.take_length_add_append, Nat.add_assoc, List.drop_length_add_append]
    simp
/-- A part of an element is written. -/
theorem Grow.setF {e : TypeId} {v : Value} {xs : List α} {own : Option Nat} {d : Nat} {news : List Value} {x : α} {i : Nat} (hg : Grow R e F h v xs own) (hi : i < xs.length) (hd : d + news.length ≤ R.sz) (hone : news.all Value.oneCell' = true)
    (hr : ∀ cs, R.rep F h cs xs[i] → R.rep F h (cs.take d ++ news ++ cs.drop (d + news.length)) x) :
    ∃ bk c o, v = .slice (some ⟨bk, 0, none⟩) xs.length c ∧ own = some bk ∧ writeIn h[bk]? (i * R.sz + d) news = some o ∧ Grow R e F (h.setIfInBounds bk o) v (xs.set i x) own := by
  rcases hg with ⟨_, rfl, _⟩ | ⟨bk, c, arr, cs, rfl, rfl, hb, hf, h1, h2, h3, h4, h5⟩
  · simp at hi
  · have hin : i * R.sz + d + news.length ≤ xs.length * R.sz := by
      have : (i + 1) * R.sz ≤ xs.length * R.sz := Nat.mul_le_mul_right _ hi
      rw [Nat.succ_mul] at this
      omega
    have hsz : i * R.sz + d + news.length ≤ arr.size := by
      have : xs.length * R.sz ≤ c * R.sz := Nat.mul_le_mul_right _ h2
      omega
    have hfr : frozenIn (0, 0) (i * R.sz + d) news.length = false := by
      unfold frozenIn; simp
    have hlt := lt_of_blk hb
    refine ⟨bk, c, .cells (writeC arr (i * R.sz + d) news) e (0, 0), rfl, rfl, ?_, ?_⟩
    · rw [hb]
      show (if _ then _ else _) = _
      rw [if_pos (by rw [hone, hfr]; simpa using hsz)]
    · refine .inr ⟨bk, c, _, _, by rw [List.length_set], rfl, set_same _ hlt, hf, by rw [size_writeC, h1], by rw [List.length_set]; exact h2, h3, rfl, ?_⟩
      have hcl := h5.len
      have := (h5.setF (x := x) hd i hi hr)
      rw [toList_writeC _ _ _ hsz, List.length_set]
      have e1 : ((arr.toList.take (i * R.sz + d) ++ news ++ arr.toList.drop (i * R.sz + d + news.length)).take (xs.length * R.sz)) = cs.take (i * R.sz + d) ++ news ++ cs.drop (i * R.sz + d + news.length) := by
        have hl1 : (arr.toList.take (i * R.sz + d) ++ news).length = i * R.sz + d + news.length := by
          rw [List.length_append, List.length_take]; simp; omega
        rw [List.take_append, List.take_of_length_le (by rw [hl1]; exact hin), hl1, ← h4, List.take_take, Nat.min_eq_left (by omega), List.drop_take]
      rw [e1]
      exact this.mono fun b hFb => ⟨hFb, set_other _ (fun (e : bk = b) => hf (e ▸ hFb))⟩
/-- An element is written. -/
theorem Grow.setE {e : TypeId} {v : Value} {xs : List α} {own : Option Nat} {news : List Value} {x : α} {i : Nat} (hg : Grow R e F h v xs own) (hi : i < xs.length) (hr : R.rep F h news x) :
    ∃ bk c o, v = .slice (some ⟨bk, 0, none⟩) xs.length c ∧ own = some bk ∧ writeIn h[bk]? (i * R.sz) news = some o ∧ Grow R e F (h.setIfInBounds bk o) v (xs.set i x) own := by
  have hl := R.len hr
  have := hg.setF (d := 0) (news := news) (x := x) hi (by omega) (R.one hr) (fun cs hc => by
    rw [List.take_zero, List.nil_append, List.drop_of_length_le (by rw [R.len hc]; omega), List.append_nil]; exact hr)
  simpa using this
end
end Go.HC
