/-
  HashPlaces: the plain law; the document's place of a key.
-/
import Derived.Test.YtjkefplcbmdndaaH12
namespace Go.HC
theorem newM_len (n : Nat) : (newM n).length = n := List.length_replicate
theorem newM_get {n k : Nat} (hk : k < n) : (newM n)[k]? = some none := by
  unfold newM
  rw [List.getElem?_replicate, if_pos hk]
theorem find_new {n : Nat} (hn : 0 < n) (key : List Int) : findM (newM n) key = some (placeM key n) := by
  have hp := placeM_lt key hn
  have h0 : probe key (newM n).length 0 = placeM key n := by
    unfold probe
    rw [newM_len, Nat.add_zero, Nat.mod_eq_of_lt hp]
  have := find_hit (T := newM n) (key := key) (i := 0) (by rw [newM_len]; exact hn) (fun j hj => by omega) (by
    rw [h0]; unfold hitM; rw [newM_get hp])
  rw [h0] at this
  exact this
theorem put_new1 {n : Nat} (hn : 0 < n) (c : CellM) : putM (newM n) c = some ((newM n).set (placeM c.key n) (some c)) := by
  unfold putM
  rw [find_new hn]
  simp only
  rw [newM_get (placeM_lt c.key hn)]
theorem put_again {n : Nat} (hn : 0 < n) (c d : CellM) (hd : d.key = c.key) : putM ((newM n).set (placeM c.key n) (some c)) d = some ((newM n).set (placeM c.key n) (some (joinC c d))) := by
  have hok := (put_ok (newM_ok n) (put_new1 hn c)).1
  have hp := placeM_lt c.key hn
  have hg : ((newM n).set (placeM c.key n) (some c))[placeM c.key n]? = some (some c) := by
    rw [List.getElem?_set_self (by rw [newM_len]; exact hp)]
  have hf := find_there hok hg
  unfold putM
  rw [hd, hf]
  simp only
  rw [hg]
  simp
/-- Where the other cell comes to stand. -/
def nextP (p : Nat) (n : Nat) (key : List Int) : Nat := if placeM key n = p then (p + 1) % n else placeM key n
theorem put_other {n : Nat} (hn : 2 ≤ n) (c d : CellM) (hne : c.key ≠ d.key) {p : Nat} (hp : p < n) : putM ((newM n).set p (some c)) d = some (((newM n).set p (some c)).set (nextP p n d.key) (some d)) ∧ nextP p n d.key < n ∧ nextP p n d.key ≠ p := by
  have hl : ((newM n).set p (some c)).length = n := by rw [List.length_set, newM_len]
  have hq := placeM_lt d.key (n := n) (by omega)
  have h0 : probe d.key ((newM n).set p (some c)).length 0 = placeM d.key n := by
    unfold probe
    rw [hl, Nat.add_zero, Nat.mod_eq_of_lt hq]
  have h1 : probe d.key ((newM n).set p (some c)).length 1 = (placeM d.key n + 1) % n := by
    unfold probe
    rw [hl]
  have hget : ∀ m, m < n → ((newM n).set p (some c))[m]? = if p = m then some (some c) else some none := by
    intro m hm
    rw [List.getElem?_set]
    by_cases e : p = m
    · subst e; rw [if_pos rfl, if_pos rfl, if_pos (by rw [newM_len]; exact hp)]
    · rw [if_neg e, if_neg e, newM_get hm]
  unfold nextP
  by_cases he : placeM d.key n = p
  · rw [if_pos he]
    have hlt : (p + 1) % n < n := Nat.mod_lt _ (by omega)
    have hnp : (p + 1) % n ≠ p := by
      by_cases h : p + 1 < n
      · rw [Nat.mod_eq_of_lt h]; omega
      · have : p + 1 = n := by omega
        rw [this, Nat.mod_self]; omega
    refine ⟨?_, hlt, hnp⟩
    have hf := find_hit (T := (newM n).set p (some c)) (key := d.key) (i := 1) (by rw [hl]; omega) (fun j hj => by
      have : j = 0 := by omega
      subst this
      rw [h0, he]
      unfold hitM
      rw [hget p hp, if_pos rfl]
      exact decide_eq_false hne) (by
      rw [h1, he]
      unfold hitM
      rw [hget _ hlt, if_neg (fun e => hnp e.symm)])
    rw [h1, he] at hf
    unfold putM
    rw [hf]
    simp only
    rw [hget _ hlt, if_neg (fun e => hnp e.symm)]
  · rw [if_neg he]
    refine ⟨?_, hq, he⟩
    have hf := find_hit (T := (newM n).set p (some c)) (key := d.key) (i := 0) (by rw [hl]; omega) (fun j hj => by omega) (by
      rw [h0]
      unfold hitM
      rw [hget _ hq, if_neg (fun e => he e.symm)])
    rw [h0] at hf
    unfold putM
    rw [hf]
    simp only
    rw [hget _ hq, if_neg (fun e => he e.symm)]
theorem cells_new (n : Nat) : cellsM (newM n) = [] := by
  unfold cellsM newM
  induction n with
  | zero => rfl
  | succ n _ => rw [List.replicate_succ]; simp
theorem cells_one : ∀ {n p : Nat} {c : CellM}, p < n → cellsM ((newM n).set p (some c)) = [c]
  | 0, _, _, h => by omega
  | n + 1, 0, c, _ => by
    unfold newM cellsM
    rw [List.replicate_succ]
    simp
  | n + 1, p + 1, c, h => by
    have := cells_one (n := n) (p := p) (c := c) (by omega)
    unfold newM at this ⊢
    unfold cellsM at this ⊢
    rw [List.replicate_succ]
    simpa using this
theorem cells_two : ∀ {n p q : Nat} {c d : CellM}, p < n → q < n → q ≠ p → cellsM (((newM n).set p (some c)).set q (some d)) = if p < q then [c, d] else [d, c]
  | 0, _, _, _, _, h, _, _ => by omega
  | n + 1, 0, q + 1, c, d, _, hq, _ => by
    have := cells_one (n := n) (p := q) (c := d) (by omega)
    unfold newM at this ⊢
    unfold cellsM at this ⊢
    rw [List.replicate_succ, if_pos (by omega)]
    simpa using this
  | n + 1, p + 1, 0, c, d, hp, _, _ => by
    have := cells_one (n := n) (p := p) (c := c) (by omega)
    unfold newM at this ⊢
    unfold cellsM at this ⊢
    rw [List.replicate_succ, if_neg (by omega)]
    simpa using this
  | _ + 1, 0, 0, _, _, _, _, h => by omega
  | n + 1, p + 1, q + 1, c, d, hp, hq, h => by
    have := cells_two (n := n) (p := p) (q := q) (c := c) (d := d) (by omega) (by omega) (by omega)
    unfold newM at this ⊢
    unfold cellsM at this ⊢
    rw [List.replicate_succ]
    simp only [List.set_cons_succ, List.filterMap_cons, id]
    rw [this]
    by_cases hpq : p < q
    · rw [if_pos hpq, if_pos (by omega)]
    · rw [if_neg hpq, if_neg (by omega)]
end Go.HC
