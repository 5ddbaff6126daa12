/-
  The sort of strings of the library at this program: the kit's contract, laid.
-/
import Derived.Test.YtcopaleccjpdjaaS6
import Derived.Test.YtcopaleccjpdjaaSL
namespace Go.Proofs
open Go.RowKit Go.Sort Go.Shelf

theorem Try.sort_str (blk off cap : Nat) (ss : List (List UInt8)) (w : World) (hH : Holds encStr w blk off ss.toArray) (hblk : blk < w.heap.size) (hsz : ss.length < 4611686018427387904) :
    Calls Try.prog 54 #[.slice (some ⟨blk, off, none⟩) ss.length cap] w fun e w' =>
      e = .returned (.tuple #[]) ∧ ∃ n os, w' = grow (putRow encStr (Sort.ahead w n) blk off (ss.mergeSort fun x y => decide (x ≤ y)).toArray) os := AnyM.slices_Sort_string Try.sortA blk off cap ss w hH hblk hsz
theorem Try.sort_str_none (p : Option Addr) (cap : Nat) (w : World) :
    Calls Try.prog 54 #[.slice p 0 cap] w fun e w' => e = .returned (.tuple #[]) ∧ w' = w := AnyM.slices_Sort_string_none Try.sortA p cap w
end Go.Proofs
namespace Go.Proofs
open Go Go.HC

/-- Names in their order. -/
def sortN (xs : List Nm) : List Nm := ((xs.map fun x => x.data.toList).mergeSort fun x y => decide (x ≤ y)).map fun l => ⟨l.toArray⟩
theorem sortN_perm (xs : List Nm) : (sortN xs).Perm xs := by
  have h := (List.mergeSort_perm (xs.map fun x => x.data.toList) fun x y => decide (x ≤ y)).map fun l => (⟨l.toArray⟩ : Nm)
  refine h.trans (List.Perm.of_eq ?_)
  rw [List.map_map]
  conv => rhs; rw [← List.map_id xs]
  apply List.map_congr_left
  intro x _
  simp
theorem sortN_length (xs : List Nm) : (sortN xs).length = xs.length := (sortN_perm xs).length_eq
theorem sortN_sorted (xs : List Nm) : (sortN xs).Pairwise fun x y => ¬ nLt y x := by
  unfold sortN
  rw [List.pairwise_map]
  have h := List.pairwise_mergeSort (le := fun x y : List UInt8 => decide (x ≤ y)) (fun a b c h1 h2 => by simp only [decide_eq_true_eq] at *; exact List.le_trans h1 h2)
    (fun a b => by simp only [Bool.or_eq_true, decide_eq_true_eq]; exact List.le_total a b) (xs.map fun x => x.data.toList)
  refine h.imp ?_
  intro a b hab
  simp only [decide_eq_true_eq] at hab
  unfold nLt
  simp only
  exact List.not_lt.2 hab
theorem sorted_names {xs ys : List Nm} (hp : xs.Perm ys) (hs : ys.Pairwise nLt) : sortN xs = ys := by
  refine ((sortN_perm xs).trans hp).eq_of_pairwise (le := fun x y => ¬ nLt y x) ?_ (sortN_sorted xs) (hs.imp fun h => nLt_asymm h)
  intro a b _ _ h1 h2
  refine Classical.byContradiction fun h3 => ?_
  exact h1 (nLt_total h2 h3)

theorem sort_spec {h : Heap} {v : Value} {xs : List Nm} {own : Option Nat} (hg : Grow rStr 9 none_ h v xs own) (hn : xs.length < 1099511627776) :
    CallH Try.prog 54 #[v] h fun r h' => r = .tuple #[] ∧ Grow rStr 9 none_ h' v (sortN xs) own ∧ Keep (fun b => own = some b) h h' := by
  rcases hg with ⟨rfl, rfl, rfl⟩ | ⟨bk, c, arr, cs, rfl, rfl, h1, h2, h3, h4, h5, h6, h7⟩
  · intro w hw
    refine (Try.sort_str_none none 0 w).mono ?_
    rintro e w' ⟨rfl, rfl⟩
    exact ⟨_, rfl, .refl _, rfl, hw ▸ .inl ⟨rfl, by simp [sortN], rfl⟩, hw ▸ .refl _ _⟩
  · intro w hw
    subst hw
    have hcs := strs_map.1 h7
    have h3' : arr.size = c := by simpa [rStr] using h3
    have h6' : arr.toList.take xs.length = xs.map Value.string := by
      rw [← hcs, ← h6]; simp [rStr]
    have hget : ∀ j (hj : j < xs.length), arr[j]? = some (.string xs[j]) := by
      intro j hj
      have := congrArg (·[j]?) h6'
      simp only [List.getElem?_take, hj, if_true, List.getElem?_map, List.getElem?_eq_getElem hj, Option.map_some] at this
      simpa using this
    have hlen : ((xs.map fun x => x.data.toList)).length = xs.length := by simp
    have hc := Try.sort_str bk 0 c (xs.map fun x => x.data.toList) w (by
      intro j hj
      have hj' : j < xs.length := by simpa using hj
      constructor
      · show cellH w.heap _ = _
        unfold cellH
        simp only [h1, Nat.zero_add, Option.isSome_none, Bool.false_eq_true, if_false]
        rw [hget j hj']
        rw [getElem!_pos _ j hj]
        simp
      · show frozenH w.heap _ = _
        unfold frozenH
        simp [h1]) (lt_of_blk h1) (by simp; omega)
    rw [hlen] at hc
    refine hc.mono ?_
    rintro e w' ⟨rfl, n, os, rfl⟩
    have hbk := lt_of_blk h1
    generalize hd : ((xs.map fun x => x.data.toList).mergeSort fun x y => decide (x ≤ y)) = d
    have hdl : d.length = xs.length := by rw [← hd]; simp
    have hH : (Sort.grow (Sort.putRow encStr (Sort.ahead w n) bk 0 d.toArray) os).heap = (w.heap.modify bk (Sort.onCells (Sort.putCells encStr 0 d.toArray))) ++ os := rfl
    refine ⟨_, rfl, ⟨rfl, rfl, rfl⟩, rfl, ?_, ?_⟩
    · refine .inr ⟨bk, c, Sort.putCells encStr 0 d.toArray arr, d.map encStr, by rw [sortN_length], rfl, ?_, h2, ?_, by rw [sortN_length]; exact h4, h5, ?_, ?_⟩
      · rw [hH, Array.getElem?_append_left (by simpa using hbk), Array.getElem?_modify, if_pos rfl, h1]
        rfl
      · simp [Sort.putCells, h3]
      · rw [sortN_length]
        apply List.ext_getElem?
        intro i
        simp only [List.getElem?_take, Sort.putCells]
        by_cases hi : i < xs.length
        · have : i < arr.size := by omega
          simp [rStr, hi, this, hdl]
        · simp [rStr, hi, hdl]
      · refine strs_map.2 ?_
        unfold sortN
        rw [hd, List.map_map]
        rfl
    · refine ⟨by rw [hH]; simp, fun b hb hne => ?_⟩
      rw [hH, Array.getElem?_append_left (by simpa using hb), Array.getElem?_modify, if_neg (fun e => hne (by rw [e]))]
end Go.Proofs
