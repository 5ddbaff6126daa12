/-
  The program's hash.Group.
-/
import Derived.Test.YtgmjighohmpafaaGreatKBc

namespace Go.Proofs
open Go Go.HC

set_option maxHeartbeats 4000000 in
set_option maxRecDepth 10000 in
theorem hgroup_spec {f n : Nat} {h : Heap} {v : Value} {l : List CellM} (hpre : Pre f 0 l) (hl : SlRep rCell (Old h) h v l) (h0 : 0 < n) (hn : n < 1000000000) (hln : l.length < 1000000) (hsm : ∀ d ∈ l, CellSmall d) (hf : f < 1000000) :
    CallH Tryz.prog 38 #[v, .int .i64 n] h fun r h' => (∃ rv, r = .tuple #[rv, .int .i64 (cntM n f 0 l : Nat)] ∧ NewC 46 h.size h' rv (groupC l)) ∧ Keep none_ h h' := by
  refine callH_by fun K hK => ?_
  refine enter [.tmp 4, .tmp 5] Tryz.func38 rfl rfl (by kernel_rfl) rfl ?_
  obtain ⟨a0, c0, rfl, hc0, hc0'⟩ := hl.val
  simp -dsimp
  refine call_by (parted_spec f (i := 0) (by rwa [Nat.zero_add]) hl h0 hn hln hsm (by omega)) ?_
  rintro _ h1 ⟨⟨rv, rfl, F, own, g, hF, ho⟩, k1⟩
  obtain ⟨a1, c1, rfl⟩ := g.val
  have hgl := groupC_le l
  simp -dsimp
  refine call_by (cloneCell_spec g (fun b hb => (hF b hb).2) (by omega)) ?_
  rintro _ h2 ⟨own2, g2, k2, ho2⟩
  obtain ⟨a2, c2, rfl⟩ := g2.val
  have s1 := k1.size
  simp -dsimp
  exact hK _ _ ⟨⟨_, rfl, F, own2, g2, fun b hb => ⟨(hF b hb).1.at (Nat.le_refl _) (k2.blk b (hF b hb).2 (fun h => h)), Nat.lt_of_lt_of_le (hF b hb).2 k2.size⟩, fun b hb => Nat.le_trans s1 (ho2 b hb)⟩, k1.trans k2 fun _ _ h => h⟩
end Go.Proofs

/-
  What is made of cells, plainly: parts, how many are held at once.
-/
namespace Go.HC
/-- The parts themselves: by tables of n slots. -/
def partsM (n : Nat) : Nat → Nat → List CellM → List (List CellM)
  | 0, _, l => [groupC l]
  | f + 1, i, l => if (groupC l).length ≤ n then [groupC l] else (valsM i l).flatMap fun v => partsM n f (i + 1) (partC i v l)
section
variable {L i f n : Nat} {l m : List CellM} {v : Int}
theorem parts_one (h : (groupC l).length ≤ n) : partsM n f i l = [groupC l] := by
  cases f with
  | zero => rfl
  | succ f => rw [partsM, if_pos h]
theorem parts_len : ∀ {f i : Nat} {l : List CellM}, (partsM n f i l).length = cntM n f i l
  | 0, _, _ => rfl
  | f + 1, i, l => by
    rw [partsM, cntM]
    split
    · rfl
    · rw [List.length_flatMap]
      congr 1
      apply List.map_congr_left
      intro v _
      exact parts_len
theorem parts_flat : ∀ {f i : Nat} {l : List CellM}, Pre (i + f) i l → (partsM n f i l).flatten = groupC l
  | 0, _, _, _ => by simp [partsM]
  | f + 1, i, l, h => by
    have hi : i < i + (f + 1) := by omega
    have hp : ∀ v, Pre (i + 1 + f) (i + 1) (partC i v l) := fun v => by have := h.part hi v; rwa [show i + 1 + f = i + (f + 1) by omega]
    rw [partsM]
    split
    · simp
    · rw [← group_parts h hi (h.vals hi), List.flatten_eq_flatMap, List.flatMap_assoc]
      have : ∀ v, (partsM n f (i + 1) (partC i v l)).flatMap id = groupC (partC i v l) := fun v => by
        rw [← List.flatten_eq_flatMap]; exact parts_flat (hp v)
      simp only [this]
end
/-- A part of the group-by is the group-by of a part. -/
theorem part_group {i : Nat} {v : Int} {l : List CellM} : partC i v (groupC l) = groupC (partC i v l) := by
  refine srt_eq ((grp_group l).srt.filter _) (grp_group _).srt fun c => ?_
  rw [mem_part, (grp_group l).mem, (grp_group _).mem]
  constructor
  · rintro ⟨h1, h2⟩
    rw [atKey_part (v := v) h2]; exact h1
  · intro h
    have hv : atV c i = v := by
      obtain ⟨d, hd, e⟩ := group_key (((grp_group _).mem c).2 h)
      unfold atV
      rw [← e]
      exact (mem_part.1 hd).2
    rw [atKey_part (v := v) hv] at h
    exact ⟨h, hv⟩
/-- The most of some numbers. -/
def mostM : List Nat → Nat
  | [] => 0
  | x :: xs => max x (mostM xs)
theorem most_append (xs ys : List Nat) : mostM (xs ++ ys) = max (mostM xs) (mostM ys) := by
  induction xs with
  | nil => simp [mostM]
  | cons x xs ih => rw [List.cons_append, mostM, mostM, ih]; omega
theorem most_le {xs : List Nat} {n : Nat} (h : ∀ x ∈ xs, x ≤ n) : mostM xs ≤ n := by
  induction xs with
  | nil => exact Nat.zero_le _
  | cons x xs ih =>
    have := h x List.mem_cons_self
    have := ih fun y hy => h y (List.mem_cons_of_mem _ hy)
    rw [mostM]; omega
theorem most_mem {xs : List Nat} {x : Nat} (h : x ∈ xs) : x ≤ mostM xs := by
  induction xs with
  | nil => cases h
  | cons y xs ih =>
    rw [mostM]
    rcases List.mem_cons.1 h with rfl | h
    · omega
    · have := ih h; omega
theorem most_perm {xs ys : List Nat} (h : xs.Perm ys) : mostM xs = mostM ys :=
  Nat.le_antisymm (most_le fun _ hx => most_mem (h.mem_iff.1 hx)) (most_le fun _ hx => most_mem (h.mem_iff.2 hx))
/-- The most cells that a part comes to. -/
def highM (n f i : Nat) (l : List CellM) : Nat := mostM ((partsM n f i l).map (·.length))
theorem high_one {n f i : Nat} {l : List CellM} (h : (groupC l).length ≤ n) : highM n f i l = (groupC l).length := by
  unfold highM; rw [parts_one h]; simp [mostM]
theorem most_flat {α : Type} (g : α → List Nat) (vs : List α) : mostM (vs.flatMap g) = mostM (vs.map fun v => mostM (g v)) := by
  induction vs with
  | nil => rfl
  | cons v vs ih => rw [List.flatMap_cons, most_append, ih, List.map_cons, mostM]
theorem high_step {n f i : Nat} {l : List CellM} (h : ¬ (groupC l).length ≤ n) : highM n (f + 1) i l = mostM ((valsM i l).map fun v => highM n f (i + 1) (partC i v l)) := by
  unfold highM
  rw [partsM, if_neg h, List.map_flatMap, most_flat]
end Go.HC

/-
  The document's group-by in parts.
-/
namespace Go.HC
theorem putC_last : ∀ {o : List CellM} {c : CellM}, (∀ d ∈ o, lessM d.key c.key < 0) → putC o c = o ++ [c]
  | [], _, _ => rfl
  | d :: o, c, h => by
    rw [putC, if_pos (h d List.mem_cons_self), putC_last fun e he => h e (List.mem_cons_of_mem _ he)]; rfl
theorem group_id {o : List CellM} (h : Srt o) : groupC o = o := by
  have key : ∀ k, groupC (o.take k) = o.take k := by
    intro k
    induction k with
    | zero => rfl
    | succ k ih =>
      by_cases hk : k < o.length
      · rw [group_take hk, ih, take_snoc hk]
        refine putC_last fun d hd => ?_
        obtain ⟨j, hj, e⟩ := List.getElem_of_mem hd
        rw [List.length_take] at hj
        rw [List.getElem_take] at e
        rw [← e]
        exact h.get (by omega) hk (by omega)
      · rw [List.take_of_length_le (by omega)]; rwa [List.take_of_length_le (by omega)] at ih
  have := key o.length
  rwa [List.take_length] at this
theorem Holds.group {T : Tab} {l : List CellM} (h : Holds T l) : groupC (cellsM T) = groupC l := (group_perm h.perm).trans (group_id (grp_group l).srt)
/-- The values below v at a place of the keys. -/
def valsTo (i : Nat) (l : List CellM) (v : Nat) : List Int := ((List.range v).map Int.ofNat).filter fun v => l.any fun c => decide (atV c i = v)
theorem valsTo_succ (i : Nat) (l : List CellM) (v : Nat) : valsTo i l (v + 1) = valsTo i l v ++ (if 0 < (partC i v l).length then [(v : Int)] else []) := by
  unfold valsTo
  rw [List.range_succ, List.map_append, List.filter_append]
  congr 1
  have : (l.any fun c => decide (atV c i = Int.ofNat v)) = decide (0 < (partC i v l).length) := by
    rw [Bool.eq_iff_iff]
    simp only [List.any_eq_true, decide_eq_true_eq]
    constructor
    · rintro ⟨c, hc, e⟩
      exact List.length_pos_of_mem (mem_part.2 ⟨hc, e⟩)
    · intro hl
      obtain ⟨c, hc⟩ := List.exists_mem_of_length_pos hl
      exact ⟨c, (mem_part.1 hc).1, (mem_part.1 hc).2⟩
  by_cases h : 0 < (partC i v l).length
  · rw [if_pos h]; simp only [List.map_cons, List.map_nil, List.filter_cons, List.filter_nil, this]; simp [h]
  · rw [if_neg h]; simp only [List.map_cons, List.map_nil, List.filter_cons, List.filter_nil, this]; simp [h]
theorem valsTo_all (i : Nat) (l : List CellM) : valsTo i l 16 = valsM i l := rfl
theorem valsTo_le (i : Nat) (l : List CellM) (g : Int → Nat) {v w : Nat} (h : v ≤ w) : ((valsTo i l v).map g).sum ≤ ((valsTo i l w).map g).sum := by
  induction w with
  | zero => have : v = 0 := by omega
            subst this; exact Nat.le_refl _
  | succ w ih =>
    rcases Nat.lt_or_ge v (w + 1) with h1 | h1
    · have := ih (by omega)
      rw [valsTo_succ i l w, List.map_append, List.sum_append]; omega
    · have : v = w + 1 := by omega
      subst this; exact Nat.le_refl _
theorem part_take {i : Nat} {v : Int} {l : List CellM} {k : Nat} (hk : k < l.length) : partC i v (l.take (k + 1)) = if atV l[k] i = v then partC i v (l.take k) ++ [l[k]] else partC i v (l.take k) := by
  rw [take_snoc hk, part_snoc]
end Go.HC
namespace Go.Proofs
open Go Go.HC

theorem cellsT : ElemT Tryz.prog 63 31 (rSlice rCell) 24 := ⟨Tryz.elS63, Tryz.szS31, Tryz.byS31, _, Tryz.zS31, rfl⟩
/-- The document's parts of cells whose keys have f numbers from the place i on. -/
def RPartsOk (f : Nat) : Prop := ∀ {i n m : Nat} {h : Heap} {v : Value} {l : List CellM}, Pre (i + f) i l → SlRep rCell (Old h) h v l → 0 < n → n < 1000000 → l.length < 1000000 → (∀ d ∈ l, Sml m d) → m < 1000000000 → i + f < 1000000 →
  CallH Tryz.prog 43 #[v, .int .i64 n, .int .i64 i] h fun r h' => SlRep (rSlice rCell) (Ft h.size none_ h') h' r (partsM n f i l) ∧ Keep none_ h h'

set_option maxHeartbeats 4000000 in
set_option maxRecDepth 10000 in
theorem rparts_step (f : Nat) (ih : ∀ f', f = f' + 1 → RPartsOk f') : RPartsOk f := by
  intro i n m h v l hpre hl h0 hn hln hsm hm hif
  refine callH_by fun K hK => ?_
  refine enter [.tmp 6] Tryz.func43 rfl rfl (by kernel_rfl) rfl ?_
  obtain ⟨a0, c0, rfl, hc0, hc0'⟩ := hl.val
  simp -dsimp
  refine call_by (rnew7_spec n (by omega) h) ?_
  rintro tv h0' ⟨G0, t0, k0, n0⟩
  simp -dsimp
  refine loopc (σ := Nat × Bool) (fun t => [(0, .slice a0 l.length c0), (1, .int .i64 n), (2, .int .i64 i), (7, tv), (8, .bool t.2), (9, .int .i64 t.1)])
    (fun t h1 => t.1 ≤ l.length ∧ Keep none_ h h1 ∧ ((t.2 = false ∧ n < (groupC l).length) ∨ (t.2 = true ∧ ∃ G T, RTabT tv G h1 T ∧ (∀ b, G b → h.size ≤ b) ∧ T.length = n ∧ (∀ (k : Nat) (d : CellM), T[k]? = some (some d) → Sml m d) ∧ Holds T (l.take t.1)))) (fun t => l.length - t.1) (0, true) 0 (fun t _ => t.2 = true → t.1 = l.length) noRet noRet_le (by simp)
    ⟨Nat.zero_le _, k0, .inr ⟨rfl, G0, _, t0, n0, new_len n, (fun k d hd => by
      unfold newM at hd
      rw [List.getElem?_replicate] at hd
      split at hd <;> cases hd), .new n⟩⟩ (by kernel_rfl) ?_ ?_
  · rintro ⟨k, fit⟩ h1 g ⟨hk, k1, hor⟩
    simp only at hk hor
    by_cases hkl : k < l.length
    · have wk := wrap_succ (k := k) (by omega)
      rcases hor with ⟨rfl, hnk⟩ | ⟨rfl, G, T, t1, n1, hT, hTs, hH⟩
      · simp -dsimp [hkl]
        exact ⟨rfl, (k, false), by simp, rfl, ⟨hk, k1, .inl ⟨rfl, hnk⟩⟩, by simp⟩
      · obtain ⟨b1, o1, cs, e1, _, hrep, hx1⟩ := (hl.mono ((Tr.of k1).ft (Nat.le_refl 0))).get k hkl
        obtain ⟨ka, kc, sa, sc, na, nc, xa, xc, rfl, _⟩ := cell_open hrep
        have hx1' : HC.cellsIn h1[b1]? (o1 + k * 5) 5 = _ := hx1
        have hck := hsm _ (List.getElem_mem hkl)
        simp -dsimp [hkl, e1, idxA_nat hkl, hx1']
        refine call_by (rput7_spec t1 hrep (fun v hv => by have := hpre.small _ (List.getElem_mem hkl) v hv; omega) (by omega) (by omega) hm hck hTs) ?_
        rintro _ h3 ⟨rfl, G3, t3, k3, n3⟩
        have kk3 : Keep none_ h h3 := keep_from k1 k3 n1 (Nat.le_refl _)
        have s1 := k1.size
        simp -dsimp [wk]
        refine ⟨(k + 1, (putM T l[k]).isSome), by simp [e1], rfl, ⟨by show k + 1 ≤ l.length; omega, kk3, ?_⟩, by show l.length - (k + 1) < l.length - k; omega⟩
        cases hp : putM T l[k] with
        | none =>
          refine .inl ⟨rfl, Classical.byContradiction fun hle => ?_⟩
          have := group_take_le l (k + 1)
          obtain ⟨T', hT'⟩ := hH.goes l[k] (by rw [take_snoc hkl] at this; rw [hT]; omega)
          rw [hp] at hT'; cases hT'
        | some T' =>
          rw [hp] at t3
          refine .inr ⟨rfl, G3, T', t3, fun b hb => (n3 b hb).elim (n1 b) (by omega), by rw [put_len hp, hT], put_cells hTs hck (fun d hd => hd.join hck) hp, ?_⟩
          simp only [take_snoc hkl]
          exact hH.put hp
    · simp -dsimp [hkl]
      exact ⟨rfl, (k, fit), by simp, rfl, ⟨hk, k1, hor⟩, fun _ => by show k = l.length; omega⟩
  · rintro ⟨k, fit⟩ h1 g ⟨hk, k1, hor⟩ hkl
    simp only at hk hor hkl
    rcases hor with ⟨rfl, hnk⟩ | ⟨rfl, G, T, t1, n1, hT, hTs, hH⟩
    · cases f with
      | zero =>
        have := hpre.one
        omega
      | succ f =>
        have hi : i < i + (f + 1) := by omega
        simp -dsimp
        have hwi := wrap_succ (k := i) (by omega)
        have hcnt : cntM n (f + 1) i l = ((valsM i l).map fun v => cntM n f (i + 1) (partC i v l)).sum := by rw [cntM, if_neg (by omega)]
        obtain ⟨pm, hpm⟩ : ∃ pm : Nat → List (List CellM), ∀ v, pm v = (valsTo i l v).flatMap fun v => partsM n f (i + 1) (partC i v l) := ⟨_, fun _ => rfl⟩
        have hpm0 : pm 0 = [] := by rw [hpm]; rfl
        have hpm16 : pm 16 = partsM n (f + 1) i l := by rw [hpm, valsTo_all, partsM, if_neg (by omega)]
        have hpml : ∀ v, (pm v).length = ((valsTo i l v).map fun v => cntM n f (i + 1) (partC i v l)).sum := fun v => by rw [hpm, List.length_flatMap]; simp only [parts_len]
        have hcl := cnt_le (n := n) hpre
        have hgl := groupC_le l
        refine loopc (σ := Nat × Value) (fun t => [(0, .slice a0 l.length c0), (1, .int .i64 n), (2, .int .i64 i), (10, t.2), (11, .int .i64 t.1)])
          (fun t h2 => t.1 ≤ 16 ∧ ∃ M own, Tr none_ M h h2 ∧ Gr (rSlice rCell) 31 h.size M h2 t.2 (pm t.1) own ∧ (∀ b, own = some b → h.size ≤ b))
          (fun t => 16 - t.1) (0, .slice none 0 0) 2 (fun t _ => t.1 = 16) noRet noRet_le (by simp) ⟨by decide, none_, none, Tr.of k1, hpm0 ▸ .nil _ _ _ _ _, (fun b hb => by cases hb)⟩ (by kernel_rfl) ?_ ?_
        · rintro ⟨v, ov⟩ h2 g ⟨hv, M, own, t2, g2, ho2⟩
          simp only at hv g2
          have wv := wrap_succ (k := v) (by omega)
          by_cases hv16 : v < 16
          · have hv16' : ((v : Int) < 16) = True := by simp; omega
            simp -dsimp [hv16']
            refine loopc (σ := Nat × Value) (fun t => [(0, .slice a0 l.length c0), (1, .int .i64 n), (2, .int .i64 i), (10, ov), (11, .int .i64 v), (12, t.2), (13, .int .i64 t.1)])
              (fun t h3 => t.1 ≤ l.length ∧ ∃ M2 own2, Tr none_ M2 h2 h3 ∧ Gr rCell 46 0 M2 h3 t.2 (partC i v (l.take t.1)) own2) (fun t => l.length - t.1) (0, .slice none 0 0) 4 (fun t _ => t.1 = l.length) noRet noRet_le (by simp) ⟨Nat.zero_le _, none_, none, .start h2, .nil _ _ _ _ _⟩ (by kernel_rfl) ?_ ?_
            · rintro ⟨j, pv⟩ h3 g ⟨hj, M2, own2, t3, g3⟩
              simp only at hj g3
              by_cases hjl : j < l.length
              · have wj := wrap_succ (k := j) (by omega)
                obtain ⟨hij, hat, _⟩ := hpre.at hi (List.getElem_mem hjl)
                obtain ⟨b1, o1, cs, e1, _, hrep, hx1⟩ := ((hl.mono ((Tr.of t2.keep).ft (Nat.le_refl 0))).mono t3.old).get j hjl
                obtain ⟨ka, kc, sa, sc, na, nc, xa, xc, rfl, r1, _⟩ := cell_open hrep
                have hx1' : HC.cellsIn h3[b1]? (o1 + j * 5) 5 = _ := hx1
                have hk0 : cellIn h3[b1]? (o1 + j * 5) = some (.slice ka l[j].key.length kc) := cellsIn_cell (d := 0) hx1 (by decide)
                obtain ⟨b2, o2, e2, _, hc2⟩ := r1.int_at i hij
                subst e2
                obtain ⟨x, ex⟩ : ∃ x, x = l[j].key[i] := ⟨_, rfl⟩
                rw [← ex] at hat hc2
                have hpt := part_take (i := i) (v := (v : Int)) hjl
                have hpl := part_len (i := i) (v := (v : Int)) (l := l.take j)
                rw [List.length_take] at hpl
                rw [hat] at hpt
                by_cases hxv : x = (v : Int)
                · rw [if_pos hxv] at hpt
                  have hxv' : (x == (v : Int)) = true := by rw [hxv]; exact beq_self_eq_true _
                  simp -dsimp [hjl, e1, idxA_nat hjl, hk0, idxA_nat hij, hc2, hxv', hx1']
                  refine gr_app1 (x := l[j]) rfl cellT g3 t3.lt hrep rfl (by omega) (by omega) ?_
                  intro v5 h5 own5 g5 t5 k5 ho5
                  simp -dsimp [wj]
                  exact ⟨(j + 1, v5), by simp [e1], rfl, ⟨by show j + 1 ≤ l.length; omega, _, own5, t3.trans t5, by rw [hpt]; exact g5⟩, by show l.length - (j + 1) < l.length - j; omega⟩
                · rw [if_neg hxv] at hpt
                  have hxv' : (x == (v : Int)) = false := by simpa using hxv
                  simp -dsimp [hjl, e1, idxA_nat hjl, hk0, idxA_nat hij, hc2, hxv', wj]
                  exact ⟨(j + 1, pv), by simp [e1], rfl, ⟨by show j + 1 ≤ l.length; omega, M2, own2, t3, by rw [hpt]; exact g3⟩, by show l.length - (j + 1) < l.length - j; omega⟩
              · simp -dsimp [hjl]
                exact ⟨rfl, (j, pv), by simp, rfl, ⟨hj, M2, own2, t3, g3⟩, by show j = l.length; omega⟩
            · rintro ⟨j, pv⟩ h3 g ⟨hj, M2, own2, t3, g3⟩ hjl
              simp only at hj g3 hjl
              subst hjl
              rw [List.take_length] at g3
              have hp3 : SlRep rCell (Old h3) h3 pv (partC i v l) := g3.rep (Nat.le_refl 0) (fun _ _ => Nat.zero_le _)
              obtain ⟨pa, pn, pc, epv, hpn⟩ := g3.vals
              subst epv
              have hvt := valsTo_succ i l v
              have g4 := g2.call t3.keep
              have t4 := t2.call t3.keep
              have s4 := t4.size
              by_cases hpos : 0 < (partC i v l).length
              · rw [if_pos hpos] at hvt
                have hpl := part_len (i := i) (v := (v : Int)) (l := l)
                have hpmv : pm (v + 1) = pm v ++ partsM n f (i + 1) (partC i v l) := by rw [hpm, hpm, hvt, List.flatMap_append]; simp
                subst hpn
                simp -dsimp [hpos, hwi]
                refine call_by (ih f rfl (i := i + 1) (show Pre (i + 1 + f) (i + 1) (partC i v l) by have := hpre.part hi v; rwa [show i + 1 + f = i + (f + 1) by omega]) hp3 h0 hn (by omega) (fun d hd => hsm d (mem_part.1 hd).1) hm (show i + 1 + f < 1000000 by omega)) ?_
                rintro rv h5 ⟨hr5, k5⟩
                have hs5 : SlRep (rSlice rCell) (Ft h.size M h5) h5 rv (partsM n f (i + 1) (partC i v l)) := hr5.mono (t4.ret (by omega))
                obtain ⟨ra, rc, rfl, _, _⟩ := hs5.val
                obtain ⟨cs5, _, _, _, hc5, he5⟩ := hs5.open_
                have t5 := t4.call k5
                have hsz : (pm v).length + (partsM n f (i + 1) (partC i v l)).length ≤ max 1 (groupC l).length := by
                  have h1 := valsTo_le i l (fun v => cntM n f (i + 1) (partC i v l)) (show v + 1 ≤ 16 by omega)
                  have h2 := hpml (v + 1)
                  rw [hpmv, List.length_append] at h2
                  rw [valsTo_all, ← hcnt] at h1
                  omega
                simp -dsimp
                refine gr_append cellsT (g4.call k5) t5.lt rfl hc5 he5 (by omega) (by omega) ?_
                intro v6 h6 own6 g6 t6 k6 ho6
                simp -dsimp [wv]
                exact ⟨(v + 1, v6), by simp, rfl, ⟨by show v + 1 ≤ 16; omega, _, own6, t5.trans t6, by rw [hpmv]; exact g6, fun b hb => (ho6 b hb).elim (ho2 b) (fun h => by have := k5.size; omega)⟩, by show 16 - (v + 1) < 16 - v; omega⟩
              · rw [if_neg hpos, List.append_nil] at hvt
                subst hpn
                simp -dsimp [hpos, wv]
                exact ⟨(v + 1, ov), by simp, rfl, ⟨by show v + 1 ≤ 16; omega, M, own, t4, by rw [hpm, hvt, ← hpm]; exact g4, ho2⟩, by show 16 - (v + 1) < 16 - v; omega⟩
          · have hv16' : ((v : Int) < 16) = False := by simp; omega
            simp -dsimp [hv16']
            exact ⟨rfl, (v, ov), by simp, rfl, ⟨hv, M, own, t2, g2, ho2⟩, by show v = 16; omega⟩
        · rintro ⟨v, ov⟩ h2 g ⟨hv, M, own, t2, g2, ho2⟩ hv16
          simp only at hv g2 hv16
          subst hv16
          rw [hpm16] at g2
          obtain ⟨oa, on, oc, eo, hon⟩ := g2.vals
          subst eo
          simp -dsimp
          exact hK _ _ ⟨g2.rep (Nat.le_refl _) ho2, t2.keep⟩
    · have hkl' := hkl rfl
      rw [hkl', List.take_length] at hH
      have hcl : (cellsM T).length ≤ l.length := by rw [hH.perm.length_eq]; exact groupC_le l
      have hnk : (groupC l).length ≤ n := by
        have := taken_le T
        rwa [hH.taken, hT] at this
      simp -dsimp
      refine call_by (rcells7_spec t1 (by omega) hm hTs) ?_
      rintro cv h2 ⟨r2, k2⟩
      have s1 := k1.size
      obtain ⟨a2, c2, rfl, _, _⟩ := r2.val
      simp -dsimp
      refine call_by (rgroup_at (n0 := h1.size) r2 (by omega) hm (fun d hd => by
        obtain ⟨k, hk⟩ := cellsM_mem.1 hd
        exact hTs k d hk) k2.size) ?_
      rintro gv h3 ⟨r3, k3⟩
      obtain ⟨a3, c3, rfl, _, _⟩ := r3.val
      rw [hH.group] at r3
      simp -dsimp
      rw [hH.group]
      have s3 := Nat.le_trans k2.size k3.size
      rw [parts_one hnk] at hK
      refine hK _ _ ⟨?_, ((k1.trans k2 fun _ _ h => h).trans k3 fun _ _ h => h).trans (.push _ _ _) fun _ _ h => h⟩
      refine ⟨_, 1, [.slice a3 (groupC l).length c3], rfl, Nat.le_refl _, by decide, .inr ⟨h3.size, 0, _, _, _, rfl, ⟨.is (Nat.le_trans s1 s3) (push_new _ _), by simp, fun h => h⟩, push_new _ _, by rw [List.drop_zero, List.take_of_length_le (Nat.le_refl _)]⟩, ?_⟩
      refine .single ⟨_, rfl, r3.mono fun b hb => ⟨⟨hb.1.at s1 (push_old _ hb.2.1), by have := hb.2.1; simp; omega, fun h => h⟩, push_old _ hb.2.1⟩⟩
end Go.Proofs

/-
  The document's parts of cells, of any keys.
-/
namespace Go.HC
theorem flatten_take {α : Type} {ls : List (List α)} {k : Nat} (hk : k < ls.length) : (ls.take (k + 1)).flatten = (ls.take k).flatten ++ ls[k] := by
  rw [take_snoc hk, List.flatten_append]; simp
theorem flatten_take_le {α : Type} (ls : List (List α)) (k : Nat) : (ls.take k).flatten.length ≤ ls.flatten.length := by
  conv => rhs; rw [← List.take_append_drop k ls]
  rw [List.flatten_append, List.length_append]; omega
theorem SlRep.row_at {α : Type} {R : Rp α} {F : Nat → Prop} {h : Heap} {a : Option Addr} {m c : Nat} {ls : List (List α)} (hs : SlRep (rSlice R) F h (.slice a m c) ls) (k : Nat) (hk : k < ls.length) :
    ∃ b o v, a = some ⟨b, o, none⟩ ∧ F b ∧ cellIn h[b]? (o + k) = some v ∧ SlRep R F h v ls[k] := by
  obtain ⟨b, o, cs, e, hb, ⟨v, rfl, hv⟩, hx⟩ := hs.get k hk
  refine ⟨b, o, v, e, hb, ?_, hv⟩
  have := cellsIn_cell (d := 0) hx (by show 0 < 1; decide)
  have hz : (rSlice R).sz = 1 := rfl
  rw [hz, Nat.mul_one, Nat.add_zero] at this
  simpa using this
end Go.HC
namespace Go.Proofs
open Go Go.HC

theorem rparts_spec (f : Nat) : RPartsOk f := by
  induction f with
  | zero => exact rparts_step 0 fun f' h => by omega
  | succ f ih =>
    exact rparts_step (f + 1) fun f' h => by
      cases h
      exact ih
end Go.Proofs

/-
  Two rows of rising cells made one; runs; plainly.
-/
namespace Go.HC
theorem fold_front {d : CellM} : ∀ {b o : List CellM}, (∀ y ∈ b, lessM d.key y.key < 0) → b.foldl putC (d :: o) = d :: b.foldl putC o
  | [], _, _ => rfl
  | y :: b, o, h => by
    rw [List.foldl_cons, List.foldl_cons, putC, if_pos (h y List.mem_cons_self)]
    exact fold_front fun z hz => h z (List.mem_cons_of_mem _ hz)
def twoM : List CellM → List CellM → List CellM
  | [], b => b
  | x :: a, [] => x :: a
  | x :: a, y :: b => if lessM x.key y.key < 0 then x :: twoM a (y :: b) else if lessM x.key y.key = 0 then joinC x y :: twoM a b else y :: twoM (x :: a) b
termination_by a b => a.length + b.length
theorem two_fold : ∀ (a b : List CellM), Srt a → Srt b → twoM a b = b.foldl putC a
  | [], b, _, hb => by
    rw [twoM]
    exact (group_id hb).symm
  | x :: a, [], _, _ => by rw [twoM]; rfl
  | x :: a, y :: b, ha, hb => by
    obtain ⟨ha1, ha2⟩ := List.pairwise_cons.1 ha
    obtain ⟨hb1, hb2⟩ := List.pairwise_cons.1 hb
    rw [twoM]
    split
    · rename_i h
      rw [two_fold a (y :: b) ha2 hb, fold_front]
      intro z hz
      rcases List.mem_cons.1 hz with rfl | hz
      · exact h
      · exact lessM_trans h (hb1 z hz)
    · rename_i h
      split
      · rename_i h0
        rw [two_fold a b ha2 hb2, List.foldl_cons, putC, if_neg h, if_pos h0, fold_front]
        intro z hz
        have : (joinC x y).key = y.key := lessM_zero.1 h0
        rw [this]
        exact hb1 z hz
      · rename_i h0
        rw [two_fold (x :: a) b ha hb2, List.foldl_cons, putC, if_neg h, if_neg h0]
        exact (fold_front (d := y) fun z hz => hb1 z hz).symm
termination_by a b => a.length + b.length
theorem two_group {a b : List CellM} (ha : Srt a) (hb : Srt b) : twoM a b = groupC (a ++ b) := by
  rw [two_fold a b ha hb]
  unfold groupC
  rw [List.foldl_append]
  congr 1
  exact (group_id ha).symm
end Go.HC
namespace Go.HC
/-- One more cell of the runs: those that are closed, and the one that is held. -/
def runStep (most : Nat) (st : List (List CellM) × List CellM) (c : CellM) : List (List CellM) × List CellM :=
  if (∀ d ∈ st.2, d.key ≠ c.key) ∧ most ≤ st.2.length then (st.1 ++ [st.2], [c]) else (st.1, putC st.2 c)
def runFold (most : Nat) (l : List CellM) : List (List CellM) × List CellM := l.foldl (runStep most) ([], [])
def runsM (most : Nat) (l : List CellM) : List (List CellM) := (runFold most l).1 ++ (if 0 < (runFold most l).2.length then [(runFold most l).2] else [])
theorem run_take {most : Nat} {l : List CellM} {k : Nat} (hk : k < l.length) : runFold most (l.take (k + 1)) = runStep most (runFold most (l.take k)) l[k] := by
  unfold runFold
  rw [take_snoc hk, List.foldl_append]; rfl
end Go.HC
namespace Go.HC
theorem group_left (a b : List CellM) : groupC (groupC b ++ a) = groupC (b ++ a) := by
  unfold groupC
  rw [List.foldl_append, List.foldl_append]
  congr 1
  exact group_id (grp_group b).srt
theorem group_right (a b : List CellM) : groupC (a ++ groupC b) = groupC (a ++ b) := by
  rw [group_perm List.perm_append_comm, group_left, group_perm List.perm_append_comm]
theorem put_group {h : List CellM} (hs : Srt h) (c : CellM) : putC h c = groupC (h ++ [c]) := by rw [groupC_snoc, group_id hs]
theorem put_there : ∀ {o : List CellM} {c : CellM}, Srt o → (∃ d ∈ o, d.key = c.key) → (putC o c).length = o.length
  | [], _, _, ⟨_, h, _⟩ => by cases h
  | x :: o, c, hs, ⟨d, hd, e⟩ => by
    obtain ⟨h1, h2⟩ := List.pairwise_cons.1 hs
    rw [putC]
    split
    · rename_i hlt
      have hd' : d ∈ o := by
        rcases List.mem_cons.1 hd with rfl | h
        · rw [e, lessM_self] at hlt; omega
        · exact h
      rw [List.length_cons, List.length_cons, put_there h2 ⟨d, hd', e⟩]
    · split
      · rfl
      · rename_i hn h0
        exfalso
        rcases List.mem_cons.1 hd with rfl | h
        · exact h0 (lessM_zero.2 e)
        · have := h1 d h
          rw [e] at this
          exact hn this
/-- What holds of runs. -/
structure RunOk (most : Nat) (l : List CellM) (st : List (List CellM) × List CellM) : Prop where
  srt : ∀ r ∈ st.1, Srt r
  len : ∀ r ∈ st.1, r.length = most
  held : Srt st.2
  hlen : st.2.length ≤ most
  grp : groupC (st.1.flatten ++ st.2) = groupC l
  one : (groupC l).length ≤ most → st.1 = []
theorem runOk (most : Nat) (h0 : 0 < most) (l : List CellM) : ∀ k, k ≤ l.length → RunOk most (l.take k) (runFold most (l.take k)) := by
  intro k
  induction k with
  | zero => exact fun _ => ⟨(fun r hr => by cases hr), (fun r hr => by cases hr), List.Pairwise.nil, Nat.zero_le _, rfl, fun _ => rfl⟩
  | succ k ih =>
    intro hk
    have h := ih (by omega)
    rw [run_take (by omega)]
    have hsn := take_snoc (l := l) (k := k) (by omega)
    generalize runFold most (l.take k) = st at *
    obtain ⟨out, held⟩ := st
    obtain ⟨h1, h2, h3, h4, h5, h6⟩ := h
    simp only at h1 h2 h3 h4 h5 h6
    have hg : groupC (out.flatten ++ (held ++ [l[k]])) = groupC (l.take (k + 1)) := by
      rw [hsn, ← List.append_assoc, groupC_snoc, groupC_snoc, h5]
    have hmon : (groupC (l.take k)).length ≤ (groupC (l.take (k + 1))).length := by
      rw [hsn, groupC_snoc]; have := putC_len (l := groupC (l.take k)) l[k]; omega
    unfold runStep
    split
    · rename_i hc
      refine ⟨fun r hr => ?_, fun r hr => ?_, by simp [Srt], by simp; omega, ?_, fun hle => ?_⟩
      · rcases List.mem_append.1 hr with hr | hr
        · exact h1 r hr
        · rw [List.mem_singleton] at hr; subst hr; exact h3
      · rcases List.mem_append.1 hr with hr | hr
        · exact h2 r hr
        · rw [List.mem_singleton] at hr; subst hr; simp only at hc ⊢; omega
      · simp only [List.flatten_append, List.flatten_cons, List.flatten_nil, List.append_nil, List.append_assoc]
        exact hg
      · exfalso
        have h7 := h6 (by omega)
        subst h7
        simp only [List.flatten_nil, List.nil_append] at hg
        rw [← hg, ← put_group h3] at hle
        have hno : ∀ o : List CellM, (∀ d ∈ o, d.key ≠ l[k].key) → (putC o l[k]).length = o.length + 1 := by
          intro o
          induction o with
          | nil => exact fun _ => rfl
          | cons d o ih =>
            intro ho
            rw [putC]
            split
            · simpa using ih fun d hd => ho d (List.mem_cons_of_mem _ hd)
            · split
              · rename_i h0
                exact absurd (lessM_zero.1 h0) (ho d List.mem_cons_self)
              · rfl
        rw [hno _ hc.1] at hle
        have := hc.2
        simp only at this
        omega
    · rename_i hc
      have hpl : (putC held l[k]).length ≤ most := by
        rcases Nat.lt_or_ge held.length most with h | h
        · have := putC_le held l[k]; omega
        · have hex : ∃ d ∈ held, d.key = l[k].key := Classical.byContradiction fun hno => hc ⟨fun d hd e => hno ⟨d, hd, e⟩, h⟩
          rw [put_there h3 hex]; exact h4
      refine ⟨h1, h2, srt_put h3 _, hpl, ?_, fun hle => h6 (by omega)⟩
      simp only
      rw [put_group h3, group_right]
      exact hg
end Go.HC

/-
  Cells by fewer dimensions, plainly.
-/
namespace Go.HC
/-! ### fewer dimensions -/
def dimsM (a : Int) : List Nat := (List.range 4).filter (bitM a)
def pickN (b : Int) (ds : List Nat) (key : List Int) : List Int := (ds.zip key).filterMap fun p => if bitM b p.1 = true then some p.2 else none
def narrowC (a b : Int) (c : CellM) : CellM := ⟨pickN b (dimsM a) c.key, c.count, c.sum, c.mn, c.mx⟩
theorem pickN_cons (b : Int) (d : Nat) (ds : List Nat) (x : Int) (key : List Int) : pickN b (d :: ds) (x :: key) = if bitM b d = true then x :: pickN b ds key else pickN b ds key := by
  unfold pickN
  rw [List.zip_cons_cons, List.filterMap_cons]
  split <;> rename_i h <;> split at h <;> simp_all
theorem pickN_nil (b : Int) (ds : List Nat) : pickN b ds [] = [] := by unfold pickN; simp
theorem pickN_nil' (b : Int) (key : List Int) : pickN b [] key = [] := by unfold pickN; simp
theorem pickN_snoc (b : Int) (d : Nat) : ∀ (ds : List Nat) (key : List Int), pickN b (ds ++ [d]) key = pickN b ds key ++ (if h : ds.length < key.length then (if bitM b d = true then [key[ds.length]] else []) else [])
  | [], [] => by simp [pickN_nil]
  | [], x :: key => by
    simp only [List.nil_append, pickN_cons, pickN_nil', List.length_nil, List.length_cons, Nat.zero_lt_succ, dite_true, List.getElem_cons_zero]
  | e :: ds, [] => by simp [pickN_nil]
  | e :: ds, x :: key => by
    rw [List.cons_append, pickN_cons, pickN_cons, pickN_snoc b d ds key]
    by_cases h : ds.length < key.length
    · have h' : (e :: ds).length < (x :: key).length := by simp; omega
      rw [dif_pos h, dif_pos h']
      split <;> simp
    · have h' : ¬ (e :: ds).length < (x :: key).length := by simp; omega
      rw [dif_neg h, dif_neg h']
      simp
theorem pickN_len (b : Int) : ∀ (ds : List Nat) (key : List Int), ds.length ≤ key.length → (pickN b ds key).length = (ds.filter (bitM b)).length
  | [], key, _ => by simp [pickN_nil']
  | d :: ds, [], h => by simp at h
  | d :: ds, x :: key, h => by
    rw [pickN_cons, List.filter_cons]
    have ih := pickN_len b ds key (by simpa using h)
    split <;> simp [ih]
theorem pickN_le (b : Int) (ds : List Nat) (key : List Int) : (pickN b ds key).length ≤ key.length := by
  unfold pickN
  refine Nat.le_trans (List.length_filterMap_le _ _) ?_
  rw [List.length_zip]; omega
theorem pickN_mem {b : Int} {v : Int} : ∀ {ds : List Nat} {key : List Int}, v ∈ pickN b ds key → v ∈ key
  | [], key, h => by simp [pickN_nil'] at h
  | d :: ds, [], h => by simp [pickN_nil] at h
  | d :: ds, x :: key, h => by
    rw [pickN_cons] at h
    split at h
    · rcases List.mem_cons.1 h with rfl | h
      · exact List.mem_cons_self
      · exact List.mem_cons_of_mem _ (pickN_mem h)
    · exact List.mem_cons_of_mem _ (pickN_mem h)
theorem pickN_of {a b : Int} (hab : ∀ i, i < 4 → bitM b i = true → bitM a i = true) : ∀ (xs : List Int) (i : Nat), i + xs.length ≤ 4 →
    pickN b ((List.range' i (4 - i)).filter (bitM a)) (pickM a i xs) = pickM b i xs
  | [], i, _ => by rw [pickM, pickM, pickN_nil]
  | x :: xs, i, h => by
    have hl : i + 1 + xs.length ≤ 4 := by simp at h; omega
    have hi : i < 4 := by omega
    have e : List.range' i (4 - i) = i :: List.range' (i + 1) (4 - (i + 1)) := by
      rw [show 4 - i = (4 - (i + 1)) + 1 by omega, List.range'_succ]
    rw [e, List.filter_cons, pickM, pickM]
    have ih := pickN_of hab xs (i + 1) hl
    by_cases ha : bitM a i = true
    · rw [if_pos ha, if_pos ha, pickN_cons, ih]
    · have hb : ¬ bitM b i = true := fun hb => ha (hab i hi hb)
      rw [if_neg ha, if_neg ha, if_neg hb, ih]
theorem narrow_of {a b : Int} (hab : ∀ i, i < 4 → bitM b i = true → bitM a i = true) (r : RowM) (hr : r.key.length ≤ 4) : narrowC a b (ofM a r) = ofM b r := by
  unfold narrowC ofM dimsM
  have := pickN_of hab r.key 0 (by omega)
  rw [List.range_eq_range']
  simp only [Nat.sub_zero] at this
  simp only [this]
def lvlN (a b : Int) : Nat := ((dimsM a).filter (bitM b)).length
theorem CellOk.narrow {m : Nat} {a b : Int} {c : CellM} (h : CellOk m (dimsM a).length c) : CellOk m (lvlN a b) (narrowC a b c) :=
  ⟨⟨Nat.le_trans (pickN_le _ _ _) h.sml.key, h.sml.sum, h.sml.mn, h.sml.mx⟩, pickN_len _ _ _ (by rw [h.len]; exact Nat.le_refl _), fun v hv => h.key v (pickN_mem hv)⟩
theorem narrow_small {a b : Int} {c : CellM} (h : CellSmall c) : CellSmall (narrowC a b c) := ⟨Nat.lt_of_le_of_lt (pickN_le _ _ _) h.key, h.sum, h.mn, h.mx⟩
theorem lvl_dims : ∀ n : Fin 5, ∀ a : Fin 16, a.val < 2 ^ n.val → lvlM (a.val : Int) 0 n.val = (dimsM (a.val : Int)).length := by decide +kernel
/-- Both sets' dimensions. -/
def andM (x y : Int) : Int := IntKind.i64.wrap ((BitVec.ofInt IntKind.i64.bits x &&& BitVec.ofInt IntKind.i64.bits y).toNat)
theorem and_bits : ∀ x y : Fin 16, (0 ≤ andM x.val y.val ∧ andM x.val y.val ≤ x.val) ∧ ∀ i : Fin 4, bitM (andM x.val y.val) i.val = (bitM x.val i.val && bitM y.val i.val) := by decide +kernel
theorem and_ok {x y : Int} (hx : 0 ≤ x ∧ x < 16) (hy : 0 ≤ y ∧ y < 16) : (0 ≤ andM x y ∧ andM x y ≤ x) ∧ ∀ i, i < 4 → bitM (andM x y) i = true → bitM x i = true := by
  obtain ⟨m, rfl⟩ : ∃ m : Nat, x = m := ⟨x.toNat, by omega⟩
  obtain ⟨k, rfl⟩ : ∃ k : Nat, y = k := ⟨y.toNat, by omega⟩
  have := and_bits ⟨m, by omega⟩ ⟨k, by omega⟩
  refine ⟨this.1, fun i hi h => ?_⟩
  have h2 := this.2 ⟨i, hi⟩
  simp only at h2
  rw [h2, Bool.and_eq_true] at h
  exact h.1
/-! ### groups of changed cells -/
theorem group_join {p q : List CellM} {x y : CellM} (h : x.key = y.key) : groupC (p ++ joinC x y :: q) = groupC (p ++ x :: y :: q) := by
  rw [group_perm (List.perm_append_comm (l₁ := p)), group_perm (List.perm_append_comm (l₁ := p) (l₂ := x :: y :: q))]
  unfold groupC
  simp only [List.cons_append, List.foldl_cons, putC]
  rw [if_neg (by rw [h, lessM_self]; omega), if_pos (by rw [h, lessM_self])]
theorem put_map {f : CellM → CellM} {φ : List Int → List Int} (hk : ∀ c, (f c).key = φ c.key) (hj : ∀ x y, f (joinC x y) = joinC (f x) (f y)) : ∀ (o : List CellM) (c : CellM) (p : List CellM),
    groupC (p ++ (putC o c).map f) = groupC (p ++ o.map f ++ [f c])
  | [], c, p => by simp [putC]
  | d :: o, c, p => by
    rw [putC]
    split
    · have := put_map hk hj o c (p ++ [f d])
      simpa using this
    · split
      · rename_i _ h0
        have e := lessM_zero.1 h0
        simp only [List.map_cons]
        rw [hj, group_join (by rw [hk, hk, e])]
        refine group_perm ?_
        rw [List.append_assoc]
        refine List.Perm.append_left _ ?_
        simp only [List.cons_append]
        exact List.Perm.cons _ (by simpa using (List.perm_append_comm (l₁ := [f c]) (l₂ := o.map f)))
      · refine group_perm ?_
        simp only [List.map_cons]
        rw [List.append_assoc]
        refine List.Perm.append_left _ ?_
        simpa using (List.perm_append_comm (l₁ := [f c]) (l₂ := f d :: o.map f))
theorem group_map {f : CellM → CellM} {φ : List Int → List Int} (hk : ∀ c, (f c).key = φ c.key) (hj : ∀ x y, f (joinC x y) = joinC (f x) (f y)) (l : List CellM) :
    groupC ((groupC l).map f) = groupC (l.map f) := by
  have key : ∀ (l o : List CellM), groupC ((l.foldl putC o).map f) = groupC (o.map f ++ l.map f) := by
    intro l
    induction l with
    | nil => intro o; simp
    | cons c l ih =>
      intro o
      rw [List.foldl_cons, ih, group_perm List.perm_append_comm]
      have := put_map hk hj o c (l.map f)
      rw [this]
      refine group_perm ?_
      simp only [List.map_cons]
      rw [List.append_assoc]
      refine List.perm_append_comm.trans ?_
      simp
  exact key l []
theorem narrow_join (a b : Int) (x y : CellM) : narrowC a b (joinC x y) = joinC (narrowC a b x) (narrowC a b y) := rfl
theorem group_narrow (a b : Int) (l : List CellM) : groupC ((groupC l).map (narrowC a b)) = groupC (l.map (narrowC a b)) := group_map (φ := fun k => pickN b (dimsM a) k) (fun _ => rfl) (narrow_join a b) l
end Go.HC

/-
  How many cells are held at once, plainly.
-/
namespace Go.HC
/-! ### how many are held -/
theorem group_nil {l : List CellM} (h : ¬ 0 < (groupC l).length) : groupC l = [] := List.eq_nil_of_length_eq_zero (by omega)
structure RunsOk (most : Nat) (l : List CellM) (rs : List (List CellM)) : Prop where
  srt : ∀ r ∈ rs, Srt r
  len : ∀ r ∈ rs, 0 < r.length ∧ r.length ≤ most
  grp : groupC rs.flatten = groupC l
  one : (groupC l).length ≤ most → rs = if 0 < (groupC l).length then [groupC l] else []
theorem runs_ok {most : Nat} (h0 : 0 < most) (l : List CellM) : RunsOk most l (runsM most l) := by
  have h := runOk most h0 l l.length (Nat.le_refl _)
  rw [List.take_length] at h
  unfold runsM
  generalize runFold most l = st at *
  obtain ⟨out, held⟩ := st
  obtain ⟨h1, h2, h3, h4, h5, h6⟩ := h
  simp only at h1 h2 h3 h4 h5 h6 ⊢
  have hmem : ∀ r, r ∈ out ++ (if 0 < held.length then [held] else []) → r ∈ out ∨ (r = held ∧ 0 < held.length) := by
    intro r hr
    rcases List.mem_append.1 hr with h | h
    · exact .inl h
    · split at h
      · exact .inr ⟨List.mem_singleton.1 h, by assumption⟩
      · cases h
  have hfl : (out ++ (if 0 < held.length then [held] else [])).flatten = out.flatten ++ held := by
    rw [List.flatten_append]
    split
    · simp
    · have : held = [] := List.eq_nil_of_length_eq_zero (by omega)
      simp [this]
  refine ⟨fun r hr => ?_, fun r hr => ?_, by rw [hfl]; exact h5, fun hle => ?_⟩
  · rcases hmem r hr with h | ⟨rfl, _⟩
    · exact h1 r h
    · exact h3
  · rcases hmem r hr with h | ⟨rfl, h⟩
    · have := h2 r h; omega
    · exact ⟨h, h4⟩
  · have e := h6 hle
    subst e
    have e2 : held = groupC l := by rw [← h5]; simp [group_id h3]
    subst e2
    simp
def sortHigh (k : Nat) (l : List CellM) : Nat :=
  if 1 < (runsM k l).length then max (mostM ((runsM k l).map (·.length))) (min (k - 1) (runsM k l).length + 1) else mostM ((runsM k l).map (·.length))
/-- How many cells are held at once: by sorting, by hashing. -/
def highE (alg : Int) (k L : Nat) (l : List CellM) : Nat := if alg = 0 then sortHigh k l else highM (min k 10000) L 0 l
theorem most_pos {xs : List Nat} {x : Nat} (h : x ∈ xs) (hx : 0 < x) : 0 < mostM xs := Nat.lt_of_lt_of_le hx (most_mem h)
theorem flat_pos {ls : List (List CellM)} (h : 0 < ls.flatten.length) : ∃ l ∈ ls, 0 < l.length := by
  induction ls with
  | nil => simp at h
  | cons l ls ih =>
    rw [List.flatten_cons, List.length_append] at h
    by_cases h0 : 0 < l.length
    · exact ⟨l, List.mem_cons_self, h0⟩
    · obtain ⟨m, hm, h1⟩ := ih (by omega)
      exact ⟨m, List.mem_cons_of_mem _ hm, h1⟩
theorem part_le {n : Nat} (h0 : 0 < n) : ∀ {f i : Nat} {l : List CellM}, Pre (i + f) i l → ∀ p ∈ partsM n f i l, p.length ≤ n
  | 0, i, l, h, p, hp => by
    rw [partsM, List.mem_singleton] at hp
    subst hp
    have := h.one
    omega
  | f + 1, i, l, h, p, hp => by
    rw [partsM] at hp
    split at hp
    · rename_i hle
      rw [List.mem_singleton] at hp
      subst hp; exact hle
    · obtain ⟨v, _, hv⟩ := List.mem_flatMap.1 hp
      exact part_le h0 (f := f) (i := i + 1) (by have := h.part (show i < i + (f + 1) by omega) v; rwa [show i + 1 + f = i + (f + 1) by omega]) p hv
theorem high_ok {alg : Int} {k L : Nat} {l : List CellM} (hk : 3 ≤ k) (hl : (groupC l).length < 10000) (hp : Pre L 0 l) :
    highE alg k L l ≤ k ∧ ((groupC l).length ≤ k → highE alg k L l = (groupC l).length) ∧ (0 < highE alg k L l ↔ 0 < (groupC l).length) := by
  have hp' : Pre (0 + L) 0 l := by rwa [Nat.zero_add]
  unfold highE
  split
  · have ho := runs_ok (show 0 < k by omega) l
    unfold sortHigh
    have hm : mostM ((runsM k l).map (·.length)) ≤ k := most_le fun x hx => by
      obtain ⟨r, hr, rfl⟩ := List.mem_map.1 hx
      exact (ho.len r hr).2
    generalize runsM k l = rs at *
    refine ⟨by split <;> omega, fun hle => ?_, ?_⟩
    · have := ho.one hle
      subst this
      by_cases h0 : 0 < (groupC l).length
      · rw [if_pos h0]; simp [mostM]
      · rw [if_neg h0]; simp [mostM]; omega
    · constructor
      · intro h1
        apply Classical.byContradiction
        intro h2
        have := ho.one (by omega)
        rw [if_neg h2] at this
        subst this
        simp [mostM] at h1
      · intro h1
        have h2 : 0 < rs.flatten.length := by
          apply Classical.byContradiction
          intro h3
          have e : rs.flatten = [] := List.eq_nil_of_length_eq_zero (by omega)
          have := ho.grp
          rw [e] at this
          rw [← this] at h1
          simp [groupC] at h1
        obtain ⟨r, hr, h3⟩ := flat_pos h2
        have := most_pos (List.mem_map_of_mem (f := (·.length)) hr) h3
        split <;> omega
  · have hn : 0 < min k 10000 := by omega
    have hfl := parts_flat (n := min k 10000) hp'
    have hle := part_le hn hp'
    unfold highM
    refine ⟨?_, fun h => ?_, ?_⟩
    · refine Nat.le_trans (most_le (n := min k 10000) fun x hx => ?_) (by omega)
      obtain ⟨r, hr, rfl⟩ := List.mem_map.1 hx
      exact hle r hr
    · rw [parts_one (by omega)]; simp [mostM]
    · generalize partsM (min k 10000) L 0 l = ps at *
      constructor
      · intro h1
        rw [← hfl]
        apply Classical.byContradiction
        intro h2
        have : mostM (ps.map (·.length)) ≤ 0 := most_le fun x hx => by
          obtain ⟨r, hr, rfl⟩ := List.mem_map.1 hx
          apply Classical.byContradiction
          intro h3
          obtain ⟨a, b, e⟩ := List.append_of_mem hr
          rw [e] at h2
          simp at h2
          simp [h2.2.1] at h3
        omega
      · intro h1
        rw [← hfl] at h1
        obtain ⟨r, hr, h3⟩ := flat_pos h1
        exact most_pos (List.mem_map_of_mem (f := (·.length)) hr) h3
/-- What is made: the cells, how many were held, the word. -/
def execM (a b k alg : Int) (l : List CellM) : List CellM × Nat × Int :=
  if alg ≠ 0 ∧ alg ≠ 1 then ([], 0, 10) else if k < 3 then ([], 0, 3) else (groupC (l.map (narrowC a b)), highE alg k.toNat (lvlN a b) (l.map (narrowC a b)), 0)
end Go.HC

/-
  HC, part 28: iterators that change no old block: what one asks of the function that it is handed; a range over one.
-/
namespace Go.HC
/-- What an iterator is handed: a function that takes one more datum. J: what holds when these have been taken (M: the blocks that may be changed since). A: which may come next. -/
structure YieldsM {α : Type} (P : Program) (y : Value) (val : α → Array Value) (A : List α → α → (Nat → Prop) → Heap → Prop) (J : List α → (Nat → Prop) → Heap → Prop) : Prop where
  lt : ∀ {xs M h}, J xs M h → ∀ b, M b → b < h.size
  call : ∀ {xs M h h'}, J xs M h → Keep none_ h h' → J xs M h'
  step : ∀ {xs x M h}, J xs M h → A xs x M h → callV P y (val x) h fun v h' => v = .bool true ∧ ∃ M', J (xs ++ [x]) M' h' ∧ Tr M M' h h'
/-- An iterator's contract: Fp: the blocks that it reads, as they are in h0; Done: what has come when it ends. -/
def IterM {α : Type} (P : Program) (f : FuncId) (first caps : Array Value) (val : α → Array Value) (A : List α → α → (Nat → Prop) → Heap → Prop) (Done : List α → Prop) (Fp : Nat → Prop) (h0 : Heap) : Prop :=
  ∀ (y : Value) (J : List α → (Nat → Prop) → Heap → Prop) (M : Nat → Prop) (h : Heap), (∃ fn u v, y = .func fn u v) → YieldsM P y val A J → J [] M h → h0.size ≤ h.size → (∀ b, Fp b → b < h0.size ∧ ¬ M b ∧ h[b]? = h0[b]?) →
    CallH P f (first ++ #[y] ++ caps) h fun _ h' => ∃ xs M', Done xs ∧ J xs M' h' ∧ Tr M M' h h'
/-- How a round's body ends. -/
def bodyM {α : Type} (dm : Nat) (M : Nat → Prop) (h1 h3 : Heap) (I : List α → (Nat → Prop) → Heap → Prop) (xs : List α) (_t : Tag I) (h4 : Heap) : Prop :=
  ∃ M4, I xs M4 h4 ∧ Tr M M4 h1 h4 ∧ M4 dm ∧ M4 (dm + 1) ∧ h4[dm]? = h3[dm]? ∧ h4[dm + 1]? = h3[dm + 1]?
def bodyMk {α : Type} (dm : Nat) (M : Nat → Prop) (h1 h3 : Heap) (I : List α → (Nat → Prop) → Heap → Prop) (xs : List α) : Kont :=
  { nx := fun _ _ h4 => bodyM dm M h1 h3 I xs ⟨⟩ h4, rt := fun _ _ _ => False, ex := fun _ _ _ _ => False, gt := fun _ _ _ _ => False }
/-- How the assignment ahead of it ends. -/
def asgM {α : Type} (P : Program) (n dm : Nat) (y : Code) (M : Nat → Prop) (h1 : Heap) (I : List α → (Nat → Prop) → Heap → Prop) (xs : List α) : Kont :=
  { nx := fun l2 b2 h2 => Keep none_ h1 h2 ∧ ∀ h3 : Heap, Keep (fun b => b = dm + 1) h2 h3 → h3.size = h2.size → cs P n (some (dm + 1)) y (bodyMk dm M h1 h3 I xs) l2 b2 h3,
    rt := fun _ _ _ => False, ex := fun _ _ _ _ => False, gt := fun _ _ _ _ => False }
section
variable {P : Program} {n : Nat} {κ : Kont} {l : L} {b : Base} {h : Heap} {α : Type}
@[simp] theorem bodyMk_nx (dm : Nat) (M : Nat → Prop) (h1 h3 : Heap) (I : List α → (Nat → Prop) → Heap → Prop) (xs : List α) : (bodyMk dm M h1 h3 I xs).nx l b h = bodyM dm M h1 h3 I xs ⟨⟩ h := _root_.id rfl
@[simp] theorem bodyMk_ex (dm : Nat) (M : Nat → Prop) (h1 h3 : Heap) (I : List α → (Nat → Prop) → Heap → Prop) (xs : List α) (j : Nat) : (bodyMk dm M h1 h3 I xs).ex j l b h = False := _root_.id rfl
@[simp] theorem bodyMk_rt (dm : Nat) (M : Nat → Prop) (h1 h3 : Heap) (I : List α → (Nat → Prop) → Heap → Prop) (xs : List α) : (bodyMk dm M h1 h3 I xs).rt l b h = False := _root_.id rfl
@[simp] theorem asgM_nx (dm : Nat) (y : Code) (M : Nat → Prop) (h1 : Heap) (I : List α → (Nat → Prop) → Heap → Prop) (xs : List α) : (asgM P n dm y M h1 I xs).nx l b h =
    (Keep none_ h1 h ∧ ∀ h3 : Heap, Keep (fun b => b = dm + 1) h h3 → h3.size = h.size → cs P n (some (dm + 1)) y (bodyMk dm M h1 h3 I xs) l b h3) := _root_.id rfl
theorem callV_by {y : Value} {args : Array Value} {h : Heap} {K K' : Value → Heap → Prop} (hc : callV P y args h K') (hk : ∀ v h, K' v h → K v h) : callS P y args h K :=
  hp_mono _ hc fun x h hx => nextK_mono hk x h hx
/-- 'for x := range f { .. }', f an iterator with a contract; no round leaves the loop. I: what holds between two rounds. -/
theorem range_m {g : Operand} {ps : Array Tmp} {x y : Code} {f : FuncId} {caps first : Array Value} {val : α → Array Value} {A : List α → α → (Nat → Prop) → Heap → Prop} {Done : List α → Prop} {Fp : Nat → Prop}
    (hg : ev l b g = .func (.func f) first caps) (hfn : FnOk P f) (hit : IterM P f first caps val A Done Fp h)
    (I : List α → (Nat → Prop) → Heap → Prop)
    (hlt : ∀ {xs M h'}, I xs M h' → ∀ b, M b → b < h'.size) (hmono : ∀ {xs M h1 h2}, I xs M h1 → M h.size → M (h.size + 1) → Keep (fun b => b = h.size + 1) h1 h2 → I xs M h2)
    (M0 : Nat → Prop) (hFp : ∀ b, Fp b → b < h.size ∧ ¬ M0 b) (hI0 : ∀ h1 : Heap, Keep none_ h h1 → h1.size = h.size + 2 → I [] (fun b => M0 b ∨ b = h.size ∨ b = h.size + 1) h1)
    (hok1 : codeOk n x = true) (hok2 : codeOk n y = true) (hps : ∀ v, (val v).size = ps.size) (hpn : ∀ p ∈ ps.toList, p < n)
    (round : ∀ xs v M h1, I xs M h1 → A xs v M h1 → h.size + 2 ≤ h1.size → M h.size → M (h.size + 1) → Tr M0 M h h1 →
      cs P n (some (h.size + 1)) x (asgM P n h.size y M h1 I (xs ++ [v])) (putAll (ps.toList.zip (val v).toList) l) ⟨b.g, []⟩ h1)
    (fin : ∀ xs M h', Done xs → I xs M h' → h'[h.size]? = some (.deferred (some [])) → h.size + 2 ≤ h'.size → M h.size → M (h.size + 1) → Tr M0 M h h' → κ.nx l ⟨b.g, h.size :: b.d⟩ h') :
    gs P n none (.rangeFunc g ps x y) κ l b h := by
  refine rangeFunc_rule hg hfn ?_
  intro fnid T hfr
  generalize hH : (h.push (.deferred (some []))).push (.loop { state := .ready, pending := none, fn := fnid, tmps := T, params := ps, assign := x, body := y, defers := h.size }) = H
  let rec0 : Loop := { state := .ready, pending := none, fn := fnid, tmps := T, params := ps, assign := x, body := y, defers := h.size }
  have hHs : H.size = h.size + 2 := by rw [← hH]; simp
  have hHl : H[h.size + 1]? = some (.loop rec0) := by
    rw [← hH]
    have : (h.push (.deferred (some []))).size = h.size + 1 := by simp
    rw [← this]
    exact push_new _ _
  have hHd : H[h.size]? = some (.deferred (some [])) := by
    rw [← hH, Array.getElem?_push, if_neg (by simp)]
    simp
  have hHo : ∀ b, b < h.size → H[b]? = h[b]? := by
    intro b hb
    rw [← hH, Array.getElem?_push, if_neg (by simp; omega), Array.getElem?_push, if_neg (by omega)]
  have hkH : Keep none_ h H := ⟨by omega, fun b hb _ => hHo b hb⟩
  have hIH := hI0 H hkH hHs
  have hM0 : ∀ b, M0 b → b < h.size ∨ b = h.size ∨ b = h.size + 1 := fun b hb => by have := hlt hIH b (.inl hb); omega
  have tH : Tr M0 (fun b => M0 b ∨ b = h.size ∨ b = h.size + 1) h H := ⟨hkH.weaken fun _ _ h => h.elim, fun b hb => hb.imp id fun h => by omega, hlt hIH⟩
  let J : List α → (Nat → Prop) → Heap → Prop := fun xs M h1 => h1[h.size + 1]? = some (.loop rec0) ∧ h1[h.size]? = some (.deferred (some [])) ∧ I xs M h1 ∧ M h.size ∧ M (h.size + 1) ∧ h.size + 2 ≤ h1.size ∧ Tr M0 M h h1
  have hy : YieldsM P (yv (h.size + 1)) val A J := by
    refine ⟨?_, ?_, ?_⟩
    · rintro xs M h1 ⟨_, _, hI, _⟩ b hb
      exact hlt hI b hb
    · rintro xs M h1 h1' ⟨h2, h3, hI, m1, m2, h6, t⟩ k
      exact ⟨k.at h2 (fun h => h), k.at h3 (fun h => h), hmono hI m1 m2 (k.weaken fun _ _ h => h.elim), m1, m2, Nat.le_trans h6 k.size, t.call k⟩
    · rintro xs v M h1 ⟨h2, h3, hI, m1, m2, h6, t⟩ hA
      refine callV_yield h2 (hps v) ?_
      have hfr1 : IsFr n ⟨T, []⟩ l ⟨b.g, []⟩ := ⟨hfr.size, fun t => (hfr.slot t).trans (look_base l b.g b.d [] t), rfl⟩
      have hfr2 := isFr_putAll (ps.toList.zip (val v).toList) hfr1 (fun p hp => hpn _ (List.of_mem_zip hp).1)
      have hfold : (ps.zip (val v)).foldl (fun tmps (t, a) => tmps.setIfInBounds t a) T = (ps.toList.zip (val v).toList).foldl (fun tmps p => tmps.setIfInBounds p.1 p.2) T := by
        rw [← Array.foldl_toList, Array.toList_zip]
      refine roundH_of (hfold ▸ hfr2) hok1 hok2 ?_
      refine csem_mono (κ := asgM P n h.size y M h1 I (xs ++ [v])) x ⟨?_, fun _ _ _ h => h, fun _ _ _ _ h => h, fun _ _ _ _ h => h⟩ (round xs v M h1 hI hA h6 m1 m2 t)
      rintro l2 b2 h2' ⟨hk2, hbody⟩
      have hlp2 : h2'[h.size + 1]? = some (.loop rec0) := hk2.at h2 (fun h => h)
      have hsz2 := hk2.size
      refine ⟨rec0, hlp2, rfl, ?_⟩
      generalize hH3 : h2'.setIfInBounds (h.size + 1) (.loop { rec0 with state := .busy }) = h3'
      have hs3 : h3'.size = h2'.size := by rw [← hH3]; simp
      have hl3 : h3'[h.size + 1]? = some (.loop { rec0 with state := .busy }) := by rw [← hH3]; exact set_same _ (by omega)
      have ho3 : ∀ b, b ≠ h.size + 1 → h3'[b]? = h2'[b]? := by intro b hb; rw [← hH3]; exact set_other _ (fun e => hb e.symm)
      have hd3 : h3'[h.size]? = some (.deferred (some [])) := (ho3 _ (by omega)).trans (hk2.at h3 (fun h => h))
      refine csem_mono (κ := bodyMk h.size M h1 h3' I (xs ++ [v])) y ⟨?_, fun _ _ _ h => h.elim, fun _ _ _ _ h => h.elim, fun _ _ _ _ h => h.elim⟩ (hbody h3' ⟨by omega, fun b _ hb => ho3 b hb⟩ hs3)
      rintro l4 b4 h4 ⟨M4, hI4, t4, m4, m4', e1, e2⟩
      have hl4 : h4[h.size + 1]? = some (.loop { rec0 with state := .busy }) := e2.trans hl3
      have hs4 := t4.size
      refine ⟨_, hl4, rfl, M4, ⟨set_same _ (by omega), (set_other _ (by omega)).trans (e1.trans hd3), hmono hI4 m4 m4' (.set _ _ fun _ => rfl), m4, m4', by simp; omega, (t.trans t4).set _ m4'⟩, t4.set _ m4'⟩
  refine (hit (yv (h.size + 1)) J _ H ⟨_, _, _, rfl⟩ hy ⟨hHl, hHd, hIH, .inr (.inl rfl), .inr (.inr rfl), by omega, tH⟩ (by omega) ?_).mono ?_
  · intro b hb
    obtain ⟨h1, h2⟩ := hFp b hb
    exact ⟨h1, fun hh => hh.elim h2 (fun h => by omega), hHo b h1⟩
  · rintro v h' ⟨xs, M', hdone, ⟨h2, h3, hI, m1, m2, h6, t⟩, hk⟩
    refine ⟨rec0, h2, by simp [rec0], ?_⟩
    exact fin xs M' _ hdone (hmono hI m1 m2 (.set _ _ fun _ => rfl)) ((set_other _ (by omega)).trans h3) (by simp; omega) m1 m2 (t.set _ m2)
/-- What is changed is new. -/
theorem Tr.from_ {M M' : Nat → Prop} {h h' h'' : Heap} (k : Keep none_ h h') (t : Tr M M' h' h'') (hM : ∀ b, M b → h.size ≤ b) : Tr none_ M' h h'' :=
  ⟨⟨Nat.le_trans k.size t.size, fun b hb _ => by rw [t.keep.blk b (Nat.lt_of_lt_of_le hb k.size) fun hm => by have := hM b hm; omega, k.blk b hb (fun h => h)]⟩,
    fun b hb => .inr ((t.new b hb).elim (hM b) fun h => Nat.le_trans k.size h), t.lt⟩
/-- A loop's own block is written. -/
theorem Tr.lp {M : Nat → Prop} {h h' : Heap} {lp : Nat} (hM : ∀ b, M b → b < h.size) (hl : M lp) (k : Keep (fun b => b = lp) h h') : Tr M M h h' :=
  ⟨k.weaken fun _ _ e => e ▸ hl, fun _ h => .inl h, fun b hb => Nat.lt_of_lt_of_le (hM b hb) k.size⟩
theorem Gr.lp {R : Rp α} {e n : Nat} {M : Nat → Prop} {h h' : Heap} {v : Value} {xs : List α} {own : Option Nat} {lp : Nat} (g : Gr R e n M h v xs own) (hM : ∀ b, M b → b < h.size) (hl : M lp) (hne : own ≠ some lp) (k : Keep (fun b => b = lp) h h') : Gr R e n M h' v xs own :=
  g.mono (.lp hM hl k) (Nat.le_refl _) fun b hb => ⟨g.mu b hb, k.blk b (g.own_lt b hb) fun e => hne (by rw [hb, e])⟩
end
end Go.HC

/-
  Runs of cells: the program's.
-/
namespace Go.HC
theorem pos_there {xs : List CellM} (hs : Srt xs) (key : List Int) : (∃ hk : posC xs key < xs.length, lessM xs[posC xs key].key key = 0) ↔ ∃ d ∈ xs, d.key = key := by
  constructor
  · rintro ⟨hk, h⟩
    exact ⟨_, List.getElem_mem hk, lessM_zero.1 h⟩
  · rintro ⟨d, hd, e⟩
    obtain ⟨j, hj, rfl⟩ := List.getElem_of_mem hd
    have h1 : posC xs key ≤ j := by
      apply Classical.byContradiction
      intro hn
      have := posC_lt hj (show j < posC xs key by omega)
      rw [e, lessM_self] at this
      omega
    have hk : posC xs key < xs.length := by omega
    by_cases h2 : posC xs key = j
    · exact ⟨hk, by simp only [h2, e, lessM_self]⟩
    · have := hs.get hk hj (by omega)
      rw [e] at this
      exact absurd this (posC_at hk)
/-- A new row of one cell. -/
theorem NewC.one {e n0 : Nat} {h : Heap} {v : Value} {c : CellM} (g : NewC e n0 h v [c]) :
    ∃ bk c2 arr cs, v = .slice (some ⟨bk, 0, none⟩) 1 c2 ∧ 1 ≤ c2 ∧ n0 ≤ bk ∧ h[bk]? = some (.cells arr e (0, 0)) ∧ 5 ≤ arr.size ∧ arr.toList.take 5 = cs ∧ rCell.rep (Ft n0 none_ h) h cs c := by
  obtain ⟨F, own, g, hF, ho⟩ := g
  rcases g with ⟨_, h0, _⟩ | ⟨bk, c2, arr, cs, rfl, rfl, h1, h2, h3, h4, h5, h6, h7⟩
  · cases h0
  · obtain ⟨c1, c3, e1, h8, h9⟩ := h7
    have h9 : c3 = [] := h9
    subst h9
    rw [List.append_nil] at e1
    subst e1
    have h3 : arr.size = c2 * 5 := h3
    have h4 : 1 ≤ c2 := h4
    exact ⟨bk, c2, arr, _, rfl, h4, ho bk rfl, h1, by omega, h6, rCell.mono h8 fun b hb => ⟨⟨(hF b hb).1, (hF b hb).2, fun h => h⟩, rfl⟩⟩
end Go.HC
namespace Go.Proofs
open Go Go.HC

set_option maxRecDepth 10000 in
theorem runsCmp : CmpC 64 := by
  intro h cs ds a b ha hb
  refine callH_by fun K hK => ?_
  refine enter [.tmp 4] Tryz.func64 rfl rfl (by kernel_rfl) rfl ?_
  obtain ⟨ka, kc, sa, sc, na, nc, xa, xc, rfl, r1, _⟩ := cell_open ha
  obtain ⟨ka', kc', sa', sc', na', nc', xa', xc', rfl, q1, _⟩ := cell_open hb
  simp -dsimp [boxS_eq]
  generalize hB : Array.push (Array.push h _) _ = h1
  have k1 : Keep none_ h h1 := by rw [← hB]; exact ((Keep.refl none_ h).pushed _).pushed _
  have hA : h1[h.size]? = some (.cells #[.slice ka a.key.length kc, .int .i64 a.count, .slice sa a.sum.length sc, .slice na a.mn.length nc, .slice xa a.mx.length xc] 46 (0, 0)) := by rw [← hB]; exact push_at (push_new _ _)
  have hB1 : h1[h.size + 1]? = some (.cells #[.slice ka' b.key.length kc', .int .i64 b.count, .slice sa' b.sum.length sc', .slice na' b.mn.length nc', .slice xa' b.mx.length xc'] 46 (0, 0)) := by rw [← hB]; exact push_get (by simp)
  simp -dsimp [hA, hB1]
  refine call_by (cless_spec (r1.mono ((Tr.of k1).ft (Nat.le_refl 0))) (q1.mono ((Tr.of k1).ft (Nat.le_refl 0)))) ?_
  rintro _ h2 ⟨rfl, hh⟩
  subst h2
  simp -dsimp
  exact hK _ _ ⟨rfl, k1⟩

set_option maxRecDepth 10000 in
theorem cloneRows_spec {F : Nat → Prop} {h : Heap} {v : Value} {xs : List (List CellM)} {own : Option Nat} (hg : Grow (rSlice rCell) 31 F h v xs own) (hF : ∀ b, F b → b < h.size) (hn : xs.length < 1000000000) :
    CallH Tryz.prog 51 #[v] h fun r h' => ∃ own', Grow (rSlice rCell) 31 F h' r xs own' ∧ Keep none_ h h' ∧ ∀ b, own' = some b → h.size ≤ b := by
  refine enter [.tmp 2] Tryz.func51 rfl rfl (by kernel_rfl) rfl ?_
  have hl := hg.own_lt
  rcases hg with ⟨rfl, rfl, rfl⟩ | ⟨bk, c, arr, cs, rfl, rfl, h1, h2, h3, h4, h5, h6, h7⟩
  · simp -dsimp
    exact ⟨none, .nil _ _ _ _, .refl _ _, fun b hb => by cases hb⟩
  · obtain ⟨cs', _, hq1, hq2, hcel, hel⟩ := (Grow.cells (R := rSlice rCell) (.inr ⟨bk, c, arr, cs, rfl, rfl, h1, h2, h3, h4, h5, h6, h7⟩) : ∃ cs, _)
    simp -dsimp
    refine clone_cells (F := F) (F2 := fun b => some bk = some b) cellsT hF hl rfl hcel hel (by omega) (by omega) ?_
    intro v' h' own' hg' hk ho hz
    obtain ⟨a', c', rfl⟩ := hg'.val
    simp -dsimp
    exact ⟨own', hg', hk, ho⟩

set_option maxHeartbeats 4000000 in
set_option maxRecDepth 10000 in
theorem heldput_spec {n : Nat} {M : Nat → Prop} {h : Heap} {bo : Nat} {v : Value} {xs : List CellM} {own : Option Nat} {cs : List Value} {c : CellM} (most : Int) (hb : h[bo]? = some (.cells #[v] 80 (0, 0)))
    (g : Gr rCell 46 n M h v xs own) (hM : ∀ b, M b → b < h.size) (hMo : M bo) (hno : own ≠ some bo) (hr : rCell.rep (Ft 0 M h) h cs c) (hs : Srt xs) (hsm : ∀ d ∈ xs, CellSmall d) (hc : CellSmall c) (hn : xs.length < 1000000) (hn0 : n ≤ h.size) :
    CallH Tryz.prog 50 #[.pointer (some ⟨bo, 0, none⟩), .agg cs.toArray, .int .i64 most] h fun r h' =>
      (((∃ d ∈ xs, d.key = c.key) ∨ ¬ most ≤ xs.length) ∧ r = .bool true ∧ ∃ M' v' own', Tr M M' h h' ∧ (∀ b, M b → M' b) ∧ h'[bo]? = some (.cells #[v'] 80 (0, 0)) ∧ Gr rCell 46 n M' h' v' (putC xs c) own' ∧ (∀ b, own' = some b → own = some b ∨ h.size ≤ b)
        ∧ Keep (fun b => b = bo ∨ own = some b) h h') ∨
      ((∀ d ∈ xs, d.key ≠ c.key) ∧ most ≤ xs.length ∧ r = .bool false ∧ Keep none_ h h') := by
  refine callH_by fun K hK => ?_
  refine enter [.tmp 6] Tryz.func50 rfl rfl (by kernel_rfl) rfl ?_
  obtain ⟨ka, kc, sa, sc, na, nc, xa, xc, rfl, r1, r2, r3, r4⟩ := cell_open hr
  obtain ⟨va, vn, vc, ev, hvn⟩ := g.vals
  subst ev
  have tH : Tr M M h h := ⟨.refl _ _, fun _ h => .inl h, hM⟩
  simp -dsimp [boxS_eq]
  generalize hB : Array.push h _ = h1
  have kb : Keep none_ h h1 := by rw [← hB]; exact .push _ _ _
  have t1 := tH.call kb
  have hC : h1[h.size]? = some (.cells #[.slice ka c.key.length kc, .int .i64 c.count, .slice sa c.sum.length sc, .slice na c.mn.length nc, .slice xa c.mx.length xc] 46 (0, 0)) := by rw [← hB]; exact push_new _ _
  have hb1 := kb.at hb (fun h => h)
  have hlb := lt_of_blk hb
  have g1 := g.call kb
  have c1 := rCell.mono hr (t1.ft (Nat.le_refl 0))
  have hone : ∀ b, own = some b → 0 ≤ b := fun _ _ => Nat.zero_le _
  have l1 : SlRep rCell (Old h1) h1 _ xs := g1.rep (Nat.zero_le n) hone
  refine drawn_by [⟨0, true, []⟩, ⟨1, true, []⟩, ⟨2, true, []⟩, ⟨3, true, []⟩, ⟨4, true, []⟩, ⟨5, false, []⟩, ⟨6, true, []⟩, ⟨7, true, []⟩, ⟨8, true, []⟩, ⟨9, true, []⟩, ⟨10, true, []⟩] (by kernel_rfl) (by kernel_rfl) ?_
  simp -dsimp [hb1, hC]
  refine call_by (bsearch_spec (by simp) runsCmp l1 (rCell.mono c1 (Ft.free (Nat.zero_le _))) hs hn) ?_
  rintro _ h2 ⟨rfl, k2⟩
  have t2 := t1.call k2
  have hC2 := k2.at hC (fun h => h)
  have hb2 := k2.at hb1 (fun h => h)
  have g2 := g1.call k2
  have c2 := rCell.mono c1 (t1.here.call k2 |>.ft (Nat.le_refl 0))
  have k02 := kb.trans k2 fun _ _ h => h
  have hpt := pos_there hs c.key
  obtain ⟨i, ei⟩ : ∃ i, i = posC xs c.key := ⟨_, rfl⟩
  have hpl := posC_le xs c.key
  have hput0 := putC_pos xs c
  rw [← ei] at hpl
  simp only [← ei] at hpt hput0 ⊢
  simp -dsimp
  by_cases h0 : ∃ hk : i < xs.length, lessM xs[i].key c.key = 0
  · have hthere := hpt.1 h0
    rw [decide_eq_true h0]
    obtain ⟨hil, h0⟩ := h0
    have hput : putC xs c = xs.set i (joinC xs[i] c) := by
      rw [hput0, dif_pos ⟨hil, hil, h0⟩]
    have hin : i < vn := by omega
    obtain ⟨bk, es, ea, eo, hre, hce⟩ := g2.elem i hil
    subst ea
    obtain ⟨ka1, kc1, sa1, sc1, na1, nc1, xa1, xc1, rfl, _⟩ := cell_open hre
    have hce' : HC.cellsIn h2[bk]? (i * 5) 5 = _ := hce
    simp -dsimp
    refine drawn_by [⟨0, true, []⟩, ⟨1, true, []⟩, ⟨2, true, []⟩, ⟨3, true, []⟩, ⟨4, true, []⟩, ⟨5, true, []⟩, ⟨6, true, []⟩, ⟨7, true, []⟩, ⟨8, true, []⟩, ⟨9, true, []⟩, ⟨10, true, []⟩, ⟨11, true, []⟩, ⟨12, true, []⟩, ⟨13, false, [0, 1, 2, 3, 4]⟩, ⟨14, true, []⟩, ⟨15, false, []⟩] (by kernel_rfl) (by kernel_rfl) ?_
    simp -dsimp [hb2, hC2, idxV_nat hin, elSz_eq, hce']
    refine call_by (join_new (rCell.mono hre (Ft.free (Nat.zero_le _))) (rCell.mono c2 (Ft.free (Nat.zero_le _))) (hsm _ (List.getElem_mem hil))) ?_
    rintro _ h3 ⟨fs, rfl, r3', k3⟩
    have t3 := t2.call k3
    obtain ⟨bk', m', c', o', hv, hm', ho4, hw, g4⟩ := (g2.call k3).setE (i := i) hil (rCell.mono r3' (t2.ret (Nat.le_trans hn0 t2.size)))
    cases hv
    obtain ⟨ka5, kc5, sa5, sc5, na5, nc5, xa5, xc5, rfl, _⟩ := cell_open r3'
    have hw' : writeIn h3[bk]? (i * 5) _ = some o' := hw
    have hb3 := k3.at hb2 (fun h => h)
    have hne : bk ≠ bo := fun e => hno (by rw [ho4, e])
    simp -dsimp [hb3, idxV_nat hin, elSz_eq, again_cons, hw']
    exact hK _ _ (.inl ⟨.inl hthere, rfl, M, _, own, t3.set o' (g.mu bk ho4), fun _ h => h, (set_other _ hne).trans hb3, by rw [hput]; exact g4, fun b hb => .inl hb, (k02.trans k3 fun _ _ h => h).none.setted _ fun _ => .inr ho4⟩)
  · have hthere : ∀ d ∈ xs, d.key ≠ c.key := fun d hd e => h0 (hpt.2 ⟨d, hd, e⟩)
    rw [decide_eq_false h0]
    have hput : putC xs c = xs.take i ++ c :: xs.drop i := by
      rw [hput0, dif_neg]
      rintro ⟨_, hx⟩; exact h0 hx
    simp -dsimp [hb2]
    by_cases hmost : most ≤ (vn : Int)
    · simp -dsimp [hmost]
      exact hK _ _ (.inr ⟨hthere, by omega, rfl, k02⟩)
    · simp -dsimp [hmost]
      refine drawn_by [⟨0, true, []⟩, ⟨1, true, []⟩, ⟨2, true, []⟩, ⟨3, true, []⟩, ⟨4, true, []⟩, ⟨5, true, []⟩, ⟨6, true, []⟩, ⟨7, false, [0, 1, 2, 3, 4, 5]⟩, ⟨8, false, [0, 1, 2, 3, 4, 5]⟩, ⟨9, false, [0]⟩, ⟨10, true, []⟩, ⟨11, true, []⟩, ⟨12, false, []⟩] (by kernel_rfl) (by kernel_rfl) ?_
      have hb2p : ∀ o, (h2.push o)[bo]? = _ := fun o => push_at hb2
      simp -dsimp [hb2, hb2p, hC2, again_cons]
      generalize hB3 : Array.push h2 _ = h3
      have k3 : Keep none_ h2 h3 := by rw [← hB3]; exact .push _ _ _
      have t3 := t2.call k3
      have hN : h3[h2.size]? = some (.cells #[.slice ka c.key.length kc, .int .i64 c.count, .slice sa c.sum.length sc, .slice na c.mn.length nc, .slice xa c.mx.length xc] 46 (0, 0)) := by rw [← hB3]; exact push_new _ _
      have c3 : rCell.rep (Ft 0 M h3) h3 _ c := rCell.mono c2 (t2.here.call k3 |>.ft (Nat.le_refl 0))
      have hone1 : SlRep rCell (Old h3) h3 (.slice (some ⟨h2.size, 0, none⟩) 1 1) [c] := by
        refine ⟨_, 1, _, rfl, Nat.le_refl _, by decide, .inr ⟨h2.size, 0, _, _, _, rfl, ⟨nz, lt_of_blk hN, fun h => h⟩, hN, ?_⟩, .single (rCell.mono c3 (Ft.free (Nat.zero_le _)))⟩
        rfl
      refine call_by (cgroup_spec hone1 (by simp) (fun d hd => by rw [List.mem_singleton] at hd; rw [hd]; exact hc)) ?_
      rintro gv h4 ⟨ng, k4⟩
      have ng : NewC 46 h3.size h4 gv [c] := ng
      obtain ⟨b4, cc4, arr4, cs4, rfl, _, hb4s, hb4, _, hcs4, rep4⟩ := ng.one
      have t4 := t3.call k4
      have hb3 := k3.at hb2 (fun h => h)
      have hb4' := k4.at hb3 (fun h => h)
      simp -dsimp [again_cons, hb4']
      refine call_by (insert_gen ((g2.call k3).call k4) t4.lt hpl hn hb4 hcs4 (fun hm => by have := t3.lt _ hm; omega) (rCell.mono rep4 (t3.ret (Nat.le_trans hn0 t3.size)))) ?_
      rintro v5 h5 ⟨own5, g5, t5, k5, ho5⟩
      have hb5 := k5.at hb4' hno
      obtain ⟨va5, vn5, vc5, ev5, _⟩ := g5.vals
      subst ev5
      have s4 := t4.size
      have hl4 := lt_of_blk hb4'
      simp -dsimp [hb5, again_cons]
      have hno5 : own5 ≠ some bo := fun e => (ho5 _ e).elim hno (fun h => by omega)
      refine hK _ _ (.inl ⟨.inr (by omega), rfl, _, _, own5, (t4.trans t5).set _ (.inl hMo), fun _ h => .inl h, set_same _ (lt_of_blk hb5), by rw [hput]; exact g5.set _ (.inl hMo) hno5, fun b hb => (ho5 b hb).imp id fun h => by omega, ?_⟩)
      exact ((((k02.trans k3 fun _ _ h => h).trans k4 fun _ _ h => h).none (S := fun b => b = bo ∨ own = some b)).trans k5 fun _ _ h => .inr h).setted _ fun _ => .inl rfl
end Go.Proofs

/-
  Runs of cells: the program's, whole.
-/
namespace Go.HC
theorem put_all {p : CellM → Prop} (hj : ∀ a b, p a → p b → p (joinC a b)) : ∀ {l : List CellM} {c : CellM}, (∀ d ∈ l, p d) → p c → ∀ d ∈ putC l c, p d
  | [], c, _, hc, d, hd => by rw [putC, List.mem_singleton] at hd; rw [hd]; exact hc
  | e :: l, c, hl, hc, d, hd => by
    have he := hl e List.mem_cons_self
    have hl' : ∀ d ∈ l, p d := fun d hd => hl d (List.mem_cons_of_mem _ hd)
    rw [putC] at hd
    split at hd
    · rcases List.mem_cons.1 hd with rfl | h
      · exact he
      · exact put_all hj hl' hc d h
    · split at hd
      · rcases List.mem_cons.1 hd with rfl | h
        · exact hj _ _ he hc
        · exact hl' d h
      · rcases List.mem_cons.1 hd with rfl | h
        · exact hc
        · exact hl d h
theorem group_all {p : CellM → Prop} (hj : ∀ a b, p a → p b → p (joinC a b)) {l : List CellM} (hl : ∀ d ∈ l, p d) : ∀ d ∈ groupC l, p d := by
  have key : ∀ (l o : List CellM), (∀ d ∈ l, p d) → (∀ d ∈ o, p d) → ∀ d ∈ l.foldl putC o, p d := by
    intro l
    induction l with
    | nil => exact fun o _ ho => ho
    | cons c l ih => exact fun o hl ho => ih _ (fun d hd => hl d (List.mem_cons_of_mem _ hd)) (put_all hj ho (hl c List.mem_cons_self))
  exact key l [] hl fun d hd => by cases hd
theorem small_join (a b : CellM) (ha : CellSmall a) (_ : CellSmall b) : CellSmall (joinC a b) :=
  ⟨ha.key, by simp only [joinC, List.length_zipWith]; have := ha.sum; omega, by simp only [joinC, List.length_zipWith]; have := ha.mn; omega, by simp only [joinC, List.length_zipWith]; have := ha.mx; omega⟩
/-- Bounds of runs. -/
structure RunB (p : CellM → Prop) (n : Nat) (st : List (List CellM) × List CellM) : Prop where
  out : ∀ r ∈ st.1, ∀ d ∈ r, p d
  held : ∀ d ∈ st.2, p d
  len : st.1.length + st.2.length ≤ n
  each : ∀ r ∈ st.1, r.length ≤ n
theorem runB {p : CellM → Prop} (hj : ∀ a b, p a → p b → p (joinC a b)) {most : Nat} (h0 : 0 < most) {l : List CellM} (hl : ∀ c ∈ l, p c) : ∀ k, k ≤ l.length → RunB p k (runFold most (l.take k)) := by
  intro k
  induction k with
  | zero => exact fun _ => ⟨(fun r hr => by cases hr), (fun r hr => by cases hr), Nat.le_refl _, fun r hr => by cases hr⟩
  | succ k ih =>
    intro hk
    have h := ih (by omega)
    rw [run_take (by omega)]
    have hc := hl l[k] (List.getElem_mem (by omega))
    generalize runFold most (l.take k) = st at *
    obtain ⟨out, held⟩ := st
    obtain ⟨h1, h2, h3, h4⟩ := h
    simp only at h1 h2 h3 h4
    unfold runStep
    split
    · rename_i hc2
      have := hc2.2
      simp only at this
      refine ⟨fun r hr => ?_, fun d hd => ?_, by simp; omega, fun r hr => ?_⟩
      · rcases List.mem_append.1 hr with hr | hr
        · exact h1 r hr
        · rw [List.mem_singleton] at hr; subst hr; exact h2
      · rw [List.mem_singleton] at hd; rw [hd]; exact hc
      · rcases List.mem_append.1 hr with hr | hr
        · have := h4 r hr; omega
        · rw [List.mem_singleton] at hr; subst hr; omega
    · have := putC_le held l[k]
      exact ⟨h1, put_all hj h2 hc, by simp only; omega, fun r hr => by have := h4 r hr; omega⟩
end Go.HC
namespace Go.Proofs
open Go Go.HC

set_option maxHeartbeats 8000000 in
set_option maxRecDepth 10000 in
theorem runs_spec {h : Heap} {v : Value} {l : List CellM} {most : Nat} (hl : SlRep rCell (Old h) h v l) (hn : l.length < 1000000) (hsm : ∀ d ∈ l, CellSmall d) (h0 : 0 < most) :
    CallH Tryz.prog 36 #[v, .int .i64 most] h fun r h' => SlRep (rSlice rCell) (Ft h.size none_ h') h' r (runsM most l) ∧ Keep none_ h h' := by
  refine callH_by fun K hK => ?_
  refine enter [.tmp 4] Tryz.func36 rfl rfl (by kernel_rfl) rfl ?_
  obtain ⟨a0, c0, rfl, hc0, hc0'⟩ := hl.val
  simp -dsimp [boxS_eq]
  refine loopc (σ := Nat × Value × Nat) (fun t => [(1, .int .i64 most), (5, t.2.1), (6, .pointer (some ⟨t.2.2, 0, none⟩)), (11, .slice a0 l.length c0), (12, .int .i64 l.length), (13, .int .i64 t.1)])
    (fun t h1 => t.1 ≤ l.length ∧ ∃ M vh ownh owno, Tr none_ M h h1 ∧ M t.2.2 ∧ h1[t.2.2]? = some (.cells #[vh] 80 (0, 0)) ∧ Gr rCell 46 h.size M h1 vh (runFold most (l.take t.1)).2 ownh ∧ Gr (rSlice rCell) 31 h.size M h1 t.2.1 (runFold most (l.take t.1)).1 owno ∧
      ownh ≠ some t.2.2 ∧ owno ≠ some t.2.2 ∧ (∀ b, owno = some b → ownh ≠ some b) ∧ (∀ b, owno = some b → h.size ≤ b) ∧ (∀ b, ownh = some b → h.size ≤ b))
    (fun t => l.length - t.1) (0, .slice none 0 0, h.size) 0 (fun t _ => t.1 = l.length) noRet noRet_le (by simp) ?_ (by kernel_rfl) ?_ ?_
  · exact ⟨Nat.zero_le _, _, _, none, none, (Tr.start h).pushM _, .inr rfl, push_new _ _, .nil _ _ _ _ _, .nil _ _ _ _ _, by simp, by simp, fun b hb => (by cases hb), fun b hb => (by cases hb), fun b hb => by cases hb⟩
  · rintro ⟨k, out, bo⟩ h1 g ⟨hk, M, vh, ownh, owno, t1, hMo, hb1, gh, go, n1, n2, n3, lo, lh⟩
    simp only at hk hMo hb1 gh go n1 n2 n3
    by_cases hkl : k < l.length
    · have wk := wrap_succ (k := k) (by omega)
      have hrun := runOk most h0 l k hk
      have hrb := runB (p := CellSmall) small_join h0 hsm k hk
      have hstep := run_take (most := most) hkl
      generalize runFold most (l.take k) = st at *
      obtain ⟨outs, held⟩ := st
      simp only at gh go
      have hb3 := hrb.len
      simp only at hb3
      obtain ⟨bl, ol, cs, e1, _, hrep, hx1⟩ := (hl.mono t1.old).get k hkl
      obtain ⟨ka, kc, sa, sc, na, nc, xa, xc, rfl, r1, _⟩ := cell_open hrep
      have hx1' : HC.cellsIn h1[bl]? (ol + k * 5) 5 = _ := hx1
      simp -dsimp [hkl, e1, idxA_nat hkl, hx1']
      rw [push_set rfl]
      generalize hB2 : Array.push h1 _ = h2
      have k2 : Keep none_ h1 h2 := by rw [← hB2]; exact .push _ _ _
      have hz2 : h2.size = h1.size + 1 := by rw [← hB2]; simp
      have hC : h2[h1.size]? = some (.cells #[.slice ka l[k].key.length kc, .int .i64 l[k].count, .slice sa l[k].sum.length sc, .slice na l[k].mn.length nc, .slice xa l[k].mx.length xc] 46 (0, 0)) := by rw [← hB2]; exact push_new _ _
      have t2 := t1.call k2
      have hb2 := k2.at hb1 (fun h => h)
      have c2 := rCell.mono hrep ((t1.here.call k2).ft (Nat.le_refl 0))
      have c2n : ∀ {n : Nat} {M' : Nat → Prop} {h' : Heap}, Tr M M' h2 h' → rCell.rep (Ft 0 M' h') h' _ l[k] := fun t => rCell.mono c2 (t.ft (Nat.le_refl 0))
      refine call_by (heldput_spec (most : Int) hb2 (gh.call k2) t2.lt hMo n1 c2 hrun.held (fun d hd => hrb.held d hd) (hsm _ (List.getElem_mem hkl)) (by show held.length < 1000000; omega) t2.size) ?_
      rintro _ h3 (⟨hcond, rfl, M3, vh3, own3, t3, m3, hb3', g3, o3, k3⟩ | ⟨hno, hle, rfl, k3⟩)
      · have hst : runStep most (outs, held) l[k] = (outs, putC held l[k]) := by
          unfold runStep
          rw [if_neg]
          rintro ⟨q1, q2⟩
          rcases hcond with ⟨d, hd, e⟩ | hc
          · exact q1 d hd e
          · simp only at q2; omega
        rw [hst] at hstep
        simp -dsimp [wk]
        refine ⟨(k + 1, out, bo), by simp [e1], rfl, ⟨by omega, M3, vh3, own3, owno, t2.trans t3, m3 _ hMo, hb3', by rw [hstep]; exact g3, ?_, ?_, n2, ?_, lo, ?_⟩, by show l.length - (k + 1) < l.length - k; omega⟩
        · rw [hstep]
          refine (go.call k2).mono t3 (Nat.le_refl _) fun b hb => ⟨m3 b (go.mu b hb), k3.blk b (by have := go.own_lt b hb; omega) ?_⟩
          rintro (e | e)
          · exact n2 (by rw [hb, e])
          · exact n3 b hb e
        · show own3 ≠ some bo
          exact fun e => (o3 _ e).elim n1 fun e => by have := lt_of_blk hb2; omega
        · exact fun b hb e => (o3 _ e).elim (n3 b hb) fun e => by have := go.own_lt b hb; omega
        · exact fun b hb => (o3 b hb).elim (lh b) fun e => by have := t2.size; omega
      · have hst : runStep most (outs, held) l[k] = (outs ++ [held], [l[k]]) := by
          unfold runStep
          rw [if_pos ⟨hno, by simp only; omega⟩]
        rw [hst] at hstep
        have t3 := t2.call k3
        have hb3' := k3.at hb2 (fun h => h)
        have gh3 := (gh.call k2).call k3
        have go3 := (go.call k2).call k3
        obtain ⟨va, vn, vc, rfl, hvn⟩ := gh3.vals
        simp -dsimp [hb3']
        refine call_by (cloneCell_spec gh3.grow Ft.lt (by show held.length < _; omega)) ?_
        rintro _ h4 ⟨own4, g4, k4, ho4⟩
        obtain ⟨a4, c4, rfl⟩ := g4.val
        have s3 := t3.size
        have t4 := t3.call k4
        have r4 : SlRep rCell (Ft h.size M h4) h4 _ held := g4.rep.mono fun b hb => ⟨hb.elim (fun hf => ⟨hf.1.at (Nat.le_refl _) (k4.blk b hf.2.1 (fun h => h)), Nat.lt_of_lt_of_le hf.2.1 k4.size, hf.2.2⟩)
          fun hf => ⟨⟨by have := ho4 b hf; omega, fun _ => g4.thaw b hf⟩, g4.own_lt b hf, fun hm => by have := t3.lt b hm; have := ho4 b hf; omega⟩, rfl⟩
        simp -dsimp
        refine gr_app1 (x := held) rfl cellsT (go3.call k4) t4.lt ⟨_, rfl, r4⟩ rfl (by show (outs.length + 1) * 24 ≤ _; omega) (by show outs.length + 1 < _; omega) ?_
        intro v5 h5 own5 g5 t5 k5 ho5
        simp -dsimp [boxS_eq]
        generalize hB6 : Array.push h5 _ = h6
        have k6 : Keep none_ h5 h6 := by rw [← hB6]; exact .push _ _ _
        have hb6 : h6[h5.size]? = some (.cells #[.slice none 0 0] 80 (0, 0)) := by rw [← hB6]; exact push_new _ _
        have t6 : Tr none_ (fun b => (M b ∨ own5 = some b) ∨ b = h5.size) h h6 := by rw [← hB6]; exact (t4.trans t5).pushM _
        have hC6 := k6.at (k5.at (k4.at (k3.at hC (fun h => h)) (fun h => h)) (fun e => by have := lo _ e; have := go.own_lt _ e; omega)) (fun h => h)
        have s5 := (t4.trans t5).size
        have l5 := g5.own_lt
        have u26 : Tr M (fun b => (M b ∨ own5 = some b) ∨ b = h5.size) h2 h6 := by
          rw [← hB6]; exact ((((Tr.call ⟨.refl _ _, fun _ h => .inl h, t2.lt⟩ k3).call k4).trans t5).pushM _)
        simp -dsimp [hC6]
        have s6 := t6.size
        refine call_by (heldput_spec (max (most : Int) 1) hb6 (.nil _ _ _ _ _) t6.lt (.inr rfl) (by simp) (rCell.mono c2 (u26.ft (Nat.le_refl 0))) List.Pairwise.nil (fun d hd => by cases hd) (hsm _ (List.getElem_mem hkl)) (by simp) s6) ?_
        rintro _ h7 (⟨_, rfl, M7, vh7, own7, t7, m7, hb7, g7, o7, k7⟩ | ⟨_, hle7, _⟩)
        · simp -dsimp [wk]
          have go6 : Gr (rSlice rCell) 31 h.size (fun b => (M b ∨ own5 = some b) ∨ b = h5.size) h6 v5 (outs ++ [held]) own5 := by
            rw [← hB6]
            exact g5.mono ((Tr.pushM ⟨.refl _ _, fun _ h => .inl h, (t4.trans t5).lt⟩ _)) (Nat.le_refl _) fun b hb => ⟨.inl (.inr hb), push_old _ (l5 b hb)⟩
          refine ⟨(k + 1, v5, h5.size), by simp [e1], rfl, ⟨by omega, M7, vh7, own7, own5, t6.trans t7, m7 _ (.inr rfl), hb7, by rw [hstep]; exact g7, ?_, ?_, ?_, ?_, ?_, ?_⟩, by show l.length - (k + 1) < l.length - k; omega⟩
          · rw [hstep]
            refine go6.mono t7 (Nat.le_refl _) fun b hb => ⟨m7 b (.inl (.inr hb)), k7.blk b (by have := l5 b hb; have := k6.size; omega) ?_⟩
            rintro (e | e)
            · have := l5 b hb; omega
            · cases e
          · show own7 ≠ some h5.size
            exact fun e => (o7 _ e).elim (by simp) fun e => by have := lt_of_blk hb6; omega
          · show own5 ≠ some h5.size
            exact fun e => by have := l5 _ e; omega
          · exact fun b hb e => (o7 _ e).elim (by simp) fun e => by have := l5 b hb; have := k6.size; omega
          · exact fun b hb => (ho5 b hb).elim (lo b) fun e => by have := t4.size; omega
          · exact fun b hb => (o7 b hb).elim (fun e => by cases e) fun e => by omega
        · exfalso
          simp at hle7
          omega
    · simp -dsimp [hkl]
      exact ⟨rfl, (k, out, bo), by simp, rfl, ⟨hk, M, vh, ownh, owno, t1, hMo, hb1, gh, go, n1, n2, n3, lo, lh⟩, by show k = l.length; omega⟩
  · rintro ⟨k, out, bo⟩ h1 g ⟨hk, M, vh, ownh, owno, t1, hMo, hb1, gh, go, n1, n2, n3, lo, lh⟩ hkl
    simp only at hk hMo hb1 gh go n1 n2 n3 hkl
    subst hkl
    have hrb := runB (p := CellSmall) small_join h0 hsm l.length (Nat.le_refl _)
    have hR : runsM most l = (runFold most l).1 ++ (if 0 < (runFold most l).2.length then [(runFold most l).2] else []) := rfl
    rw [List.take_length] at gh go hrb
    generalize runFold most l = st at *
    obtain ⟨outs, held⟩ := st
    simp only at gh go
    have hR : runsM most l = outs ++ (if 0 < held.length then [held] else []) := hR
    have hb3 : outs.length + held.length ≤ l.length := hrb.len
    obtain ⟨va, vn, vc, rfl, hvn⟩ := gh.vals
    have s1 := t1.size
    have fin : ∀ (h5 : Heap) (v5 : Value) (own5 : Option Nat) (M5 : Nat → Prop) (ls : List (List CellM)), ls = runsM most l → Tr none_ M5 h h5 → Gr (rSlice rCell) 31 h.size M5 h5 v5 ls own5 → ls.length < 1000000000 →
        CallH Tryz.prog 51 #[v5] h5 (fun r h6 => (∃ a n c, r = .slice a n c) ∧ K r h6) := by
      rintro h5 v5 own5 M5 ls rfl t5 g5 hls
      refine (cloneRows_spec g5.grow Ft.lt hls).mono ?_
      rintro r h6 ⟨own6, g6, k6, ho6⟩
      have s5 := t5.size
      refine ⟨?_, hK _ _ ⟨?_, t5.keep.trans k6 fun _ _ h => h⟩⟩
      · obtain ⟨a6, c6, rfl⟩ := g6.val
        exact ⟨_, _, _, rfl⟩
      · exact g6.rep.mono fun b hb => ⟨hb.elim (fun hf => ⟨hf.1.at (Nat.le_refl _) (k6.blk b hf.2.1 (fun h => h)), Nat.lt_of_lt_of_le hf.2.1 k6.size, fun h => h⟩) fun hf => ⟨⟨by have := ho6 b hf; omega, fun _ => g6.thaw b hf⟩, g6.own_lt b hf, fun h => h⟩, rfl⟩
    simp -dsimp [hb1]
    by_cases hv : 0 < vn
    · rw [if_pos (by omega)] at hR
      simp -dsimp [hv, hb1]
      refine call_by (cloneCell_spec gh.grow Ft.lt (by omega)) ?_
      rintro _ h4 ⟨own4, g4, k4, ho4⟩
      obtain ⟨a4, c4, rfl⟩ := g4.val
      have t4 := t1.call k4
      have r4 : SlRep rCell (Ft h.size M h4) h4 _ held := g4.rep.mono fun b hb => ⟨hb.elim (fun hf => ⟨hf.1.at (Nat.le_refl _) (k4.blk b hf.2.1 (fun h => h)), Nat.lt_of_lt_of_le hf.2.1 k4.size, hf.2.2⟩)
        fun hf => ⟨⟨by have := ho4 b hf; omega, fun _ => g4.thaw b hf⟩, g4.own_lt b hf, fun hm => by have := t1.lt b hm; have := ho4 b hf; omega⟩, rfl⟩
      simp -dsimp
      refine gr_app1 (x := held) rfl cellsT (go.call k4) t4.lt ⟨_, rfl, r4⟩ rfl (by omega) (by omega) ?_
      intro v5 h5 own5 g5 t5 k5 ho5
      simp -dsimp
      refine call_by (fin h5 v5 own5 _ _ hR.symm (t4.trans t5) g5 (by simp; omega)) ?_
      rintro r h6 ⟨⟨a, n, c, rfl⟩, hk⟩
      simp -dsimp
      exact hk
    · rw [if_neg (by omega), List.append_nil] at hR
      simp -dsimp [hv]
      refine call_by (fin h1 out owno _ _ hR.symm t1 go (by omega)) ?_
      rintro r h6 ⟨⟨a, n, c, rfl⟩, hk⟩
      simp -dsimp
      exact hk
end Go.Proofs

/-
  A set's dimensions, one by one.
-/
namespace Go.HC
theorem shr_i {s : Int} {k : Nat} (hk : k < 64) : intRes .shr .i64 s (k : Int) = some (.int .i64 (s.fdiv (2 ^ k))) := by
  rw [intRes_shr _ _ _ (by omega)]
  have : min ((k : Int).toNat) IntKind.i64.bits = k := by
    have : IntKind.i64.bits = 64 := by decide
    omega
  rw [this]
theorem range_snoc (p : Nat → Bool) (i : Nat) : (List.range (i + 1)).filter p = (List.range i).filter p ++ (if p i = true then [i] else []) := by
  rw [List.range_succ, List.filter_append, List.filter_cons]
  simp
end Go.HC
namespace Go.Proofs
open Go Go.HC

theorem dims_spec (s : Int) (h : Heap) : CallH Tryz.prog 48 #[.int .i64 s] h fun r h' => r = .func (.func 62) #[] #[.pointer (some ⟨h.size, 0, none⟩)] ∧ h' = h.push (.cells #[.int .i64 s] 3) := by
  refine enter [.tmp 2] Tryz.func48 rfl rfl (by kernel_rfl) rfl ?_
  simp -dsimp [boxS_eq]

set_option maxRecDepth 10000 in
theorem dims_iter {h0 : Heap} {bx : Nat} {s : Int} {fz : Nat × Nat} (hbx : h0[bx]? = some (.cells #[.int .i64 s] 3 fz)) :
    IterM Tryz.prog 62 #[] #[.pointer (some ⟨bx, 0, none⟩)] (fun i : Nat => #[.int .i64 (i : Int)]) (fun xs i _ _ => xs = (List.range i).filter (bitM s) ∧ i < 4 ∧ bitM s i = true) (fun xs => xs = dimsM s) (fun b => b = bx) h0 := by
  intro y J M0 h ⟨yf, yu, yv', hyf⟩ hy hJ hsz hFp
  subst hyf
  have hlt := lt_of_blk hbx
  obtain ⟨_, hMb, hbe⟩ := hFp bx rfl
  have hbx' := hbe.trans hbx
  refine callH_by fun K hK => ?_
  refine enter [] Tryz.func62 rfl rfl (by kernel_rfl) rfl ?_
  simp -dsimp
  refine loopc (σ := Nat) (fun i => [(0, .func yf yu yv'), (1, .pointer (some ⟨bx, 0, none⟩)), (4, .int .i64 i)]) (fun i h1 => i ≤ 4 ∧ ∃ M, J ((List.range i).filter (bitM s)) M h1 ∧ Tr M0 M h h1) (fun i => 4 - i) 0 0 (fun i _ => i = 4) noRet noRet_le (by simp)
    ⟨by omega, M0, hJ, ⟨.refl _ _, fun _ h => .inl h, fun b hb => hy.lt hJ b hb⟩⟩ (by kernel_rfl) ?_ ?_
  · rintro i h1 g ⟨hi, M, hJ1, t⟩
    have hb1 := t.keep.at hbx' hMb
    have hrs := range_snoc (bitM s) i
    by_cases hl : i < 4
    · have hl' : (i : Int) < 4 := by omega
      have wk := wrap_succ (k := i) (by omega)
      simp -dsimp [hl', hb1, shr_i (show i < 64 by omega), bit_op]
      cases hb : bitM s i with
      | false =>
        rw [hb, if_neg (by decide), List.append_nil] at hrs
        simp -dsimp [wk]
        exact ⟨i + 1, by simp, rfl, ⟨by omega, M, by rw [hrs]; exact hJ1, t⟩, by show 4 - (i + 1) < 4 - i; omega⟩
      | true =>
        rw [hb, if_pos rfl] at hrs
        simp -dsimp
        refine callV_by (hy.step (x := i) hJ1 ⟨rfl, hl, hb⟩) ?_
        rintro _ h2 ⟨rfl, M', hJ2, t2⟩
        simp -dsimp [wk]
        exact ⟨i + 1, by simp, rfl, ⟨by omega, M', by rw [hrs]; exact hJ2, t.trans t2⟩, by show 4 - (i + 1) < 4 - i; omega⟩
    · have hl' : ¬ (i : Int) < 4 := by omega
      simp -dsimp [hl']
      exact ⟨rfl, i, by simp, rfl, ⟨hi, M, hJ1, t⟩, by omega⟩
  · rintro i h1 g ⟨hi, M, hJ1, t⟩ rfl
    simp -dsimp
    exact hK _ _ ⟨_, M, rfl, hJ1, t⟩
end Go.Proofs

/-
  A cell by fewer dimensions: the program's, the document's.
-/
namespace Go.Proofs
open Go Go.HC

set_option maxHeartbeats 4000000 in
set_option maxRecDepth 10000 in
theorem narrow_spec {h : Heap} {cs : List Value} {c : CellM} (a b : Int) (hr : rCell.rep (Old h) h cs c) (hc : CellSmall c) :
    CallH Tryz.prog 35 #[.agg cs.toArray, .int .i64 a, .int .i64 b] h fun r h' => ∃ ds, r = .agg ds.toArray ∧ rCell.rep (Ft h.size none_ h') h' ds (narrowC a b c) ∧ Keep none_ h h' := by
  refine callH_by fun K hK => ?_
  refine enter [.cell 6 46] Tryz.func35 rfl rfl (by kernel_rfl) rfl ?_
  obtain ⟨ka, kc, sa, sc, na, nc, xa, xc, rfl, r1, r2, r3, r4⟩ := cell_open hr
  simp -dsimp [boxS_eq]
  generalize hB : Array.push (Array.push (Array.push h _) _) _ = h0
  have k0 : Keep none_ h h0 := by rw [← hB]; exact (((Keep.refl none_ h).pushed _).pushed _).pushed _
  have hz0 : h0.size = h.size + 3 := by rw [← hB]; simp
  have hC : h0[h.size]? = some (.cells #[.slice ka c.key.length kc, .int .i64 c.count, .slice sa c.sum.length sc, .slice na c.mn.length nc, .slice xa c.mx.length xc] 46 (0, 0)) := by rw [← hB]; exact push_at (push_at (push_new _ _))
  have hb0 : h0[h.size + 1]? = some (.cells #[.int .i64 b] 3 (0, 0)) := by rw [← hB]; exact push_at (push_get (by simp))
  have hz : h0[h.size + 2]? = some (.cells #[.slice none 0 0, .int .i64 0, .slice none 0 0, .slice none 0 0, .slice none 0 0] 46 (0, 0)) := by rw [← hB]; exact push_get (by simp)
  simp -dsimp [hC]
  refine call_by (own_new (rCell.mono hr ((Tr.of k0).ft (Nat.le_refl 0))) hc) ?_
  rintro _ h1 ⟨ds, rfl, rd, k1⟩
  obtain ⟨ka', kc', sa', sc', na', nc', xa', xc', rfl, q1, q2, q3, q4⟩ := cell_open rd
  simp -dsimp
  rw [push_set rfl, push_set (by simp)]
  generalize hB2 : Array.push (Array.push h1 _) _ = h2
  have e1 := k1.size
  have k2 : Keep none_ h1 h2 := by rw [← hB2]; exact ((Keep.refl none_ h1).pushed _).pushed _
  have hz2 : h2.size = h1.size + 2 := by rw [← hB2]; simp
  have hO : h2[h1.size]? = some (.cells #[.slice none 0 0, .int .i64 c.count, .slice sa' c.sum.length sc', .slice na' c.mn.length nc', .slice xa' c.mx.length xc'] 46 (0, 0)) := by rw [← hB2]; exact push_at (push_new _ _)
  have hA : h2[h1.size + 1]? = some (.cells #[.int .i64 0] 3 (0, 0)) := by rw [← hB2]; exact push_get (by simp)
  refine call_by (dims_spec a h2) ?_
  rintro _ h3 ⟨rfl, e3⟩
  simp -dsimp
  have k3 : Keep none_ h2 h3 := by rw [e3]; exact .push _ _ _
  have hz3 : h3.size = h2.size + 1 := by rw [e3]; simp
  have hD : h3[h2.size]? = some (.cells #[.int .i64 a] 3 (0, 0)) := by rw [e3]; exact push_new _ _
  clear e3
  have hC3 := k3.at (k2.at (k1.at hC (fun h => h)) (fun h => h)) (fun h => h)
  have hb3 := k3.at (k2.at (k1.at hb0 (fun h => h)) (fun h => h)) (fun h => h)
  have hz3' := k3.at (k2.at (k1.at hz (fun h => h)) (fun h => h)) (fun h => h)
  have hO3 := k3.at hO (fun h => h)
  have hA3 := k3.at hA (fun h => h)
  obtain ⟨I, hI⟩ : ∃ I : List Nat → (Nat → Prop) → Heap → Prop, ∀ xs M h', I xs M h' ↔ ((M h1.size ∧ M (h1.size + 1)) ∧ (∀ b, M b → b < h'.size) ∧ ∃ kv own, h'[h1.size]? = some (.cells #[kv, .int .i64 c.count, .slice sa' c.sum.length sc', .slice na' c.mn.length nc', .slice xa' c.mx.length xc'] 46 (0, 0)) ∧
      h'[h1.size + 1]? = some (.cells #[.int .i64 xs.length] 3 (0, 0)) ∧ Gr rInt 3 h.size M h' kv (pickN b xs c.key) own ∧ ∀ bk, own = some bk → h3.size + 2 ≤ bk) := ⟨_, fun _ _ _ => Iff.rfl⟩
  have hO' := lt_of_blk hO3
  have k03 : Keep none_ h h3 := ((k0.trans k1 fun _ _ h => h).trans k2 fun _ _ h => h).trans k3 fun _ _ h => h
  refine range_m (val := fun i : Nat => #[.int .i64 (i : Int)]) (first := #[]) (by simp) (by simp) (dims_iter hD) I
    ?_ ?_ (fun b => b = h1.size ∨ b = h1.size + 1) ?_ ?_ (by kernel_rfl) (by kernel_rfl) (fun _ => rfl) (by intro p hp; simp at hp; subst hp; decide) ?_ ?_
  · exact fun hi => ((hI _ _ _).1 hi).2.1
  · intro xs M h4 h5 hi m1 m2 k
    obtain ⟨hM, hlt, kv, own, w1, w2, g, ho⟩ := (hI _ _ _).1 hi
    exact (hI _ _ _).2 ⟨hM, fun b hb => Nat.lt_of_lt_of_le (hlt b hb) k.size, kv, own, k.at w1 (by omega), k.at w2 (by omega), g.lp hlt m2 (fun e => by have := ho _ e; omega) k, ho⟩
  · rintro b rfl
    exact ⟨by omega, by omega⟩
  · intro h4 k4 hz4
    exact (hI _ _ _).2 ⟨⟨.inl (.inl rfl), .inl (.inr rfl)⟩, by omega, _, none, k4.at hO3 (fun h => h), k4.at hA3 (fun h => h), by rw [pickN_nil']; exact .nil _ _ _ _ _, fun b hb => by cases hb⟩
  · rintro xs i M h4 hi4 ⟨hxs, hi, hbi⟩ hz4 m1 m2 t
    simp -dsimp
    refine ⟨.refl _ _, fun h5 k5 e5 => ?_⟩
    obtain ⟨⟨hM1, hM2⟩, hlt, kv, own, w1, w2, g, ho⟩ := (hI _ _ _).1 hi4
    have t5 := Tr.lp hlt m2 k5
    have u5 := t.trans t5
    have T5 := Tr.from_ k03 u5 (fun b hb => by omega)
    have g5 := g.lp hlt m2 (fun e => by have := ho _ e; omega) k5
    have w1' := k5.at w1 (by omega)
    have w2' := k5.at w2 (by omega)
    have hC5 := u5.at hC3 (by omega)
    have hb5 := u5.at hb3 (by omega)
    have hsn := pickN_snoc b i xs c.key
    have hxl : xs.length ≤ 4 := by rw [hxs]; exact Nat.le_trans (List.length_filter_le _ _) (by simp; omega)
    have wk := wrap_succ (k := xs.length) (by omega)
    have hw2 := lt_of_blk w2'
    have ho2 : h1.size < h5.size := lt_of_blk w1'
    have htl : (xs ++ [i]).length = xs.length + 1 := by simp
    -- behind the number is written
    have fin : ∀ (h6 : Heap) (kv' : Value) (own' : Option Nat) (M' : Nat → Prop), Tr M M' h4 h6 → (∀ b, M b → M' b) → h6[h3.size]? = h5[h3.size]? → h6[h3.size + 1]? = h5[h3.size + 1]? → h3.size + 2 ≤ h6.size →
        h6[h1.size]? = some (.cells #[kv', .int .i64 c.count, .slice sa' c.sum.length sc', .slice na' c.mn.length nc', .slice xa' c.mx.length xc'] 46 (0, 0)) →
        Gr rInt 3 h.size M' h6 kv' (pickN b (xs ++ [i]) c.key) own' → (∀ bk, own' = some bk → h3.size + 2 ≤ bk) →
        bodyM h3.size M h4 h5 I (xs ++ [i]) ⟨⟩ (h6.setIfInBounds (h1.size + 1) (.cells #[.int .i64 ((xs.length + 1 : Nat) : Int)] 3)) := by
      intro h6 kv' own' M' t6 hM' d1 d2 hz6 v1 g6 ho6
      refine ⟨M', (hI _ _ _).2 ⟨⟨hM' _ hM1, hM' _ hM2⟩, fun b hb => by simpa using t6.lt b hb, kv', own', (set_other _ (by omega)).trans v1, ?_, g6.set _ (hM' _ hM2) (fun e => by have := ho6 _ e; omega), ho6⟩, t6.set _ (hM' _ hM2), hM' _ m1, hM' _ m2, (set_other _ (by omega)).trans d1, (set_other _ (by omega)).trans d2⟩
      rw [htl]
      exact set_same _ (by omega)
    have t45 : Tr M M h4 h5 := t5
    have skip : ∀ (e : pickN b (xs ++ [i]) c.key = pickN b xs c.key), bodyM h3.size M h4 h5 I (xs ++ [i]) ⟨⟩ (h5.setIfInBounds (h1.size + 1) (.cells #[.int .i64 ((xs.length + 1 : Nat) : Int)] 3)) :=
      fun e => fin h5 kv own M t45 (fun _ h => h) rfl rfl (by omega) w1' (by rw [e]; exact g5) ho
    simp -dsimp [hb5, shr_i (show i < 64 by omega), bit_op]
    cases hbb : bitM b i with
    | false =>
      simp -dsimp [w2', wk]
      refine skip ?_
      rw [hsn, hbb]
      split <;> simp
    | true =>
      simp -dsimp [hC5, w2']
      by_cases hxk : xs.length < c.key.length
      · have hw1p : ∀ o, (h5.push o)[h1.size]? = _ := fun o => push_at w1'
        have rk := r1.mono (T5.ft (Nat.le_refl 0))
        obtain ⟨b1, o1, eka, _, hc1⟩ := rk.int_at xs.length hxk
        obtain ⟨va, vn, vc, rfl, hvn⟩ := g5.vals
        have hpl := pickN_le b xs c.key
        have hkl := hc.key
        simp -dsimp [hxk]
        refine drawn_by [⟨0, true, []⟩, ⟨1, true, []⟩, ⟨2, true, []⟩, ⟨3, true, []⟩, ⟨4, true, []⟩, ⟨5, true, []⟩, ⟨6, true, []⟩, ⟨7, false, [0, 1]⟩, ⟨8, false, []⟩, ⟨9, true, []⟩, ⟨10, false, []⟩] (by kernel_rfl) (by kernel_rfl) ?_
        simp -dsimp [hC5, w1', w2', hw1p, eka, hc1, idxV_nat hxk, elSz_eq, again_cons]
        refine gr_app1 (x := c.key[xs.length]) rfl intT g5 t5.lt rfl rfl (by omega) (by omega) ?_
        intro v' h6 own' g6 t6 k6 ho6
        have v1 := k6.at w1' (fun e => by have := ho _ e; omega)
        have v2 := k6.at w2' (fun e => by have := ho _ e; omega)
        have ho6' : ∀ b, own' = some b → h3.size + 2 ≤ b := fun b e => (ho6 _ e).elim (ho b) (by omega)
        have hl1 := lt_of_blk v1
        have hl2 := lt_of_blk v2
        obtain ⟨va', vn', vc', rfl, hvn'⟩ := g6.vals
        simp -dsimp [v1, set_other _ (show h1.size ≠ h1.size + 1 by omega), v2, wk]
        refine fin _ _ own' (fun b => M b ∨ own' = some b) ((t45.trans t6).set _ (.inl hM1)) (fun _ h => .inl h) ((set_other _ (by omega)).trans (k6.blk _ (by omega) fun e => by have := ho _ e; omega)) ((set_other _ (by omega)).trans (k6.blk _ (by omega) fun e => by have := ho _ e; omega)) (by have := k6.size; simp; omega) (set_same _ hl1) ?_ ho6'
        rw [hsn, dif_pos hxk, hbb, if_pos rfl]
        exact g6.set _ (.inl hM1) (fun e => by have := ho6' _ e; omega)
      · simp -dsimp [hxk, w2', wk]
        refine skip ?_
        rw [hsn, dif_neg hxk, List.append_nil]
  · rintro xs M h4 rfl hi4 hdm hz4 m1 m2 t
    obtain ⟨⟨hM1, hM2⟩, hlt, kv, own, w1, w2, g, ho⟩ := (hI _ _ _).1 hi4
    have T4 := Tr.from_ k03 t (fun b hb => by omega)
    obtain ⟨va, vn, vc, rfl, hvn⟩ := g.vals
    have hpl := pickN_le b (dimsM a) c.key
    have hkl := hc.key
    simp -dsimp [w1]
    refine call_by (cloneInt_spec g.grow.ints g.own_lt (by omega)) ?_
    rintro _ h5 ⟨own5, g5, k5, ho5⟩
    obtain ⟨a5, c5, rfl⟩ := g5.val
    have w5 := k5.at w1 (fun h => h)
    have T5 := T4.call k5
    have hz5 := k5.at (t.at hz3' (by omega)) (fun h => h)
    have hd5 := k5.at hdm (fun h => h)
    have hl1 := lt_of_blk w5
    have hl2 := lt_of_blk hz5
    have hl3 := lt_of_blk hd5
    have s5 := k5.size
    have hne : h1.size ≠ h.size + 2 := by omega
    simp -dsimp [w5, set_same _ hl1, set_other _ hne, hz5]
    generalize hH : Array.setIfInBounds (Array.setIfInBounds h5 _ _) _ _ = h6
    have hold : ∀ bk, bk ≠ h1.size → bk ≠ h.size + 2 → h6[bk]? = h5[bk]? := fun bk n1 n2 => by rw [← hH, set_other _ (fun e => n2 e.symm), set_other _ (fun e => n1 e.symm)]
    have hres : h6[h.size + 2]? = some (.cells #[.slice a5 (pickN b (dimsM a) c.key).length c5, .int .i64 c.count, .slice sa' c.sum.length sc', .slice na' c.mn.length nc', .slice xa' c.mx.length xc'] 46 (0, 0)) := by rw [← hH]; exact set_same _ (by simpa using hl2)
    have hz6 : h6.size = h5.size := by rw [← hH]; simp
    rw [takeS_cons ((hold _ (by omega) (by omega)).trans hd5)]
    have hne3 : h3.size ≠ h.size + 2 := by omega
    simp -dsimp [set_other _ hne3, hres]
    have hold7 : ∀ bk, bk ≠ h1.size → bk ≠ h.size + 2 → bk ≠ h3.size → (h6.setIfInBounds h3.size (.deferred none))[bk]? = h5[bk]? := fun bk n1 n2 n3 => by rw [set_other _ (fun e => n3 e.symm), hold bk n1 n2]
    have hz7 : (h6.setIfInBounds h3.size (.deferred none)).size = h5.size := by simp [hz6]
    generalize h6.setIfInBounds h3.size (.deferred none) = h7 at hold7 hz7 ⊢
    have hq : ∀ bk, Ft h0.size none_ h1 bk → Ft h.size none_ h7 bk ∧ h7[bk]? = h1[bk]? := fun bk hb => by
      have l1 := hb.1.1
      have l2 := hb.2.1
      have e : h7[bk]? = h1[bk]? := by
        rw [hold7 bk (by omega) (by omega) (by omega), k5.blk bk (by have := t.size; omega) (fun h => h), t.keep.blk bk (by omega) (by omega), k3.blk bk (by omega) (fun h => h), k2.blk bk l2 (fun h => h)]
      exact ⟨⟨hb.1.at (by omega) e, by have := T5.size; have := t.size; omega, fun h => h⟩, e⟩
    refine hK _ _ ⟨_, rfl, ⟨_, _, _, _, rfl, ?_, q2.mono hq, q3.mono hq, q4.mono hq⟩, ⟨by have := T5.size; omega, fun bk hb _ => by rw [hold7 bk (by omega) (by omega) (by omega), T5.keep.blk bk hb (fun h => h)]⟩⟩
    refine g5.ints.mono fun bk hb => ?_
    have l1 := ho5 bk hb
    have l2 := g5.own_lt bk hb
    have l3 := t.size
    have e := hold7 bk (by omega) (by omega) (by omega)
    exact ⟨⟨⟨by omega, fun _ => (g5.thaw bk hb).at e⟩, by omega, fun h => h⟩, e⟩

theorem wrap_u64s {k : Nat} (hk : k < 1000) : IntKind.u64.wrap ((k : Int) + 1) = ((k + 1 : Nat) : Int) := by
  have : IntKind.u64.wrap ((k : Int) + 1) = ((k : Int) + 1) % 18446744073709551616 := rfl
  rw [this]; omega

set_option maxHeartbeats 4000000 in
set_option maxRecDepth 10000 in
theorem rnarrow_spec {h : Heap} {cs : List Value} {c : CellM} (a b : Int) (hr : rCell.rep (Old h) h cs c) (hc : CellSmall c) (hle : c.key.length = (dimsM a).length) :
    CallH Tryz.prog 29 #[.agg cs.toArray, .int .i64 a, .int .i64 b] h fun r h' => ∃ ds, r = .agg ds.toArray ∧ rCell.rep (Ft h.size none_ h') h' ds (narrowC a b c) ∧ Keep none_ h h' := by
  refine callH_by fun K hK => ?_
  refine enter [.cell 6 46] Tryz.func29 rfl rfl (by kernel_rfl) rfl ?_
  obtain ⟨ka, kc, sa, sc, na, nc, xa, xc, rfl, r1, r2, r3, r4⟩ := cell_open hr
  simp -dsimp [boxS_eq]
  generalize hB : Array.push (Array.push h _) _ = h0
  have k0 : Keep none_ h h0 := by rw [← hB]; exact ((Keep.refl none_ h).pushed _).pushed _
  have hz0 : h0.size = h.size + 2 := by rw [← hB]; simp
  have hC : h0[h.size]? = some (.cells #[.slice ka c.key.length kc, .int .i64 c.count, .slice sa c.sum.length sc, .slice na c.mn.length nc, .slice xa c.mx.length xc] 46 (0, 0)) := by rw [← hB]; exact push_at (push_new _ _)
  have hz : h0[h.size + 1]? = some (.cells #[.slice none 0 0, .int .i64 0, .slice none 0 0, .slice none 0 0, .slice none 0 0] 46 (0, 0)) := by rw [← hB]; exact push_get (by simp)
  simp -dsimp [hC]
  refine call_by (rcopy_new (rCell.mono hr ((Tr.of k0).ft (Nat.le_refl 0))) hc) ?_
  rintro _ h1 ⟨ds, rfl, rd, k1⟩
  obtain ⟨ka', kc', sa', sc', na', nc', xa', xc', rfl, q1, q2, q3, q4⟩ := cell_open rd
  simp -dsimp
  rw [push_set rfl]
  generalize hB2 : Array.push h1 _ = h2
  have e1 := k1.size
  have k2 : Keep none_ h1 h2 := by rw [← hB2]; exact .push _ _ _
  have hz2 : h2.size = h1.size + 1 := by rw [← hB2]; simp
  have hO : h2[h1.size]? = some (.cells #[.slice none 0 0, .int .i64 c.count, .slice sa' c.sum.length sc', .slice na' c.mn.length nc', .slice xa' c.mx.length xc'] 46 (0, 0)) := by rw [← hB2]; exact push_new _ _
  have k02 : Keep none_ h h2 := (k0.trans k1 fun _ _ h => h).trans k2 fun _ _ h => h
  have hz3 := k2.at (k1.at hz (fun h => h)) (fun h => h)
  have hC3 := k2.at (k1.at hC (fun h => h)) (fun h => h)
  have hkl := hc.key
  have htl : ∀ i, ((List.range i).filter (bitM a)).length ≤ i := fun i => Nat.le_trans (List.length_filter_le _ _) (by simp)
  have hdl : ∀ i, i < 4 → bitM a i = true → ((List.range i).filter (bitM a)).length < (dimsM a).length := fun i hi hb => by
    have h1 := range_snoc (bitM a) i
    rw [if_pos hb] at h1
    have h2 : (List.range (i + 1)).filter (bitM a) <+: dimsM a := by
      unfold dimsM
      refine List.IsPrefix.filter _ ?_
      have : ∀ j : Fin 4, List.range (j.val + 1) <+: List.range 4 := by decide
      exact this ⟨i, hi⟩
    have h3 := h2.length_le
    rw [h1, List.length_append] at h3
    simp at h3
    omega
  refine loopc (σ := Nat × Value) (fun t => [(1, .int .i64 a), (2, .int .i64 b), (3, .pointer (some ⟨h.size, 0, none⟩)), (6, .pointer (some ⟨h.size + 1, 0, none⟩)), (7, .pointer (some ⟨h1.size, 0, none⟩)), (8, .int .i64 ((List.range t.1).filter (bitM a)).length), (9, .int .u64 t.1)])
    (fun t h3 => t.1 ≤ 4 ∧ ∃ M own, Tr (fun b => b = h1.size) M h2 h3 ∧ M h1.size ∧ h3[h1.size]? = some (.cells #[t.2, .int .i64 c.count, .slice sa' c.sum.length sc', .slice na' c.mn.length nc', .slice xa' c.mx.length xc'] 46 (0, 0)) ∧
      Gr rInt 3 h.size M h3 t.2 (pickN b ((List.range t.1).filter (bitM a)) c.key) own ∧ ∀ bk, own = some bk → h2.size ≤ bk)
    (fun t => 4 - t.1) (0, .slice none 0 0) 0 (fun t _ => t.1 = 4) noRet noRet_le (by simp) ?_ (by kernel_rfl) ?_ ?_
  · exact ⟨by omega, _, none, ⟨.refl _ _, fun _ h => .inl h, fun b hb => by omega⟩, rfl, hO, by rw [List.range_zero, List.filter_nil, pickN_nil']; exact .nil _ _ _ _ _, fun b hb => by cases hb⟩
  · rintro ⟨i, v⟩ h3 g ⟨hi, M, own, t, hM, w1, g3, ho⟩
    simp only at hi w1 g3
    have T3 := Tr.from_ k02 t (fun b hb => by omega)
    have hrs := range_snoc (bitM a) i
    have hti := htl i
    have hC4 := t.at hC3 (by omega)
    have hl1 := lt_of_blk w1
    obtain ⟨va, vn, vc, rfl, hvn⟩ := g3.vals
    by_cases hl : i < 4
    · have hl' : (i : Int) < 4 := by omega
      have wk := wrap_u64s (k := i) (by omega)
      simp -dsimp [hl', shr_i (show i < 64 by omega), bit_op]
      cases hba : bitM a i with
      | false =>
        rw [hba, if_neg (by decide), List.append_nil] at hrs
        simp -dsimp [wk]
        exact ⟨(i + 1, _), by simp [hrs], rfl, ⟨by omega, M, own, t, hM, w1, by rw [hrs]; exact g3, ho⟩, by show 4 - (i + 1) < 4 - i; omega⟩
      | true =>
        rw [hba, if_pos rfl] at hrs
        have hxk := hdl i hl hba
        rw [← hle] at hxk
        have wk2 := wrap_succ (k := ((List.range i).filter (bitM a)).length) (by omega)
        have hlen : ((List.range (i + 1)).filter (bitM a)).length = ((List.range i).filter (bitM a)).length + 1 := by rw [hrs]; simp
        have hsn := pickN_snoc b i ((List.range i).filter (bitM a)) c.key
        rw [← hrs, dif_pos hxk] at hsn
        simp -dsimp [shr_i (show i < 64 by omega), bit_op]
        cases hbb : bitM b i with
        | false =>
          rw [hbb, if_neg (by decide), List.append_nil] at hsn
          simp -dsimp [wk, wk2]
          exact ⟨(i + 1, _), by simp [hlen], rfl, ⟨by omega, M, own, t, hM, w1, by rw [hsn]; exact g3, ho⟩, by show 4 - (i + 1) < 4 - i; omega⟩
        | true =>
          rw [hbb, if_pos rfl] at hsn
          have hw1p : ∀ o, (h3.push o)[h1.size]? = _ := fun o => push_at w1
          have rk := r1.mono (T3.ft (Nat.le_refl 0))
          obtain ⟨b1, o1, eka, _, hc1⟩ := rk.int_at _ hxk
          have hpl := pickN_le b ((List.range i).filter (bitM a)) c.key
          simp -dsimp
          refine drawn_by [⟨0, true, []⟩, ⟨1, true, []⟩, ⟨2, true, []⟩, ⟨3, true, []⟩, ⟨4, true, []⟩, ⟨5, true, []⟩, ⟨6, true, []⟩, ⟨7, false, [0, 1]⟩, ⟨8, false, []⟩, ⟨9, true, []⟩, ⟨10, false, []⟩] (by kernel_rfl) (by kernel_rfl) ?_
          simp -dsimp [hC4, w1, hw1p, eka, hc1, idxV_nat hxk, elSz_eq, again_cons]
          refine gr_app1 (x := c.key[((List.range i).filter (bitM a)).length]) rfl intT g3 t.lt rfl rfl (by omega) (by omega) ?_
          intro v' h6 own' g6 t6 k6 ho6
          have v1 := k6.at w1 (fun e => by have := ho _ e; omega)
          have ho6' : ∀ b, own' = some b → h2.size ≤ b := fun b e => (ho6 _ e).elim (ho b) (by have := t.size; omega)
          have hl2 := lt_of_blk v1
          obtain ⟨va', vn', vc', rfl, hvn'⟩ := g6.vals
          simp -dsimp [v1, wk, wk2]
          refine ⟨(i + 1, _), by simp [hlen], rfl, ⟨by omega, _, own', (t.trans t6).set _ (.inl hM), .inl hM, set_same _ hl2, ?_, ho6'⟩, by show 4 - (i + 1) < 4 - i; omega⟩
          rw [hsn]
          exact g6.set _ (.inl hM) (fun e => by have := ho6' _ e; omega)
    · have hl' : ¬ (i : Int) < 4 := by omega
      simp -dsimp [hl']
      exact ⟨rfl, (i, _), by simp, rfl, ⟨hi, M, own, t, hM, w1, g3, ho⟩, by show i = 4; omega⟩
  · rintro ⟨i, v⟩ h3 g ⟨hi, M, own, t, hM, w1, g3, ho⟩ hi4
    simp only at hi w1 g3 hi4
    subst hi4
    have T3 := Tr.from_ k02 t (fun b hb => by omega)
    have hz4 := t.at hz3 (by omega)
    have hl1 := lt_of_blk hz4
    obtain ⟨va, vn, vc, rfl, hvn⟩ := g3.vals
    simp -dsimp [w1, hz4]
    generalize hH : Array.setIfInBounds h3 _ _ = h4
    have hres : h4[h.size + 1]? = some (.cells #[.slice va vn vc, .int .i64 c.count, .slice sa' c.sum.length sc', .slice na' c.mn.length nc', .slice xa' c.mx.length xc'] 46 (0, 0)) := by rw [← hH]; exact set_same _ hl1
    have hold : ∀ bk, bk ≠ h.size + 1 → h4[bk]? = h3[bk]? := fun bk n => by rw [← hH, set_other _ (fun e => n e.symm)]
    have hz5 : h4.size = h3.size := by rw [← hH]; simp
    simp -dsimp [hres]
    have hq : ∀ bk, Ft h0.size none_ h1 bk → Ft h.size none_ h4 bk ∧ h4[bk]? = h1[bk]? := fun bk hb => by
      have l1 := hb.1.1
      have l2 := hb.2.1
      have e : h4[bk]? = h1[bk]? := by
        rw [hold bk (by omega), t.keep.blk bk (by omega) (by omega), k2.blk bk l2 (fun h => h)]
      exact ⟨⟨hb.1.at (by omega) e, by have := t.size; omega, fun h => h⟩, e⟩
    refine hK _ _ ⟨_, rfl, ⟨_, _, _, _, rfl, ?_, q2.mono hq, q3.mono hq, q4.mono hq⟩, ⟨by have := T3.size; omega, fun bk hb _ => by rw [hold bk (by omega), T3.keep.blk bk hb (fun h => h)]⟩⟩
    refine g3.grow.ints.mono fun bk hb => ?_
    have l1 := ho bk hb
    have l2 := g3.own_lt bk hb
    have e := hold bk (by omega)
    exact ⟨⟨⟨by omega, fun _ => (g3.thaw bk hb).at e⟩, by omega, fun h => h⟩, e⟩
end Go.Proofs

/-
  Cells by fewer dimensions, one by one, collected: the program's.
-/
namespace Go.HC
/-- Cells that come one by one, in memory of their own. -/
def cellsA (n0 : Nat) (l : List CellM) (xs : List (List Value)) (cs : List Value) (M : Nat → Prop) (h : Heap) : Prop := ∃ hk : xs.length < l.length, rCell.rep (Ft n0 M h) h cs l[xs.length]
theorem IterM.keep {α : Type} {P : Program} {f : FuncId} {first caps : Array Value} {val : α → Array Value} {A : List α → α → (Nat → Prop) → Heap → Prop} {Done : List α → Prop} {Fp : Nat → Prop} {h0 h1 : Heap} (hit : IterM P f first caps val A Done Fp h0) (hF : ∀ b, Fp b → b < h0.size) (k : Keep none_ h0 h1) : IterM P f first caps val A Done Fp h1 := by
  intro y J M h hyv hy hJ hsz hFp
  refine hit y J M h hyv hy hJ (Nat.le_trans k.size hsz) fun b hb => ?_
  obtain ⟨_, g2, g3⟩ := hFp b hb
  exact ⟨hF b hb, g2, g3.trans (k.blk b (hF b hb) (fun h => h))⟩
end Go.HC
namespace Go.Proofs
open Go Go.HC

set_option maxHeartbeats 4000000 in
set_option maxRecDepth 10000 in
theorem narrowed_iter {h0 : Heap} {b1 b2 b3 : Nat} {v : Value} {l : List CellM} {a b : Int} {F : Nat → Prop} (n0 : Nat) (hn0 : n0 ≤ h0.size) (hb1 : h0[b1]? = some (.cells #[v] 31 (0, 0))) (hb2 : h0[b2]? = some (.cells #[.int .i64 a] 3 (0, 0))) (hb3 : h0[b3]? = some (.cells #[.int .i64 b] 3 (0, 0)))
    (hl : SlRep rCell F h0 v l) (hln : l.length < 1000000) (hsm : ∀ d ∈ l, CellSmall d) :
    IterM Tryz.prog 34 #[] #[.pointer (some ⟨b1, 0, none⟩), .pointer (some ⟨b2, 0, none⟩), .pointer (some ⟨b3, 0, none⟩)] (fun cs : List Value => #[.agg cs.toArray]) (cellsA n0 (l.map (narrowC a b))) (fun xs => xs.length = l.length)
      (fun x => x = b1 ∨ x = b2 ∨ x = b3 ∨ F x) h0 := by
  intro y J M0 h ⟨yf, yu, yv', hyf⟩ hy hJ hsz hFp
  subst hyf
  have w1 := (hFp b1 (.inl rfl)).2.2.trans hb1
  have w2 := (hFp b2 (.inr (.inl rfl))).2.2.trans hb2
  have w3 := (hFp b3 (.inr (.inr (.inl rfl)))).2.2.trans hb3
  have n1 := (hFp b1 (.inl rfl)).2.1
  have n2 := (hFp b2 (.inr (.inl rfl))).2.1
  have n3 := (hFp b3 (.inr (.inr (.inl rfl)))).2.1
  have hlh : SlRep rCell (Ft 0 M0 h) h v l := hl.mono fun x hx => by
    obtain ⟨g1, g2, g3⟩ := hFp x (.inr (.inr (.inr hx)))
    exact ⟨⟨nz, by omega, g2⟩, g3⟩
  obtain ⟨a0, c0, rfl, _, _⟩ := hl.val
  refine callH_by fun K hK => ?_
  refine enter [] Tryz.func34 rfl rfl (by kernel_rfl) rfl ?_
  simp -dsimp [w1]
  refine loopc (σ := Nat) (fun k => [(0, .func yf yu yv'), (1, .pointer (some ⟨b1, 0, none⟩)), (2, .pointer (some ⟨b2, 0, none⟩)), (3, .pointer (some ⟨b3, 0, none⟩)), (7, .slice a0 l.length c0), (8, .int .i64 l.length), (9, .int .i64 k)])
    (fun k h1 => k ≤ l.length ∧ ∃ xs M, xs.length = k ∧ J xs M h1 ∧ Tr M0 M h h1) (fun k => l.length - k) 0 0 (fun k _ => k = l.length) noRet noRet_le (by simp)
    ⟨by omega, [], M0, rfl, hJ, ⟨.refl _ _, fun _ h => .inl h, fun b hb => hy.lt hJ b hb⟩⟩ (by kernel_rfl) ?_ ?_
  · rintro k h1 g ⟨hk, xs, M, hxs, hJ1, t⟩
    by_cases hkl : k < l.length
    · have wk := wrap_succ (k := k) (by omega)
      obtain ⟨bl, ol, cs, e1, _, hrep, hx1⟩ := (hlh.mono (t.ft (Nat.le_refl 0))).get k hkl
      obtain ⟨ka, kc, sa, sc, na, nc, xa, xc, rfl, r1, _⟩ := cell_open hrep
      have hx1' : HC.cellsIn h1[bl]? (ol + k * 5) 5 = _ := hx1
      simp -dsimp [hkl, e1, idxA_nat hkl, hx1']
      rw [push_set rfl]
      generalize hB2 : Array.push h1 _ = h2
      have k2 : Keep none_ h1 h2 := by rw [← hB2]; exact .push _ _ _
      have hC : h2[h1.size]? = some (.cells #[.slice ka l[k].key.length kc, .int .i64 l[k].count, .slice sa l[k].sum.length sc, .slice na l[k].mn.length nc, .slice xa l[k].mx.length xc] 46 (0, 0)) := by rw [← hB2]; exact push_new _ _
      have t2 := t.call k2
      have v2 := t2.at w2 n2
      have v3 := t2.at w3 n3
      simp -dsimp [hC, v2, v3]
      refine call_by (narrow_spec a b (rCell.mono (rCell.mono hrep ((t.here.call k2).ft (Nat.le_refl 0))) (Ft.free (Nat.zero_le _))) (hsm _ (List.getElem_mem hkl))) ?_
      rintro _ h3 ⟨ds, rfl, rd, k3⟩
      simp -dsimp
      have k13 := k2.trans k3 fun _ _ h => h
      refine callV_by (hy.step (x := ds) (hy.call hJ1 k13) ?_) ?_
      · refine ⟨by rw [hxs, List.length_map]; exact hkl, ?_⟩
        have := rCell.mono rd (t2.ret (n := n0) (by have := t2.size; omega))
        simpa [hxs] using this
      · rintro _ h4 ⟨rfl, M', hJ4, t4⟩
        simp -dsimp [wk]
        exact ⟨k + 1, by simp [e1], rfl, ⟨by omega, xs ++ [ds], M', by simp [hxs], hJ4, (t.call k13).trans t4⟩, by show l.length - (k + 1) < l.length - k; omega⟩
    · simp -dsimp [hkl]
      exact ⟨rfl, k, by simp, rfl, ⟨hk, xs, M, hxs, hJ1, t⟩, by omega⟩
  · rintro k h1 g ⟨hk, xs, M, hxs, hJ1, t⟩ rfl
    simp -dsimp
    exact hK _ _ ⟨xs, M, hxs, hJ1, t⟩

set_option maxHeartbeats 4000000 in
set_option maxRecDepth 10000 in
theorem all_spec {f : FuncId} {caps : Array Value} {l : List CellM} {Fp : Nat → Prop} {h : Heap} (hfn : FnOk Tryz.prog f)
    (hit : IterM Tryz.prog f #[] caps (fun cs : List Value => #[.agg cs.toArray]) (cellsA h.size l) (fun xs => xs.length = l.length) Fp h) (hF : ∀ b, Fp b → b < h.size) (hln : l.length < 1000000) :
    CallH Tryz.prog 25 #[.func (.func f) #[] caps] h fun r h' => NewC 46 h.size h' r l ∧ Keep none_ h h' := by
  refine callH_by fun K hK => ?_
  refine enter [.tmp 2] Tryz.func25 rfl rfl (by kernel_rfl) rfl ?_
  simp -dsimp
  generalize hB : Array.push h _ = h1
  have k1 : Keep none_ h h1 := by rw [← hB]; exact .push _ _ _
  have hz1 : h1.size = h.size + 1 := by rw [← hB]; simp
  have hO : h1[h.size]? = some (.cells #[.slice none 0 0] 31 (0, 0)) := by rw [← hB]; exact push_new _ _
  obtain ⟨I, hI⟩ : ∃ I : List (List Value) → (Nat → Prop) → Heap → Prop, ∀ xs M h', I xs M h' ↔ (M h.size ∧ (∀ b, M b → b < h'.size) ∧ xs.length ≤ l.length ∧ ∃ v own, h'[h.size]? = some (.cells #[v] 31 (0, 0)) ∧
      Gr rCell 46 h.size M h' v (l.take xs.length) own ∧ ∀ bk, own = some bk → h1.size + 2 ≤ bk) := ⟨_, fun _ _ _ => Iff.rfl⟩
  refine range_m (val := fun cs : List Value => #[.agg cs.toArray]) (first := #[]) (by simp) hfn (hit.keep hF k1) I
    ?_ ?_ (fun b => b = h.size) ?_ ?_ (by kernel_rfl) (by kernel_rfl) (fun _ => rfl) (by intro p hp; simp at hp; subst hp; decide) ?_ ?_
  · exact fun hi => ((hI _ _ _).1 hi).2.1
  · intro xs M h4 h5 hi m1 m2 k
    obtain ⟨hM, hlt, hx, v, own, w1, g, ho⟩ := (hI _ _ _).1 hi
    exact (hI _ _ _).2 ⟨hM, fun b hb => Nat.lt_of_lt_of_le (hlt b hb) k.size, hx, v, own, k.at w1 (by omega), g.lp hlt m2 (fun e => by have := ho _ e; omega) k, ho⟩
  · exact fun b hb => ⟨by have := hF b hb; omega, by have := hF b hb; omega⟩
  · intro h4 k4 hz4
    exact (hI _ _ _).2 ⟨.inl rfl, by omega, Nat.zero_le _, _, none, k4.at hO (fun h => h), .nil _ _ _ _ _, fun b hb => by cases hb⟩
  · rintro xs cs M h4 hi4 ⟨hxk, hrep⟩ hz4 m1 m2 t
    obtain ⟨hM, hlt, hx, v, own, w1, g, ho⟩ := (hI _ _ _).1 hi4
    obtain ⟨ka, kc, sa, sc, na, nc, xa, xc, rfl, r1, _⟩ := cell_open hrep
    simp -dsimp
    rw [push_set rfl]
    generalize hB2 : Array.push h4 _ = h5
    have k5 : Keep none_ h4 h5 := by rw [← hB2]; exact .push _ _ _
    have hC : h5[h4.size]? = some (.cells #[.slice ka l[xs.length].key.length kc, .int .i64 l[xs.length].count, .slice sa l[xs.length].sum.length sc, .slice na l[xs.length].mn.length nc, .slice xa l[xs.length].mx.length xc] 46 (0, 0)) := by rw [← hB2]; exact push_new _ _
    refine ⟨k5, fun h6 k6 hz6 => ?_⟩
    have l4 := lt_of_blk w1
    have hzz : h5.size = h4.size + 1 := by rw [← hB2]; simp
    have t46 : Tr M M h4 h6 := (Tr.call ⟨.refl _ _, fun _ h => .inl h, hlt⟩ k5).trans (.lp (fun b hb => Nat.lt_of_lt_of_le (hlt b hb) k5.size) m2 k6)
    have g6 := (g.call k5).lp (fun b hb => Nat.lt_of_lt_of_le (hlt b hb) k5.size) m2 (fun e => by have := ho _ e; omega) k6
    have w6 := k6.at (k5.at w1 (fun h => h)) (by omega)
    have hC6 := k6.at hC (by omega)
    obtain ⟨va, vn, vc, rfl, hvn⟩ := g6.vals
    simp -dsimp [w6, hC6]
    have htl : (l.take xs.length).length = xs.length := by rw [List.length_take]; omega
    refine gr_app1 (x := l[xs.length]) rfl cellT g6 t46.lt (rCell.mono hrep (t46.ft (Nat.le_refl _))) rfl (by omega) (by omega) ?_
    intro v' h7 own' g7 t7 k7 ho7
    have w7 := k7.at w6 (fun e => by have := ho _ e; omega)
    have ho7' : ∀ b, own' = some b → h1.size + 2 ≤ b := fun b e => (ho7 _ e).elim (ho b) (by omega)
    obtain ⟨va', vn', vc', rfl, hvn'⟩ := g7.vals
    have hl7 := lt_of_blk w7
    simp -dsimp [w7]
    have t8 := (t46.trans t7).set (.cells #[.slice va' vn' vc'] 31) (.inl hM)
    refine ⟨_, (hI _ _ _).2 ⟨.inl hM, t8.lt, by simp; omega, _, own', set_same _ hl7, ?_, ho7'⟩, t8, .inl m1, .inl m2, (set_other _ (by omega)).trans (k7.blk _ (by omega) fun e => by have := ho _ e; omega), (set_other _ (by omega)).trans (k7.blk _ (by omega) fun e => by have := ho _ e; omega)⟩
    rw [List.length_append, List.length_singleton, take_snoc hxk]
    exact g7.set _ (.inl hM) (fun e => by have := ho7' _ e; omega)
  · rintro xs M h4 hxl hi4 hdm hz4 m1 m2 t
    obtain ⟨hM, hlt, hx, v, own, w1, g, ho⟩ := (hI _ _ _).1 hi4
    have T4 := Tr.from_ k1 t (fun b hb => by omega)
    rw [hxl, List.take_length] at g
    obtain ⟨va, vn, vc, rfl, hvn⟩ := g.vals
    simp -dsimp [w1]
    rw [takeS_cons hdm]
    simp -dsimp
    have u := T4.set (.deferred none) m1
    exact hK _ _ ⟨(g.set _ m1 (fun e => by have := ho _ e; omega)).newC (Nat.le_refl _) (fun b hb => by have := ho b hb; omega), u.keep⟩
end Go.Proofs

/-
  Two rows of rising cells made one: the program's.
-/
namespace Go.HC
theorem two_nil : ∀ a : List CellM, twoM a [] = a
  | [] => by rw [twoM]
  | x :: a => by rw [twoM]
theorem two_nil' (b : List CellM) : twoM [] b = b := by rw [twoM]
theorem two_len : ∀ a b : List CellM, (twoM a b).length ≤ a.length + b.length
  | [], b => by rw [twoM]; simp
  | x :: a, [] => by rw [twoM]; simp
  | x :: a, y :: b => by
    rw [twoM]
    split
    · have := two_len a (y :: b); simp only [List.length_cons] at *; omega
    · split
      · have := two_len a b; simp only [List.length_cons] at *; omega
      · have := two_len (x :: a) b; simp only [List.length_cons] at *; omega
termination_by a b => a.length + b.length
/-- A row of cells in memory of its own that is not among what may be changed. -/
def NewCM (e n0 : Nat) (M : Nat → Prop) (h : Heap) (v : Value) (l : List CellM) : Prop := ∃ F own, Grow rCell e F h v l own ∧ (∀ b, F b → Nw n0 h b ∧ b < h.size ∧ ¬ M b) ∧ ∀ b, own = some b → n0 ≤ b ∧ ¬ M b
theorem NewC.away {e n0 n1 : Nat} {M : Nat → Prop} {h : Heap} {v : Value} {l : List CellM} (g : NewC e n1 h v l) (hn : n0 ≤ n1) (hM : ∀ b, M b → b < n1) : NewCM e n0 M h v l := by
  obtain ⟨F, own, g, hF, ho⟩ := g
  exact ⟨F, own, g, fun b hb => ⟨(hF b hb).1.less hn, (hF b hb).2, fun hm => by have := hM b hm; have := (hF b hb).1.1; omega⟩, fun b hb => ⟨Nat.le_trans hn (ho b hb), fun hm => by have := hM b hm; have := ho b hb; omega⟩⟩
theorem NewCM.mono {e n0 : Nat} {M M' : Nat → Prop} {h h' : Heap} {v : Value} {l : List CellM} (g : NewCM e n0 M h v l) (t : Tr M M' h h') : NewCM e n0 M' h' v l := by
  obtain ⟨F, own, g, hF, ho⟩ := g
  have hlt := g.own_lt
  have hnf := g.notF
  have key : ∀ b, b < h.size → ¬ M b → ¬ M' b := fun b h1 h2 hm => (t.new b hm).elim h2 fun h => by omega
  exact ⟨F, own, g.mono (fun b hb => ⟨hb, t.keep.blk b (hF b hb).2.1 (hF b hb).2.2⟩) fun b hb => ⟨hnf b hb, t.keep.blk b (hlt b hb) (ho b hb).2⟩,
    fun b hb => ⟨(hF b hb).1.at (Nat.le_refl _) (t.keep.blk b (hF b hb).2.1 (hF b hb).2.2), Nat.lt_of_lt_of_le (hF b hb).2.1 t.size, key b (hF b hb).2.1 (hF b hb).2.2⟩, fun b hb => ⟨(ho b hb).1, key b (hlt b hb) (ho b hb).2⟩⟩
theorem NewCM.newC {e n0 : Nat} {M : Nat → Prop} {h : Heap} {v : Value} {l : List CellM} (g : NewCM e n0 M h v l) : NewC e n0 h v l := by
  obtain ⟨F, own, g, hF, ho⟩ := g
  exact ⟨F, own, g, fun b hb => ⟨(hF b hb).1, (hF b hb).2.1⟩, fun b hb => (ho b hb).1⟩
theorem NewCM.rep {e n0 n : Nat} {M : Nat → Prop} {h : Heap} {v : Value} {l : List CellM} (g : NewCM e n0 M h v l) (hn : n ≤ n0) : SlRep rCell (Ft n M h) h v l := by
  obtain ⟨F, own, g, hF, ho⟩ := g
  exact g.rep.mono fun b hb => ⟨hb.elim (fun h => ⟨(hF b h).1.less hn, (hF b h).2.1, (hF b h).2.2⟩) fun h => ⟨⟨Nat.le_trans hn (ho b h).1, fun _ => g.thaw b h⟩, g.own_lt b h, (ho b h).2⟩, rfl⟩
/-- What is changed may be more than it was. -/
theorem Tr.more {M M' N : Nat → Prop} {h h' : Heap} (t : Tr M M' h h') (hN : ∀ b, N b → (M b ∨ h.size ≤ b) ∧ b < h'.size) : Tr M (fun b => M' b ∨ N b) h h' :=
  ⟨t.keep, fun b hb => hb.elim (t.new b) fun h => (hN b h).1, fun b hb => hb.elim (t.lt b) fun h => (hN b h).2⟩
end Go.HC
namespace Go.Proofs
open Go Go.HC

set_option maxHeartbeats 4000000 in
set_option maxRecDepth 10000 in
theorem mown_spec {h : Heap} {cs : List Value} {c : CellM} (hr : rCell.rep (Old h) h cs c) (hc : CellSmall c) :
    CallH Tryz.prog 83 #[.agg cs.toArray] h fun r h' => ∃ ds, r = .agg ds.toArray ∧ rCell.rep (Ft h.size none_ h') h' ds c ∧ Keep none_ h h' := by
  refine callH_by fun K hK => ?_
  refine enter [.cell 2 46] Tryz.func83 rfl rfl (by kernel_rfl) rfl ?_
  obtain ⟨ka, kc, sa, sc, na, nc, xa, xc, rfl, r1, r2, r3, r4⟩ := cell_open hr
  simp -dsimp [boxS_eq]
  generalize hB : Array.push (Array.push h _) _ = h0
  have k0 : Keep none_ h h0 := by rw [← hB]; exact ((Keep.refl none_ h).pushed _).pushed _
  have hz0 : h0.size = h.size + 2 := by rw [← hB]; simp
  have hC : h0[h.size]? = some (.cells #[.slice ka c.key.length kc, .int .i64 c.count, .slice sa c.sum.length sc, .slice na c.mn.length nc, .slice xa c.mx.length xc] 46 (0, 0)) := by rw [← hB]; exact push_at (push_new _ _)
  have hz : h0[h.size + 1]? = some (.cells #[.slice none 0 0, .int .i64 0, .slice none 0 0, .slice none 0 0, .slice none 0 0] 46 (0, 0)) := by rw [← hB]; exact push_get (by simp)
  simp -dsimp [hC]
  generalize hB3 : Array.push h0 _ = h3
  have k3 : Keep none_ h0 h3 := by rw [← hB3]; exact .push _ _ _
  have k03 := k0.trans k3 fun _ _ h => h
  have hN : h3[h0.size]? = some (.cells #[.slice ka c.key.length kc, .int .i64 c.count, .slice sa c.sum.length sc, .slice na c.mn.length nc, .slice xa c.mx.length xc] 46 (0, 0)) := by rw [← hB3]; exact push_new _ _
  have hone1 : SlRep rCell (Old h3) h3 (.slice (some ⟨h0.size, 0, none⟩) 1 1) [c] :=
    ⟨_, 1, _, rfl, Nat.le_refl _, by decide, .inr ⟨h0.size, 0, _, _, _, rfl, ⟨nz, lt_of_blk hN, fun h => h⟩, hN, rfl⟩, .single (rCell.mono hr ((Tr.of k03).ft (Nat.le_refl 0)))⟩
  refine call_by (cgroup_spec hone1 (by simp) (fun d hd => by rw [List.mem_singleton] at hd; rw [hd]; exact hc)) ?_
  rintro gv h4 ⟨ng, k4⟩
  have ng : NewC 46 h3.size h4 gv [c] := ng
  obtain ⟨b4, cc4, arr4, cs4, rfl, hcc, hb4s, hb4, hsz4, hcs4, rep4⟩ := ng.one
  obtain ⟨ka', kc', sa', sc', na', nc', xa', xc', rfl, q1, q2, q3, q4⟩ := cell_open rep4
  have hz4 := k4.at (k3.at hz (fun h => h)) (fun h => h)
  have hce : HC.cellsIn h4[b4]? 0 5 = some _ := (by rw [hb4, cellsIn_some, if_pos (by omega), List.drop_zero, hcs4])
  have s3 := k03.size
  have s4 := k4.size
  have hl := lt_of_blk hz4
  simp -dsimp [idxA_zero (show 0 < 1 by decide), hce, hz4]
  generalize hH : Array.setIfInBounds h4 _ _ = h5
  have hres : h5[h.size + 1]? = some (.cells #[.slice ka' c.key.length kc', .int .i64 c.count, .slice sa' c.sum.length sc', .slice na' c.mn.length nc', .slice xa' c.mx.length xc'] 46 (0, 0)) := by rw [← hH]; exact set_same _ hl
  have hold : ∀ bk, bk ≠ h.size + 1 → h5[bk]? = h4[bk]? := fun bk n => by rw [← hH, set_other _ (fun e => n e.symm)]
  have hz5 : h5.size = h4.size := by rw [← hH]; simp
  simp -dsimp [hres]
  have z3 : h3.size = h0.size + 1 := by rw [← hB3]; simp
  refine hK _ _ ⟨_, rfl, rCell.mono rep4 fun bk hb => ?_, ⟨by omega, fun bk hb _ => by rw [hold bk (by omega), k4.blk bk (by omega) (fun h => h), k03.blk bk hb (fun h => h)]⟩⟩
  have l1 := hb.1.1
  have e := hold bk (by omega)
  exact ⟨⟨hb.1.at s3 e, by have := hb.2.1; omega, fun h => h⟩, e⟩

theorem ofc_spec (v : Value) (hv : v.cells = #[v]) (h : Heap) : CallH Tryz.prog 82 #[v] h fun r h' => r = .func (.func 95) #[] #[.pointer (some ⟨h.size, 0, none⟩)] ∧ h' = h.push (.cells #[v] 31) := by
  refine enter [.tmp 2] Tryz.func82 rfl rfl (by kernel_rfl) rfl ?_
  simp -dsimp [boxS_eq, hv]

set_option maxHeartbeats 4000000 in
set_option maxRecDepth 10000 in
theorem ofc_iter {h0 : Heap} {b1 : Nat} {v : Value} {l : List CellM} {F : Nat → Prop} (hb1 : h0[b1]? = some (.cells #[v] 31 (0, 0))) (hl : SlRep rCell F h0 v l) (hln : l.length < 1000000) :
    IterM Tryz.prog 95 #[] #[.pointer (some ⟨b1, 0, none⟩)] (fun cs : List Value => #[.agg cs.toArray]) (cellsA 0 l) (fun xs => xs.length = l.length) (fun x => x = b1 ∨ F x) h0 := by
  intro y J M0 h ⟨yf, yu, yv', hyf⟩ hy hJ hsz hFp
  subst hyf
  have w1 := (hFp b1 (.inl rfl)).2.2.trans hb1
  have n1 := (hFp b1 (.inl rfl)).2.1
  have hlh : SlRep rCell (Ft 0 M0 h) h v l := hl.mono fun x hx => by
    obtain ⟨g1, g2, g3⟩ := hFp x (.inr hx)
    exact ⟨⟨nz, by omega, g2⟩, g3⟩
  obtain ⟨a0, c0, rfl, _, _⟩ := hl.val
  refine callH_by fun K hK => ?_
  refine enter [] Tryz.func95 rfl rfl (by kernel_rfl) rfl ?_
  simp -dsimp [w1]
  refine loopc (σ := Nat) (fun k => [(0, .func yf yu yv'), (5, .slice a0 l.length c0), (6, .int .i64 l.length), (7, .int .i64 k)])
    (fun k h1 => k ≤ l.length ∧ ∃ xs M, xs.length = k ∧ J xs M h1 ∧ Tr M0 M h h1) (fun k => l.length - k) 0 0 (fun k _ => k = l.length) noRet noRet_le (by simp)
    ⟨by omega, [], M0, rfl, hJ, ⟨.refl _ _, fun _ h => .inl h, fun b hb => hy.lt hJ b hb⟩⟩ (by kernel_rfl) ?_ ?_
  · rintro k h1 g ⟨hk, xs, M, hxs, hJ1, t⟩
    by_cases hkl : k < l.length
    · have wk := wrap_succ (k := k) (by omega)
      obtain ⟨bl, ol, cs, e1, _, hrep, hx1⟩ := (hlh.mono (t.ft (Nat.le_refl 0))).get k hkl
      obtain ⟨ka, kc, sa, sc, na, nc, xa, xc, rfl, r1, _⟩ := cell_open hrep
      have hx1' : HC.cellsIn h1[bl]? (ol + k * 5) 5 = _ := hx1
      simp -dsimp [hkl, e1, idxA_nat hkl, hx1']
      rw [push_set rfl]
      generalize hB2 : Array.push h1 _ = h2
      have k2 : Keep none_ h1 h2 := by rw [← hB2]; exact .push _ _ _
      refine callV_by (hy.step (x := [.slice ka l[k].key.length kc, .int .i64 l[k].count, .slice sa l[k].sum.length sc, .slice na l[k].mn.length nc, .slice xa l[k].mx.length xc]) (hy.call hJ1 k2) ?_) ?_
      · refine ⟨by rw [hxs]; exact hkl, ?_⟩
        have := rCell.mono hrep ((t.here.call k2).ft (Nat.le_refl 0))
        simpa [hxs] using this
      · rintro _ h4 ⟨rfl, M', hJ4, t4⟩
        simp -dsimp [wk]
        exact ⟨k + 1, by simp [e1], rfl, ⟨by omega, xs ++ [_], M', by simp [hxs], hJ4, (t.call k2).trans t4⟩, by show l.length - (k + 1) < l.length - k; omega⟩
    · simp -dsimp [hkl]
      exact ⟨rfl, k, by simp, rfl, ⟨hk, xs, M, hxs, hJ1, t⟩, by omega⟩
  · rintro k h1 g ⟨hk, xs, M, hxs, hJ1, t⟩ rfl
    simp -dsimp
    exact hK _ _ ⟨xs, M, hxs, hJ1, t⟩
end Go.Proofs

/-
  Two rows of rising cells made one: the program's, whole.
-/
namespace Go.HC
/-- A slice that grows and a number, in variables of their own. -/
def TwoJ (tS tC tI n0 B5 B6 lim : Nat) (M : Nat → Prop) (h : Heap) (j : Nat) (out : List CellM) : Prop :=
  ∃ v own, h[B5]? = some (.cells #[v] tS (0, 0)) ∧ h[B6]? = some (.cells #[.int .i64 j] tI (0, 0)) ∧ Gr rCell tC n0 M h v out own ∧ (∀ b, own = some b → lim ≤ b) ∧ M B5 ∧ M B6 ∧ ∀ b, M b → b < h.size
section
variable {tS tC tI n0 B5 B6 lim j j' : Nat} {M M' : Nat → Prop} {h h' : Heap} {out : List CellM}
theorem TwoJ.call (t : TwoJ tS tC tI n0 B5 B6 lim M h j out) (k : Keep none_ h h') : TwoJ tS tC tI n0 B5 B6 lim M h' j out := by
  obtain ⟨v, own, w1, w2, g, ho, m1, m2, hl⟩ := t
  exact ⟨v, own, k.at w1 (fun h => h), k.at w2 (fun h => h), g.call k, ho, m1, m2, fun b hb => Nat.lt_of_lt_of_le (hl b hb) k.size⟩
theorem TwoJ.lp {lp : Nat} (t : TwoJ tS tC tI n0 B5 B6 lim M h j out) (m : M lp) (h1 : lp < lim) (h2 : B5 ≠ lp) (h3 : B6 ≠ lp) (k : Keep (fun b => b = lp) h h') : TwoJ tS tC tI n0 B5 B6 lim M h' j out := by
  obtain ⟨v, own, w1, w2, g, ho, m1, m2, hl⟩ := t
  exact ⟨v, own, k.at w1 h2, k.at w2 h3, g.lp hl m (fun e => by have := ho _ e; omega) k, ho, m1, m2, fun b hb => Nat.lt_of_lt_of_le (hl b hb) k.size⟩
/-- A cell has been appended, and is written; the number too. -/
theorem TwoJ.put {c : CellM} {v' : Value} {own' : Option Nat} (g : Gr rCell tC n0 M' h v' (out ++ [c]) own') (ho : ∀ b, own' = some b → lim ≤ b) (m1 : M' B5) (m2 : M' B6) (hl : ∀ b, M' b → b < h.size)
    (h1 : B5 < lim) (h2 : B6 < lim) (h3 : B5 ≠ B6) : TwoJ tS tC tI n0 B5 B6 lim M' ((h.setIfInBounds B5 (.cells #[v'] tS)).setIfInBounds B6 (.cells #[.int .i64 j'] tI)) j' (out ++ [c]) :=
  ⟨v', own', (set_other _ (fun e => h3 e.symm)).trans (set_same _ (hl _ m1)), set_same _ (by simpa using hl _ m2), (g.set _ m1 (fun e => by have := ho _ e; omega)).set _ m2 (fun e => by have := ho _ e; omega), ho, m1, m2, fun b hb => by simpa using hl b hb⟩
theorem TwoJ.put1 {c : CellM} {v' : Value} {own' : Option Nat} (g : Gr rCell tC n0 M' h v' (out ++ [c]) own') (w : h[B6]? = some (.cells #[.int .i64 j] tI (0, 0))) (ho : ∀ b, own' = some b → lim ≤ b) (m1 : M' B5) (m2 : M' B6) (hl : ∀ b, M' b → b < h.size)
    (h1 : B5 < lim) (h3 : B5 ≠ B6) : TwoJ tS tC tI n0 B5 B6 lim M' (h.setIfInBounds B5 (.cells #[v'] tS)) j (out ++ [c]) :=
  ⟨v', own', set_same _ (hl _ m1), (set_other _ h3).trans w, g.set _ m1 (fun e => by have := ho _ e; omega), ho, m1, m2, fun b hb => by simpa using hl b hb⟩
end
theorem two_lt {x y : CellM} {a b : List CellM} (h : lessM x.key y.key < 0) : twoM (x :: a) (y :: b) = x :: twoM a (y :: b) := by rw [twoM, if_pos h]
theorem two_eq {x y : CellM} {a b : List CellM} (h : lessM x.key y.key = 0) : twoM (x :: a) (y :: b) = joinC x y :: twoM a b := by rw [twoM, if_neg (by omega), if_pos h]
theorem two_gt {x y : CellM} {a b : List CellM} (h : 0 < lessM x.key y.key) : twoM (x :: a) (y :: b) = y :: twoM (x :: a) b := by rw [twoM, if_neg (by omega), if_neg (by omega)]
theorem drop_cons {α : Type} {l : List α} {k : Nat} (h : k < l.length) : l.drop k = l[k] :: l.drop (k + 1) := List.drop_eq_getElem_cons h
end Go.HC
namespace Go.Proofs
open Go Go.HC

set_option maxHeartbeats 8000000 in
set_option maxRecDepth 10000 in
theorem two_spec {h : Heap} {av bv : Value} {x y : List CellM} (ha : SlRep rCell (Old h) h av x) (hb : SlRep rCell (Old h) h bv y) (hxn : x.length < 1000000) (hyn : y.length < 1000000) (sx : ∀ d ∈ x, CellSmall d) (sy : ∀ d ∈ y, CellSmall d) :
    CallH Tryz.prog 68 #[av, bv] h fun r h' => NewC 46 h.size h' r (twoM x y) ∧ Keep none_ h h' := by
  refine callH_by fun K hK => ?_
  refine enter [.tmp 4] Tryz.func68 rfl rfl (by kernel_rfl) rfl ?_
  obtain ⟨a0, c0, rfl, _, _⟩ := ha.val
  obtain ⟨a1, c1, rfl, _, _⟩ := hb.val
  have htl := two_len x y
  simp -dsimp [boxS_eq]
  rw [push_set (by simp)]
  generalize hB : Array.push (Array.push (Array.push h _) _) _ = h0
  have k0 : Keep none_ h h0 := by rw [← hB]; exact (((Keep.refl none_ h).pushed _).pushed _).pushed _
  have hz0 : h0.size = h.size + 3 := by rw [← hB]; simp
  have w3 : h0[h.size]? = some (.cells #[.slice a1 y.length c1] 31 (0, 0)) := by rw [← hB]; exact push_at (push_at (push_new _ _))
  have w5 : h0[h.size + 1]? = some (.cells #[.slice none 0 0] 31 (0, 0)) := by rw [← hB]; exact push_at (push_get (by simp))
  have w6 : h0[h.size + 2]? = some (.cells #[.int .i64 ((0 : Nat) : Int)] 3 (0, 0)) := by rw [← hB]; exact push_get (by simp)
  refine call_by (ofc_spec _ (by simp) h0) ?_
  rintro _ h1 ⟨rfl, e1⟩
  have k1 : Keep none_ h0 h1 := by rw [e1]; exact .push _ _ _
  have hz1 : h1.size = h0.size + 1 := by rw [e1]; simp
  have w7 : h1[h0.size]? = some (.cells #[.slice a0 x.length c0] 31 (0, 0)) := by rw [e1]; exact push_new _ _
  clear e1
  have k01 := k0.trans k1 fun _ _ h => h
  have ha1 := ha.mono ((Tr.of k01).ft (Nat.le_refl 0))
  have hb1 := hb.mono ((Tr.of k01).ft (Nat.le_refl 0))
  simp -dsimp
  obtain ⟨I, hI⟩ : ∃ I : List (List Value) → (Nat → Prop) → Heap → Prop, ∀ xs M h', I xs M h' ↔ (xs.length ≤ x.length ∧ ∃ j out, j ≤ y.length ∧ twoM x y = out ++ twoM (x.drop xs.length) (y.drop j) ∧ TwoJ 31 46 3 h.size (h.size + 1) (h.size + 2) (h1.size + 2) M h' j out) := ⟨_, fun _ _ _ => Iff.rfl⟩
  refine range_m (val := fun cs : List Value => #[.agg cs.toArray]) (first := #[]) (by simp) (by simp) (ofc_iter (F := fun b => b < h.size) w7 (ha.mono fun b hb => ⟨hb.2.1, k01.blk b hb.2.1 (fun h => h)⟩) hxn) I
    ?_ ?_ (fun b => b = h.size + 1 ∨ b = h.size + 2) ?_ ?_ (by kernel_rfl) (by kernel_rfl) (fun _ => rfl) (by intro p hp; simp at hp; subst hp; decide) ?_ ?_
  · intro xs M h' hi
    obtain ⟨_, _, _, _, _, _, _, _, _, _, _, _, _, hl⟩ := (hI _ _ _).1 hi
    exact hl
  · intro xs M h4 h5 hi m1 m2 k
    obtain ⟨hx, j, out, hj, he, t⟩ := (hI _ _ _).1 hi
    exact (hI _ _ _).2 ⟨hx, j, out, hj, he, t.lp m2 (by omega) (by omega) (by omega) k⟩
  · rintro b (rfl | hb)
    · exact ⟨by omega, by omega⟩
    · exact ⟨by omega, by omega⟩
  · intro h4 k4 hz4
    exact (hI _ _ _).2 ⟨Nat.zero_le _, 0, [], Nat.zero_le _, by simp, _, none, k4.at (k1.at w5 (fun h => h)) (fun h => h), k4.at (k1.at w6 (fun h => h)) (fun h => h), .nil _ _ _ _ _, fun b hb => (by cases hb), .inl (.inl rfl), .inl (.inr rfl), by omega⟩
  · rintro xs cs M h4 hi4 ⟨hxk, hrep⟩ hz4 m1 m2 t
    obtain ⟨hx, j, out, hj, he, tj⟩ := (hI _ _ _).1 hi4
    obtain ⟨ka, kc, sa, sc, na, nc, xa, xc, rfl, r1, _⟩ := cell_open hrep
    have hM4 : ∀ b, M b → b < h4.size := tj.choose_spec.choose_spec.2.2.2.2.2.2
    simp -dsimp
    rw [push_set rfl]
    generalize hB2 : Array.push h4 _ = h5
    have k5 : Keep none_ h4 h5 := by rw [← hB2]; exact .push _ _ _
    have hz5 : h5.size = h4.size + 1 := by rw [← hB2]; simp
    have hC : h5[h4.size]? = some (.cells #[.slice ka x[xs.length].key.length kc, .int .i64 x[xs.length].count, .slice sa x[xs.length].sum.length sc, .slice na x[xs.length].mn.length nc, .slice xa x[xs.length].mx.length xc] 46 (0, 0)) := by rw [← hB2]; exact push_new _ _
    refine ⟨k5, fun h6 k6 hz6 => ?_⟩
    have t46 : Tr M M h4 h6 := (Tr.call ⟨.refl _ _, fun _ h => .inl h, hM4⟩ k5).trans (.lp (fun b hb => Nat.lt_of_lt_of_le (hM4 b hb) k5.size) m2 k6)
    have hC6 := k6.at hC (by omega)
    have tj6 := (tj.call k5).lp m2 (by omega) (by omega) (by omega) k6
    have hdx := drop_cons hxk
    have hsx := sx _ (List.getElem_mem hxk)
    have hrep6 := rCell.mono hrep (t46.ft (Nat.le_refl 0))
    -- what holds of a heap while a round goes on
    obtain ⟨J, hJ⟩ : ∃ J : Nat → Heap → Prop, ∀ j h7, J j h7 ↔ (∃ M7 out, j ≤ y.length ∧ twoM x y = out ++ twoM (x.drop xs.length) (y.drop j) ∧ Tr M M7 h4 h7 ∧ (∀ b, M b → M7 b) ∧ (∀ b, M7 b → M b ∨ h4.size < b) ∧ h7[h4.size]? = h6[h4.size]? ∧ h7[h1.size]? = h6[h1.size]? ∧ h7[h1.size + 1]? = h6[h1.size + 1]? ∧
        TwoJ 31 46 3 h.size (h.size + 1) (h.size + 2) (h1.size + 2) M7 h7 j out) := ⟨_, fun _ _ => Iff.rfl⟩
    refine loopc (σ := Nat) (fun _ => [(3, .pointer (some ⟨h.size, 0, none⟩)), (5, .pointer (some ⟨h.size + 1, 0, none⟩)), (6, .pointer (some ⟨h.size + 2, 0, none⟩)), (7, .pointer (some ⟨h4.size, 0, none⟩))]) J (fun j => y.length - j) j 2
      (fun j _ => ∀ hj : j < y.length, ¬ lessM y[j].key x[xs.length].key < 0) noRet noRet_le (by simp) ?_ (by kernel_rfl) ?_ ?_
    · exact (hJ _ _).2 ⟨M, out, hj, he, t46, fun _ h => h, fun _ h => .inl h, rfl, rfl, rfl, tj6⟩
    · intro j7 h7 g hJ7
      obtain ⟨M7, out7, hj7, he7, t7, mm, mn, d0, d1, d2, tj7⟩ := (hJ _ _).1 hJ7
      have T7 := t.trans t7
      have w37 := T7.at (k1.at w3 (fun h => h)) (by omega)
      have hC7 := d0.trans hC6
      have T07 := Tr.from_ k01 T7 (fun b hb => by omega)
      have hb7 := hb.mono (T07.ft (Nat.le_refl 0))
      have rx7 := rCell.mono hrep (t7.ft (Nat.le_refl 0))
      have s17 := T7.size
      have s47 := t7.size
      obtain ⟨v7, own7, u5, u6, g7, ho7, mo5, mo6, hl7⟩ := tj7
      have wk := wrap_succ (k := j7) (by omega)
      by_cases hjl : j7 < y.length
      · obtain ⟨bl, ol, cs', e1, _, hrepy, hx1⟩ := hb7.get j7 hjl
        obtain ⟨ka', kc', sa', sc', na', nc', xa', xc', rfl, q1, _⟩ := cell_open hrepy
        have hx1' : HC.cellsIn h7[bl]? (ol + j7 * 5) 5 = _ := hx1
        have hk1 : HC.cellIn h7[bl]? (ol + j7 * 5) = some (.slice ka' y[j7].key.length kc') := by
          have := cellsIn_cell (d := 0) hx1' (by decide)
          simpa using this
        simp -dsimp
        refine drawn_by [⟨0, true, []⟩, ⟨1, true, []⟩, ⟨2, true, []⟩, ⟨3, true, []⟩, ⟨4, true, []⟩, ⟨5, true, []⟩, ⟨6, true, []⟩, ⟨7, true, []⟩, ⟨8, true, []⟩, ⟨9, true, []⟩, ⟨10, true, []⟩, ⟨11, true, []⟩, ⟨12, false, []⟩, ⟨13, true, []⟩, ⟨14, true, []⟩] (by kernel_rfl) (by kernel_rfl) ?_
        simp -dsimp [w37, u6, hjl, e1, idxV_nat hjl, elSz_eq, hk1, hC7]
        obtain ⟨_, _, _, _, _, _, _, _, hce, rx1, _⟩ := cell_open rx7
        simp only [List.cons.injEq, Value.slice.injEq, true_and, and_true] at hce
        obtain ⟨⟨rfl, rfl⟩, _⟩ := hce
        refine call_by (cless_spec q1 rx1) ?_
        rintro _ h8 ⟨rfl, hh⟩
        subst h8
        simp -dsimp
        by_cases hlt : lessM y[j7].key x[xs.length].key < 0
        · simp -dsimp [hlt]
          refine drawn_by [⟨0, true, []⟩, ⟨1, true, []⟩, ⟨2, true, []⟩, ⟨3, true, []⟩, ⟨4, true, []⟩, ⟨5, false, [0]⟩, ⟨6, false, [0]⟩, ⟨7, false, []⟩, ⟨8, false, []⟩] (by kernel_rfl) (by kernel_rfl) ?_
          simp -dsimp [w37, u5, u6, e1, idxV_nat hjl, elSz_eq, hx1']
          refine call_by (mown_spec (rCell.mono hrepy (Ft.free (Nat.zero_le _))) (sy _ (List.getElem_mem hjl))) ?_
          rintro _ h9 ⟨ds, rfl, rd, k9⟩
          obtain ⟨kb, kbc, sb, sbc, nb, nbc, xb, xbc, rfl, p1, _⟩ := cell_open rd
          have u59 := k9.at u5 (fun h => h)
          have u69 := k9.at u6 (fun h => h)
          have u59p : ∀ o, (h9.push o)[h.size + 1]? = _ := fun o => push_at u59
          have T09 := T07.call k9
          obtain ⟨va, vn, vc, rfl, hvn⟩ := g7.vals
          have hol : out7.length ≤ x.length + y.length := by
            have := congrArg List.length he7
            rw [List.length_append] at this
            omega
          simp -dsimp [u59, u59p, again_cons]
          refine gr_app1 (x := y[j7]) rfl cellT (g7.call k9) (t7.call k9).lt (rCell.mono rd (t7.ret (by omega))) rfl (by omega) (by omega) ?_
          intro v' h10 own10 g10 t10 k10 ho10
          have u510 := k10.at u59 (fun e => by have := ho7 _ e; omega)
          have u610 := k10.at u69 (fun e => by have := ho7 _ e; omega)
          obtain ⟨va', vn', vc', rfl, hvn'⟩ := g10.vals
          have l5 := lt_of_blk u510
          have l6 := lt_of_blk u610
          have s9 := k9.size
          simp -dsimp [u510, set_other _ (show h.size + 1 ≠ h.size + 2 by omega), u610, wk]
          have hke : ∀ b, b < h7.size → b ≠ h.size + 1 → b ≠ h.size + 2 → own7 ≠ some b → ((h10.setIfInBounds (h.size + 1) (.cells #[.slice va' vn' vc'] 31)).setIfInBounds (h.size + 2) (.cells #[.int .i64 ((j7 + 1 : Nat) : Int)] 3))[b]? = h7[b]? := fun b b1 b2 b3 b4 => by
            rw [set_other _ (fun e => b3 e.symm), set_other _ (fun e => b2 e.symm), k10.blk b (by omega) (fun e => b4 e), k9.blk b b1 (fun h => h)]
          have hl4 := lt_of_blk hC7
          have hm4 : ¬ M7 h4.size := fun hm => (mn _ hm).elim (fun hm => by have := hM4 _ hm; omega) (by omega)
          have ho10' : ∀ b, own10 = some b → h1.size + 2 ≤ b := fun b hb => (ho10 b hb).elim (ho7 b) fun e => by omega
          refine ⟨j7 + 1, by simp, rfl, (hJ _ _).2 ⟨fun b => M7 b ∨ own10 = some b, out7 ++ [y[j7]], by omega, ?_, (((t7.call k9).trans t10).set _ (.inl mo5)).set _ (.inl mo6), fun b hb => .inl (mm b hb), fun b hb => hb.elim (mn b) fun e => (ho10 b e).elim (fun e => mn b (g7.mu b e)) fun e => .inr (by omega), ?_, ?_, ?_,
            .put g10 ho10' (.inl mo5) (.inl mo6) (fun b hb => t10.lt b hb) (by omega) (by omega) (by omega)⟩, by show y.length - (j7 + 1) < y.length - j7; omega⟩
          · rw [he7, drop_cons hjl, hdx, two_gt (by rw [lessM_neg]; omega), List.append_assoc]; rfl
          · exact (hke _ hl4 (by omega) (by omega) fun e => hm4 (g7.mu _ e)).trans d0
          · exact (hke _ (by omega) (by omega) (by omega) fun e => by have := ho7 _ e; omega).trans d1
          · exact (hke _ (by omega) (by omega) (by omega) fun e => by have := ho7 _ e; omega).trans d2
        · simp -dsimp [hlt]
          exact ⟨rfl, j7, by simp, rfl, hJ7, fun _ => hlt⟩
      · simp -dsimp
        refine drawn_by [⟨0, true, []⟩, ⟨1, true, []⟩, ⟨2, true, []⟩, ⟨3, true, []⟩, ⟨4, true, []⟩, ⟨5, true, []⟩, ⟨6, true, []⟩, ⟨7, true, []⟩, ⟨8, true, []⟩, ⟨9, true, []⟩, ⟨10, true, []⟩, ⟨11, true, []⟩, ⟨12, false, []⟩, ⟨13, true, []⟩, ⟨14, true, []⟩] (by kernel_rfl) (by kernel_rfl) ?_
        simp -dsimp [w37, u6, hjl]
        exact ⟨rfl, j7, by simp, rfl, hJ7, fun hj => absurd hj hjl⟩
    · intro j7 h7 g hJ7 hQ
      obtain ⟨M7, out7, hj7, he7, t7, mm, mn, d0, d1, d2, tj7⟩ := (hJ _ _).1 hJ7
      have T7 := t.trans t7
      have w37 := T7.at (k1.at w3 (fun h => h)) (by omega)
      have hC7 := d0.trans hC6
      have T07 := Tr.from_ k01 T7 (fun b hb => by omega)
      have hb7 := hb.mono (T07.ft (Nat.le_refl 0))
      have rx7 := rCell.mono hrep (t7.ft (Nat.le_refl 0))
      have s17 := T7.size
      have s47 := t7.size
      obtain ⟨v7, own7, u5, u6, g7, ho7, mo5, mo6, hl7⟩ := tj7
      have wk := wrap_succ (k := j7) (by omega)
      have hol : out7.length ≤ x.length + y.length := by
        have := congrArg List.length he7
        rw [List.length_append] at this
        omega
      obtain ⟨_, _, _, _, _, _, _, _, hce, rx1, _⟩ := cell_open rx7
      simp only [List.cons.injEq, Value.slice.injEq, true_and, and_true] at hce
      obtain ⟨⟨rfl, rfl⟩, _⟩ := hce
      obtain ⟨va, vn, vc, rfl, hvn⟩ := g7.vals
      have hl4 := lt_of_blk hC7
      have hm4 : ¬ M7 h4.size := fun hm => (mn _ hm).elim (fun hm => by have := hM4 _ hm; omega) (by omega)
      have hxs1 : ∀ c : List Value, (xs ++ [c]).length = xs.length + 1 := fun c => by simp
      refine if hjl : j7 < y.length then ?t1 else ?t2
      case' t1 =>
        obtain ⟨bl, ol, cs', e1, _, hrepy, hx1⟩ := hb7.get j7 hjl
        obtain ⟨ka', kc', sa', sc', na', nc', xa', xc', rfl, q1, _⟩ := cell_open hrepy
        have hx1' : HC.cellsIn h7[bl]? (ol + j7 * 5) 5 = _ := hx1
        have hk1 : HC.cellIn h7[bl]? (ol + j7 * 5) = some (.slice ka' y[j7].key.length kc') := by
          have := cellsIn_cell (d := 0) hx1' (by decide)
          simpa using this
        simp -dsimp
        refine drawn_by [⟨0, true, []⟩, ⟨1, true, []⟩, ⟨2, true, []⟩, ⟨3, true, []⟩, ⟨4, true, []⟩, ⟨5, true, []⟩, ⟨6, true, []⟩, ⟨7, true, []⟩, ⟨8, true, []⟩, ⟨9, true, []⟩, ⟨10, true, []⟩, ⟨11, true, []⟩, ⟨12, false, []⟩, ⟨13, true, []⟩, ⟨14, true, []⟩] (by kernel_rfl) (by kernel_rfl) ?_
        simp -dsimp [w37, u6, hjl, e1, idxV_nat hjl, elSz_eq, hk1, hC7]
        refine call_by (cless_spec q1 rx1) ?_
        rintro _ h8 ⟨rfl, hh⟩
        subst h8
        simp -dsimp
        have hge := hQ hjl
        refine if heq : lessM y[j7].key x[xs.length].key = 0 then ?t3 else ?t4
        case' t3 =>
          have heq' : (lessM y[j7].key x[xs.length].key == 0) = true := by simp [heq]
          simp -dsimp [heq']
          refine drawn_by [⟨0, true, []⟩, ⟨1, true, []⟩, ⟨2, true, []⟩, ⟨3, true, []⟩, ⟨4, true, []⟩, ⟨5, true, []⟩, ⟨6, false, [0]⟩, ⟨7, false, [0]⟩, ⟨8, false, []⟩, ⟨9, false, []⟩] (by kernel_rfl) (by kernel_rfl) ?_
          simp -dsimp [w37, u5, u6, e1, idxV_nat hjl, elSz_eq, hx1', hC7]
          refine call_by (join_new (rCell.mono rx7 (Ft.free (Nat.zero_le _))) (rCell.mono hrepy (Ft.free (Nat.zero_le _))) hsx) ?_
          rintro _ h9 ⟨ds, rfl, rd, k9⟩
          obtain ⟨kb, kbc, sb, sbc, nb, nbc, xb, xbc, rfl, p1, _⟩ := cell_open rd
          have u59 := k9.at u5 (fun h => h)
          have u69 := k9.at u6 (fun h => h)
          have u59p : ∀ o, (h9.push o)[h.size + 1]? = _ := fun o => push_at u59
          simp -dsimp [u59, u59p, again_cons]
          refine gr_app1 (x := joinC x[xs.length] y[j7]) rfl cellT (g7.call k9) (t7.call k9).lt (rCell.mono rd (t7.ret (by omega))) rfl (by omega) (by omega) ?_
          intro v' h10 own10 g10 t10 k10 ho10
          have u510 := k10.at u59 (fun e => by have := ho7 _ e; omega)
          have u610 := k10.at u69 (fun e => by have := ho7 _ e; omega)
          obtain ⟨va', vn', vc', rfl, hvn'⟩ := g10.vals
          have l5 := lt_of_blk u510
          have l6 := lt_of_blk u610
          have s9 := k9.size
          simp -dsimp [u510, set_other _ (show h.size + 1 ≠ h.size + 2 by omega), u610, wk]
          have ho10' : ∀ b, own10 = some b → h1.size + 2 ≤ b := fun b hb => (ho10 b hb).elim (ho7 b) fun e => by omega
          have hke : ∀ b, b < h7.size → b ≠ h.size + 1 → b ≠ h.size + 2 → own7 ≠ some b → ((h10.setIfInBounds (h.size + 1) (.cells #[.slice va' vn' vc'] 31)).setIfInBounds (h.size + 2) (.cells #[.int .i64 ((j7 + 1 : Nat) : Int)] 3))[b]? = h7[b]? := fun b b1 b2 b3 b4 => by
            rw [set_other _ (fun e => b3 e.symm), set_other _ (fun e => b2 e.symm), k10.blk b (by omega) (fun e => b4 e), k9.blk b b1 (fun h => h)]
          refine ⟨fun b => M7 b ∨ own10 = some b, (hI _ _ _).2 ⟨by rw [hxs1]; omega, j7 + 1, out7 ++ [joinC x[xs.length] y[j7]], by omega, ?_, .put g10 ho10' (.inl mo5) (.inl mo6) (fun b hb => t10.lt b hb) (by omega) (by omega) (by omega)⟩,
            (((t7.call k9).trans t10).set _ (.inl mo5)).set _ (.inl mo6), .inl (mm _ m1), .inl (mm _ m2), ?_, ?_⟩
          · rw [he7, hxs1, drop_cons hjl, hdx, two_eq (by rw [lessM_neg]; omega), List.append_assoc]; rfl
          · exact (hke _ (by omega) (by omega) (by omega) fun e => by have := ho7 _ e; omega).trans d1
          · exact (hke _ (by omega) (by omega) (by omega) fun e => by have := ho7 _ e; omega).trans d2
        case' t4 =>
          have heq' : (lessM y[j7].key x[xs.length].key == 0) = false := by simp [heq]
          have htw : twoM (x.drop xs.length) (y.drop j7) = x[xs.length] :: twoM (x.drop (xs.length + 1)) (y.drop j7) := by
            rw [hdx, drop_cons hjl, two_lt (by rw [lessM_neg]; omega)]
          simp -dsimp [heq']
      case' t2 =>
        have htw : twoM (x.drop xs.length) (y.drop j7) = x[xs.length] :: twoM (x.drop (xs.length + 1)) (y.drop j7) := by
          rw [show y.drop j7 = [] from List.drop_eq_nil_of_le (by omega), two_nil, two_nil, hdx]
        simp -dsimp
        refine drawn_by [⟨0, true, []⟩, ⟨1, true, []⟩, ⟨2, true, []⟩, ⟨3, true, []⟩, ⟨4, true, []⟩, ⟨5, true, []⟩, ⟨6, true, []⟩, ⟨7, true, []⟩, ⟨8, true, []⟩, ⟨9, true, []⟩, ⟨10, true, []⟩, ⟨11, true, []⟩, ⟨12, false, []⟩, ⟨13, true, []⟩, ⟨14, true, []⟩] (by kernel_rfl) (by kernel_rfl) ?_
        simp -dsimp [w37, u6, hjl]
      all_goals
        refine drawn_by [⟨0, true, []⟩, ⟨1, true, []⟩, ⟨2, false, [0]⟩, ⟨3, false, [0]⟩, ⟨4, false, []⟩, ⟨5, false, []⟩] (by kernel_rfl) (by kernel_rfl) ?_
        simp -dsimp [u5, hC7]
        refine call_by (mown_spec (rCell.mono rx7 (Ft.free (Nat.zero_le _))) hsx) ?_
        rintro _ h9 ⟨ds, rfl, rd, k9⟩
        obtain ⟨kb, kbc, sb, sbc, nb, nbc, xb, xbc, rfl, p1, _⟩ := cell_open rd
        have u59 := k9.at u5 (fun h => h)
        have u69 := k9.at u6 (fun h => h)
        have u59p : ∀ o, (h9.push o)[h.size + 1]? = _ := fun o => push_at u59
        simp -dsimp [u59, u59p, again_cons]
        refine gr_app1 (x := x[xs.length]) rfl cellT (g7.call k9) (t7.call k9).lt (rCell.mono rd (t7.ret (by omega))) rfl (by omega) (by omega) ?_
        intro v' h10 own10 g10 t10 k10 ho10
        have u510 := k10.at u59 (fun e => by have := ho7 _ e; omega)
        have u610 := k10.at u69 (fun e => by have := ho7 _ e; omega)
        obtain ⟨va', vn', vc', rfl, hvn'⟩ := g10.vals
        have l5 := lt_of_blk u510
        have s9 := k9.size
        simp -dsimp [u510]
        have ho10' : ∀ b, own10 = some b → h1.size + 2 ≤ b := fun b hb => (ho10 b hb).elim (ho7 b) fun e => by omega
        have hke : ∀ b, b < h7.size → b ≠ h.size + 1 → own7 ≠ some b → (h10.setIfInBounds (h.size + 1) (.cells #[.slice va' vn' vc'] 31))[b]? = h7[b]? := fun b b1 b2 b4 => by
          rw [set_other _ (fun e => b2 e.symm), k10.blk b (by omega) (fun e => b4 e), k9.blk b b1 (fun h => h)]
        refine ⟨fun b => M7 b ∨ own10 = some b, (hI _ _ _).2 ⟨by rw [hxs1]; omega, j7, out7 ++ [x[xs.length]], by omega, ?_, .put1 g10 u610 ho10' (.inl mo5) (.inl mo6) (fun b hb => t10.lt b hb) (by omega) (by omega)⟩,
          ((t7.call k9).trans t10).set _ (.inl mo5), .inl (mm _ m1), .inl (mm _ m2), ?_, ?_⟩
        · rw [he7, hxs1, htw, List.append_assoc]; rfl
        · exact (hke _ (by omega) (by omega) fun e => by have := ho7 _ e; omega).trans d1
        · exact (hke _ (by omega) (by omega) fun e => by have := ho7 _ e; omega).trans d2
  · rintro xs M h4 hxl hi4 hdm hz4 m1 m2 t
    obtain ⟨hx, j, out, hj, he, tj⟩ := (hI _ _ _).1 hi4
    have T4 := Tr.from_ k01 t (fun b hb => by omega)
    rw [hxl, List.drop_length, two_nil'] at he
    obtain ⟨v, own, u5, u6, g, ho, mo5, mo6, hl⟩ := tj
    have w34 := t.at (k1.at w3 (fun h => h)) (by omega)
    have hT : ((elS Tryz.prog 31).bind (szS Tryz.prog)).isSome = true := by simp
    simp -dsimp [w34, u6, sliceS_from hT hj (by omega)]
    have hb4 := hb.mono (T4.ft (Nat.le_refl 0))
    have hcut := hb4.cut (i := j) (j := y.length) (m := c1) hj (Nat.le_refl _) (by omega) (Nat.le_refl _)
    have hdl : (y.drop j).take (y.length - j) = y.drop j := List.take_of_length_le (by simp)
    rw [hdl] at hcut
    have hcut : SlRep rCell (Ft 0 M h4) h4 (.slice (piece a1 j c1 5) (y.length - j) (c1 - j)) (y.drop j) := hcut
    have hzl : (y.drop j).length = y.length - j := List.length_drop
    have hzs : ∀ d ∈ y.drop j, CellSmall d := fun d hd => sy d (List.mem_of_mem_drop hd)
    generalize y.drop j = z at *
    refine call_by (ofc_spec _ (by simp) h4) ?_
    rintro _ h5 ⟨rfl, e5⟩
    have k5 : Keep none_ h4 h5 := by rw [e5]; exact .push _ _ _
    have hz5 : h5.size = h4.size + 1 := by rw [e5]; simp
    have w75 : h5[h4.size]? = some (.cells #[.slice (piece a1 j c1 5) (y.length - j) (c1 - j)] 31 (0, 0)) := by rw [e5]; exact push_new _ _
    clear e5
    have hdm5 := k5.at hdm (fun h => h)
    have u55 := k5.at u5 (fun h => h)
    have g5 := g.call k5
    have hol : out.length + (y.length - j) ≤ x.length + y.length := by
      have := congrArg List.length he
      rw [List.length_append, hzl] at this
      omega
    simp -dsimp
    obtain ⟨I2, hI2⟩ : ∃ I : List (List Value) → (Nat → Prop) → Heap → Prop, ∀ xs M h', I xs M h' ↔ ((M (h.size + 1) ∧ M h1.size) ∧ (∀ b, M b → b < h'.size) ∧ xs.length ≤ z.length ∧ h'[h1.size]? = some (.deferred (some [])) ∧ ∃ v own, h'[h.size + 1]? = some (.cells #[v] 31 (0, 0)) ∧
      Gr rCell 46 h.size M h' v (out ++ z.take xs.length) own ∧ ∀ b, own = some b → h1.size + 2 ≤ b ∧ b ≠ h5.size ∧ b ≠ h5.size + 1) := ⟨_, fun _ _ _ => Iff.rfl⟩
    refine range_m (val := fun cs : List Value => #[.agg cs.toArray]) (first := #[]) (by simp) (by simp) (ofc_iter (F := Ft 0 M h4) w75 (hcut.mono fun b hb => ⟨hb, k5.blk b hb.2.1 (fun h => h)⟩) (by omega)) I2
      ?_ ?_ M ?_ ?_ (by kernel_rfl) (by kernel_rfl) (fun _ => rfl) (by intro p hp; simp at hp; subst hp; decide) ?_ ?_
    · exact fun hi => ((hI2 _ _ _).1 hi).2.1
    · intro xs M h4 h5 hi m1 m2 k
      obtain ⟨hM, hlt, hx, hd, v, own, w1, g, ho⟩ := (hI2 _ _ _).1 hi
      exact (hI2 _ _ _).2 ⟨hM, fun b hb => Nat.lt_of_lt_of_le (hlt b hb) k.size, hx, k.at hd (by omega), v, own, k.at w1 (by omega), g.lp hlt m2 (fun e => (ho _ e).2.2 rfl) k, ho⟩
    · rintro b (rfl | hb)
      · exact ⟨by omega, fun hm => by have := hl _ hm; omega⟩
      · exact ⟨by have := hb.2.1; omega, hb.2.2⟩
    · intro h6 k6 hz6
      refine (hI2 _ _ _).2 ⟨⟨.inl mo5, .inl m1⟩, fun b hb => ?_, Nat.zero_le _, k6.at hdm5 (fun h => h), v, own, k6.at u55 (fun h => h), ?_, fun b hb => ⟨ho b hb, by have := g.own_lt b hb; omega, by have := g.own_lt b hb; omega⟩⟩
      · rcases hb with hb | hb | hb
        · have := hl b hb; omega
        · omega
        · omega
      · have t56 : Tr M (fun b => M b ∨ b = h5.size ∨ b = h5.size + 1) h5 h6 := (Tr.call ⟨.refl _ _, fun _ h => .inl h, fun b hb => by have := hl b hb; omega⟩ k6).more fun b hb => ⟨.inr (by omega), by omega⟩
        rw [show ([] : List (List Value)).length = 0 from rfl, List.take_zero, List.append_nil]
        exact g5.mono t56 (Nat.le_refl _) fun b hb => ⟨.inl (g5.mu b hb), k6.blk b (g5.own_lt b hb) (fun h => h)⟩
    · rintro xs cs M6 h6 hi6 ⟨hxk, hrep⟩ hz6 m61 m62 t6
      obtain ⟨hM, hlt, hx6, hd6, v6, own6, w1, g6, ho6⟩ := (hI2 _ _ _).1 hi6
      obtain ⟨ka, kc, sa, sc, na, nc, xa, xc, rfl, r1, _⟩ := cell_open hrep
      simp -dsimp
      rw [push_set rfl]
      generalize hB2 : Array.push h6 _ = h7
      have k7 : Keep none_ h6 h7 := by rw [← hB2]; exact .push _ _ _
      have hC : h7[h6.size]? = some (.cells #[.slice ka z[xs.length].key.length kc, .int .i64 z[xs.length].count, .slice sa z[xs.length].sum.length sc, .slice na z[xs.length].mn.length nc, .slice xa z[xs.length].mx.length xc] 46 (0, 0)) := by rw [← hB2]; exact push_new _ _
      refine ⟨k7, fun h8 k8 hz8 => ?_⟩
      have hzz : h7.size = h6.size + 1 := by rw [← hB2]; simp
      have t68 : Tr M6 M6 h6 h8 := (Tr.call ⟨.refl _ _, fun _ h => .inl h, hlt⟩ k7).trans (.lp (fun b hb => Nat.lt_of_lt_of_le (hlt b hb) k7.size) m62 k8)
      have g8 := (g6.call k7).lp (fun b hb => Nat.lt_of_lt_of_le (hlt b hb) k7.size) m62 (fun e => (ho6 _ e).2.2 rfl) k8
      have w8 := k8.at (k7.at w1 (fun h => h)) (by omega)
      have hd8 := k8.at (k7.at hd6 (fun h => h)) (by omega)
      have hC8 := k8.at hC (by omega)
      obtain ⟨va, vn, vc, rfl, hvn⟩ := g8.vals
      have hty : (out ++ z.take xs.length).length ≤ x.length + y.length := by rw [List.length_append, List.length_take]; omega
      have rx8 := rCell.mono hrep (t68.ft (Nat.le_refl 0))
      refine drawn_by [⟨0, true, []⟩, ⟨1, true, []⟩, ⟨2, false, [0]⟩, ⟨3, false, [0]⟩, ⟨4, false, []⟩, ⟨5, false, []⟩] (by kernel_rfl) (by kernel_rfl) ?_
      simp -dsimp [w8, hC8]
      refine call_by (mown_spec (rCell.mono rx8 (Ft.free (Nat.zero_le _))) (hzs _ (List.getElem_mem hxk))) ?_
      rintro _ h9 ⟨ds, rfl, rd, k9⟩
      obtain ⟨kb, kbc, sb, sbc, nb, nbc, xb, xbc, rfl, p1, _⟩ := cell_open rd
      have w9 := k9.at w8 (fun h => h)
      have hd9 := k9.at hd8 (fun h => h)
      have w9p : ∀ o, (h9.push o)[h.size + 1]? = _ := fun o => push_at w9
      have s8 := t68.size
      have T8 := T4.size
      simp -dsimp [w9, w9p, again_cons]
      refine gr_app1 (x := z[xs.length]) rfl cellT (g8.call k9) (t68.call k9).lt (rCell.mono rd (t68.ret (by omega))) rfl (by omega) (by omega) ?_
      intro v' h10 own10 g10 t10 k10 ho10
      have w10 := k10.at w9 (fun e => by have := (ho6 _ e).1; omega)
      have hd10 := k10.at hd9 (fun e => by have := (ho6 _ e).1; omega)
      have ho10' : ∀ b, own10 = some b → h1.size + 2 ≤ b ∧ b ≠ h5.size ∧ b ≠ h5.size + 1 := fun b e => (ho10 _ e).elim (ho6 b) fun e => by have := k9.size; omega
      obtain ⟨va', vn', vc', rfl, hvn'⟩ := g10.vals
      have hl10 := lt_of_blk w10
      have s9 := k9.size
      simp -dsimp [w10]
      have t11 := ((t68.call k9).trans t10).set (.cells #[.slice va' vn' vc'] 31) (.inl hM.1)
      refine ⟨_, (hI2 _ _ _).2 ⟨⟨.inl hM.1, .inl hM.2⟩, t11.lt, by simp only [List.length_append, List.length_singleton]; omega, (set_other _ (by omega)).trans hd10, _, own10, set_same _ hl10, ?_, ho10'⟩, t11, .inl m61, .inl m62, (set_other _ (by omega)).trans ((k10.blk _ (by omega) fun e => (ho6 _ e).2.1 rfl).trans (k9.blk _ (by omega) (fun h => h))), (set_other _ (by omega)).trans ((k10.blk _ (by omega) fun e => (ho6 _ e).2.2 rfl).trans (k9.blk _ (by omega) (fun h => h)))⟩
      rw [List.length_append, List.length_singleton, take_snoc hxk, ← List.append_assoc]
      exact g10.set _ (.inl hM.1) (fun e => by have := (ho10' _ e).1; omega)
    · rintro xs M6 h6 hxl hi6 hdm6 hz6 m61 m62 t6
      obtain ⟨hM, hlt, hx6, hd6, v6, own6, w1, g6, ho6⟩ := (hI2 _ _ _).1 hi6
      rw [hxl, List.take_of_length_le (Nat.le_refl _), ← he] at g6
      obtain ⟨va, vn, vc, rfl, hvn⟩ := g6.vals
      have k05 : Keep none_ h h5 := T4.keep.trans k5 fun _ _ h => h
      have T6 := Tr.from_ k05 t6 (fun b hb => T4.fresh b hb)
      simp -dsimp [w1]
      refine call_by (cloneCell_spec g6.grow Ft.lt (by omega)) ?_
      rintro _ h7 ⟨own7, g7, k7, ho7⟩
      obtain ⟨a7, c7, rfl⟩ := g7.val
      have hd7 := k7.at hdm6 (fun h => h)
      have hd7' := k7.at hd6 (fun h => h)
      simp -dsimp
      rw [takeS_cons hd7, takeS_cons ((set_other _ (by omega)).trans hd7')]
      simp -dsimp
      have s6 := T6.size
      have hold : ∀ b, b ≠ h5.size → b ≠ h1.size → ((h7.setIfInBounds h5.size (.deferred none)).setIfInBounds h1.size (.deferred none))[b]? = h7[b]? := fun b n1 n2 => by rw [set_other _ (fun e => n2 e.symm), set_other _ (fun e => n1 e.symm)]
      have hsz : ((h7.setIfInBounds h5.size (.deferred none)).setIfInBounds h1.size (.deferred none)).size = h7.size := by simp
      generalize (h7.setIfInBounds h5.size (.deferred none)).setIfInBounds h1.size (.deferred none) = h8 at hold hsz ⊢
      have s5 := t6.size
      have m1' : M6 h1.size := hM.2
      have hFt : ∀ b, Ft h.size M6 h6 b → h8[b]? = h6[b]? := fun b hb => by
        rw [hold b (fun e => hb.2.2 (e ▸ m61)) (fun e => hb.2.2 (e ▸ m1')), k7.blk b hb.2.1 (fun h => h)]
      refine hK _ _ ⟨⟨Ft h.size M6 h6, own7, g7.mono (fun b hb => ⟨hb, hold b (fun e => hb.2.2 (e ▸ m61)) (fun e => hb.2.2 (e ▸ m1'))⟩) fun b hb => ⟨g7.notF b hb, hold b ?_ ?_⟩, fun b hb => ⟨hb.1.at (Nat.le_refl _) (hFt b hb), ?_⟩, fun b hb => ?_⟩, ⟨?_, fun b hb _ => ?_⟩⟩
      · have := ho7 b hb; omega
      · have := ho7 b hb; omega
      · have := hb.2.1; have := k7.size; omega
      · have := ho7 b hb; omega
      · have := k7.size; omega
      · rw [hold b (by omega) (by omega), k7.blk b (by omega) (fun h => h), T6.keep.blk b hb (fun h => h)]
end Go.Proofs

/-
  Rows of rising cells made one, one by one; rows in pieces: the program's.
-/
namespace Go.HC
/-- Rows that come one by one. -/
def rowsA (ls : List (List CellM)) (xs : List Value) (v : Value) (M : Nat → Prop) (h : Heap) : Prop := ∃ hk : xs.length < ls.length, SlRep rCell (Ft 0 M h) h v ls[xs.length]
/-- Pieces of rows that come one by one. -/
def chunksA (n : Nat) (ls : List (List CellM)) (xs : List Value) (v : Value) (M : Nat → Prop) (h : Heap) : Prop := xs.length * n < ls.length ∧ SlRep (rSlice rCell) (Ft 0 M h) h v ((ls.drop (xs.length * n)).take n)
theorem flat_len_mem {ls : List (List CellM)} {r : List CellM} (h : r ∈ ls) : r.length ≤ ls.flatten.length := by
  obtain ⟨a, b, rfl⟩ := List.append_of_mem h
  simp; omega
end Go.HC
namespace Go.Proofs
open Go Go.HC

theorem ofr_spec (v : Value) (hv : v.cells = #[v]) (h : Heap) : CallH Tryz.prog 69 #[v] h fun r h' => r = .func (.func 84) #[] #[.pointer (some ⟨h.size, 0, none⟩)] ∧ h' = h.push (.cells #[v] 63) := by
  refine enter [.tmp 2] Tryz.func69 rfl rfl (by kernel_rfl) rfl ?_
  simp -dsimp [boxS_eq, hv]

set_option maxHeartbeats 4000000 in
set_option maxRecDepth 10000 in
theorem ofr_iter {h0 : Heap} {b1 : Nat} {v : Value} {ls : List (List CellM)} {F : Nat → Prop} (hb1 : h0[b1]? = some (.cells #[v] 63 (0, 0))) (hl : SlRep (rSlice rCell) F h0 v ls) (hln : ls.length < 1000000) :
    IterM Tryz.prog 84 #[] #[.pointer (some ⟨b1, 0, none⟩)] (fun v : Value => #[v]) (rowsA ls) (fun xs => xs.length = ls.length) (fun x => x = b1 ∨ F x) h0 := by
  intro y J M0 h ⟨yf, yu, yv', hyf⟩ hy hJ hsz hFp
  subst hyf
  have w1 := (hFp b1 (.inl rfl)).2.2.trans hb1
  have n1 := (hFp b1 (.inl rfl)).2.1
  have hlh : SlRep (rSlice rCell) (Ft 0 M0 h) h v ls := hl.mono fun x hx => by
    obtain ⟨g1, g2, g3⟩ := hFp x (.inr hx)
    exact ⟨⟨nz, by omega, g2⟩, g3⟩
  obtain ⟨a0, c0, rfl, _, _⟩ := hl.val
  refine callH_by fun K hK => ?_
  refine enter [] Tryz.func84 rfl rfl (by kernel_rfl) rfl ?_
  simp -dsimp [w1]
  refine loopc (σ := Nat) (fun k => [(0, .func yf yu yv'), (5, .slice a0 ls.length c0), (6, .int .i64 ls.length), (7, .int .i64 k)])
    (fun k h1 => k ≤ ls.length ∧ ∃ xs M, xs.length = k ∧ J xs M h1 ∧ Tr M0 M h h1) (fun k => ls.length - k) 0 0 (fun k _ => k = ls.length) noRet noRet_le (by simp)
    ⟨by omega, [], M0, rfl, hJ, ⟨.refl _ _, fun _ h => .inl h, fun b hb => hy.lt hJ b hb⟩⟩ (by kernel_rfl) ?_ ?_
  · rintro k h1 g ⟨hk, xs, M, hxs, hJ1, t⟩
    by_cases hkl : k < ls.length
    · have wk := wrap_succ (k := k) (by omega)
      obtain ⟨bl, ol, w, e1, _, hx1, hrep⟩ := (hlh.mono (t.ft (Nat.le_refl 0))).row_at k hkl
      obtain ⟨aw, cw, rfl, _, _⟩ := hrep.val
      simp -dsimp [hkl, e1, idxA_nat hkl, hx1]
      refine callV_by (hy.step (x := .slice aw ls[k].length cw) hJ1 ?_) ?_
      · refine ⟨by rw [hxs]; exact hkl, ?_⟩
        simpa [hxs] using hrep
      · rintro _ h4 ⟨rfl, M', hJ4, t4⟩
        simp -dsimp [wk]
        exact ⟨k + 1, by simp [e1], rfl, ⟨by omega, xs ++ [_], M', by simp [hxs], hJ4, t.trans t4⟩, by show ls.length - (k + 1) < ls.length - k; omega⟩
    · simp -dsimp [hkl]
      exact ⟨rfl, k, by simp, rfl, ⟨hk, xs, M, hxs, hJ1, t⟩, by omega⟩
  · rintro k h1 g ⟨hk, xs, M, hxs, hJ1, t⟩ rfl
    simp -dsimp
    exact hK _ _ ⟨xs, M, hxs, hJ1, t⟩

set_option maxHeartbeats 8000000 in
set_option maxRecDepth 10000 in
theorem mone_spec {h : Heap} {v : Value} {ls : List (List CellM)} (hl : SlRep (rSlice rCell) (Old h) h v ls) (h0 : 0 < ls.length) (hs : ∀ r ∈ ls, Srt r) (hsm : ∀ r ∈ ls, ∀ d ∈ r, CellSmall d) (hn : ls.flatten.length < 1000000) (hln : ls.length < 1000000) :
    CallH Tryz.prog 53 #[v] h fun r h' => NewC 46 h.size h' r (groupC ls.flatten) ∧ Keep none_ h h' := by
  refine callH_by fun K hK => ?_
  refine enter [.tmp 2] Tryz.func53 rfl rfl (by kernel_rfl) rfl ?_
  obtain ⟨a0, c0, rfl, hc0, _⟩ := hl.val
  obtain ⟨bl, ol, w, e1, _, hx1, hrep⟩ := hl.row_at 0 h0
  obtain ⟨aw, cw, rfl, _, _⟩ := hrep.val
  have hx1' : HC.cellIn h[bl]? ol = _ := hx1
  have hm0 : ls[0] ∈ ls := List.getElem_mem h0
  have hlen : ∀ r ∈ ls, r.length < 1000000 := fun r hr => by have := flat_len_mem hr; omega
  simp -dsimp [e1, idxA_zero h0, hx1']
  refine call_by (two_spec (y := []) hrep (.nil _ _ _) (hlen _ hm0) (by simp) (hsm _ hm0) (fun d hd => by cases hd)) ?_
  rintro v1 h1 ⟨n1, k1⟩
  rw [two_nil] at n1
  have hg0 : groupC (ls.take 1).flatten = ls[0] := by
    rw [take_snoc (k := 0) h0]
    simp only [List.take_zero, List.nil_append, List.flatten_cons, List.flatten_nil, List.append_nil]
    exact group_id (hs _ hm0)
  have hv1 : ∃ a n c, v1 = .slice a n c := by
    obtain ⟨F, own, g, _⟩ := n1
    obtain ⟨a, c, rfl⟩ := g.val
    exact ⟨_, _, _, rfl⟩
  obtain ⟨av1, nv1, cv1, rfl⟩ := hv1
  have hT : ((elS Tryz.prog 63).bind (szS Tryz.prog)).isSome = true := by simp
  have hsF : ∀ (K : Value → Heap → Prop) (h : Heap), sliceS Tryz.prog 63 (.slice (some ⟨bl, ol, none⟩) ls.length c0) (some (.int .i64 1)) none none h K = K (.slice (piece (some ⟨bl, ol, none⟩) 1 c0 1) (ls.length - 1) (c0 - 1)) h := fun K h => by
    have := sliceS_from (P := Tryz.prog) (a := some ⟨bl, ol, none⟩) (n := ls.length) (c := c0) (i := 1) (k := .i64) (K := K) (h := h) hT h0 hc0
    simpa using this
  have s1 := k1.size
  simp -dsimp [hsF]
  rw [push_set (by simp)]
  generalize hB : Array.push h1 _ = h2
  have k2 : Keep none_ h1 h2 := by rw [← hB]; exact .push _ _ _
  have hz2 : h2.size = h1.size + 1 := by rw [← hB]; simp
  have w3 : h2[h1.size]? = some (.cells #[.slice av1 nv1 cv1] 31 (0, 0)) := by rw [← hB]; exact push_new _ _
  refine call_by (ofr_spec _ (by simp) h2) ?_
  rintro _ h3 ⟨rfl, e3⟩
  have k3 : Keep none_ h2 h3 := by rw [e3]; exact .push _ _ _
  have hz3 : h3.size = h2.size + 1 := by rw [e3]; simp
  have w7 : h3[h2.size]? = some (.cells #[.slice (piece (some ⟨bl, ol, none⟩) 1 c0 1) (ls.length - 1) (c0 - 1)] 63 (0, 0)) := by rw [e3]; exact push_new _ _
  clear e3
  have k03 := (k1.trans k2 fun _ _ h => h).trans k3 fun _ _ h => h
  rw [e1] at hl
  have hcut := (hl.mono (F' := fun b => b < h.size) (h' := h3) fun b hb => ⟨hb.2.1, k03.blk b hb.2.1 (fun h => h)⟩).cut (i := 1) (j := ls.length) (m := c0) h0 (Nat.le_refl _) hc0 (Nat.le_refl _)
  have hdl : (ls.drop 1).take (ls.length - 1) = ls.drop 1 := List.take_of_length_le (by simp)
  rw [hdl] at hcut
  have hcut : SlRep (rSlice rCell) (fun b => b < h.size) h3 (.slice (piece (some ⟨bl, ol, none⟩) 1 c0 1) (ls.length - 1) (c0 - 1)) (ls.drop 1) := hcut
  have hdl2 : (ls.drop 1).length = ls.length - 1 := List.length_drop
  simp -dsimp
  obtain ⟨I, hI⟩ : ∃ I : List Value → (Nat → Prop) → Heap → Prop, ∀ xs M h', I xs M h' ↔ (M h1.size ∧ (∀ b, M b → b < h'.size) ∧ xs.length + 1 ≤ ls.length ∧ ∃ a n c, h'[h1.size]? = some (.cells #[.slice a n c] 31 (0, 0)) ∧ NewCM 46 h.size M h' (.slice a n c) (groupC (ls.take (xs.length + 1)).flatten)) := ⟨_, fun _ _ _ => Iff.rfl⟩
  refine range_m (val := fun v : Value => #[v]) (first := #[]) (by simp) (by simp) (ofr_iter w7 hcut (by omega)) I
    ?_ ?_ (fun b => b = h1.size) ?_ ?_ (by kernel_rfl) (by kernel_rfl) (fun _ => rfl) (by intro p hp; simp at hp; subst hp; decide) ?_ ?_
  · exact fun hi => ((hI _ _ _).1 hi).2.1
  · intro xs M h4 h5 hi m1 m2 k
    obtain ⟨hM, hlt, hx, a, n, c, w1, g⟩ := (hI _ _ _).1 hi
    exact (hI _ _ _).2 ⟨hM, fun b hb => Nat.lt_of_lt_of_le (hlt b hb) k.size, hx, a, n, c, k.at w1 (by omega), g.mono (.lp hlt m2 k)⟩
  · rintro b (rfl | hb)
    · exact ⟨by omega, by omega⟩
    · exact ⟨by omega, by omega⟩
  · intro h4 k4 hz4
    refine (hI _ _ _).2 ⟨.inl rfl, by omega, by simp only [List.length_nil]; omega, _, _, _, k4.at (k3.at w3 (fun h => h)) (fun h => h), ?_⟩
    have q1 : NewC 46 h.size h4 (.slice av1 nv1 cv1) ls[0] := ((n1.keep k2).keep k3).keep k4
    obtain ⟨F, own, g, hF, ho⟩ := n1
    have hl1 := g.own_lt
    have hk14 : Keep none_ h1 h4 := (k2.trans k3 fun _ _ h => h).trans k4 fun _ _ h => h
    rw [show ([] : List Value).length + 1 = 1 from rfl, hg0]
    exact ⟨F, own, g.mono (fun b hb => ⟨hb, hk14.blk b (hF b hb).2 (fun h => h)⟩) fun b hb => ⟨g.notF b hb, hk14.blk b (hl1 b hb) (fun h => h)⟩, fun b hb => ⟨(hF b hb).1.at (Nat.le_refl _) (hk14.blk b (hF b hb).2 (fun h => h)), by have := (hF b hb).2; have := hk14.size; omega, by have := (hF b hb).2; omega⟩,
      fun b hb => ⟨ho b hb, by have := hl1 b hb; omega⟩⟩
  · rintro xs v M h4 hi4 ⟨hxk, hrow⟩ hz4 m1 m2 t
    obtain ⟨hM, hlt, hx, a, n, c, w1, g⟩ := (hI _ _ _).1 hi4
    obtain ⟨ar, cr, rfl, _, _⟩ := hrow.val
    have hxl : xs.length + 1 < ls.length := by omega
    have hgd : (ls.drop 1)[xs.length] = ls[xs.length + 1] := by rw [List.getElem_drop]; congr 1; omega
    rw [hgd] at hrow
    simp -dsimp
    refine ⟨.refl _ _, fun h5 k5 hz5 => ?_⟩
    have t45 := Tr.lp hlt m2 k5
    have w5 := k5.at w1 (by omega)
    have g5 := g.mono t45
    have r5 := hrow.mono (t45.ft (Nat.le_refl 0))
    have hmem : ls[xs.length + 1] ∈ ls := List.getElem_mem hxl
    have hft := flatten_take hxl
    have hfl := flatten_take_le ls (xs.length + 1 + 1)
    have hfl1 := flatten_take_le ls (xs.length + 1)
    have hgl := groupC_le (ls.take (xs.length + 1)).flatten
    have hsmt : ∀ d ∈ groupC (ls.take (xs.length + 1)).flatten, CellSmall d := group_all small_join fun d hd => by
      obtain ⟨r, hr, hdr⟩ := List.mem_flatten.1 hd
      exact hsm r (List.mem_of_mem_take hr) d hdr
    simp -dsimp [w5]
    refine call_by (two_spec ((g5.rep (Nat.zero_le _)).mono (Ft.free (Nat.zero_le _))) (r5.mono (Ft.free (Nat.zero_le _))) (by omega) (hlen _ hmem) hsmt (hsm _ hmem)) ?_
    rintro v6 h6 ⟨n6, k6⟩
    have e6 : twoM (groupC (ls.take (xs.length + 1)).flatten) ls[xs.length + 1] = groupC (ls.take (xs.length + 1 + 1)).flatten := by
      rw [two_group (grp_group _).srt (hs _ hmem), group_left, hft]
    rw [e6] at n6
    have t46 := t45.call k6
    have s5 := t45.size
    have hv6 : ∃ a n c, v6 = .slice a n c := by
      obtain ⟨F, own, g, _⟩ := n6
      obtain ⟨a, c, rfl⟩ := g.val
      exact ⟨_, _, _, rfl⟩
    obtain ⟨a6, nn6, c6, rfl⟩ := hv6
    have w6 := k6.at w5 (fun h => h)
    have hl6 := lt_of_blk w6
    simp -dsimp [w6]
    have t47 := t46.set (.cells #[.slice a6 nn6 c6] 31) hM
    refine ⟨M, (hI _ _ _).2 ⟨hM, t47.lt, by simp only [List.length_append, List.length_singleton]; omega, _, _, _, set_same _ hl6, ?_⟩, t47, m1, m2, (set_other _ (by omega)).trans (k6.blk _ (by omega) (fun h => h)), (set_other _ (by omega)).trans (k6.blk _ (by omega) (fun h => h))⟩
    rw [List.length_append, List.length_singleton]
    have := n6.away (n0 := h.size) (M := M) (by have := t.size; omega) (fun b hb => by have := hlt b hb; omega)
    exact this.mono (Tr.set ⟨.refl _ _, fun _ h => .inl h, t46.lt⟩ _ hM)
  · rintro xs M h4 hxl hi4 hdm hz4 m1 m2 t
    obtain ⟨hM, hlt, hx, a, n, c, w1, g⟩ := (hI _ _ _).1 hi4
    have T4 := Tr.from_ k03 t (fun b hb => by omega)
    rw [hxl, hdl2, show ls.length - 1 + 1 = ls.length by omega, List.take_length] at g
    simp -dsimp [w1]
    rw [takeS_cons hdm]
    simp -dsimp
    exact hK _ _ ⟨(g.mono (Tr.set ⟨.refl _ _, fun _ h => .inl h, hlt⟩ _ m1)).newC, (T4.set _ m1).keep⟩

theorem chunk_spec (v : Value) (hv : v.cells = #[v]) {n : Nat} (hn : 1 ≤ n) (h : Heap) : CallH Tryz.prog 52 #[v, .int .i64 n] h fun r h' => r = .func (.func 67) #[] #[.pointer (some ⟨h.size, 0, none⟩), .pointer (some ⟨h.size + 1, 0, none⟩)] ∧ h' = (h.push (.cells #[v] 63)).push (.cells #[.int .i64 n] 3) := by
  refine callH_by fun K hK => ?_
  refine enter [.tmp 4] Tryz.func52 rfl rfl (by kernel_rfl) rfl ?_
  have hn' : ¬ (n : Int) < 1 := by omega
  simp -dsimp [boxS_eq, hv, hn']
  exact hK _ _ ⟨rfl, rfl⟩

set_option maxHeartbeats 4000000 in
set_option maxRecDepth 10000 in
theorem chunk_iter {h0 : Heap} {b1 b2 n : Nat} {v : Value} {ls : List (List CellM)} {F : Nat → Prop} (hb1 : h0[b1]? = some (.cells #[v] 63 (0, 0))) (hb2 : h0[b2]? = some (.cells #[.int .i64 n] 3 (0, 0))) (hl : SlRep (rSlice rCell) F h0 v ls) (hln : ls.length < 1000000) (hn : 1 ≤ n) (hn' : n < 9223372036854775807) :
    IterM Tryz.prog 67 #[] #[.pointer (some ⟨b1, 0, none⟩), .pointer (some ⟨b2, 0, none⟩)] (fun v : Value => #[v]) (chunksA n ls) (fun xs => ls.length ≤ xs.length * n) (fun x => x = b1 ∨ x = b2 ∨ F x) h0 := by
  intro y J M0 h ⟨yf, yu, yv', hyf⟩ hy hJ hsz hFp
  subst hyf
  have w1 := (hFp b1 (.inl rfl)).2.2.trans hb1
  have n1 := (hFp b1 (.inl rfl)).2.1
  have w2 := (hFp b2 (.inr (.inl rfl))).2.2.trans hb2
  have n2 := (hFp b2 (.inr (.inl rfl))).2.1
  have hlh : SlRep (rSlice rCell) (Ft 0 M0 h) h v ls := hl.mono fun x hx => by
    obtain ⟨g1, g2, g3⟩ := hFp x (.inr (.inr hx))
    exact ⟨⟨nz, by omega, g2⟩, g3⟩
  obtain ⟨a0, c0, rfl, hc0, hc0'⟩ := hl.val
  refine callH_by fun K hK => ?_
  refine enter [] Tryz.func67 rfl rfl (by kernel_rfl) rfl ?_
  simp -dsimp
  refine loopc (σ := Nat) (fun k => [(0, .func yf yu yv'), (1, .pointer (some ⟨b1, 0, none⟩)), (2, .pointer (some ⟨b2, 0, none⟩)), (4, .int .i64 (k * n : Nat))])
    (fun k h1 => (k = 0 ∨ (k - 1) * n < ls.length) ∧ ∃ xs M, xs.length = k ∧ J xs M h1 ∧ Tr M0 M h h1) (fun k => ls.length - k * n) 0 0 (fun k _ => ls.length ≤ k * n) noRet noRet_le (by simp)
    ⟨.inl rfl, [], M0, rfl, hJ, ⟨.refl _ _, fun _ h => .inl h, fun b hb => hy.lt hJ b hb⟩⟩ (by kernel_rfl) ?_ ?_
  · rintro k h1 g ⟨hk, xs, M, hxs, hJ1, t⟩
    have v1 := t.at w1 n1
    have v2 := t.at w2 n2
    obtain ⟨q, eq⟩ : ∃ q, q = k * n := ⟨_, rfl⟩
    have hsucc : (k + 1) * n = q + n := by rw [eq, Nat.add_mul, Nat.one_mul]
    rw [← eq]
    by_cases hkl : q < ls.length
    · have hnq : k = 0 ∧ q = 0 ∨ n ≤ q := by
        rcases Nat.eq_zero_or_pos k with rfl | hp
        · exact .inl ⟨rfl, by rw [eq]; omega⟩
        · refine .inr ?_
          rw [eq]
          exact Nat.le_mul_of_pos_left n hp
      obtain ⟨e, ee⟩ : ∃ e, e = min n (ls.length - q) := ⟨_, rfl⟩
      have wq : IntKind.i64.wrap ((q : Int) + (e : Int)) = (q : Int) + (e : Int) := wrap_i64 (by omega) (by omega)
      have wn : IntKind.i64.wrap ((q : Int) + (n : Int)) = (q : Int) + (n : Int) := wrap_i64 (by omega) (by omega)
      have ec : (q : Int) + (e : Int) = ((q + e : Nat) : Int) := by omega
      have hmin : min (n : Int) ((ls.length - q : Nat) : Int) = (e : Nat) := by omega
      have hq1 : q ≤ ls.length := by omega
      simp -dsimp [v1, hkl]
      refine drawn_by [⟨0, true, []⟩, ⟨1, true, []⟩, ⟨2, true, []⟩, ⟨3, true, []⟩, ⟨4, true, []⟩, ⟨5, false, []⟩, ⟨6, true, []⟩] (by kernel_rfl) (by kernel_rfl) ?_
      have hsl : ∀ (K : Value → Heap → Prop) (h : Heap), sliceS Tryz.prog 63 (.slice a0 ls.length c0) (some (.int .i64 (q : Int))) (some (.int .i64 ((q : Int) + (e : Int)))) (some (.int .i64 ((q : Int) + (e : Int)))) h K = K (.slice (piece a0 q (q + e) 1) (q + e - q) (q + e - q)) h := fun K h => by
        rw [ec]
        exact sliceS_slice Tryz.elS63 Tryz.szS31 (.inr ⟨_, rfl, by simp⟩) (.inr ⟨_, rfl⟩) (.inr ⟨_, rfl⟩) (by omega) (Nat.le_refl _) (by omega)
      simp -dsimp [v1, v2, elSz_eq, pieceV, natV, hq1, hc0, hmin, wq, hsl]
      refine callV_by (hy.step (x := .slice (piece a0 q (q + e) 1) e e) hJ1 ?_) ?_
      · have hcut := (hlh.mono (t.ft (Nat.le_refl 0))).cut (i := q) (j := q + e) (m := q + e) (by omega) (by omega) (Nat.le_refl _) (by omega)
        refine ⟨by rw [hxs, ← eq]; exact hkl, ?_⟩
        have e2 : (ls.drop q).take n = (ls.drop q).take (q + e - q) := by
          rw [show q + e - q = e by omega, ee]
          by_cases hc : n ≤ ls.length - q
          · rw [Nat.min_eq_left hc]
          · rw [Nat.min_eq_right (by omega), List.take_of_length_le (by simp; omega), List.take_of_length_le (by simp)]
        rw [hxs, ← eq, e2]
        have hee : q + e - q = e := Nat.add_sub_cancel_left ..
        rw [hee] at hcut ⊢
        exact hcut
      · rintro _ h4 ⟨rfl, M', hJ4, t4⟩
        have v24 := t4.keep.blk b2 (lt_of_blk v2) (fun hm => (t.new b2 hm).elim n2 fun e => by have := lt_of_blk w2; omega)
        simp -dsimp [v24.trans v2, wn]
        refine ⟨k + 1, by simp [hsucc], rfl, ⟨.inr (by rw [Nat.add_sub_cancel, ← eq]; exact hkl), xs ++ [_], M', by simp [hxs], hJ4, t.trans t4⟩, ?_⟩
        show ls.length - (k + 1) * n < ls.length - k * n
        omega
    · simp -dsimp [v1, hkl]
      exact ⟨rfl, k, by simp [eq], rfl, ⟨hk, xs, M, hxs, hJ1, t⟩, by omega⟩
  · rintro k h1 g ⟨hk, xs, M, hxs, hJ1, t⟩ hkl
    simp -dsimp
    exact hK _ _ ⟨xs, M, by show ls.length ≤ xs.length * n; rw [hxs]; exact hkl, hJ1, t⟩
end Go.Proofs

/-
  HC, part 29: a loop whose rounds range over functions; what is taken up at the end.
-/
namespace Go.HC
def ExJD {σ : Type} (idx : Nat) (S : σ → L) (D : σ → List Nat) (J : σ → Heap → Prop) (_t1 : Tag S) (_t2 : Tag J) (j : Nat) (l : L) (b : Base) (h : Heap) : Prop := j = idx ∧ ∃ s, Sub (S s) l b ∧ b.d = D s ∧ J s h
section
variable {P : Program} {n : Nat} {ro : Option Nat} {c : Code} {κ : Kont} {l : L} {b : Base} {h : Heap} {σ : Type}
theorem gsem_cutD {idx : Nat} {S : σ → L} {D : σ → List Nat} {J : σ → Heap → Prop} {R : L → Base → Heap → Prop} (hR : ∀ l b h, R l b h → κ.rt l b h)
    (hc : gsem P n ro c { nx := fun _ _ _ => False, rt := R, ex := ExJD idx S D J ⟨⟩ ⟨⟩, gt := fun _ _ _ _ => False } l b h)
    (after : ∀ s h g, J s h → κ.ex idx (S s) ⟨g, D s⟩ h) : gsem P n ro c κ l b h := by
  intro a w hw hfr fr k cs hkd hro
  obtain ⟨e, a', w', l', b', hs, hfr', hk, harr⟩ := hc a w hw hfr fr k cs hkd hro
  cases e with
  | nx => exact hk.elim
  | rt => exact ⟨.rt, a', w', l', b', hs, hfr', hR _ _ _ hk, harr⟩
  | ex j =>
    obtain ⟨rfl, s, hsub, hd, hJ⟩ := hk
    have hcl := hfr'.clean hsub
    rw [hd] at hcl
    exact ⟨.ex j, a', w', S s, ⟨fun t => a'.tmps.getD t undef, D s⟩, hs, hcl, after s _ _ hJ, harr⟩
  | gt t => exact hk.elim
/-- A loop that is cut off, in whose rounds blocks of marks are laid. -/
theorem loopcD (S : σ → L) (D : σ → List Nat) (J : σ → Heap → Prop) (μ : σ → Nat) (s0 : σ) (idx : Nat) (Q : σ → Heap → Prop) (R : L → Base → Heap → Prop) (hR : ∀ l b h, R l b h → κ.rt l b h) (hS : Sub (S s0) l b) (hD : b.d = D s0) (hJ : J s0 h) (hok : codeOk n c = true)
    (round : ∀ s h g, J s h → cs P n ro c { nx := LoopJ S D J μ s ⟨⟩ ⟨⟩ ⟨⟩, rt := R, ex := ExJD idx S D (fun s h => J s h ∧ Q s h) ⟨⟩ ⟨⟩, gt := fun _ _ _ _ => False } (S s) ⟨g, D s⟩ h)
    (after : ∀ s h g, J s h → Q s h → κ.ex idx (S s) ⟨g, D s⟩ h) : gs P n ro (.loop c) κ l b h :=
  gsem_cutD hR (loop (κ := { nx := fun _ _ _ => False, rt := R, ex := ExJD idx S D (fun s h => J s h ∧ Q s h) ⟨⟩ ⟨⟩, gt := fun _ _ _ _ => False }) S D J μ s0 hS hD hJ hok round) fun s h g hj => after s h g hj.1 hj.2
theorem takeS_all {K : Heap → Prop} : ∀ {ds : List Nat} {h : Heap}, (∀ d ∈ ds, h[d]? = some (.deferred (some []))) → ds.Nodup → (∀ h' : Heap, h'.size = h.size → (∀ b, b ∉ ds → h'[b]? = h[b]?) → K h') → takeS ds h K
  | [], h, _, _, hk => by rw [takeS_nil]; exact hk h rfl fun _ _ => rfl
  | d :: ds, h, hd, hn, hk => by
    rw [takeS_cons (hd d List.mem_cons_self)]
    obtain ⟨h1, h2⟩ := List.nodup_cons.1 hn
    refine takeS_all (fun e he => ?_) h2 fun h' hz hb => hk h' (by rw [hz]; simp) fun b hm => ?_
    · rw [set_other _ (fun (e' : d = e) => h1 (by rw [e']; exact he))]
      exact hd e (List.mem_cons_of_mem _ he)
    · rw [hb b (fun e => hm (List.mem_cons_of_mem _ e)), set_other _ (fun (e : d = b) => hm (by rw [e]; exact List.mem_cons_self))]
end
end Go.HC

/-
  All rows made one: the program's.
-/
namespace Go.HC
/-- Of each n rows one. -/
def outsM (n : Nat) (ls : List (List CellM)) (k : Nat) : List (List CellM) := (List.range k).map fun i => groupC ((ls.drop (i * n)).take n).flatten
section
variable {n : Nat} {ls : List (List CellM)}
theorem outs_len (k : Nat) : (outsM n ls k).length = k := by unfold outsM; simp
theorem outs_snoc (k : Nat) : outsM n ls (k + 1) = outsM n ls k ++ [groupC ((ls.drop (k * n)).take n).flatten] := by unfold outsM; rw [List.range_succ, List.map_append]; rfl
theorem take_chunk (k : Nat) : ls.take ((k + 1) * n) = ls.take (k * n) ++ (ls.drop (k * n)).take n := by rw [Nat.add_mul, Nat.one_mul, List.take_add]
theorem outs_flat : ∀ k, groupC (outsM n ls k).flatten = groupC (ls.take (k * n)).flatten
  | 0 => by unfold outsM; simp
  | k + 1 => by
    rw [outs_snoc, take_chunk, List.flatten_append, List.flatten_append]
    have : [groupC ((ls.drop (k * n)).take n).flatten].flatten = groupC ((ls.drop (k * n)).take n).flatten := by simp
    rw [this, group_right, ← group_left, outs_flat k, group_left]
theorem outs_le : ∀ k, (outsM n ls k).flatten.length ≤ (ls.take (k * n)).flatten.length
  | 0 => by unfold outsM; simp
  | k + 1 => by
    rw [outs_snoc, take_chunk, List.flatten_append, List.flatten_append, List.length_append, List.length_append]
    have h1 := outs_le k
    have h2 := groupC_le ((ls.drop (k * n)).take n).flatten
    have : [groupC ((ls.drop (k * n)).take n).flatten].flatten = groupC ((ls.drop (k * n)).take n).flatten := by simp
    rw [this]; omega
theorem chunk_le (a b : Nat) : ((ls.drop a).take b).flatten.length ≤ ls.flatten.length := by
  have h1 := flatten_take_le (ls.drop a) b
  have h2 : ls.flatten.length = (ls.take a).flatten.length + (ls.drop a).flatten.length := by
    conv => lhs; rw [← List.take_append_drop a ls]
    rw [List.flatten_append, List.length_append]
  omega
theorem outs_mem {k : Nat} {r : List CellM} (h : r ∈ outsM n ls k) : ∃ i, r = groupC ((ls.drop (i * n)).take n).flatten := by
  unfold outsM at h
  obtain ⟨i, _, rfl⟩ := List.mem_map.1 h
  exact ⟨i, rfl⟩
theorem chunk_count {k : Nat} (h2 : 2 ≤ n) (hl : 1 < ls.length) (h1 : k = 0 ∨ (k - 1) * n < ls.length) (hd : ls.length ≤ k * n) : k < ls.length := by
  rcases Nat.eq_zero_or_pos k with rfl | hp
  · omega
  · have h3 : (k - 1) * n < ls.length := h1.elim (fun h => by omega) id
    have h4 : (k - 1) * 2 ≤ (k - 1) * n := Nat.mul_le_mul_left _ h2
    omega
end
end Go.HC
namespace Go.Proofs
open Go Go.HC

set_option maxHeartbeats 8000000 in
set_option maxRecDepth 10000 in
theorem merge_spec {h : Heap} {v : Value} {ls0 : List (List CellM)} {n : Nat} (hl : SlRep (rSlice rCell) (Old h) h v ls0) (hs : ∀ r ∈ ls0, Srt r) (hsm : ∀ r ∈ ls0, ∀ d ∈ r, CellSmall d) (hn : ls0.flatten.length < 1000000) (hln : ls0.length < 1000000) (h2 : 2 ≤ n) (hn' : n < 9223372036854775807) :
    CallH Tryz.prog 37 #[v, .int .i64 n] h fun r h' => ∃ rv p, r = .tuple #[rv, .int .i64 p] ∧ NewC 46 h.size h' rv (groupC ls0.flatten) ∧ Keep none_ h h' := by
  refine callH_by fun K hK => ?_
  refine enter [.tmp 4, .tmp 5] Tryz.func37 rfl rfl (by kernel_rfl) rfl ?_
  have hmax : max (n : Int) 2 = n := by omega
  simp -dsimp [hmax]
  refine loopcD (σ := Int × Value × List (List CellM) × List Nat) (fun t => [(0, t.2.1), (1, .int .i64 n), (5, .int .i64 t.1)]) (fun t => t.2.2.2)
    (fun t h1 => Keep none_ h h1 ∧ (∀ d ∈ t.2.2.2, h.size ≤ d ∧ h1[d]? = some (.deferred (some []))) ∧ t.2.2.2.Nodup ∧ SlRep (rSlice rCell) (Old h1) h1 t.2.1 t.2.2.1 ∧ (∀ r ∈ t.2.2.1, Srt r) ∧ (∀ r ∈ t.2.2.1, ∀ d ∈ r, CellSmall d) ∧
      groupC t.2.2.1.flatten = groupC ls0.flatten ∧ t.2.2.1.flatten.length < 1000000 ∧ t.2.2.1.length < 1000000)
    (fun t => t.2.2.1.length) (0, v, ls0, []) 0 (fun t _ => ¬ 1 < t.2.2.1.length) noRet noRet_le (by simp) rfl ⟨.refl _ _, (fun d hd => by cases hd), List.nodup_nil, hl, hs, hsm, rfl, hn, hln⟩ (by kernel_rfl) ?_ ?_
  · rintro ⟨p, rv, ls, ds⟩ h1 g ⟨k1, hds, hnd, hr, hs1, hsm1, hg1, hf1, hl1⟩
    simp only at hds hnd hr hs1 hsm1 hg1 hf1 hl1
    obtain ⟨a1, c1, rfl, _, _⟩ := hr.val
    have s1 := k1.size
    by_cases hlen : 1 < ls.length
    · have hlen' : (1 : Int) < (ls.length : Int) := by omega
      simp -dsimp [hlen']
      refine call_by (chunk_spec _ (by simp) (show 1 ≤ n by omega) (h1.push (.cells #[.slice none 0 0] 63))) ?_
      rintro _ h3 ⟨rfl, e3⟩
      have hz3 : h3.size = h1.size + 3 := by rw [e3]; simp
      have k3 : Keep none_ h1 h3 := by rw [e3]; exact (((Keep.refl none_ h1).pushed _).pushed _).pushed _
      have w6 : h3[h1.size]? = some (.cells #[.slice none 0 0] 63 (0, 0)) := by rw [e3]; exact push_at (push_at (push_new _ _))
      have w7 : h3[h1.size + 1]? = some (.cells #[.slice a1 ls.length c1] 63 (0, 0)) := by rw [e3]; exact push_at (push_get (by simp))
      have w8 : h3[h1.size + 2]? = some (.cells #[.int .i64 n] 3 (0, 0)) := by rw [e3]; exact push_get (by simp)
      have hps : ∀ o, (Array.push h1 o).size = h1.size + 1 := fun o => by simp
      rw [hps]
      clear e3
      simp -dsimp
      obtain ⟨I, hI⟩ : ∃ I : List Value → (Nat → Prop) → Heap → Prop, ∀ xs M h', I xs M h' ↔ (M h1.size ∧ (∀ b, M b → b < h'.size) ∧ (xs.length = 0 ∨ (xs.length - 1) * n < ls.length) ∧ ∃ v own, h'[h1.size]? = some (.cells #[v] 63 (0, 0)) ∧
        Gr (rSlice rCell) 31 0 M h' v (outsM n ls xs.length) own ∧ ∀ b, own = some b → h3.size + 2 ≤ b) := ⟨_, fun _ _ _ => Iff.rfl⟩
      refine range_m (val := fun v : Value => #[v]) (first := #[]) (by simp) (by simp) (chunk_iter (n := n) (F := fun b => b < h1.size) w7 w8 (hr.mono fun b hb => ⟨hb.2.1, k3.blk b hb.2.1 (fun h => h)⟩) hl1 (by omega) hn') I
        ?_ ?_ (fun b => b = h1.size) ?_ ?_ (by kernel_rfl) (by kernel_rfl) (fun _ => rfl) (by intro p hp; simp at hp; subst hp; decide) ?_ ?_
      · exact fun hi => ((hI _ _ _).1 hi).2.1
      · intro xs M h4 h5 hi m1 m2 k
        obtain ⟨hM, hlt, hx, v, own, w1, g, ho⟩ := (hI _ _ _).1 hi
        exact (hI _ _ _).2 ⟨hM, fun b hb => Nat.lt_of_lt_of_le (hlt b hb) k.size, hx, v, own, k.at w1 (by omega), g.lp hlt m2 (fun e => by have := ho _ e; omega) k, ho⟩
      · rintro b (rfl | rfl | hb)
        · exact ⟨by omega, by omega⟩
        · exact ⟨by omega, by omega⟩
        · exact ⟨by omega, by omega⟩
      · intro h4 k4 hz4
        exact (hI _ _ _).2 ⟨.inl rfl, by omega, .inl rfl, _, none, k4.at w6 (fun h => h), .nil _ _ _ _ _, fun b hb => by cases hb⟩
      · rintro xs cv M h4 hi4 ⟨hxk, hrow⟩ hz4 m1 m2 t
        obtain ⟨hM, hlt, hx, v, own, w1, g, ho⟩ := (hI _ _ _).1 hi4
        obtain ⟨ar, cr, rfl, _, _⟩ := hrow.val
        obtain ⟨ck, eck⟩ : ∃ ck, ck = (ls.drop (xs.length * n)).take n := ⟨_, rfl⟩
        have hckl : 0 < ck.length := by rw [eck]; simp; omega
        have hckf : ck.flatten.length < 1000000 := by rw [eck]; have := chunk_le (ls := ls) (xs.length * n) n; omega
        have hckn : ck.length < 1000000 := by rw [eck]; simp; omega
        have hckm : ∀ r ∈ ck, r ∈ ls := fun r hr => List.mem_of_mem_drop (List.mem_of_mem_take (eck ▸ hr))
        rw [← eck] at hrow ⊢
        simp -dsimp
        refine ⟨.refl _ _, fun h5 k5 hz5 => ?_⟩
        have t45 := Tr.lp hlt m2 k5
        have w5 := k5.at w1 (by omega)
        have g5 := g.lp hlt m2 (fun e => by have := ho _ e; omega) k5
        have r5 := hrow.mono (t45.ft (Nat.le_refl 0))
        obtain ⟨va, vn, vc, rfl, hvn⟩ := g5.vals
        have hol := outs_len (n := n) (ls := ls) xs.length
        have hxn : xs.length ≤ xs.length * n := Nat.le_mul_of_pos_right _ (by omega)
        refine drawn_by [⟨0, true, []⟩, ⟨1, true, []⟩, ⟨2, false, [0]⟩, ⟨3, false, [0]⟩, ⟨4, false, []⟩, ⟨5, false, []⟩] (by kernel_rfl) (by kernel_rfl) ?_
        simp -dsimp [w5]
        refine call_by (mone_spec (r5.mono (Ft.free (Nat.zero_le _))) hckl (fun r hr => hs1 r (hckm r hr)) (fun r hr => hsm1 r (hckm r hr)) hckf hckn) ?_
        rintro v9 h9 ⟨n9, k9⟩
        have t49 := t45.call k9
        have r9 : SlRep rCell (Ft 0 M h9) h9 v9 (groupC ck.flatten) := (n9.rep (Nat.le_refl _)).mono (t45.ret (Nat.zero_le _))
        obtain ⟨a9, c9, rfl, _, _⟩ := r9.val
        have w9 := k9.at w5 (fun h => h)
        have w9p : ∀ o, (h9.push o)[h1.size]? = _ := fun o => push_at w9
        have s5 := t45.size
        simp -dsimp [w9, w9p, again_cons]
        refine gr_app1 (x := groupC ck.flatten) rfl cellsT (g5.call k9) t49.lt ⟨_, rfl, r9⟩ rfl (by omega) (by omega) ?_
        intro v' h10 own10 g10 t10 k10 ho10
        have w10 := k10.at w9 (fun e => by have := ho _ e; omega)
        have ho10' : ∀ b, own10 = some b → h3.size + 2 ≤ b := fun b e => (ho10 _ e).elim (ho b) fun e => by have := k9.size; omega
        obtain ⟨va', vn', vc', rfl, hvn'⟩ := g10.vals
        have hl10 := lt_of_blk w10
        have s9 := k9.size
        simp -dsimp [w10]
        have t11 := (t49.trans t10).set (.cells #[.slice va' vn' vc'] 63) (.inl hM)
        have hxl : ∀ u : Value, (xs ++ [u]).length = xs.length + 1 := fun u => by simp
        refine ⟨_, (hI _ _ _).2 ⟨.inl hM, t11.lt, .inr (by rw [hxl, Nat.add_sub_cancel]; exact hxk), _, own10, set_same _ hl10, ?_, ho10'⟩, t11, .inl m1, .inl m2, (set_other _ (by omega)).trans ((k10.blk _ (by omega) fun e => by have := ho _ e; omega).trans (k9.blk _ (by omega) (fun h => h))), (set_other _ (by omega)).trans ((k10.blk _ (by omega) fun e => by have := ho _ e; omega).trans (k9.blk _ (by omega) (fun h => h)))⟩
        rw [hxl, outs_snoc, ← eck]
        exact g10.set _ (.inl hM) (fun e => by have := ho10' _ e; omega)
      · rintro xs M h4 hdone hi4 hdm hz4 m1 m2 t
        have hdone : ls.length ≤ xs.length * n := hdone
        obtain ⟨hM, hlt, hx, v, own, w1, g, ho⟩ := (hI _ _ _).1 hi4
        have T4 := Tr.from_ k3 t (fun b hb => by omega)
        have hcnt := chunk_count h2 hlen hx hdone
        have htk : ls.take (xs.length * n) = ls := List.take_of_length_le hdone
        have hfl := outs_flat (n := n) (ls := ls) xs.length
        have hle := outs_le (n := n) (ls := ls) xs.length
        rw [htk] at hfl hle
        obtain ⟨va, vn, vc, rfl, hvn⟩ := g.vals
        simp -dsimp [w1]
        refine ⟨(IntKind.i64.wrap (p + 1), .slice va vn vc, outsM n ls xs.length, h3.size :: ds), by simp, rfl, ⟨k1.trans T4.keep fun _ _ h => h, ?_, ?_, g.rep (Nat.le_refl 0) (fun _ _ => Nat.zero_le _), ?_, ?_, hfl.trans hg1, by show (outsM n ls xs.length).flatten.length < 1000000; omega, by show (outsM n ls xs.length).length < 1000000; rw [outs_len]; omega⟩, by show (outsM n ls xs.length).length < ls.length; rw [outs_len]; exact hcnt⟩
        · intro d hd
          rcases List.mem_cons.1 hd with rfl | hd
          · exact ⟨by omega, hdm⟩
          · obtain ⟨q1, q2⟩ := hds d hd
            exact ⟨q1, T4.keep.at q2 (fun h => h)⟩
        · refine List.nodup_cons.2 ⟨fun hm => ?_, hnd⟩
          have := lt_of_blk (hds _ hm).2
          omega
        · intro r hr
          obtain ⟨i, rfl⟩ := outs_mem hr
          exact (grp_group _).srt
        · intro r hr
          obtain ⟨i, rfl⟩ := outs_mem hr
          refine group_all small_join fun d hd => ?_
          obtain ⟨r, hr, hdr⟩ := List.mem_flatten.1 hd
          exact hsm1 r (List.mem_of_mem_drop (List.mem_of_mem_take hr)) d hdr
    · have hlen' : ¬ (1 : Int) < (ls.length : Int) := by omega
      simp -dsimp [hlen']
      exact ⟨rfl, (p, .slice a1 ls.length c1, ls, ds), by simp, rfl, ⟨k1, hds, hnd, hr, hs1, hsm1, hg1, hf1, hl1⟩, hlen⟩
  · rintro ⟨p, rv, ls, ds⟩ h1 g ⟨k1, hds, hnd, hr, hs1, hsm1, hg1, hf1, hl1⟩ hlen
    simp only at hds hnd hr hs1 hsm1 hg1 hf1 hl1 hlen
    obtain ⟨a1, c1, rfl, _, _⟩ := hr.val
    have s1 := k1.size
    by_cases h0 : ls.length = 0
    · have h0' : ((ls.length : Int) == 0) = true := by simp [h0]
      simp -dsimp [h0']
      refine takeS_all (fun d hd => (hds d hd).2) hnd fun h' hz hb => ?_
      simp -dsimp
      have e0 : groupC ls0.flatten = [] := by
        rw [← hg1, List.eq_nil_of_length_eq_zero h0]; rfl
      refine hK _ _ ⟨_, _, rfl, by rw [e0]; exact ⟨none_, none, .nil _ _ _ _, fun b hb => hb.elim, fun b hb => by cases hb⟩, ⟨by omega, fun b hb' _ => ?_⟩⟩
      rw [hb b (fun hm => by have := (hds b hm).1; omega), k1.blk b hb' (fun h => h)]
    · have h0' : ((ls.length : Int) == 0) = false := by simp [h0]
      simp -dsimp [h0']
      refine call_by (mone_spec hr (by omega) hs1 hsm1 hf1 hl1) ?_
      rintro v2 h2' ⟨n2, k2⟩
      rw [hg1] at n2
      have hv2 : ∃ a n c, v2 = .slice a n c := by
        obtain ⟨F, own, g, _⟩ := n2
        obtain ⟨a, c, rfl⟩ := g.val
        exact ⟨_, _, _, rfl⟩
      obtain ⟨a2, nn2, c2, rfl⟩ := hv2
      simp -dsimp
      refine takeS_all (fun d hd => k2.at (hds d hd).2 (fun h => h)) hnd fun h' hz hb => ?_
      simp -dsimp
      have hlt : ∀ d ∈ ds, d < h1.size := fun d hd => lt_of_blk (hds d hd).2
      obtain ⟨F, own, gg, hF, ho⟩ := n2
      have hlo := gg.own_lt
      have hbF : ∀ b, F b → h'[b]? = h2'[b]? := fun b hf => hb b (fun hm => by have := hlt b hm; have := (hF b hf).1.1; omega)
      refine hK _ _ ⟨_, _, rfl, ⟨F, own, gg.mono (fun b hf => ⟨hf, hbF b hf⟩) fun b hf => ⟨gg.notF b hf, hb b (fun hm => by have := hlt b hm; have := ho b hf; omega)⟩, fun b hf => ⟨(hF b hf).1.at s1 (hbF b hf), by have := (hF b hf).2; omega⟩, fun b hf => by have := ho b hf; omega⟩, ⟨by have := k2.size; omega, fun b hb' _ => ?_⟩⟩
      rw [hb b (fun hm => by have := (hds b hm).1; omega), k2.blk b (by omega) (fun h => h), k1.blk b hb' (fun h => h)]
end Go.Proofs

/-
  How many cells a part comes to at most: the program's.
-/
namespace Go.HC
theorem vals_group {i : Nat} {l : List CellM} : valsM i (groupC l) = valsM i l := by
  unfold valsM
  congr 1
  funext v
  rw [Bool.eq_iff_iff]
  simp only [List.any_eq_true, decide_eq_true_eq]
  constructor
  · rintro ⟨c, hc, e⟩
    obtain ⟨d, hd, ek⟩ := group_key hc
    exact ⟨d, hd, by unfold atV at *; rw [ek]; exact e⟩
  · rintro ⟨c, hc, e⟩
    obtain ⟨d, hd, ek⟩ := key_group hc
    exact ⟨d, hd, by unfold atV at *; rw [ek]; exact e⟩
theorem group_group (l : List CellM) : groupC (groupC l) = groupC l := group_id (grp_group l).srt
theorem parts_group {n : Nat} : ∀ {f i : Nat} {l : List CellM}, partsM n f i (groupC l) = partsM n f i l
  | 0, i, l => by rw [partsM, partsM, group_group]
  | f + 1, i, l => by
    rw [partsM, partsM, group_group, vals_group]
    split
    · rfl
    · congr 1
      funext v
      rw [part_group]
      exact parts_group
theorem high_group {n f i : Nat} {l : List CellM} : highM n f i (groupC l) = highM n f i l := by unfold highM; rw [parts_group]
theorem vals_perm {i L : Nat} {l : List CellM} {vs : List Int} {es : Ents Int} {clock : Nat} (p : PV i l vs es) (hok : EntsOk es clock) (hp : Pre L i l) (hi : i < L) : (es.map (·.1)).Perm (valsM i l) := by
  have hv := hp.vals hi
  refine (List.perm_ext_iff_of_nodup hok.keys (hv.srt.imp fun h => by omega)).2 fun v => ?_
  rw [hv.mem, ← p.mem, ← p.is]
  constructor
  · intro h
    obtain ⟨e, he, rfl⟩ := List.mem_map.1 h
    rw [getE_mem (v := e.2.1) (c := e.2.2) hok.keys he]; rfl
  · intro h
    obtain ⟨u, hu⟩ := Option.isSome_iff_exists.1 h
    obtain ⟨c, hc⟩ := getE_some hu
    exact List.mem_map.2 ⟨_, hc, rfl⟩
end Go.HC
namespace Go.Proofs
open Go Go.HC

/-- How many cells a part of cells whose keys have f numbers from the place i on comes to. -/
def HighOk (f : Nat) : Prop := ∀ {i n : Nat} {h : Heap} {v : Value} {l : List CellM}, Pre (i + f) i l → SlRep rCell (Old h) h v l → 0 < n → n < 1000000000 → l.length < 1000000 → (∀ d ∈ l, CellSmall d) → i + f < 1000000 →
  CallH Tryz.prog 39 #[v, .int .i64 n, .int .i64 i] h fun r h' => r = .int .i64 (highM n f i l : Nat) ∧ Keep none_ h h'

set_option maxHeartbeats 8000000 in
set_option maxRecDepth 10000 in
theorem high_step_spec (f : Nat) (ih : ∀ f', f = f' + 1 → HighOk f') : HighOk f := by
  intro i n h v l hpre hl h0 hn hln hsm hif
  refine callH_by fun K hK => ?_
  refine enter [.tmp 6] Tryz.func39 rfl rfl (by kernel_rfl) rfl ?_
  obtain ⟨a00, c00, rfl, _, _⟩ := hl.val
  simp -dsimp
  refine call_by (cgroup_spec hl hln hsm) ?_
  rintro gv h1 ⟨ng, k1⟩
  have hgl := groupC_le l
  have hpg : Pre (i + f) i (groupC l) := by
    refine ⟨fun c hc => ?_, fun c hc => ?_, fun c hc d hd => ?_⟩
    · obtain ⟨e, he, ek⟩ := group_key hc; rw [← ek]; exact hpre.len e he
    · obtain ⟨e, he, ek⟩ := group_key hc; rw [← ek]; exact hpre.small e he
    · obtain ⟨e, he, ek⟩ := group_key hc
      obtain ⟨e', he', ek'⟩ := group_key hd
      rw [← ek, ← ek']; exact hpre.pre e he e' he'
  have hgs : ∀ d ∈ groupC l, CellSmall d := group_all small_join hsm
  have hgg := group_group l
  rw [← high_group] at hK
  have hg1 : SlRep rCell (Old h1) h1 gv (groupC l) := ng.rep (Nat.zero_le _)
  generalize groupC l = G at *
  obtain ⟨a0, c0, rfl, hc0, hc0'⟩ := hg1.val
  by_cases hnk : G.length ≤ n
  · simp -dsimp [hnk]
    refine hK _ _ ⟨?_, k1⟩
    rw [high_one (by rw [hgg]; exact hnk), hgg]
  · have hG0 : 0 < G.length := by omega
    obtain ⟨b1, o1, cs, e1, _, hrep, hx1⟩ := hg1.get 0 hG0
    obtain ⟨ka, kc, sa, sc, na, nc, xa, xc, rfl, r1, _⟩ := cell_open hrep
    have hx1' : HC.cellsIn h1[b1]? (o1 + 0 * 5) 5 = _ := hx1
    have hk1 : HC.cellIn h1[b1]? o1 = some (.slice ka G[0].key.length kc) := by
      have := cellsIn_cell (d := 0) hx1' (by decide)
      simpa using this
    have hkl : G[0].key.length = i + f := hpg.len _ (List.getElem_mem hG0)
    simp -dsimp [hnk, e1, idxA_zero hG0, hk1]
    cases f with
    | zero =>
      have hge : G[0].key.length ≤ i := by omega
      simp -dsimp [hge]
      refine hK _ _ ⟨?_, k1⟩
      unfold highM
      rw [partsM, hgg]
      simp [mostM]
    | succ f =>
      have hge : ¬ G[0].key.length ≤ i := by omega
      have hi : i < i + (f + 1) := by omega
      simp -dsimp [hge]
      refine loopc (σ := Nat) (fun k => [(1, .int .i64 n), (2, .int .i64 i), (8, .map (some h1.size)), (32, .slice a0 G.length c0), (33, .int .i64 G.length), (34, .int .i64 k)])
        (fun k h2 => k ≤ G.length ∧ ∃ vs es clock M O, PJ 3 46 i (G.take k) h1 h2 h1.size (.slice none 0 0) [] none es clock M O ∧ EntsOk es clock ∧ PV i (G.take k) vs es) (fun k => G.length - k) 0 0 (fun k _ => k = G.length) noRet noRet_le (by simp [e1]) ?_ (by kernel_rfl) ?_ ?_
      · exact ⟨Nat.zero_le _, [], [], 0, _, _, .start (Tr.start h1), .nil _, .nil⟩
      · rintro k h2 g ⟨hk, vs, es, clock, M, O, p, hok, pv⟩
        by_cases hkl2 : k < G.length
        · have wk := wrap_succ (k := k) (by omega)
          obtain ⟨b2, o2, cs2, e2, _, hrep2, hx2⟩ := (hg1.mono p.tr.old).get k hkl2
          obtain ⟨ka2, kc2, sa2, sc2, na2, nc2, xa2, xc2, rfl, r2, _⟩ := cell_open hrep2
          have hx2' : HC.cellsIn h2[b2]? (o2 + k * 5) 5 = _ := hx2
          obtain ⟨hik, hat, _⟩ := hpg.at hi (List.getElem_mem hkl2)
          simp -dsimp [hkl2, e2, idxA_nat hkl2, hx2']
          rw [push_set rfl]
          generalize hB2 : Array.push h2 _ = h3
          have k3 : Keep none_ h2 h3 := by rw [← hB2]; exact .push _ _ _
          have hC : h3[h2.size]? = some (.cells #[.slice ka2 G[k].key.length kc2, .int .i64 G[k].count, .slice sa2 G[k].sum.length sc2, .slice na2 G[k].mn.length nc2, .slice xa2 G[k].mx.length xc2] 46 (0, 0)) := by rw [← hB2]; exact push_new _ _
          have p3 := p.keep k3
          obtain ⟨b5, o5, rfl, hF5, hc5⟩ := (r2.mono (p.tr.here.call k3 |>.ft (Nat.le_refl 0))).int_at i hik
          have hmap3 := p3.map
          have hsn := take_snoc hkl2
          obtain ⟨x, ex⟩ : ∃ x, x = G[k].key[i] := ⟨_, rfl⟩
          rw [← ex] at hat hc5
          have hpl := part_len (i := i) (v := x) (l := G.take k)
          rw [List.length_take] at hpl
          have hrep3 := rCell.mono hrep2 (p.tr.here.call k3 |>.ft (Nat.le_refl 0))
          have hCp : ∀ o, (h3.push o)[h2.size]? = _ := fun o => push_at hC
          have hc5p : ∀ o, HC.cellIn (h3.push o)[b5]? (o5 + i) = _ := fun o => (congrArg (HC.cellIn · (o5 + i)) (push_old o hF5.2.1)).trans hc5
          have hmap3p : ∀ o, (h3.push o)[h1.size]? = _ := fun o => push_at hmap3
          refine drawn_by2 12 14 [⟨0, true, []⟩, ⟨1, true, []⟩, ⟨2, true, []⟩, ⟨3, true, []⟩, ⟨4, true, []⟩, ⟨5, true, []⟩, ⟨6, true, []⟩, ⟨7, true, []⟩, ⟨8, true, []⟩, ⟨9, true, []⟩, ⟨10, true, []⟩, ⟨11, true, []⟩, ⟨13, true, []⟩, ⟨12, false, [0, 1, 2, 3, 4, 5, 13]⟩, ⟨14, false, [0, 1, 2, 3, 4, 5]⟩, ⟨15, false, [0, 1, 2, 3, 4, 5]⟩, ⟨16, false, []⟩]
            [⟨0, true, []⟩, ⟨1, true, []⟩, ⟨2, true, []⟩, ⟨3, true, []⟩, ⟨4, true, []⟩, ⟨5, true, []⟩, ⟨6, true, []⟩, ⟨7, true, []⟩, ⟨8, true, []⟩, ⟨9, true, []⟩, ⟨10, true, []⟩, ⟨11, true, []⟩, ⟨13, true, []⟩, ⟨14, false, [0, 1, 2, 3, 4, 5, 6, 7, 8, 9, 10, 11]⟩, ⟨12, false, [0, 1, 2, 3, 4, 5]⟩, ⟨15, false, [0, 1, 2, 3, 4, 5]⟩, ⟨16, false, []⟩] (by kernel_rfl) (by kernel_rfl) ?_ ?_
          all_goals
            simp -dsimp [hC, hCp, hc5p, idxV_nat hik, elSz_eq, hc5, again_cons, lookup_int (T := 88) Tryz.mapS88 Tryz.underlying3 Tryz.zS31 hmap3, lookup_int (T := 88) Tryz.mapS88 Tryz.underlying3 Tryz.zS31 (hmap3p _)]
            refine gr_app1 (x := G[k]) rfl cellT (p3.part x) p3.tr.lt hrep3 rfl (by omega) (by omega) ?_
            intro v5 h5 own5 g5 t5 k5 ho5
            have hmap5 := k5.at hmap3 (p3.disb x)
            have hC5 := k5.at hC (fun e => by have := (p3.part x).mu _ e; have := p.tr.lt _ this; omega)
            have hc55 : HC.cellIn h5[b5]? (o5 + i) = _ := (congrArg (HC.cellIn · (o5 + i)) (k5.blk b5 hF5.2.1 fun e => hF5.2.2 ((p3.part x).mu _ e))).trans hc5
            have p5 := p3.cell hat g5 t5 k5 ho5
            have pv5 := pv.put (clock := clock) (v := v5) hat
            rw [← hsn] at p5 pv5
            simp -dsimp [hC5, hc55, idxV_nat hik, elSz_eq, wk, again_cons, update_int (T := 88) Tryz.mapS88 Tryz.underlying3 hmap5]
            exact ⟨k + 1, by simp [e2], rfl, ⟨by omega, _, _, _, _, _, p5, hok.put x v5, pv5⟩, by show G.length - (k + 1) < G.length - k; omega⟩
        · simp -dsimp [hkl2]
          exact ⟨rfl, k, by simp [e1], rfl, ⟨hk, vs, es, clock, M, O, p, hok, pv⟩, by omega⟩
      · rintro k h2 g ⟨hk, vs, es, clock, M, O, p, hok, pv⟩ hkl2
        subst hkl2
        rw [List.take_length] at p pv
        have hperm := vals_perm pv hok hpg hi
        have hkeys := hok.keys
        have hwi := wrap_succ (k := i) (by omega)
        have hmap := p.map
        have k12 := p.tr.keep
        simp -dsimp
        rw [range_map (kt := 3) (et := 31) Tryz.mapS88 hmap]
        simp -dsimp
        obtain ⟨gH, hgH⟩ : ∃ gH : Int → Nat, ∀ v, gH v = highM n f (i + 1) (partC i v G) := ⟨_, fun _ => rfl⟩
        refine loopc (σ := Ents Int × Ents Int) (fun t => [(1, .int .i64 n), (2, .int .i64 i), (11, .int .i64 (mostM (t.1.map fun e => gH e.1) : Nat)), (56, .pointer (some ⟨h2.size, 0, none⟩))])
          (fun t h3 => es.Perm (t.1 ++ t.2) ∧ h3[h2.size]? = some (.mapIter (some h1.size) clock (seenOf t.1) clock) ∧ Keep (fun b => b = h2.size) (h2.push (.mapIter (some h1.size) clock #[] clock)) h3) (fun t => t.2.length) ([], es) 2 (fun t _ => t.2 = []) noRet noRet_le (by simp [mostM]) ?_ (by kernel_rfl) ?_ ?_
        · exact ⟨by simp, push_new _ _, .refl _ _⟩
        · rintro ⟨done, rest⟩ h3 g ⟨hpm, hit, k3⟩
          simp only at hpm hit k3
          have hbm := lt_of_blk hmap
          have hz : (h2.push (.mapIter (some h1.size) clock #[] clock)).size = h2.size + 1 := by simp
          have k23 : ∀ b, b < h2.size → h3[b]? = h2[b]? := fun b hb => by rw [k3.blk b (by omega) (by omega), push_old _ hb]
          have hmap3 := (k23 _ hbm).trans hmap
          simp -dsimp
          refine next_map hok hit hmap3 hpm ?_ ?_
          · intro hr
            simp -dsimp
            exact ⟨rfl, (done, rest), by simp, rfl, ⟨hpm, hit, k3⟩, hr⟩
          · intro e rest' hr
            have he : e ∈ es := hpm.mem_iff.2 (List.mem_append_right _ (hr.mem_iff.2 List.mem_cons_self))
            have hlt := lt_of_blk hit
            have hsl : slotE e.1 es = e.2.1 := by
              unfold slotE
              rw [getE_mem (v := e.2.1) (c := e.2.2) hkeys he]; rfl
            simp -dsimp
            generalize hH : h3.setIfInBounds h2.size _ = h4
            have hs4 : h4.size = h3.size := by rw [← hH]; simp
            have ho4 : ∀ b, b ≠ h2.size → h4[b]? = h3[b]? := fun b hb => by rw [← hH]; exact set_other _ (fun e => hb e.symm)
            have hi4 : h4[h2.size]? = some (.mapIter (some h1.size) clock (seenOf (done ++ [e])) clock) := by rw [← hH]; exact set_same _ hlt
            have hm4 := (ho4 _ (by omega)).trans hmap3
            rw [entry_map hok hi4 hm4 he]
            have hpt : SlRep rCell (Old h4) h4 e.2.1 (partC i e.1 G) := by
              rw [← hsl]
              exact ((p.part e.1).rep (Nat.le_refl 0) (fun _ _ => Nat.zero_le _)).mono fun b hb => ⟨⟨nz, by have := hb.2.1; have := k3.size; omega, fun h => h⟩, by
                have := hb.2.1
                rw [ho4 b (by omega), k23 b this]⟩
            have hpl := part_len (i := i) (v := e.1) (l := G)
            obtain ⟨ae, ce, eae, _, _⟩ := hpt.val
            simp -dsimp [hwi]
            refine call_by (ih f rfl (i := i + 1) (show Pre (i + 1 + f) (i + 1) (partC i e.1 G) by have := hpg.part hi e.1; rwa [show i + 1 + f = i + (f + 1) by omega]) hpt h0 hn (by omega) (fun d hd => hgs d (mem_part.1 hd).1) (show i + 1 + f < 1000000 by omega)) ?_
            rintro _ h5 ⟨rfl, k5⟩
            have hmx : max ((mostM (done.map fun e => gH e.1) : Nat) : Int) ((highM n f (i + 1) (partC i e.1 G) : Nat) : Int) = ((mostM ((done ++ [e]).map fun e => gH e.1) : Nat) : Int) := by
              rw [List.map_append, most_append, ← hgH]
              simp [mostM]
              omega
            simp -dsimp [hmx]
            refine ⟨(done ++ [e], rest'), by simp, rfl, ⟨(hpm.trans (List.Perm.append_left done hr)).trans (by simp), k5.at hi4 (fun h => h), ⟨?_, fun b hb hne => ?_⟩⟩, by have := hr.length_eq; simp at this; show rest'.length < rest.length; omega⟩
            · have := k5.size; have := k3.size; omega
            · rw [k5.blk b (by have := k3.size; omega) (fun h => h), ho4 b hne, k3.blk b hb hne]
        · rintro ⟨done, rest⟩ h3 g ⟨hpm, hit, k3⟩ hrest
          simp only at hpm hit k3 hrest
          subst hrest
          rw [List.append_nil] at hpm
          have hres : mostM (done.map fun e => gH e.1) = highM n (f + 1) i G := by
            rw [high_step (by rw [hgg]; exact hnk)]
            have e1 : (done.map fun e => gH e.1).Perm ((valsM i G).map gH) := by
              have := (hpm.symm.map (fun e : Int × Value × Nat => e.1)).trans hperm
              have h2 := this.map gH
              rwa [List.map_map] at h2
            rw [most_perm e1]
            congr 1
            apply List.map_congr_left
            intro v _
            exact hgH v
          simp -dsimp
          refine hK _ _ ⟨by rw [hres], ⟨?_, fun b hb _ => ?_⟩⟩
          · have := k1.size; have := k12.size; have := k3.size; simp at this; omega
          · have := k1.size; have := k12.size
            rw [k3.blk b (by simp; omega) (by omega), push_old _ (by omega), k12.blk b (by omega) (fun h => h), k1.blk b hb (fun h => h)]
theorem high_spec (f : Nat) : HighOk f := by
  induction f with
  | zero => exact high_step_spec 0 fun f' h => by omega
  | succ f ih =>
    exact high_step_spec (f + 1) fun f' h => by
      cases h
      exact ih
end Go.Proofs

/-
  Plans carried out: the program's.
-/
namespace Go.HC
theorem NewC.vals {e n0 : Nat} {h : Heap} {v : Value} {l : List CellM} (g : NewC e n0 h v l) : ∃ a n c, v = .slice a n c := by
  obtain ⟨F, own, g, _⟩ := g
  obtain ⟨a, c, rfl⟩ := g.val
  exact ⟨_, _, _, rfl⟩
/-- Other blocks are written. -/
theorem NewC.keepS {e n0 : Nat} {h h' : Heap} {S : Nat → Prop} {v : Value} {l : List CellM} (g : NewC e n0 h v l) (k : Keep S h h') (hS : ∀ b, S b → b < n0) : NewC e n0 h' v l := by
  obtain ⟨F, own, g, hF, ho⟩ := g
  have hl := g.own_lt
  have hs : ∀ b, n0 ≤ b → ¬ S b := fun b h1 h2 => by have := hS b h2; omega
  exact ⟨F, own, g.mono (fun b hb => ⟨hb, k.blk b (hF b hb).2 (hs b (hF b hb).1.1)⟩) fun b hb => ⟨g.notF b hb, k.blk b (hl b hb) (hs b (ho b hb))⟩, fun b hb => ⟨(hF b hb).1.at (Nat.le_refl _) (k.blk b (hF b hb).2 (hs b (hF b hb).1.1)), Nat.lt_of_lt_of_le (hF b hb).2 k.size⟩, ho⟩
theorem most_take {α : Type} (g : α → Nat) {l : List α} {k : Nat} (hk : k < l.length) : mostM ((l.take (k + 1)).map g) = max (mostM ((l.take k).map g)) (g l[k]) := by
  rw [take_snoc hk, List.map_append, most_append]
  simp [mostM]
theorem flat_count {ls : List (List CellM)} (h : ∀ r ∈ ls, 0 < r.length) : ls.length ≤ ls.flatten.length := by
  induction ls with
  | nil => simp
  | cons r ls ih =>
    have h1 := h r List.mem_cons_self
    have h2 := ih fun r hr => h r (List.mem_cons_of_mem _ hr)
    rw [List.flatten_cons, List.length_append, List.length_cons]; omega
theorem runs_len (most : Nat) (h0 : 0 < most) {l : List CellM} (hsm : ∀ d ∈ l, CellSmall d) : (runsM most l).length ≤ l.length + 1 ∧ (∀ r ∈ runsM most l, ∀ d ∈ r, CellSmall d) := by
  have h := runB small_join h0 hsm l.length (Nat.le_refl _)
  rw [List.take_length] at h
  unfold runsM
  generalize runFold most l = st at *
  obtain ⟨out, held⟩ := st
  obtain ⟨h1, h2, h3, h4⟩ := h
  simp only at h1 h2 h3 h4 ⊢
  refine ⟨by rw [List.length_append]; split <;> simp <;> omega, fun r hr => ?_⟩
  rcases List.mem_append.1 hr with h | h
  · exact h1 r h
  · split at h
    · rw [List.mem_singleton] at h; subst h; exact h2
    · cases h
/-- All cells of the runs. -/
theorem runs_flat (most : Nat) (l : List CellM) : (runsM most l).flatten.length ≤ l.length := by
  have key : ∀ k, k ≤ l.length → ((runFold most (l.take k)).1.flatten ++ (runFold most (l.take k)).2).length ≤ k := by
    intro k
    induction k with
    | zero => intro _; simp [runFold]
    | succ k ih =>
      intro hk
      have ih := ih (by omega)
      rw [run_take (by omega)]
      generalize runFold most (l.take k) = st at *
      obtain ⟨out, held⟩ := st
      simp only at ih
      unfold runStep
      split
      · simp only [List.flatten_append, List.flatten_cons, List.flatten_nil, List.append_nil, List.length_append, List.length_singleton] at *
        omega
      · have := putC_le held l[k]
        simp only [List.length_append] at *
        omega
  have h := key l.length (Nat.le_refl _)
  rw [List.take_length] at h
  unfold runsM
  rw [List.flatten_append]
  split
  · simpa using h
  · simp only [List.length_append, List.flatten_nil, List.append_nil] at *
    omega
end Go.HC
namespace Go.Proofs
open Go Go.HC

set_option maxHeartbeats 8000000 in
set_option maxRecDepth 10000 in
theorem bySort_spec {h : Heap} {v : Value} {l : List CellM} {k : Nat} (hl : SlRep rCell (Old h) h v l) (hln : l.length < 1000000) (hsm : ∀ d ∈ l, CellSmall d) (hk : 3 ≤ k) (hk' : k < 9223372036854775808) :
    CallH Tryz.prog 26 #[v, .int .i64 k] h fun r h' => ∃ a n c, r = .agg #[.slice a n c, .int .i64 (sortHigh k l : Nat)] ∧ NewC 46 h.size h' (.slice a n c) (groupC l) ∧ Keep none_ h h' := by
  refine callH_by fun K hK => ?_
  refine enter [.cell 4 34] Tryz.func26 rfl rfl (by kernel_rfl) rfl ?_
  obtain ⟨a00, c00, rfl, _, _⟩ := hl.val
  simp -dsimp
  generalize hB : Array.push h _ = h0
  have k0 : Keep none_ h h0 := by rw [← hB]; exact .push _ _ _
  have hz0 : h0.size = h.size + 1 := by rw [← hB]; simp
  have w4 : h0[h.size]? = some (.cells #[.slice none 0 0, .int .i64 0] 34 (0, 0)) := by rw [← hB]; exact push_new _ _
  refine call_by (runs_spec (hl.mono ((Tr.of k0).ft (Nat.le_refl 0))) hln hsm (show 0 < k by omega)) ?_
  rintro rv h1 ⟨r1, k1⟩
  have hro := runs_ok (show 0 < k by omega) l
  obtain ⟨hrl, hrs⟩ := runs_len k (by omega) hsm
  have hrf := runs_flat k l
  have hrc := flat_count fun r hr => (hro.len r hr).1
  have hsh : sortHigh k l = if 1 < (runsM k l).length then max (mostM ((runsM k l).map (·.length))) (min (k - 1) (runsM k l).length + 1) else mostM ((runsM k l).map (·.length)) := rfl
  have hgr := hro.grp
  generalize runsM k l = rs at *
  obtain ⟨ra, rc, rfl, _, _⟩ := r1.val
  have s1 := k1.size
  have w1 : IntKind.i64.wrap ((k : Int) - 1) = ((k - 1 : Nat) : Int) := by rw [wrap_i64 (by omega) (by omega)]; omega
  simp -dsimp [w1]
  generalize hB2 : Array.push h1 _ = h2
  have k2 : Keep none_ h1 h2 := by rw [← hB2]; exact .push _ _ _
  have hz2 : h2.size = h1.size + 1 := by rw [← hB2]; simp
  have w7 : h2[h1.size]? = some (.cells #[.slice none 0 0, .int .i64 0] 34 (0, 0)) := by rw [← hB2]; exact push_new _ _
  have r2 : SlRep (rSlice rCell) (Old h2) h2 _ rs := (r1.mono (Ft.free (Nat.zero_le _))).mono ((Tr.of k2).ft (Nat.le_refl 0))
  refine call_by (merge_spec (n := k - 1) r2 hro.srt hrs (by omega) (by omega) (by omega) (by omega)) ?_
  rintro _ h3 ⟨mv, p, rfl, n3, k3⟩
  rw [hgr] at n3
  obtain ⟨ma, mn, mc, rfl⟩ := n3.vals
  have w73 := k3.at w7 (fun h => h)
  have hl7 := lt_of_blk w73
  have s3 := k3.size
  simp -dsimp [w73]
  generalize hH : Array.setIfInBounds h3 _ _ = h4
  have hz4 : h4.size = h3.size := by rw [← hH]; simp
  have w74 : h4[h1.size]? = some (.cells #[.slice ma mn mc, .int .i64 ((0 : Nat) : Int)] 34 (0, 0)) := by rw [← hH]; exact set_same _ hl7
  have ho4 : ∀ b, b ≠ h1.size → h4[b]? = h3[b]? := fun b hb => by rw [← hH]; exact set_other _ (fun e => hb e.symm)
  have w44 : h4[h.size]? = some (.cells #[.slice none 0 0, .int .i64 0] 34 (0, 0)) := (ho4 _ (by omega)).trans (k3.at (k2.at (k1.at w4 (fun h => h)) (fun h => h)) (fun h => h))
  have k34 : Keep (fun b => b = h1.size) h3 h4 := ⟨by omega, fun b _ hb => ho4 b hb⟩
  obtain ⟨mm, hmm⟩ : ∃ mm : Nat → Nat, ∀ i, mm i = mostM ((rs.take i).map (·.length)) := ⟨_, fun _ => rfl⟩
  have hmm0 : mm 0 = 0 := by rw [hmm]; rfl
  refine loopc (σ := Nat) (fun i => [(4, .pointer (some ⟨h.size, 0, none⟩)), (5, .slice ra rs.length rc), (6, .int .i64 (k - 1 : Nat)), (7, .pointer (some ⟨h1.size, 0, none⟩)), (22, .slice ra rs.length rc), (23, .int .i64 rs.length), (24, .int .i64 i)])
    (fun i h5 => i ≤ rs.length ∧ Keep (fun b => b = h1.size) h4 h5 ∧ h5[h1.size]? = some (.cells #[.slice ma mn mc, .int .i64 (mm i : Int)] 34 (0, 0))) (fun i => rs.length - i) 0 0 (fun i _ => i = rs.length) noRet noRet_le (by simp)
    ⟨Nat.zero_le _, .refl _ _, by rw [hmm0]; exact w74⟩ (by kernel_rfl) ?_ ?_
  · rintro i h5 g ⟨hi, k5, w75⟩
    have wk := wrap_succ (k := i) (by omega)
    by_cases hil : i < rs.length
    · have r5 : SlRep (rSlice rCell) (fun b => b < h1.size) h5 (.slice ra rs.length rc) rs := r1.mono fun b hb => ⟨hb.2.1, by rw [k5.blk b (by have := hb.2.1; omega) (by have := hb.2.1; omega), ho4 b (by have := hb.2.1; omega), k3.blk b (by have := hb.2.1; omega) (fun h => h), k2.blk b hb.2.1 (fun h => h)]⟩
      obtain ⟨bl, ol, w, e1, _, hx1, hrep⟩ := r5.row_at i hil
      obtain ⟨aw, cw, rfl, _, _⟩ := hrep.val
      have hl75 := lt_of_blk w75
      have hmt := most_take (fun r : List CellM => r.length) hil
      have hmx : max (mm i : Int) (rs[i].length : Int) = (mm (i + 1) : Int) := by rw [hmm, hmm, hmt]; omega
      simp -dsimp [hil, e1, idxA_nat hil, hx1, w75, wk, hmx]
      exact ⟨i + 1, by simp [e1], rfl, ⟨by omega, k5.trans (Keep.set (S := fun b => b = h1.size) _ _ fun _ => rfl) fun _ _ h => h, set_same _ hl75⟩, by show rs.length - (i + 1) < rs.length - i; omega⟩
    · simp -dsimp [hil]
      exact ⟨rfl, i, by simp, rfl, ⟨hi, k5, w75⟩, by omega⟩
  · rintro i h5 g ⟨hi, k5, w75⟩ rfl
    rw [hmm, List.take_length] at w75
    have hl75 := lt_of_blk w75
    have w45 := k5.at w44 (by omega)
    have hl4 := lt_of_blk w45
    have n5 : NewC 46 h.size h5 (.slice ma mn mc) (groupC l) := ((n3.keepS k34 (by omega)).keepS k5 (by omega)).older (by omega)
    have k05 : ∀ b, b < h.size → h5[b]? = h[b]? := fun b hb => by
      rw [k5.blk b (by omega) (by omega), ho4 b (by omega), k3.blk b (by omega) (fun h => h), k2.blk b (by omega) (fun h => h), k1.blk b (by omega) (fun h => h), k0.blk b hb (fun h => h)]
    have s5 := k5.size
    have fin : ∀ (hi : Nat) (h6 : Heap), hi = sortHigh k l → h6.size = h5.size → h6[h1.size]? = some (.cells #[.slice ma mn mc, .int .i64 (hi : Int)] 34 (0, 0)) → (∀ b, b ≠ h1.size → h6[b]? = h5[b]?) →
        K (.agg #[.slice ma mn mc, .int .i64 (hi : Int)]) (h6.setIfInBounds h.size (.cells #[.slice ma mn mc, .int .i64 (hi : Int)] 34)) := by
      rintro hi h6 rfl hz6 w76 ho6
      have n6 : NewC 46 (h2.size) (h6.setIfInBounds h.size (.cells #[.slice ma mn mc, .int .i64 ((sortHigh k l : Nat) : Int)] 34)) (.slice ma mn mc) (groupC l) := by
        have q5 : NewC 46 h2.size h5 (.slice ma mn mc) (groupC l) := (n3.keepS k34 (by omega)).keepS k5 (by omega)
        have q6 := q5.keepS (S := fun b => b = h1.size) (h' := h6) ⟨by omega, fun b _ hb => ho6 b hb⟩ (by omega)
        exact q6.keepS (S := fun b => b = h.size) (.set _ _ fun _ => rfl) (by omega)
      exact hK _ _ ⟨_, _, _, rfl, n6.older (by omega), ⟨by simp; omega, fun b hb _ => by rw [set_other _ (by omega), ho6 b (by omega), k05 b hb]⟩⟩
    by_cases hlen : 1 < rs.length
    · have hlen' : (1 : Int) < (rs.length : Int) := by omega
      rw [if_pos hlen] at hsh
      have hmin : min ((k - 1 : Nat) : Int) (rs.length : Int) = ((min (k - 1) rs.length : Nat) : Int) := by omega
      have wm : IntKind.i64.wrap (((min (k - 1) rs.length : Nat) : Int) + 1) = ((min (k - 1) rs.length : Nat) : Int) + 1 := wrap_i64 (by omega) (by omega)
      have hmx : max ((mostM (rs.map (·.length)) : Nat) : Int) (((min (k - 1) rs.length : Nat) : Int) + 1) = ((sortHigh k l : Nat) : Int) := by rw [hsh]; omega
      have hne : h1.size ≠ h.size := by omega
      have hs1 : ∀ o o', ((h5.setIfInBounds h1.size o).setIfInBounds h.size o')[h.size]? = some o' := fun o o' => set_same _ (by simpa using hl4)
      simp -dsimp [hlen', w75, hmin, wm, hmx, set_same _ hl75, set_other _ hne, w45, hs1]
      exact fin _ _ rfl (by simp) (set_same _ hl75) fun b hb => set_other _ (fun e => hb e.symm)
    · have hlen' : ¬ (1 : Int) < (rs.length : Int) := by omega
      rw [if_neg hlen] at hsh
      have hs1 : ∀ o', (h5.setIfInBounds h.size o')[h.size]? = some o' := fun o' => set_same _ hl4
      simp -dsimp [hlen', w75, w45, hs1]
      exact fin _ _ hsh.symm rfl w75 fun b hb => rfl

set_option maxHeartbeats 4000000 in
set_option maxRecDepth 10000 in
theorem byHash_spec {h : Heap} {v : Value} {l : List CellM} {n L : Nat} (hl : SlRep rCell (Old h) h v l) (hln : l.length < 1000000) (hsm : ∀ d ∈ l, CellSmall d) (hn : 0 < n) (hn' : n < 1000000000) (hp : Pre L 0 l) (hL : L < 1000000) :
    CallH Tryz.prog 27 #[v, .int .i64 n] h fun r h' => ∃ a m c, r = .agg #[.slice a m c, .int .i64 (highM n L 0 l : Nat)] ∧ NewC 46 h.size h' (.slice a m c) (groupC l) ∧ Keep none_ h h' := by
  refine callH_by fun K hK => ?_
  refine enter [.cell 4 34] Tryz.func27 rfl rfl (by kernel_rfl) rfl ?_
  obtain ⟨a00, c00, rfl, _, _⟩ := hl.val
  simp -dsimp
  generalize hB : Array.push h _ = h0
  have k0 : Keep none_ h h0 := by rw [← hB]; exact .push _ _ _
  have hz0 : h0.size = h.size + 1 := by rw [← hB]; simp
  have w4 : h0[h.size]? = some (.cells #[.slice none 0 0, .int .i64 0] 34 (0, 0)) := by rw [← hB]; exact push_new _ _
  have l0 := hl.mono ((Tr.of k0).ft (Nat.le_refl 0))
  refine call_by (hgroup_spec hp l0 hn hn' hln hsm hL) ?_
  rintro _ h1 ⟨⟨mv, rfl, n1⟩, k1⟩
  obtain ⟨ma, mn, mc, rfl⟩ := n1.vals
  have l1 := l0.mono ((Tr.of k1).ft (Nat.le_refl 0))
  simp -dsimp
  refine call_by (high_spec L (i := 0) (by rwa [Nat.zero_add]) l1 hn hn' hln hsm (by omega)) ?_
  rintro _ h2 ⟨rfl, k2⟩
  have w42 := k2.at (k1.at w4 (fun h => h)) (fun h => h)
  have hl4 := lt_of_blk w42
  have hs1 : ∀ o', (h2.setIfInBounds h.size o')[h.size]? = some o' := fun o' => set_same _ hl4
  simp -dsimp [w42, hs1]
  have s1 := k1.size
  have s2 := k2.size
  refine hK _ _ ⟨_, _, _, rfl, ((n1.keep k2).keepS (S := fun b => b = h.size) (.set _ _ fun _ => rfl) (by omega)).older (by omega), ⟨by simp; omega, fun b hb _ => by rw [set_other _ (by omega), k2.blk b (by omega) (fun h => h), k1.blk b (by omega) (fun h => h), k0.blk b hb (fun h => h)]⟩⟩

theorem narrowed_spec (v : Value) (hv : v.cells = #[v]) (a b : Int) (h : Heap) : CallH Tryz.prog 24 #[v, .int .i64 a, .int .i64 b] h fun r h' => r = .func (.func 34) #[] #[.pointer (some ⟨h.size, 0, none⟩), .pointer (some ⟨h.size + 1, 0, none⟩), .pointer (some ⟨h.size + 2, 0, none⟩)] ∧
    h' = ((h.push (.cells #[v] 31)).push (.cells #[.int .i64 a] 3)).push (.cells #[.int .i64 b] 3) := by
  refine callH_by fun K hK => ?_
  refine enter [.tmp 6] Tryz.func24 rfl rfl (by kernel_rfl) rfl ?_
  simp -dsimp [boxS_eq, hv]
  exact hK _ _ ⟨by simp, rfl⟩

set_option maxHeartbeats 8000000 in
set_option maxRecDepth 10000 in
/-- A set's cells are made of another one's. -/
theorem exec_spec {h : Heap} {v : Value} {l : List CellM} {m : Nat} (a b k alg : Int) (hl : SlRep rCell (Old h) h v l) (hln : l.length < 1000000) (hm : m < 1000000000) (hc : ∀ c ∈ l, CellOk m (dimsM a).length c) (hk : k < 9223372036854775808) :
    CallH Tryz.prog 16 #[v, .int .i64 a, .int .i64 b, .int .i64 k, .int .i64 alg] h fun r h' => ∃ x n c, r = .tuple #[.agg #[.slice x n c, .int .i64 ((execM a b k alg l).2.1 : Nat)], .int .i64 (execM a b k alg l).2.2] ∧ NewC 46 h.size h' (.slice x n c) (execM a b k alg l).1 ∧ Keep none_ h h' := by
  refine callH_by fun K hK => ?_
  refine enter [.cell 10 34, .tmp 11] Tryz.func16 rfl rfl (by kernel_rfl) rfl ?_
  obtain ⟨a00, c00, rfl, _, _⟩ := hl.val
  have err : ∀ e, execM a b k alg l = ([], 0, e) → ∀ o o', K (.tuple #[.agg #[.slice none 0 0, .int .i64 0], .int .i64 e]) ((Array.push h o).setIfInBounds h.size o') := fun e he o o' => by
    refine hK _ _ ⟨_, _, _, by rw [he]; rfl, by rw [he]; exact ⟨none_, none, .nil _ _ _ _, fun b hb => hb.elim, fun b hb => by cases hb⟩, ?_⟩
    exact ((Keep.refl none_ h).pushed _).setted _ fun hh => absurd hh (Nat.lt_irrefl _)
  refine if hC : alg ≠ 0 ∧ alg ≠ 1 then ?t1 else ?t2
  case' t1 =>
    have h1 : (alg != 0) = true := by simp [hC.1]
    have h2 : (alg != 1) = true := by simp [hC.2]
    simp -dsimp [h1, h2]
    exact err 10 (by unfold execM; rw [if_pos hC]) _ _
  refine if hK3 : k < 3 then ?t3 else ?t4
  case' t3 =>
    have hE : execM a b k alg l = ([], 0, 3) := by unfold execM; rw [if_neg hC, if_pos hK3]
    have h12 : alg = 0 ∨ alg = 1 := by omega
    rcases h12 with rfl | rfl
    · simp -dsimp [hK3]
      exact err 3 hE _ _
    · simp -dsimp [hK3]
      exact err 3 hE _ _
  have hE : execM a b k alg l = (groupC (l.map (narrowC a b)), highE alg k.toNat (lvlN a b) (l.map (narrowC a b)), 0) := by unfold execM; rw [if_neg hC, if_neg hK3]
  obtain ⟨kn, rfl⟩ : ∃ kn : Nat, k = kn := ⟨k.toNat, by omega⟩
  rw [Int.toNat_natCast] at hE
  have hsm : ∀ c ∈ l, CellSmall c := fun c hh => (hc c hh).sml.small hm
  have hcn : ∀ c ∈ l.map (narrowC a b), CellOk m (lvlN a b) c := fun c hh => by
    obtain ⟨d, hd, rfl⟩ := List.mem_map.1 hh
    exact (hc d hd).narrow
  have hsn : ∀ c ∈ l.map (narrowC a b), CellSmall c := fun c hh => (hcn c hh).sml.small hm
  have hnl : (l.map (narrowC a b)).length = l.length := List.length_map ..
  have hpre : Pre (lvlN a b) 0 (l.map (narrowC a b)) := .start (fun c hh => (hcn c hh).len) fun c hh => (hcn c hh).key
  have hlv : lvlN a b < 1000000 := by
    have h1 : lvlN a b ≤ (dimsM a).length := List.length_filter_le ..
    have h2 : (dimsM a).length ≤ (List.range 4).length := List.length_filter_le ..
    rw [List.length_range] at h2
    omega
  have hzz : ∀ o, (Array.push h o).size = h.size + 1 := fun o => by simp
  -- what is ahead of the two ways
  have ahead : CallH Tryz.prog 24 #[.slice a00 l.length c00, .int .i64 a, .int .i64 b] (h.push (.cells #[.slice none 0 0, .int .i64 0] 34)) fun r h2 => r = .func (.func 34) #[] #[.pointer (some ⟨h.size + 1, 0, none⟩), .pointer (some ⟨h.size + 2, 0, none⟩), .pointer (some ⟨h.size + 3, 0, none⟩)] ∧
      h2[h.size]? = some (.cells #[.slice none 0 0, .int .i64 0] 34 (0, 0)) ∧ Keep none_ h h2 ∧ h2.size = h.size + 4 ∧
      CallH Tryz.prog 25 #[r] h2 fun r h3 => NewC 46 h2.size h3 r (l.map (narrowC a b)) ∧ Keep none_ h2 h3 := by
    refine (narrowed_spec _ (by simp) a b _).mono ?_
    rintro _ h2 ⟨rfl, e2⟩
    rw [hzz] at *
    have k2 : Keep none_ h h2 := by rw [e2]; exact ((((Keep.refl none_ h).pushed _).pushed _).pushed _).pushed _
    have hz2 : h2.size = h.size + 4 := by rw [e2]; simp
    have w1 : h2[h.size + 1]? = some (.cells #[.slice a00 l.length c00] 31 (0, 0)) := by rw [e2]; exact push_at (push_at (push_get (by simp)))
    have w2 : h2[h.size + 2]? = some (.cells #[.int .i64 a] 3 (0, 0)) := by rw [e2]; exact push_at (push_get (by simp))
    have w3 : h2[h.size + 3]? = some (.cells #[.int .i64 b] 3 (0, 0)) := by rw [e2]; exact push_get (by simp)
    refine ⟨rfl, by rw [e2]; exact push_at (push_at (push_at (push_new _ _))), k2, hz2, ?_⟩
    have it := narrowed_iter h2.size (Nat.le_refl _) w1 w2 w3 (hl.mono ((Tr.of k2).ft (Nat.le_refl 0))) hln hsm
    rw [← hnl] at it
    refine all_spec (by simp) it ?_ (by omega)
    rintro x (rfl | rfl | rfl | hx)
    · omega
    · omega
    · omega
    · exact hx.2.1
  have fin : ∀ (hi : Nat) (h5 : Heap) (x : Option Addr) (n c : Nat), hi = highE alg kn (lvlN a b) (l.map (narrowC a b)) → NewC 46 (h.size + 1) h5 (.slice x n c) (groupC (l.map (narrowC a b))) → Keep none_ h h5 → h5[h.size]? = some (.cells #[.slice none 0 0, .int .i64 0] 34 (0, 0)) →
      K (.tuple #[.agg #[.slice x n c, .int .i64 (hi : Int)], .int .i64 0]) (h5.setIfInBounds h.size (.cells #[.slice x n c, .int .i64 (hi : Int)] 34)) := by
    rintro hi h5 x n c rfl n5 k5 w5
    refine hK _ _ ⟨_, _, _, by rw [hE], by rw [hE]; exact (n5.keepS (S := fun b => b = h.size) (.set _ _ fun _ => rfl) (by omega)).older (by omega), k5.setted _ fun hh => absurd hh (Nat.lt_irrefl _)⟩
  -- behind what was made
  have clone : ∀ (h4 h5 : Heap) (x : Option Addr) (n c : Nat), NewC 46 (h.size + 1) h4 (.slice x n c) (groupC (l.map (narrowC a b))) → Keep none_ h4 h5 → h.size + 1 ≤ h4.size → h4.size < h5.size →
      CallH Tryz.prog 28 #[.slice x n c] h5 fun r h6 => Keep none_ h5 h6 ∧ ∃ x' n' c', r = .slice x' n' c' ∧ NewCM 46 (h.size + 1) (fun b => b = h4.size) h6 (.slice x' n' c') (groupC (l.map (narrowC a b))) := by
    intro h4 h5 x n c n4 k5 hs4 hs5
    obtain ⟨F, own, g0, hF, ho⟩ := n4
    have lo := g0.own_lt
    have g : Grow rCell 46 F h5 _ _ own := g0.mono (fun b hb => ⟨hb, k5.blk b (hF b hb).2 (fun h => h)⟩) fun b hb => ⟨g0.notF b hb, k5.blk b (lo b hb) (fun h => h)⟩
    have hgl := groupC_le (l.map (narrowC a b))
    refine (cloneCell_spec g (fun b hb => by have := (hF b hb).2; omega) (by omega)).mono ?_
    rintro r h6 ⟨own6, g6, k6, ho6⟩
    obtain ⟨x', c', rfl⟩ := g6.val
    refine ⟨k6, _, _, _, rfl, F, own6, g6, fun b hb => ⟨(hF b hb).1.at (Nat.le_refl _) ((k6.blk b (by have := (hF b hb).2; omega) (fun h => h)).trans (k5.blk b (hF b hb).2 (fun h => h))), by have := (hF b hb).2; have := k6.size; omega, fun e => by have := (hF b hb).2; omega⟩, fun b hb => ⟨by have := ho6 b hb; omega, fun e => by have := ho6 b hb; omega⟩⟩
  have h12 : alg = 0 ∨ alg = 1 := by omega
  have hK3' : ¬ (kn : Int) < 3 := hK3
  rcases h12 with rfl | rfl
  case' t4.inl =>
    simp -dsimp [hK3']
    refine call_by ahead ?_
    rintro _ h2 ⟨rfl, w2, k2, hz2, hall⟩
    simp -dsimp
    refine call_by hall ?_
    rintro v3 h3 ⟨n3, k3⟩
    obtain ⟨a3, m3, c3, rfl⟩ := n3.vals
    have l3 : SlRep rCell (Old h3) h3 (.slice a3 m3 c3) (l.map (narrowC a b)) := n3.rep (Nat.zero_le _)
    simp -dsimp
    refine call_by (bySort_spec l3 (by omega) hsn (by omega) (by omega)) ?_
    rintro _ h4 ⟨x4, nn4, c4, rfl, n4, k4⟩
    obtain ⟨hi, ehi⟩ : ∃ hi, hi = sortHigh kn (l.map (narrowC a b)) := ⟨_, rfl⟩
    rw [← ehi]
    have ehi : hi = highE 0 kn (lvlN a b) (l.map (narrowC a b)) := by unfold highE; rw [if_pos rfl]; exact ehi
  case' t4.inr =>
    have hmin : min (kn : Int) 10000 = ((min kn 10000 : Nat) : Int) := by omega
    simp -dsimp [hK3']
    refine call_by ahead ?_
    rintro _ h2 ⟨rfl, w2, k2, hz2, hall⟩
    simp -dsimp
    refine call_by hall ?_
    rintro v3 h3 ⟨n3, k3⟩
    obtain ⟨a3, m3, c3, rfl⟩ := n3.vals
    have l3 : SlRep rCell (Old h3) h3 (.slice a3 m3 c3) (l.map (narrowC a b)) := n3.rep (Nat.zero_le _)
    simp -dsimp [hmin]
    refine call_by (byHash_spec l3 (by omega) hsn (by omega) (by omega) hpre hlv) ?_
    rintro _ h4 ⟨x4, nn4, c4, rfl, n4, k4⟩
    obtain ⟨hi, ehi⟩ : ∃ hi, hi = highM (min kn 10000) (lvlN a b) 0 (l.map (narrowC a b)) := ⟨_, rfl⟩
    rw [← ehi]
    have ehi : hi = highE 1 kn (lvlN a b) (l.map (narrowC a b)) := by unfold highE; rw [if_neg (by decide)]; exact ehi
  all_goals
    have k24 := k3.trans k4 fun _ _ h => h
    have s4 := k24.size
    have s3 := k3.size
    simp -dsimp
    rw [push_set rfl]
    generalize hB5 : Array.push h4 _ = h5
    have k5 : Keep none_ h4 h5 := by rw [← hB5]; exact .push _ _ _
    have w5 : h5[h4.size]? = some (.cells #[.slice x4 nn4 c4, .int .i64 (hi : Int)] 34 (0, 0)) := by rw [← hB5]; exact push_new _ _
    have s5 : h5.size = h4.size + 1 := by rw [← hB5]; simp
    refine call_by (clone h4 h5 _ _ _ (n4.older (by omega)) k5 (by omega) (by omega)) ?_
    rintro _ h6 ⟨k6, x6, nn6, c6, rfl, n6⟩
    have w6 := k6.at w5 (fun h => h)
    have hl6 := lt_of_blk w6
    have w06 := k6.at (k5.at (k24.at w2 (fun h => h)) (fun h => h)) (fun h => h)
    have hl0 := lt_of_blk w06
    have hne : h4.size ≠ h.size := by omega
    have hs1 : ∀ o o', ((h6.setIfInBounds h4.size o).setIfInBounds h.size o')[h.size]? = some o' := fun o o' => set_same _ (by simpa using hl0)
    simp -dsimp [w6, set_same _ hl6, set_other _ hne, w06, hs1]
    refine fin hi _ x6 nn6 c6 ehi ?_ ?_ ?_
    · exact (n6.mono (Tr.set (M := fun b => b = h4.size) ⟨.refl _ _, fun _ h => .inl h, fun b hb => by rw [hb]; exact hl6⟩ _ rfl)).newC
    · exact ((((k2.trans k24 fun _ _ h => h).trans k5 fun _ _ h => h).trans k6 fun _ _ h => h).setted _ fun hh => by have := k2.size; omega)
    · exact (set_other _ hne).trans w06
end Go.Proofs

/-
  Runs of cells: the document's.
-/
namespace Go.HC
theorem sml_join {m : Nat} (a b : CellM) (ha : Sml m a) (hb : Sml m b) : Sml m (joinC a b) := ha.join hb
end Go.HC
namespace Go.Proofs
open Go Go.HC

set_option maxHeartbeats 4000000 in
set_option maxRecDepth 10000 in
theorem rhas_spec {F G : Nat → Prop} {h : Heap} {v kv : Value} {l : List CellM} {key : List Int} (hl : SlRep rCell F h v l) (hk : SlRep rInt G h kv key) (hn : l.length < 1000000) :
    CallH Tryz.prog 56 #[v, kv] h fun r h' => r = .bool (decide (∃ d ∈ l, d.key = key)) ∧ h' = h := by
  refine callH_by fun K hK => ?_
  refine enter [.tmp 4] Tryz.func56 rfl rfl (by kernel_rfl) rfl ?_
  obtain ⟨a0, c0, rfl, hc0, _⟩ := hl.val
  obtain ⟨a1, c1, rfl, _, _⟩ := hk.val
  simp -dsimp
  refine loopc (σ := Nat) (fun k => [(0, .slice a0 l.length c0), (1, .slice a1 key.length c1), (5, .int .i64 k)])
    (fun k h' => h' = h ∧ k ≤ l.length ∧ ∀ d ∈ l.take k, d.key ≠ key) (fun k => l.length - k) 0 0 (fun k _ => k = l.length) (endR Tryz.prog [.tmp 4] K).rt (fun _ _ _ h => h) (by simp) ⟨rfl, Nat.zero_le _, fun d hd => by simp at hd⟩ (by kernel_rfl) ?_ ?_
  · rintro k h1 g ⟨rfl, hk1, hno⟩
    have wk := wrap_succ (k := k) (by omega)
    by_cases hkl : k < l.length
    · obtain ⟨bl, ol, cs, rfl, _, hrep, hx1⟩ := hl.get k hkl
      obtain ⟨ka, kc, sa, sc, na, nc, xa, xc, rfl, q1, _⟩ := cell_open hrep
      have hx1' : HC.cellsIn h1[bl]? (ol + k * 5) 5 = _ := hx1
      have hk0 : HC.cellIn h1[bl]? (ol + k * 5) = some (.slice ka l[k].key.length kc) := by
        have := cellsIn_cell (d := 0) hx1' (by decide)
        simpa using this
      simp -dsimp [hkl, idxA_nat hkl, hk0]
      refine call_by (rless_spec q1 hk) ?_
      rintro _ h2 ⟨rfl, hh⟩
      obtain rfl := hh.symm
      by_cases h0 : lessM l[k].key key = 0
      · have h0' : (lessM l[k].key key == 0) = true := by simp [h0]
        have hex : (∃ d ∈ l, d.key = key) := ⟨_, List.getElem_mem hkl, lessM_zero.1 h0⟩
        rw [decide_eq_true hex] at hK
        simp -dsimp [h0']
        exact hK _ _ ⟨rfl, rfl⟩
      · have h0' : (lessM l[k].key key == 0) = false := by simp [h0]
        simp -dsimp [h0', wk]
        refine ⟨k + 1, by simp, rfl, ⟨rfl, by omega, fun d hd => ?_⟩, by show l.length - (k + 1) < l.length - k; omega⟩
        rw [take_snoc hkl] at hd
        rcases List.mem_append.1 hd with hd | hd
        · exact hno d hd
        · rw [List.mem_singleton] at hd
          rw [hd]
          exact fun e => h0 (lessM_zero.2 e)
    · simp -dsimp [hkl]
      exact ⟨rfl, k, by simp, rfl, ⟨rfl, hk1, hno⟩, by omega⟩
  · rintro k h1 g ⟨rfl, hk1, hno⟩ rfl
    rw [List.take_length] at hno
    have hex : ¬ (∃ d ∈ l, d.key = key) := fun ⟨d, hd, e⟩ => hno d hd e
    rw [decide_eq_false hex] at hK
    simp -dsimp
    exact hK _ _ ⟨rfl, rfl⟩

set_option maxHeartbeats 8000000 in
set_option maxRecDepth 10000 in
theorem rruns_spec {h : Heap} {v : Value} {l : List CellM} {most m : Nat} (hl : SlRep rCell (Old h) h v l) (hn : l.length < 1000000) (hm : m < 1000000000) (hsm : ∀ d ∈ l, Sml m d) (h0 : 0 < most) :
    CallH Tryz.prog 41 #[v, .int .i64 most] h fun r h' => SlRep (rSlice rCell) (Old h') h' r (runsM most l) ∧ Keep none_ h h' := by
  refine callH_by fun K hK => ?_
  refine enter [.tmp 4] Tryz.func41 rfl rfl (by kernel_rfl) rfl ?_
  obtain ⟨a0, c0, rfl, hc0, hc0'⟩ := hl.val
  simp -dsimp
  refine loopc (σ := Nat × Value × Value) (fun t => [(0, .slice a0 l.length c0), (1, .int .i64 most), (5, t.2.1), (6, t.2.2), (7, .int .i64 t.1)])
    (fun t h1 => t.1 ≤ l.length ∧ ∃ M own n0, Tr none_ M h h1 ∧ Gr (rSlice rCell) 31 0 M h1 t.2.1 (runFold most (l.take t.1)).1 own ∧ SlRep rCell (Ft n0 none_ h1) h1 t.2.2 (runFold most (l.take t.1)).2 ∧ (∀ b, M b → b < n0) ∧ n0 ≤ h1.size)
    (fun t => l.length - t.1) (0, .slice none 0 0, .slice none 0 0) 0 (fun t _ => t.1 = l.length) noRet noRet_le (by simp) ?_ (by kernel_rfl) ?_ ?_
  · exact ⟨Nat.zero_le _, none_, none, 0, .start h, .nil _ _ _ _ _, .nil _ _ _, fun b hb => hb.elim, Nat.zero_le _⟩
  · rintro ⟨k, out, hv⟩ h1 g ⟨hk, M, own, n0, t1, go, gh, hMn, hn0⟩
    simp only at hk go gh
    by_cases hkl : k < l.length
    · have wk := wrap_succ (k := k) (by omega)
      have hrun := runOk most h0 l k hk
      have hrb := runB (p := Sml m) sml_join h0 hsm k hk
      have hstep := run_take (most := most) hkl
      generalize runFold most (l.take k) = st at *
      obtain ⟨outs, held⟩ := st
      simp only at go gh
      have hb3 : outs.length + held.length ≤ k := hrb.len
      have hhm : held.length ≤ most := hrun.hlen
      obtain ⟨bl, ol, cs, e1, _, hrep, hx1⟩ := (hl.mono t1.old).get k hkl
      obtain ⟨ka, kc, sa, sc, na, nc, xa, xc, rfl, q1, _⟩ := cell_open hrep
      have hx1' : HC.cellsIn h1[bl]? (ol + k * 5) 5 = _ := hx1
      have hk0 : HC.cellIn h1[bl]? (ol + k * 5) = some (.slice ka l[k].key.length kc) := by
        have := cellsIn_cell (d := 0) hx1' (by decide)
        simpa using this
      have hF1 : Ft 0 M h1 bl := by
        obtain ⟨_, _, _, e2, hf, _⟩ := (hl.mono t1.old).get k hkl
        rw [e1] at e2; cases e2; exact hf
      obtain ⟨ah, ch, rfl, _, _⟩ := gh.val
      simp -dsimp [hkl, e1, idxA_nat hkl, hk0]
      refine call_by (rhas_spec gh q1 (by show held.length < 1000000; omega)) ?_
      rintro _ h2 ⟨rfl, hh⟩
      obtain rfl := hh.symm
      -- the cell is put to those that are held
      refine if hcl : (∀ d ∈ held, d.key ≠ l[k].key) ∧ most ≤ held.length then ?t1 else ?t2
      case' t1 =>
        have hex : ¬ (∃ d ∈ held, d.key = l[k].key) := fun ⟨d, hd, e⟩ => hcl.1 d hd e
        have hlm : held.length = most := by have := hcl.2; omega
        have hlm' : ((held.length : Int) == (most : Int)) = true := by simp [hlm]
        have hst : runStep most (outs, held) l[k] = (outs ++ [held], [l[k]]) := by
          unfold runStep; rw [if_pos hcl]
        rw [hst] at hstep
        rw [decide_eq_false hex]
        simp -dsimp [hlm']
        have hge : SlRep rCell (Ft 0 M h1) h1 (.slice ah held.length ch) held := gh.mono fun b hb => ⟨⟨nz, hb.2.1, fun hm => by have := hMn b hm; have := hb.1.1; omega⟩, rfl⟩
        refine gr_app1 (x := held) rfl cellsT go t1.lt ⟨_, rfl, hge⟩ rfl (by omega) (by omega) ?_
        intro v5 h5 own5 g5 t5 k5 ho5
        have hx5 : HC.cellsIn h5[bl]? (ol + k * 5) 5 = _ := (congrArg (HC.cellsIn · (ol + k * 5) 5) (k5.blk bl hF1.2.1 (fun e => hF1.2.2 (go.mu _ e)))).trans hx1'
        have u5 := t1.trans t5
        have c5 := rCell.mono hrep (t5.ft (Nat.le_refl 0))
        simp -dsimp [e1, idxA_nat hkl, hx5]
        refine call_by (rput_at (n0 := h5.size) (m := m) (.nil _ _ _) (rCell.mono c5 (Ft.free (Nat.zero_le _))) (by simp) hm (fun d hd => by cases hd) (hsm _ (List.getElem_mem hkl)) (Nat.le_refl _)) ?_
        rintro v6 h6 ⟨r6, k6⟩
        simp -dsimp [wk]
        refine ⟨(k + 1, v5, v6), by simp [e1], rfl, ⟨by omega, _, own5, h5.size, u5.call k6, by rw [hstep]; exact g5.call k6, by rw [hstep]; exact r6, u5.lt, k6.size⟩, by show l.length - (k + 1) < l.length - k; omega⟩
      case' t2 =>
        have hst : runStep most (outs, held) l[k] = (outs, putC held l[k]) := by
          unfold runStep; rw [if_neg hcl]
        rw [hst] at hstep
        have fin : CallH Tryz.prog 32 #[.slice ah held.length ch, .agg [.slice ka l[k].key.length kc, .int .i64 l[k].count, .slice sa l[k].sum.length sc, .slice na l[k].mn.length nc, .slice xa l[k].mx.length xc].toArray] h1 fun r h' => SlRep rCell (Ft n0 none_ h') h' r (putC held l[k]) ∧ Keep none_ h1 h' :=
          rput_at (m := m) gh (rCell.mono hrep (Ft.free (Nat.zero_le _))) (by omega) hm (fun d hd => hrb.held d hd) (hsm _ (List.getElem_mem hkl)) hn0
        refine if hex : ∃ d ∈ held, d.key = l[k].key then ?t3 else ?t4
        case' t3 =>
          rw [decide_eq_true hex]
          simp -dsimp
        case' t4 =>
          have hlm' : ((held.length : Int) == (most : Int)) = false := by
            have : ¬ most ≤ held.length := fun h => hcl ⟨fun d hd e => hex ⟨d, hd, e⟩, h⟩
            simp; omega
          rw [decide_eq_false hex]
          simp -dsimp [hlm']
        all_goals
          simp -dsimp [e1, idxA_nat hkl, hx1']
          refine call_by fin ?_
          rintro v6 h6 ⟨r6, k6⟩
          simp -dsimp [wk]
          refine ⟨(k + 1, out, v6), by simp [e1], rfl, ⟨by omega, M, own, n0, t1.call k6, by rw [hstep]; exact go.call k6, by rw [hstep]; exact r6, hMn, Nat.le_trans hn0 k6.size⟩, by show l.length - (k + 1) < l.length - k; omega⟩
    · simp -dsimp [hkl]
      exact ⟨rfl, (k, out, hv), by simp, rfl, ⟨hk, M, own, n0, t1, go, gh, hMn, hn0⟩, by show k = l.length; omega⟩
  · rintro ⟨k, out, hv⟩ h1 g ⟨hk, M, own, n0, t1, go, gh, hMn, hn0⟩ hkl
    simp only at hk go gh hkl
    subst hkl
    have hrb := runB (p := Sml m) sml_join h0 hsm l.length (Nat.le_refl _)
    have hR : runsM most l = (runFold most l).1 ++ (if 0 < (runFold most l).2.length then [(runFold most l).2] else []) := rfl
    rw [List.take_length] at go gh hrb
    generalize runFold most l = st at *
    obtain ⟨outs, held⟩ := st
    simp only at go gh
    have hR : runsM most l = outs ++ (if 0 < held.length then [held] else []) := hR
    have hb3 : outs.length + held.length ≤ l.length := hrb.len
    obtain ⟨ah, ch, rfl, _, _⟩ := gh.val
    by_cases hv : 0 < held.length
    · rw [if_pos hv] at hR
      simp -dsimp [hv]
      have hge : SlRep rCell (Ft 0 M h1) h1 (.slice ah held.length ch) held := gh.mono fun b hb => ⟨⟨nz, hb.2.1, fun hm => by have := hMn b hm; have := hb.1.1; omega⟩, rfl⟩
      refine gr_app1 (x := held) rfl cellsT go t1.lt ⟨_, rfl, hge⟩ rfl (by omega) (by omega) ?_
      intro v5 h5 own5 g5 t5 k5 ho5
      simp -dsimp
      exact hK _ _ ⟨by rw [hR]; exact g5.rep (Nat.le_refl 0) (fun _ _ => Nat.zero_le _), (t1.trans t5).keep⟩
    · rw [if_neg hv, List.append_nil] at hR
      simp -dsimp [hv]
      exact hK _ _ ⟨by rw [hR]; exact go.rep (Nat.le_refl 0) (fun _ _ => Nat.zero_le _), t1.keep⟩
end Go.Proofs

/-
  Rows of rising cells made one: the document's.
-/
namespace Go.Proofs
open Go Go.HC

set_option maxHeartbeats 8000000 in
set_option maxRecDepth 10000 in
theorem rtwo_spec {h : Heap} {av bv : Value} {x y : List CellM} {m : Nat} (ha : SlRep rCell (Old h) h av x) (hb : SlRep rCell (Old h) h bv y) (hxn : x.length < 1000000) (hyn : y.length < 1000000) (hm : m < 1000000000) (sx : ∀ d ∈ x, Sml m d) (sy : ∀ d ∈ y, Sml m d) :
    CallH Tryz.prog 57 #[av, bv] h fun r h' => SlRep rCell (Ft h.size none_ h') h' r (twoM x y) ∧ Keep none_ h h' := by
  refine callH_by fun K hK => ?_
  refine enter [.tmp 4] Tryz.func57 rfl rfl (by kernel_rfl) rfl ?_
  obtain ⟨a0, c0, rfl, _, _⟩ := ha.val
  obtain ⟨a1, c1, rfl, _, _⟩ := hb.val
  have htl := two_len x y
  simp -dsimp
  refine loopc (σ := Nat × Nat × Value) (fun t => [(0, .slice a0 x.length c0), (1, .slice a1 y.length c1), (5, t.2.2), (6, .int .i64 t.1), (7, .int .i64 t.2.1)])
    (fun t h1 => t.1 ≤ x.length ∧ t.2.1 ≤ y.length ∧ ∃ M out own, Tr none_ M h h1 ∧ twoM x y = out ++ twoM (x.drop t.1) (y.drop t.2.1) ∧ Gr rCell 46 h.size M h1 t.2.2 out own)
    (fun t => (x.length - t.1) + (y.length - t.2.1)) (0, 0, .slice none 0 0) 0 (fun t _ => t.1 = x.length ∧ t.2.1 = y.length) noRet noRet_le (by simp) ⟨Nat.zero_le _, Nat.zero_le _, none_, [], none, .start h, by simp, .nil _ _ _ _ _⟩ (by kernel_rfl) ?_ ?_
  · rintro ⟨i, j, v⟩ h1 g ⟨hi, hj, M, out, own, t1, he, g1⟩
    simp only at hi hj he g1
    have wi := wrap_succ (k := i) (by omega)
    have wj := wrap_succ (k := j) (by omega)
    have hol : out.length ≤ x.length + y.length := by
      have := congrArg List.length he
      rw [List.length_append] at this
      omega
    have ha1 := ha.mono t1.old
    have hb1 := hb.mono t1.old
    have s1 := t1.size
    obtain ⟨va, vn, vc, rfl, hvn⟩ := g1.vals
    -- one of the first
    refine if hix : i < x.length then ?ax else ?bx
    case' ax =>
      obtain ⟨b1, o1, cs1, e1, _, rx, hx1⟩ := ha1.get i hix
      obtain ⟨ka, kc, sa, sc, na, nc, xa, xc, rfl, q1, _⟩ := cell_open rx
      have hx1' : HC.cellsIn h1[b1]? (o1 + i * 5) 5 = _ := hx1
      have hkx : HC.cellIn h1[b1]? (o1 + i * 5) = some (.slice ka x[i].key.length kc) := by
        have := cellsIn_cell (d := 0) hx1' (by decide)
        simpa using this
      have hne : ((i : Int) == (x.length : Int)) = false := by simp; omega
      have hdx := drop_cons hix
      refine if hjy : j < y.length then ?cc else ?dd
    case' bx =>
      have hii : i = x.length := by omega
      have hie : ((i : Int) == (x.length : Int)) = true := by simp [hii]
      refine if hjy : j < y.length then ?b1 else ?b2
    case' b2 =>
      have hjj : j = y.length := by omega
      simp -dsimp [hix, hjy]
      exact ⟨rfl, (i, j, _), by simp, rfl, ⟨hi, hj, M, out, own, t1, he, g1⟩, hii, hjj⟩
    case' cc | b1 =>
      obtain ⟨b2, o2, cs2, e2, _, ry, hy1⟩ := hb1.get j hjy
      obtain ⟨kb, kbc, sb, sbc, nb, nbc, xb, xbc, rfl, q2, _⟩ := cell_open ry
      have hy1' : HC.cellsIn h1[b2]? (o2 + j * 5) 5 = _ := hy1
      have hky : HC.cellIn h1[b2]? (o2 + j * 5) = some (.slice kb y[j].key.length kbc) := by
        have := cellsIn_cell (d := 0) hy1' (by decide)
        simpa using this
      have hnj : ((j : Int) == (y.length : Int)) = false := by simp; omega
      have hdy := drop_cons hjy
    case' cc =>
      simp -dsimp [hix, hne, hnj]
      refine drawn_by [⟨0, true, []⟩, ⟨1, true, []⟩, ⟨2, true, []⟩, ⟨3, true, []⟩, ⟨4, true, []⟩, ⟨5, true, []⟩, ⟨6, true, []⟩, ⟨7, true, []⟩, ⟨8, true, []⟩, ⟨9, true, []⟩, ⟨10, false, []⟩, ⟨11, true, []⟩] (by kernel_rfl) (by kernel_rfl) ?_
      simp -dsimp [e1, e2, idxV_nat hix, idxV_nat hjy, elSz_eq, hkx, hky]
      refine call_by (rless_spec q1 q2) ?_
      rintro _ h2 ⟨rfl, hh⟩
      subst h2
      refine if hlt : lessM x[i].key y[j].key < 0 then ?lt else ?ge
      case' lt =>
        have htw : twoM (x.drop i) (y.drop j) = x[i] :: twoM (x.drop (i + 1)) (y.drop j) := by rw [hdx, hdy, two_lt hlt]
        simp -dsimp [hlt]
      case' ge =>
        refine if hgt : 0 < lessM x[i].key y[j].key then ?gt else ?eq
        case' gt =>
          have htw : twoM (x.drop i) (y.drop j) = y[j] :: twoM (x.drop i) (y.drop (j + 1)) := by rw [hdx, hdy, two_gt hgt]
          simp -dsimp [hlt, hgt]
        case' eq =>
          have h0 : lessM x[i].key y[j].key = 0 := by omega
          have htw : twoM (x.drop i) (y.drop j) = joinC x[i] y[j] :: twoM (x.drop (i + 1)) (y.drop (j + 1)) := by rw [hdx, hdy, two_eq h0]
          simp -dsimp [hlt, hgt]
    case' dd =>
      have hjj : j = y.length := by omega
      have hnj : ((j : Int) == (y.length : Int)) = true := by simp [hjj]
      have htw : twoM (x.drop i) (y.drop j) = x[i] :: twoM (x.drop (i + 1)) (y.drop j) := by
        rw [hjj, List.drop_length, two_nil, two_nil, hdx]
      simp -dsimp [hix, hne, hnj]
    case' b1 =>
      have htw : twoM (x.drop i) (y.drop j) = y[j] :: twoM (x.drop i) (y.drop (j + 1)) := by
        rw [hii, List.drop_length, two_nil', two_nil', hdy]
      simp -dsimp [hix, hjy, hie]
    case' lt | dd =>
      simp -dsimp [e1, idxA_nat hix, hx1']
      refine call_by (rcopy_new (rCell.mono rx (Ft.free (Nat.zero_le _))) ((sx _ (List.getElem_mem hix)).small hm)) ?_
      rintro _ h3 ⟨ds, rfl, rd, k3⟩
      obtain ⟨kd, kdc, sd, sdc, nd, ndc, xd, xdc, rfl, _⟩ := cell_open rd
      simp -dsimp
      refine gr_app1 (x := x[i]) rfl cellT (g1.call k3) (t1.call k3).lt (rCell.mono rd (t1.ret s1)) rfl (by omega) (by omega) ?_
      intro v5 h5 own5 g5 t5 k5 ho5
      simp -dsimp [wi]
      exact ⟨(i + 1, j, v5), by first | simp [e1, e2] | simp [e1], rfl, ⟨by show i + 1 ≤ x.length; omega, hj, _, out ++ [x[i]], own5, (t1.call k3).trans t5, by rw [he, htw, List.append_assoc]; rfl, g5⟩, by show (x.length - (i + 1)) + (y.length - j) < (x.length - i) + (y.length - j); omega⟩
    case' gt | b1 =>
      simp -dsimp [e2, idxA_nat hjy, hy1']
      refine call_by (rcopy_new (rCell.mono ry (Ft.free (Nat.zero_le _))) ((sy _ (List.getElem_mem hjy)).small hm)) ?_
      rintro _ h3 ⟨ds, rfl, rd, k3⟩
      obtain ⟨kd, kdc, sd, sdc, nd, ndc, xd, xdc, rfl, _⟩ := cell_open rd
      simp -dsimp
      refine gr_app1 (x := y[j]) rfl cellT (g1.call k3) (t1.call k3).lt (rCell.mono rd (t1.ret s1)) rfl (by omega) (by omega) ?_
      intro v5 h5 own5 g5 t5 k5 ho5
      simp -dsimp [wj]
      exact ⟨(i, j + 1, v5), by first | simp [e1, e2] | simp [e2], rfl, ⟨hi, by show j + 1 ≤ y.length; omega, _, out ++ [y[j]], own5, (t1.call k3).trans t5, by rw [he, htw, List.append_assoc]; rfl, g5⟩, by show (x.length - i) + (y.length - (j + 1)) < (x.length - i) + (y.length - j); omega⟩
    refine drawn_by [⟨0, true, []⟩, ⟨1, true, []⟩, ⟨2, true, []⟩, ⟨3, true, []⟩, ⟨4, true, []⟩, ⟨5, true, []⟩, ⟨6, true, []⟩, ⟨7, true, []⟩, ⟨8, true, []⟩, ⟨9, false, [0]⟩, ⟨10, false, [0]⟩, ⟨11, false, []⟩, ⟨12, true, []⟩] (by kernel_rfl) (by kernel_rfl) ?_
    simp -dsimp [e1, e2, idxV_nat hix, idxV_nat hjy, elSz_eq, hx1', hy1']
    refine call_by (rjoin_spec (rCell.mono rx (Ft.free (Nat.zero_le _))) ((sx _ (List.getElem_mem hix)).small hm) (sx _ (List.getElem_mem hix)) (rCell.mono ry (Ft.free (Nat.zero_le _))) (sy _ (List.getElem_mem hjy))) ?_
    rintro _ h3 ⟨ds, rfl, rd, k3⟩
    obtain ⟨kd, kdc, sd, sdc, nd, ndc, xd, xdc, rfl, _⟩ := cell_open rd
    simp -dsimp [again_cons]
    refine gr_app1 (x := joinC x[i] y[j]) rfl cellT (g1.call k3) (t1.call k3).lt (rCell.mono rd (t1.ret s1)) rfl (by omega) (by omega) ?_
    intro v5 h5 own5 g5 t5 k5 ho5
    simp -dsimp [wi, wj]
    exact ⟨(i + 1, j + 1, v5), by simp [e1, e2], rfl, ⟨by show i + 1 ≤ x.length; omega, by show j + 1 ≤ y.length; omega, _, out ++ [joinC x[i] y[j]], own5, (t1.call k3).trans t5, by rw [he, htw, List.append_assoc]; rfl, g5⟩, by show (x.length - (i + 1)) + (y.length - (j + 1)) < (x.length - i) + (y.length - j); omega⟩
  · rintro ⟨i, j, v⟩ h1 g ⟨hi, hj, M, out, own, t1, he, g1⟩ ⟨hi', hj'⟩
    simp only at hi' hj' he g1
    subst hi' hj'
    rw [List.drop_length, List.drop_length, two_nil', List.append_nil] at he
    rw [← he] at g1
    obtain ⟨va, vn, vc, rfl, hvn⟩ := g1.vals
    simp -dsimp
    exact hK _ _ ⟨g1.rep (Nat.le_refl _) (fun b hb => t1.fresh b (g1.mu b hb)), t1.keep⟩

set_option maxHeartbeats 8000000 in
set_option maxRecDepth 10000 in
theorem rmerge_spec {h : Heap} {v : Value} {ls0 : List (List CellM)} {n m : Nat} (hl : SlRep (rSlice rCell) (Old h) h v ls0) (hm : m < 1000000000) (hs : ∀ r ∈ ls0, Srt r) (hsm : ∀ r ∈ ls0, ∀ d ∈ r, Sml m d) (hn : ls0.flatten.length < 1000000) (hln : ls0.length < 1000000) (h2' : 2 ≤ n) (hn' : n < 9223372036854775807) :
    CallH Tryz.prog 42 #[v, .int .i64 n] h fun r h' => ∃ rv p, r = .tuple #[rv, .int .i64 p] ∧ SlRep rCell (Ft h.size none_ h') h' rv (groupC ls0.flatten) ∧ Keep none_ h h' := by
  refine callH_by fun K hK => ?_
  refine enter [.tmp 4, .tmp 5] Tryz.func42 rfl rfl (by kernel_rfl) rfl ?_
  simp -dsimp
  refine loopc (σ := Int × Value × List (List CellM)) (fun t => [(0, t.2.1), (1, .int .i64 n), (6, .int .i64 t.1)])
    (fun t h1 => Keep none_ h h1 ∧ SlRep (rSlice rCell) (Old h1) h1 t.2.1 t.2.2 ∧ (∀ r ∈ t.2.2, Srt r) ∧ (∀ r ∈ t.2.2, ∀ d ∈ r, Sml m d) ∧ groupC t.2.2.flatten = groupC ls0.flatten ∧ t.2.2.flatten.length < 1000000 ∧ t.2.2.length < 1000000)
    (fun t => t.2.2.length) (0, v, ls0) 0 (fun t _ => ¬ 1 < t.2.2.length) noRet noRet_le (by simp) ⟨.refl _ _, hl, hs, hsm, rfl, hn, hln⟩ (by kernel_rfl) ?_ ?_
  · rintro ⟨p, rv, ls⟩ h1 g ⟨k1, hr, hs1, hsm1, hg1, hf1, hl1⟩
    simp only at hr hs1 hsm1 hg1 hf1 hl1
    obtain ⟨a1, c1, rfl, _, _⟩ := hr.val
    have s1 := k1.size
    have hflm : ∀ r ∈ ls, r.length < 1000000 := fun r hr => by have := flat_len_mem hr; omega
    by_cases hlen : 1 < ls.length
    · have hlen' : (1 : Int) < (ls.length : Int) := by omega
      simp -dsimp [hlen']
      refine loopc (σ := Nat × Value) (fun t => [(0, .slice a1 ls.length c1), (1, .int .i64 n), (6, .int .i64 p), (7, t.2), (8, .int .i64 (t.1 * n : Nat))])
        (fun t h2 => (t.1 = 0 ∨ (t.1 - 1) * n < ls.length) ∧ ∃ M own, Tr none_ M h1 h2 ∧ Gr (rSlice rCell) 31 0 M h2 t.2 (outsM n ls t.1) own)
        (fun t => ls.length - t.1 * n) (0, .slice none 0 0) 2 (fun t _ => ls.length ≤ t.1 * n) noRet noRet_le (by simp) ⟨.inl rfl, none_, none, .start h1, .nil _ _ _ _ _⟩ (by kernel_rfl) ?_ ?_
      · rintro ⟨k, nv⟩ h2 g ⟨hk, M, own, t2, g2⟩
        simp only at hk g2
        obtain ⟨q, eq⟩ : ∃ q, q = k * n := ⟨_, rfl⟩
        have hsucc : (k + 1) * n = q + n := by rw [eq, Nat.add_mul, Nat.one_mul]
        have hol := outs_len (n := n) (ls := ls) k
        rw [← eq]
        by_cases hkl : q < ls.length
        · have hnq : k = 0 ∧ q = 0 ∨ n ≤ q := by
            rcases Nat.eq_zero_or_pos k with rfl | hp
            · exact .inl ⟨rfl, by rw [eq]; omega⟩
            · refine .inr ?_
              rw [eq]
              exact Nat.le_mul_of_pos_left n hp
          have hkq : k ≤ q := by rw [eq]; exact Nat.le_mul_of_pos_right _ (by omega)
          have wn : IntKind.i64.wrap ((q : Int) + (n : Int)) = (q : Int) + (n : Int) := wrap_i64 (by omega) (by omega)
          have wq := wrap_succ (k := q) (by omega)
          obtain ⟨b1, o1, w, e1, hF1, hx1, hrep⟩ := (hr.mono t2.old).row_at q hkl
          obtain ⟨aw, cw, rfl, _, _⟩ := hrep.val
          have hmem : ls[q] ∈ ls := List.getElem_mem hkl
          have hone : groupC ((ls.drop q).take 1).flatten = ls[q] := by
            rw [drop_cons hkl]
            simp only [List.take_succ_cons, List.take_zero, List.flatten_cons, List.flatten_nil, List.append_nil]
            exact group_id (hs1 _ hmem)
          simp -dsimp [hkl, e1, idxA_nat hkl, hx1, wq]
          refine loopc (σ := Nat × Value) (fun t => [(0, .slice (some ⟨b1, o1, none⟩) ls.length c1), (1, .int .i64 n), (6, .int .i64 p), (7, nv), (8, .int .i64 q), (9, t.2), (10, .int .i64 ((q : Int) + (t.1 : Int)))])
            (fun t h3 => 1 ≤ t.1 ∧ t.1 ≤ n ∧ q + t.1 ≤ ls.length ∧ Keep none_ h2 h3 ∧ SlRep rCell (Ft 0 M h3) h3 t.2 (groupC ((ls.drop q).take t.1).flatten)) (fun t => ls.length - (q + t.1)) (1, .slice aw ls[q].length cw) 4 (fun t _ => t.1 = n ∨ q + t.1 = ls.length) noRet noRet_le (by simp) ⟨Nat.le_refl _, by omega, by omega, .refl _ _, by rw [hone]; exact hrep⟩ (by kernel_rfl) ?_ ?_
          · rintro ⟨i, ov⟩ h3 g ⟨hi1, hin, hil, k3, r3⟩
            simp only at hi1 hin hil r3
            have hd1 : (i : Int) < (n : Int) ↔ i < n := by omega
            obtain ⟨ao, co, rfl, _, _⟩ := r3.val
            have t23 := t2.call k3
            by_cases hc1 : i < n
            · by_cases hc2 : q + i < ls.length
              · have hq1 : (q : Int) + (i : Int) < (q : Int) + (n : Int) := by omega
                have hq2 : (q : Int) + (i : Int) < (ls.length : Int) := by omega
                obtain ⟨b2, o2, w2, e2, hF2, hx2, hrep2⟩ := (hr.mono t23.old).row_at (q + i) hc2
                replace e2 := e1.symm.trans e2
                cases e2
                have wqi : IntKind.i64.wrap ((q : Int) + (i : Int) + 1) = (q : Int) + ((i + 1 : Nat) : Int) := by rw [wrap_i64 (by omega) (by omega)]; omega
                have hcast : (q : Int) + (i : Int) = ((q + i : Nat) : Int) := by omega
                have hidx : ∀ (K : Value → Heap → Prop) (h : Heap), indexAddrS Tryz.prog 63 (.slice (some ⟨b1, o1, none⟩) ls.length c1) (.int .i64 ((q : Int) + (i : Int))) h K = optS ((elS Tryz.prog 63).bind (szS Tryz.prog)) (fun s => K (.pointer (some ⟨b1, o1 + (q + i) * s, none⟩)) h) := fun K h => by
                  rw [hcast]; exact idxA_nat hc2
                obtain ⟨a2, c2, rfl, _, _⟩ := hrep2.val
                have hmem2 : ls[q + i] ∈ ls := List.getElem_mem hc2
                have hck := chunk_le (ls := ls) q i
                have hgl := groupC_le ((ls.drop q).take i).flatten
                have hsmt : ∀ d ∈ groupC ((ls.drop q).take i).flatten, Sml m d := group_all sml_join fun d hd => by
                  obtain ⟨r, hr, hdr⟩ := List.mem_flatten.1 hd
                  exact hsm1 r (List.mem_of_mem_drop (List.mem_of_mem_take hr)) d hdr
                simp -dsimp [wn, hq1, hq2, hidx, hx2]
                refine call_by (rtwo_spec (m := m) (r3.mono (Ft.free (Nat.zero_le _))) (hrep2.mono (Ft.free (Nat.zero_le _))) (by omega) (hflm _ hmem2) hm hsmt (hsm1 _ hmem2)) ?_
                rintro v4 h4 ⟨r4, k4⟩
                have hii : i < (ls.drop q).length := by rw [List.length_drop]; omega
                have hgi : (ls.drop q)[i] = ls[q + i] := List.getElem_drop ..
                have e6 : twoM (groupC ((ls.drop q).take i).flatten) ls[q + i] = groupC ((ls.drop q).take (i + 1)).flatten := by
                  rw [two_group (grp_group _).srt (hs1 _ hmem2), group_left, flatten_take hii, hgi]
                rw [e6] at r4
                simp -dsimp [wqi]
                exact ⟨(i + 1, v4), by simp, rfl, ⟨by show 1 ≤ i + 1; omega, by show i + 1 ≤ n; omega, by show q + (i + 1) ≤ ls.length; omega, k3.trans k4 fun _ _ h => h, r4.mono (t23.ret (Nat.zero_le _))⟩, by show ls.length - (q + (i + 1)) < ls.length - (q + i); omega⟩
              · have hq1 : (q : Int) + (i : Int) < (q : Int) + (n : Int) := by omega
                have hq2 : ¬ (q : Int) + (i : Int) < (ls.length : Int) := by omega
                simp -dsimp [wn, hq1, hq2]
                exact ⟨rfl, (i, _), by simp, rfl, ⟨hi1, hin, hil, k3, r3⟩, .inr (by show q + i = ls.length; omega)⟩
            · have hq1 : ¬ (q : Int) + (i : Int) < (q : Int) + (n : Int) := by omega
              simp -dsimp [wn, hq1]
              exact ⟨rfl, (i, _), by simp, rfl, ⟨hi1, hin, hil, k3, r3⟩, .inl (by show i = n; omega)⟩
          · rintro ⟨i, ov⟩ h3 g ⟨hi1, hin, hil, k3, r3⟩ hQ
            simp only at hi1 hin hil r3 hQ
            have hcke : (ls.drop q).take i = (ls.drop q).take n := by
              rcases hQ with h | h
              · rw [h]
              · rw [List.take_of_length_le (by rw [List.length_drop]; omega), List.take_of_length_le (by rw [List.length_drop]; omega)]
            rw [hcke] at r3
            obtain ⟨ao, co, rfl, _, _⟩ := r3.val
            simp -dsimp
            refine gr_app1 (x := groupC ((ls.drop q).take n).flatten) rfl cellsT (g2.call k3) (t2.call k3).lt ⟨_, rfl, r3⟩ rfl (by omega) (by omega) ?_
            intro v5 h5 own5 g5 t5 k5 ho5
            simp -dsimp [wn]
            exact ⟨(k + 1, v5), by simp [e1, hsucc], rfl, ⟨.inr (by show (k + 1 - 1) * n < ls.length; rw [Nat.add_sub_cancel, ← eq]; exact hkl), _, own5, (t2.call k3).trans t5, by show Gr (rSlice rCell) _ 0 _ h5 v5 (outsM n ls (k + 1)) own5; rw [outs_snoc, ← eq]; exact g5⟩, by show ls.length - (k + 1) * n < ls.length - k * n; omega⟩
        · simp -dsimp [hkl]
          exact ⟨rfl, (k, nv), by simp [eq], rfl, ⟨hk, M, own, t2, g2⟩, by show ls.length ≤ k * n; omega⟩
      · rintro ⟨k, nv⟩ h2 g ⟨hk, M, own, t2, g2⟩ hdone
        simp only at hk g2 hdone
        have hcnt := chunk_count h2' hlen hk hdone
        have htk : ls.take (k * n) = ls := List.take_of_length_le hdone
        have hfl := outs_flat (n := n) (ls := ls) k
        have hle := outs_le (n := n) (ls := ls) k
        rw [htk] at hfl hle
        obtain ⟨va, vn, vc, rfl, hvn⟩ := g2.vals
        simp -dsimp
        refine ⟨(IntKind.i64.wrap (p + 1), .slice va vn vc, outsM n ls k), by simp, rfl, ⟨k1.trans t2.keep fun _ _ h => h, g2.rep (Nat.le_refl 0) (fun _ _ => Nat.zero_le _), ?_, ?_, hfl.trans hg1, by show (outsM n ls k).flatten.length < 1000000; omega, by show (outsM n ls k).length < 1000000; rw [outs_len]; omega⟩, by show (outsM n ls k).length < ls.length; rw [outs_len]; exact hcnt⟩
        · intro r hr
          obtain ⟨i, rfl⟩ := outs_mem hr
          exact (grp_group _).srt
        · intro r hr
          obtain ⟨i, rfl⟩ := outs_mem hr
          refine group_all sml_join fun d hd => ?_
          obtain ⟨r, hr, hdr⟩ := List.mem_flatten.1 hd
          exact hsm1 r (List.mem_of_mem_drop (List.mem_of_mem_take hr)) d hdr
    · have hlen' : ¬ (1 : Int) < (ls.length : Int) := by omega
      simp -dsimp [hlen']
      exact ⟨rfl, (p, .slice a1 ls.length c1, ls), by simp, rfl, ⟨k1, hr, hs1, hsm1, hg1, hf1, hl1⟩, hlen⟩
  · rintro ⟨p, rv, ls⟩ h1 g ⟨k1, hr, hs1, hsm1, hg1, hf1, hl1⟩ hlen
    simp only at hr hs1 hsm1 hg1 hf1 hl1 hlen
    obtain ⟨a1, c1, rfl, _, _⟩ := hr.val
    by_cases h0 : ls.length = 0
    · have h0' : ((ls.length : Int) == 0) = true := by simp [h0]
      simp -dsimp [h0']
      have e0 : groupC ls0.flatten = [] := by
        rw [← hg1, List.eq_nil_of_length_eq_zero h0]; rfl
      exact hK _ _ ⟨_, _, rfl, by rw [e0]; exact .nil _ _ _, k1⟩
    · have h0' : ((ls.length : Int) == 0) = false := by simp [h0]
      have hlp : 0 < ls.length := by omega
      obtain ⟨b1, o1, w, e1, hF1, hx1, hrep⟩ := hr.row_at 0 hlp
      obtain ⟨aw, cw, rfl, _, _⟩ := hrep.val
      have hx1' : HC.cellIn h1[b1]? o1 = _ := hx1
      have hmem : ls[0] ∈ ls := List.getElem_mem hlp
      simp -dsimp [h0', e1, idxA_zero hlp, hx1']
      refine call_by (rtwo_spec (m := m) (y := []) hrep (.nil _ _ _) (by have := flat_len_mem hmem; omega) (by simp) hm (hsm1 _ hmem) (fun d hd => by cases hd)) ?_
      rintro v2 h2 ⟨r2, k2⟩
      rw [two_nil] at r2
      have hl1' : ls = [ls[0]] := by
        match ls, hlp, hlen with
        | [r], _, _ => rfl
        | a :: b :: _, _, h => simp at h
      have hg0 : groupC ls0.flatten = ls[0] := by
        have hfl0 : ls.flatten = ls[0] := (congrArg List.flatten hl1').trans (by simp)
        rw [← hg1, hfl0]
        exact group_id (hs1 _ hmem)
      simp -dsimp
      exact hK _ _ ⟨_, _, rfl, by rw [hg0]; exact r2.mono (Ft.free k1.size), k1.trans k2 fun _ _ h => h⟩
end Go.Proofs

/-
  Plans carried out: the document's.
-/
namespace Go.HC
theorem runs_all {p : CellM → Prop} (most : Nat) (h0 : 0 < most) (hj : ∀ a b, p a → p b → p (joinC a b)) {l : List CellM} (hsm : ∀ d ∈ l, p d) : ∀ r ∈ runsM most l, ∀ d ∈ r, p d := by
  have h := runB hj h0 hsm l.length (Nat.le_refl _)
  rw [List.take_length] at h
  unfold runsM
  generalize runFold most l = st at *
  obtain ⟨out, held⟩ := st
  obtain ⟨h1, h2, h3, h4⟩ := h
  simp only at h1 h2 h3 h4 ⊢
  intro r hr
  rcases List.mem_append.1 hr with h | h
  · exact h1 r h
  · split at h
    · rw [List.mem_singleton] at h; subst h; exact h2
    · cases h
end Go.HC
namespace Go.Proofs
open Go Go.HC

set_option maxHeartbeats 8000000 in
set_option maxRecDepth 10000 in
theorem rsorted_spec {h : Heap} {v : Value} {l : List CellM} {k m : Nat} (hl : SlRep rCell (Old h) h v l) (hln : l.length < 1000000) (hm : m < 1000000000) (hsm : ∀ d ∈ l, Sml m d) (hk : 3 ≤ k) (hk' : k < 9223372036854775808) :
    CallH Tryz.prog 30 #[v, .int .i64 k] h fun r h' => ∃ a n c, r = .agg #[.slice a n c, .int .i64 (sortHigh k l : Nat)] ∧ SlRep rCell (Ft h.size none_ h') h' (.slice a n c) (groupC l) ∧ Keep none_ h h' := by
  refine callH_by fun K hK => ?_
  refine enter [.cell 4 38] Tryz.func30 rfl rfl (by kernel_rfl) rfl ?_
  obtain ⟨a00, c00, rfl, _, _⟩ := hl.val
  simp -dsimp
  generalize hB : Array.push h _ = h0
  have k0 : Keep none_ h h0 := by rw [← hB]; exact .push _ _ _
  have hz0 : h0.size = h.size + 1 := by rw [← hB]; simp
  have w4 : h0[h.size]? = some (.cells #[.slice none 0 0, .int .i64 0] 38 (0, 0)) := by rw [← hB]; exact push_new _ _
  refine call_by (rruns_spec (hl.mono ((Tr.of k0).ft (Nat.le_refl 0))) hln hm hsm (show 0 < k by omega)) ?_
  rintro rv h1 ⟨r1, k1⟩
  have hro := runs_ok (show 0 < k by omega) l
  have hsc : ∀ d ∈ l, CellSmall d := fun d hd => (hsm d hd).small hm
  have hrs := (runs_all (p := Sml m) k (by omega) sml_join hsm)
  have hrf := runs_flat k l
  have hrc := flat_count fun r hr => (hro.len r hr).1
  have hsh : sortHigh k l = if 1 < (runsM k l).length then max (mostM ((runsM k l).map (·.length))) (min (k - 1) (runsM k l).length + 1) else mostM ((runsM k l).map (·.length)) := rfl
  have hgr := hro.grp
  generalize runsM k l = rs at *
  obtain ⟨ra, rc, rfl, _, _⟩ := r1.val
  have s1 := k1.size
  have w1 : IntKind.i64.wrap ((k : Int) - 1) = ((k - 1 : Nat) : Int) := by rw [wrap_i64 (by omega) (by omega)]; omega
  obtain ⟨mm, hmm⟩ : ∃ mm : Nat → Nat, ∀ i, mm i = mostM ((rs.take i).map (·.length)) := ⟨_, fun _ => rfl⟩
  have hmm0 : mm 0 = 0 := by rw [hmm]; rfl
  have w41 := k1.at w4 (fun h => h)
  simp -dsimp
  refine loopc (σ := Nat) (fun i => [(1, .int .i64 k), (4, .pointer (some ⟨h.size, 0, none⟩)), (5, .slice ra rs.length rc), (6, .int .i64 (mm i : Int)), (7, .int .i64 i)])
    (fun i h5 => h5 = h1 ∧ i ≤ rs.length) (fun i => rs.length - i) 0 0 (fun i _ => i = rs.length) noRet noRet_le (by simp [hmm0]) ⟨rfl, Nat.zero_le _⟩ (by kernel_rfl) ?_ ?_
  · rintro i h5 g ⟨rfl, hi⟩
    have wk := wrap_succ (k := i) (by omega)
    by_cases hil : i < rs.length
    · obtain ⟨bl, ol, w, e1, _, hx1, hrep⟩ := r1.row_at i hil
      obtain ⟨aw, cw, rfl, _, _⟩ := hrep.val
      have hmt := most_take (fun r : List CellM => r.length) hil
      have hmx : max (mm i : Int) (rs[i].length : Int) = (mm (i + 1) : Int) := by rw [hmm, hmm, hmt]; omega
      simp -dsimp [hil, e1, idxA_nat hil, hx1, wk, hmx]
      exact ⟨i + 1, by simp [e1], rfl, ⟨rfl, by omega⟩, by show rs.length - (i + 1) < rs.length - i; omega⟩
    · simp -dsimp [hil]
      exact ⟨rfl, i, by simp, rfl, ⟨rfl, hi⟩, by omega⟩
  · rintro i h5 g ⟨rfl, hi⟩ rfl
    have hmr : mm rs.length = mostM (rs.map (·.length)) := by rw [hmm, List.take_length]
    rw [hmr]
    have fin : CallH Tryz.prog 42 #[.slice ra rs.length rc, .int .i64 (k - 1 : Nat)] h5 fun r h' => ∃ rv p, r = .tuple #[rv, .int .i64 p] ∧ SlRep rCell (Ft h5.size none_ h') h' rv (groupC l) ∧ Keep none_ h5 h' := by
      rw [← hgr]
      exact rmerge_spec (m := m) (n := k - 1) r1 hm hro.srt hrs (by omega) (by omega) (by omega) (by omega)
    have s5 := k1.size
    have done : ∀ (hi : Nat) (h6 : Heap) (a : Option Addr) (n c : Nat), hi = sortHigh k l → SlRep rCell (Ft h5.size none_ h6) h6 (.slice a n c) (groupC l) → Keep none_ h5 h6 →
        K (.agg #[.slice a n c, .int .i64 (hi : Int)]) (h6.setIfInBounds h.size (.cells #[.slice a n c, .int .i64 (hi : Int)] 38)) := by
      rintro hi h6 a n c rfl r6 k6
      have s6 := k6.size
      refine hK _ _ ⟨_, _, _, rfl, r6.mono fun b hb => ⟨⟨hb.1.at (by omega) (set_other _ (by have := hb.1.1; omega)), by simpa using hb.2.1, fun h => h⟩, set_other _ (by have := hb.1.1; omega)⟩, ⟨by simp; omega, fun b hb _ => by rw [set_other _ (by omega), k6.blk b (by omega) (fun h => h), k1.blk b (by omega) (fun h => h), k0.blk b hb (fun h => h)]⟩⟩
    by_cases hlen : 1 < rs.length
    · have hlen' : (1 : Int) < (rs.length : Int) := by omega
      rw [if_pos hlen] at hsh
      have hmin : min ((k - 1 : Nat) : Int) (rs.length : Int) = ((min (k - 1) rs.length : Nat) : Int) := by omega
      have wm : IntKind.i64.wrap (((min (k - 1) rs.length : Nat) : Int) + 1) = ((min (k - 1) rs.length : Nat) : Int) + 1 := wrap_i64 (by omega) (by omega)
      have hmx : max ((mostM (rs.map (·.length)) : Nat) : Int) (((min (k - 1) rs.length : Nat) : Int) + 1) = ((sortHigh k l : Nat) : Int) := by rw [hsh]; omega
      simp -dsimp [w1, hlen', hmin, wm, hmx]
      refine call_by fin ?_
      rintro _ h6 ⟨rv, p, rfl, r6, k6⟩
      obtain ⟨a6, c6, rfl, _, _⟩ := r6.val
      have w46 := k6.at w41 (fun h => h)
      have hl4 := lt_of_blk w46
      simp -dsimp [w46, set_same _ hl4]
      exact done _ _ _ _ _ rfl r6 k6
    · have hlen' : ¬ (1 : Int) < (rs.length : Int) := by omega
      rw [if_neg hlen] at hsh
      simp -dsimp [w1, hlen']
      refine call_by fin ?_
      rintro _ h6 ⟨rv, p, rfl, r6, k6⟩
      obtain ⟨a6, c6, rfl, _, _⟩ := r6.val
      have w46 := k6.at w41 (fun h => h)
      have hl4 := lt_of_blk w46
      simp -dsimp [w46, set_same _ hl4]
      exact done _ _ _ _ _ hsh.symm r6 k6

set_option maxHeartbeats 8000000 in
set_option maxRecDepth 10000 in
theorem rhashed_spec {h : Heap} {v : Value} {l : List CellM} {k m L : Nat} (hl : SlRep rCell (Old h) h v l) (hln : l.length < 1000000) (hm : m < 1000000000) (hsm : ∀ d ∈ l, Sml m d) (hk : 3 ≤ k) (hp : Pre L 0 l) (hL : L < 1000000) :
    CallH Tryz.prog 31 #[v, .int .i64 k] h fun r h' => ∃ a n c, r = .agg #[.slice a n c, .int .i64 (highM (min k 10000) L 0 l : Nat)] ∧ SlRep rCell (Ft h.size none_ h') h' (.slice a n c) (groupC l) ∧ Keep none_ h h' := by
  refine callH_by fun K hK => ?_
  refine enter [.cell 4 38] Tryz.func31 rfl rfl (by kernel_rfl) rfl ?_
  obtain ⟨a00, c00, rfl, _, _⟩ := hl.val
  have hmin : min (k : Int) 10000 = ((min k 10000 : Nat) : Int) := by omega
  simp -dsimp [hmin]
  generalize hB : Array.push (Array.push h _) _ = h0
  have k0 : Keep none_ h h0 := by rw [← hB]; exact ((Keep.refl none_ h).pushed _).pushed _
  have hz0 : h0.size = h.size + 2 := by rw [← hB]; simp
  have w4 : h0[h.size]? = some (.cells #[.slice none 0 0, .int .i64 0] 38 (0, 0)) := by rw [← hB]; exact push_at (push_new _ _)
  have w5 : h0[h.size + 1]? = some (.cells #[.slice none 0 0, .int .i64 ((0 : Nat) : Int)] 38 (0, 0)) := by rw [← hB]; exact push_get (by simp)
  have hp' : Pre (0 + L) 0 l := by rwa [Nat.zero_add]
  refine call_by (rparts_spec L (i := 0) (n := min k 10000) (m := m) hp' (hl.mono ((Tr.of k0).ft (Nat.le_refl 0))) (by omega) (by omega) hln hsm hm (by omega)) ?_
  rintro pv h1 ⟨r1, k1⟩
  have hfl := parts_flat (n := min k 10000) hp'
  have hgl := groupC_le l
  have hhi : highM (min k 10000) L 0 l = mostM ((partsM (min k 10000) L 0 l).map (·.length)) := rfl
  have hpc : (partsM (min k 10000) L 0 l).length ≤ max 1 (groupC l).length := by rw [parts_len]; exact cnt_le hp'
  generalize partsM (min k 10000) L 0 l = ps at *
  obtain ⟨pa, pc, rfl, _, _⟩ := r1.val
  obtain ⟨mm, hmm⟩ : ∃ mm : Nat → Nat, ∀ i, mm i = mostM ((ps.take i).map (·.length)) := ⟨_, fun _ => rfl⟩
  have hmm0 : mm 0 = 0 := by rw [hmm]; rfl
  have s1 := k1.size
  simp -dsimp
  refine loopc (σ := Nat) (fun i => [(4, .pointer (some ⟨h.size, 0, none⟩)), (5, .pointer (some ⟨h.size + 1, 0, none⟩)), (6, .slice pa ps.length pc), (7, .int .i64 i)])
    (fun i h5 => i ≤ ps.length ∧ ∃ M v own, Tr (fun b => b = h.size + 1) M h1 h5 ∧ M (h.size + 1) ∧ h5[h.size + 1]? = some (.cells #[v, .int .i64 (mm i : Int)] 38 (0, 0)) ∧ Gr rCell 46 h0.size M h5 v (ps.take i).flatten own ∧ ∀ b, own = some b → h1.size ≤ b)
    (fun i => ps.length - i) 0 0 (fun i _ => i = ps.length) noRet noRet_le (by simp) ⟨Nat.zero_le _, _, _, none, ⟨.refl _ _, fun _ h => .inl h, fun b hb => by omega⟩, rfl, by rw [hmm0]; exact k1.at w5 (fun h => h), .nil _ _ _ _ _, fun b hb => by cases hb⟩ (by kernel_rfl) ?_ ?_
  · rintro i h5 g ⟨hi, M, v, own, t5, hM, u5, g5, ho⟩
    have wk := wrap_succ (k := i) (by omega)
    by_cases hil : i < ps.length
    · have r5 : SlRep (rSlice rCell) (Ft h0.size M h5) h5 (.slice pa ps.length pc) ps := r1.mono fun b hb => by
        have hne : b ≠ h.size + 1 := by have := hb.1.1; omega
        have e := t5.keep.blk b hb.2.1 hne
        exact ⟨⟨hb.1.at (Nat.le_refl _) e, Nat.lt_of_lt_of_le hb.2.1 t5.size, fun hm => (t5.new b hm).elim hne fun h => by have := hb.2.1; omega⟩, e⟩
      obtain ⟨bl, ol, w, e1, hFl, hx1, hrep⟩ := r5.row_at i hil
      obtain ⟨aw, cw, rfl, _, _⟩ := hrep.val
      have hmt := most_take (fun r : List CellM => r.length) hil
      have hmx : max (mm i : Int) (ps[i].length : Int) = (mm (i + 1) : Int) := by rw [hmm, hmm, hmt]; omega
      obtain ⟨va, vn, vc, rfl, hvn⟩ := g5.vals
      have hft := flatten_take hil
      have hfl1 := flatten_take_le ps (i + 1)
      have hlt := t5.lt
      rw [hfl, hft, List.length_append] at hfl1
      simp -dsimp [hil]
      refine drawn_by [⟨0, true, []⟩, ⟨1, true, []⟩, ⟨2, true, []⟩, ⟨3, true, []⟩, ⟨4, true, []⟩, ⟨5, true, []⟩, ⟨6, false, []⟩, ⟨7, true, []⟩, ⟨8, false, []⟩] (by kernel_rfl) (by kernel_rfl) ?_
      simp -dsimp [u5, e1, idxV_nat hil, elSz_eq, hx1]
      obtain ⟨cs5, _, _, _, hc5, he5⟩ := hrep.open_
      refine gr_append cellT g5 hlt rfl hc5 he5 (by omega) (by omega) ?_
      intro v6 h6 own6 g6 t6 k6 ho6
      have u6 := k6.at u5 (fun e => by have := ho _ e; omega)
      have hl6 := lt_of_blk u6
      have hx6 : HC.cellIn h6[bl]? (ol + i) = _ := (congrArg (HC.cellIn · (ol + i)) (k6.blk bl hFl.2.1 (fun e => hFl.2.2 (g5.mu _ e)))).trans hx1
      obtain ⟨va6, vn6, vc6, rfl, hvn6⟩ := g6.vals
      have ho6' : ∀ b, own6 = some b → h1.size ≤ b := fun b hb => (ho6 b hb).elim (ho b) fun e => by have := t5.size; omega
      have hblne : bl ≠ h.size + 1 := by have := hFl.1.1; omega
      simp -dsimp [u6, set_same _ hl6]
      refine drawn_by [⟨0, true, []⟩, ⟨1, true, []⟩, ⟨2, true, []⟩, ⟨3, true, []⟩, ⟨4, true, []⟩, ⟨5, true, []⟩, ⟨6, true, []⟩, ⟨7, false, []⟩, ⟨8, true, []⟩, ⟨9, false, []⟩] (by kernel_rfl) (by kernel_rfl) ?_
      have hs7 : ∀ o, (h6.setIfInBounds (h.size + 1) o)[bl]? = h6[bl]? := fun o => set_other _ (fun e => hblne e.symm)
      simp -dsimp [set_same _ hl6, e1, idxV_nat hil, elSz_eq, hs7, hx6, hmx, wk]
      have hz7 : ∀ o, (h6.setIfInBounds (h.size + 1) o).size = h6.size := fun o => by simp
      refine ⟨i + 1, by simp [e1], rfl, ⟨by omega, fun b => M b ∨ own6 = some b, _, own6, (t5.trans t6).set _ (.inl hM), .inl hM, set_same _ hl6, ?_, ho6'⟩, by show ps.length - (i + 1) < ps.length - i; omega⟩
      rw [hft]
      exact g6.set _ (.inl hM) (fun e => by have := ho6' _ e; omega)
    · simp -dsimp [hil]
      exact ⟨rfl, i, by simp, rfl, ⟨hi, M, v, own, t5, hM, u5, g5, ho⟩, by omega⟩
  · rintro i h5 g ⟨hi, M, v, own, t5, hM, u5, g5, ho⟩ rfl
    rw [List.take_length, hfl] at g5
    have hmr : mm ps.length = highM (min k 10000) L 0 l := by rw [hmm, List.take_length, hhi]
    rw [hmr] at u5
    obtain ⟨va, vn, vc, rfl, hvn⟩ := g5.vals
    have w45 := t5.at (k1.at w4 (fun h => h)) (by omega)
    have hl4 := lt_of_blk w45
    simp -dsimp [u5, w45, set_same _ hl4]
    have s5 := t5.size
    have r5 : SlRep rCell (Ft h0.size none_ h5) h5 _ (groupC l) := g5.rep (Nat.le_refl _) (fun b hb => by have := ho b hb; omega)
    refine hK _ _ ⟨_, _, _, rfl, r5.mono fun b hb => ⟨⟨hb.1.at (by omega) (set_other _ (by have := hb.1.1; omega)), by simpa using hb.2.1, fun h => h⟩, set_other _ (by have := hb.1.1; omega)⟩, ⟨by simp; omega, fun b hb _ => by rw [set_other _ (by omega), t5.keep.blk b (by omega) (by omega), k1.blk b (by omega) (fun h => h), k0.blk b hb (fun h => h)]⟩⟩
end Go.Proofs

/-
  Plans carried out: the document's, whole.
-/
namespace Go.Proofs
open Go Go.HC

set_option maxHeartbeats 8000000 in
set_option maxRecDepth 10000 in
theorem rexec_spec {h : Heap} {v : Value} {l : List CellM} {m : Nat} (a b k alg : Int) (hl : SlRep rCell (Old h) h v l) (hln : l.length < 1000000) (hm : m < 1000000000) (hc : ∀ c ∈ l, CellOk m (dimsM a).length c) (hk : k < 9223372036854775808) :
    CallH Tryz.prog 17 #[v, .int .i64 a, .int .i64 b, .int .i64 k, .int .i64 alg] h fun r h' => ∃ x n c, r = .tuple #[.agg #[.slice x n c, .int .i64 ((execM a b k alg l).2.1 : Nat)], .int .i64 (execM a b k alg l).2.2] ∧ SlRep rCell (Ft h.size none_ h') h' (.slice x n c) (execM a b k alg l).1 ∧ Keep none_ h h' := by
  refine callH_by fun K hK => ?_
  refine enter [.cell 10 38, .tmp 11] Tryz.func17 rfl rfl (by kernel_rfl) rfl ?_
  obtain ⟨a00, c00, rfl, _, _⟩ := hl.val
  have err : ∀ e, execM a b k alg l = ([], 0, e) → ∀ o o', K (.tuple #[.agg #[.slice none 0 0, .int .i64 0], .int .i64 e]) ((Array.push h o).setIfInBounds h.size o') := fun e he o o' => by
    refine hK _ _ ⟨_, _, _, by rw [he]; rfl, by rw [he]; exact .nil _ _ _, ?_⟩
    exact ((Keep.refl none_ h).pushed _).setted _ fun hh => absurd hh (Nat.lt_irrefl _)
  refine if hC : alg ≠ 0 ∧ alg ≠ 1 then ?t1 else ?t2
  case' t1 =>
    have h1 : (alg != 0) = true := by simp [hC.1]
    have h2 : (alg != 1) = true := by simp [hC.2]
    simp -dsimp [h1, h2]
    exact err 10 (by unfold execM; rw [if_pos hC]) _ _
  refine if hK3 : k < 3 then ?t3 else ?t4
  case' t3 =>
    have hE : execM a b k alg l = ([], 0, 3) := by unfold execM; rw [if_neg hC, if_pos hK3]
    have h12 : alg = 0 ∨ alg = 1 := by omega
    rcases h12 with rfl | rfl
    · simp -dsimp [hK3]
      exact err 3 hE _ _
    · simp -dsimp [hK3]
      exact err 3 hE _ _
  have hE : execM a b k alg l = (groupC (l.map (narrowC a b)), highE alg k.toNat (lvlN a b) (l.map (narrowC a b)), 0) := by unfold execM; rw [if_neg hC, if_neg hK3]
  obtain ⟨kn, rfl⟩ : ∃ kn : Nat, k = kn := ⟨k.toNat, by omega⟩
  rw [Int.toNat_natCast] at hE
  have hsm : ∀ c ∈ l, CellSmall c := fun c hh => (hc c hh).sml.small hm
  have hcn : ∀ c ∈ l.map (narrowC a b), CellOk m (lvlN a b) c := fun c hh => by
    obtain ⟨d, hd, rfl⟩ := List.mem_map.1 hh
    exact (hc d hd).narrow
  have hsn : ∀ c ∈ l.map (narrowC a b), Sml m c := fun c hh => (hcn c hh).sml
  have hnl : (l.map (narrowC a b)).length = l.length := List.length_map ..
  have hpre : Pre (lvlN a b) 0 (l.map (narrowC a b)) := .start (fun c hh => (hcn c hh).len) fun c hh => (hcn c hh).key
  have hlv : lvlN a b < 1000000 := by
    have h1 : lvlN a b ≤ (dimsM a).length := List.length_filter_le ..
    have h2 : (dimsM a).length ≤ (List.range 4).length := List.length_filter_le ..
    rw [List.length_range] at h2
    omega
  have h12 : alg = 0 ∨ alg = 1 := by omega
  have hK3' : ¬ (kn : Int) < 3 := hK3
  have hz0 : ∀ o, (Array.push h o).size = h.size + 1 := fun o => by simp
  obtain ⟨h0, e0⟩ : ∃ h0, h0 = Array.push h (.cells #[.slice none 0 0, .int .i64 0] 38) := ⟨_, rfl⟩
  have k0 : Keep none_ h h0 := by rw [e0]; exact .push _ _ _
  have w0 : h0[h.size]? = some (.cells #[.slice none 0 0, .int .i64 0] 38 (0, 0)) := by rw [e0]; exact push_new _ _
  have hsz0 : h0.size = h.size + 1 := by rw [e0]; simp
  have l0 := hl.mono ((Tr.of k0).ft (Nat.le_refl 0))
  have fin : ∀ (hi : Nat) (h1 h5 : Heap) (x : Option Addr) (n c : Nat), hi = highE alg kn (lvlN a b) (l.map (narrowC a b)) → SlRep rCell (Ft h1.size none_ h5) h5 (.slice x n c) (groupC (l.map (narrowC a b))) → h.size < h1.size → Keep none_ h h5 →
      K (.tuple #[.agg #[.slice x n c, .int .i64 (hi : Int)], .int .i64 0]) (h5.setIfInBounds h.size (.cells #[.slice x n c, .int .i64 (hi : Int)] 38)) := by
    rintro hi h1 h5 x n c rfl n5 hlt k5
    refine hK _ _ ⟨_, _, _, by rw [hE], by rw [hE]; exact n5.mono fun b hb => ⟨⟨hb.1.at (by omega) (set_other _ (by have := hb.1.1; omega)), by simpa using hb.2.1, fun h => h⟩, set_other _ (by have := hb.1.1; omega)⟩, k5.setted _ fun hh => absurd hh (Nat.lt_irrefl _)⟩
  rcases h12 with h12 | h12
  case' t4.inl =>
    have q1 : (alg != 0) = false := by simp [h12]
    have q2 : (alg == 0) = true := by simp [h12]
    simp -dsimp [hK3', q1]
  case' t4.inr =>
    have q1 : (alg != 0) = true := by simp [h12]
    have q3 : (alg != 1) = false := by simp [h12]
    have q2 : (alg == 0) = false := by simp [h12]
    simp -dsimp [hK3', q1, q3]
  all_goals
    rw [← e0]
    refine loopc (σ := Nat × Value) (fun t => [(0, .slice a00 l.length c00), (1, .int .i64 a), (2, .int .i64 b), (3, .int .i64 kn), (4, .int .i64 alg), (10, .pointer (some ⟨h.size, 0, none⟩)), (12, t.2), (13, .int .i64 t.1)])
      (fun t h1 => t.1 ≤ l.length ∧ ∃ M own, Tr none_ M h0 h1 ∧ Gr rCell 46 0 M h1 t.2 ((l.take t.1).map (narrowC a b)) own)
      (fun t => l.length - t.1) (0, .slice none 0 0) 0 (fun t _ => t.1 = l.length) noRet noRet_le (by simp) ⟨Nat.zero_le _, none_, none, .start h0, .nil _ _ _ _ _⟩ (by kernel_rfl) ?_ ?_
    · rintro ⟨i, v⟩ h1 g ⟨hi, M, own, t1, g1⟩
      simp only at hi g1
      have wk := wrap_succ (k := i) (by omega)
      by_cases hil : i < l.length
      · obtain ⟨bl, ol, cs, e1, _, hrep, hx1⟩ := (l0.mono t1.old).get i hil
        obtain ⟨ka, kc, sa, sc, na, nc, xa, xc, rfl, q1, _⟩ := cell_open hrep
        have hx1' : HC.cellsIn h1[bl]? (ol + i * 5) 5 = _ := hx1
        have hmem := List.getElem_mem hil
        simp -dsimp [hil, e1, idxA_nat hil, hx1']
        refine call_by (rnarrow_spec a b (rCell.mono hrep (Ft.free (Nat.zero_le _))) (hsm _ hmem) (hc _ hmem).len) ?_
        rintro _ h3 ⟨ds, rfl, rd, k3⟩
        obtain ⟨kd, kdc, sd, sdc, nd, ndc, xd, xdc, rfl, _⟩ := cell_open rd
        have hml : ((l.take i).map (narrowC a b)).length = i := by rw [List.length_map, List.length_take]; omega
        simp -dsimp
        refine gr_app1 (x := narrowC a b l[i]) rfl cellT (g1.call k3) (t1.call k3).lt (rCell.mono rd (t1.ret (Nat.zero_le _))) rfl (by omega) (by omega) ?_
        intro v5 h5 own5 g5 t5 k5 ho5
        simp -dsimp [wk]
        exact ⟨(i + 1, v5), by simp [e1], rfl, ⟨by show i + 1 ≤ l.length; omega, _, own5, (t1.call k3).trans t5, by show Gr rCell _ 0 _ h5 v5 ((l.take (i + 1)).map (narrowC a b)) own5; rw [take_snoc hil, List.map_append]; exact g5⟩, by show l.length - (i + 1) < l.length - i; omega⟩
      · simp -dsimp [hil]
        exact ⟨rfl, (i, v), by simp, rfl, ⟨hi, M, own, t1, g1⟩, by show i = l.length; omega⟩
    · rintro ⟨i, v⟩ h1 g ⟨hi, M, own, t1, g1⟩ hil
      simp only at hi g1 hil
      subst hil
      rw [List.take_length] at g1
      have l1 : SlRep rCell (Old h1) h1 v (l.map (narrowC a b)) := g1.rep (Nat.le_refl 0) (fun _ _ => Nat.zero_le _)
      have w1 := t1.at w0 (fun h => h)
      have k01 := k0.trans t1.keep fun _ _ h => h
      have s1 := t1.size
      first
      | (simp -dsimp [q2]
         refine call_by (rsorted_spec (m := m) l1 (by omega) hm hsn (by omega) (by omega)) ?_
         rintro _ h4 ⟨x4, n4, c4, rfl, r4, k4⟩
         have w4 := k4.at w1 (fun h => h)
         have hl4 := lt_of_blk w4
         simp -dsimp [w4, set_same _ hl4]
         exact fin _ h1 h4 _ _ _ (by unfold highE; rw [if_pos h12]) r4 (by omega) (k01.trans k4 fun _ _ h => h))
      | (simp -dsimp [q2]
         refine call_by (rhashed_spec (m := m) l1 (by omega) hm hsn (by omega) hpre hlv) ?_
         rintro _ h4 ⟨x4, n4, c4, rfl, r4, k4⟩
         have w4 := k4.at w1 (fun h => h)
         have hl4 := lt_of_blk w4
         simp -dsimp [w4, set_same _ hl4]
         exact fin _ h1 h4 _ _ _ (by unfold highE; rw [if_neg (by omega)]) r4 (by omega) (k01.trans k4 fun _ _ h => h))
end Go.Proofs

/-
  hypercubelaw12: what its statements share.
-/
namespace Go.HC
theorem wf_bound {n : Int} (h : (Lit.int .i64 n).wf = true) : -9223372036854775808 ≤ n ∧ n < 9223372036854775808 := by
  have h1 : (decide (IntKind.i64.min ≤ n) && decide (n ≤ IntKind.i64.max)) = true := h
  rw [Bool.and_eq_true, decide_eq_true_eq, decide_eq_true_eq] at h1
  have e1 : IntKind.i64.min = -9223372036854775808 := by decide
  have e2 : IntKind.i64.max = 9223372036854775807 := by decide
  rw [e1, e2] at h1
  omega
end Go.HC
namespace Go.Proofs
open Go Go.HC

set_option maxRecDepth 10000 in
theorem within12_spec (a n : Int) (hn : 0 < n) (hn' : n < 1000000000) (h : Heap) : CallH Tryz.prog 14 #[.int .i64 a, .int .i64 n] h fun r h' => r = .int .i64 (withinM a n) ∧ h' = h := by
  refine enter [.tmp 4] Tryz.func14 rfl rfl (by kernel_rfl) rfl ?_
  have hne : n ≠ 0 := by omega
  have hb := tmod_bound (a := a) hn
  simp -dsimp [hne]
  have w := wrap_i64 (x := a.tmod n + n) (by omega) (by omega)
  by_cases hlt : a.tmod n < 0
  · simp -dsimp [hlt, withinM, w]
  · simp -dsimp [hlt, withinM]

set_option maxHeartbeats 4000000 in
set_option maxRecDepth 10000 in
theorem same12_spec {h : Heap} {a n c a' n' c' : _} {l : List CellM} (e hi : Int) (hl : SlRep rCell (Old h) h (.slice a n c) l) (hm : SlRep rCell (Old h) h (.slice a' n' c') l) :
    CallH Tryz.prog 18 #[.agg #[.slice a n c, .int .i64 hi], .int .i64 e, .agg #[.slice a' n' c', .int .i64 hi], .int .i64 e] h fun r h' => r = .bool true ∧ Keep none_ h h' := by
  refine callH_by fun K hK => ?_
  refine enter [.tmp 8] Tryz.func18 rfl rfl (by kernel_rfl) rfl ?_
  simp -dsimp [boxS_eq]
  generalize hB : Array.push (Array.push h _) _ = h1
  have k1 : Keep none_ h h1 := by rw [← hB]; exact ((Keep.refl none_ h).pushed _).pushed _
  have w1 : h1[h.size]? = some (.cells #[.slice a n c, .int .i64 hi] 34 (0, 0)) := by rw [← hB]; exact push_at (push_new _ _)
  have w2 : h1[h.size + 1]? = some (.cells #[.slice a' n' c', .int .i64 hi] 38 (0, 0)) := by rw [← hB]; exact push_get (by simp)
  simp -dsimp [w1, w2]
  refine call_by (rsame_spec (hl.mono ((Tr.of k1).ft (Nat.le_refl 0))) (hm.mono ((Tr.of k1).ft (Nat.le_refl 0)))) ?_
  rintro _ h2 ⟨⟨t, rfl, ht⟩, k2⟩
  have ht : t = true := ht.2 rfl
  subst ht
  simp -dsimp
  exact hK _ _ ⟨rfl, k1.trans k2 fun _ _ h => h⟩

def cell12 : CellM := ⟨[4], 2, [], [], []⟩
set_option maxHeartbeats 4000000 in
set_option maxRecDepth 10000 in
theorem known12_spec (h : Heap) : CallH Tryz.prog 11 #[] h fun r h' => r = .bool true ∧ Keep none_ h h' := by
  refine callH_by fun K hK => ?_
  refine enter [.tmp 0] Tryz.func11 rfl rfl (by kernel_rfl) rfl ?_
  have x1 : execM 1 0 3 0 [] = ([], 0, 0) := by kernel_rfl
  have x2 : execM 1 0 3 1 [cell12] = ([⟨[], 2, [], [], []⟩], 1, 0) := by kernel_rfl
  have x3 : execM 1 0 2 0 [] = ([], 0, 3) := by kernel_rfl
  simp -dsimp
  refine call_by (exec_spec (m := 0) (l := []) 1 0 3 0 (.nil _ _ _) (by simp) (by omega) (fun c hc => by cases hc) (by omega)) ?_
  rintro _ h1 ⟨ma, mn, mc, rfl, n1, k1⟩
  rw [x1] at n1 ⊢
  obtain ⟨_, _, hv, _, _⟩ := (n1.rep (Nat.zero_le _)).val
  cases hv
  have s1 := k1.size
  simp -dsimp
  rw [push_set rfl]
  generalize hB : Array.push (Array.push (Array.push h1 _) _) _ = h2
  have k2 : Keep none_ h1 h2 := by rw [← hB]; exact (((Keep.refl none_ h1).pushed _).pushed _).pushed _
  have w1 : h2[h1.size]? = some (.cells #[.slice ma 0 mc, .int .i64 0] 34 (0, 0)) := by rw [← hB]; exact push_at (push_at (push_new _ _))
  have wi : h2[h1.size + 1]? = some (.cells #[.int .i64 4] 3 (0, 0)) := by rw [← hB]; exact push_at (push_get (by simp))
  have wc : h2[h1.size + 2]? = some (.cells #[.slice (some ⟨h1.size + 1, 0, none⟩) 1 1, .int .i64 2, .slice none 0 0, .slice none 0 0, .slice none 0 0] 46 (0, 0)) := by rw [← hB]; exact push_get (by simp)
  have hrow : SlRep rCell (Old h2) h2 (.slice (some ⟨h1.size + 2, 0, none⟩) 1 1) [cell12] := by
    refine ⟨_, 1, [.slice (some ⟨h1.size + 1, 0, none⟩) 1 1, .int .i64 2, .slice none 0 0, .slice none 0 0, .slice none 0 0], rfl, Nat.le_refl _, by decide, .inr ⟨h1.size + 2, 0, _, _, _, rfl, ⟨nz, lt_of_blk wc, fun h => h⟩, wc, rfl⟩, .single ?_⟩
    refine ⟨_, _, _, _, rfl, ?_, .nil _ _ _, .nil _ _ _, .nil _ _ _⟩
    exact ⟨_, 1, _, rfl, Nat.le_refl _, by decide, .inr ⟨h1.size + 1, 0, _, _, _, rfl, ⟨nz, lt_of_blk wi, fun h => h⟩, wi, rfl⟩, .single rfl⟩
  have hok : ∀ c ∈ [cell12], CellOk 0 (dimsM 1).length c := fun c hc => by
    rw [List.mem_singleton] at hc; subst hc
    exact ⟨⟨by decide, rfl, rfl, rfl⟩, by decide, fun v hv => by simp [cell12] at hv; omega⟩
  have hzz : h1.size + 1 + 1 = h1.size + 2 := rfl
  refine call_by (exec_spec (m := 0) (l := [cell12]) 1 0 3 1 hrow (by simp) (by omega) hok (by omega)) ?_
  rintro _ h3 ⟨na, nn, nc, rfl, n3, k3⟩
  rw [x2] at n3 ⊢
  have r3 : SlRep rCell (Old h3) h3 (.slice na nn nc) [⟨[], 2, [], [], []⟩] := n3.rep (Nat.zero_le _)
  obtain ⟨_, _, hv, _, _⟩ := r3.val
  cases hv
  obtain ⟨b3, o3, cs3, rfl, _, hrep3, hx3⟩ := r3.get 0 (by simp)
  obtain ⟨ka, kc, sa, sc, na', nc', xa, xc, rfl, _⟩ := cell_open hrep3
  have hx3' : HC.cellIn h3[b3]? (o3 + 1) = some (.int .i64 2) := by
    have := cellsIn_cell (d := 1) hx3 (by decide)
    simpa using this
  have w13 := k3.at w1 (fun h => h)
  have s3 := k3.size
  simp -dsimp
  rw [push_set rfl]
  generalize hB4 : Array.push h3 _ = h4
  have k4 : Keep none_ h3 h4 := by rw [← hB4]; exact .push _ _ _
  have w24 : h4[h3.size]? = some (.cells #[.slice (some ⟨b3, o3, none⟩) 1 nc, .int .i64 1] 34 (0, 0)) := by rw [← hB4]; exact push_new _ _
  have w14 := k4.at w13 (fun h => h)
  refine call_by (exec_spec (m := 0) (l := []) 1 0 2 0 (.nil _ _ _) (by simp) (by omega) (fun c hc => by cases hc) (by omega)) ?_
  rintro _ h5 ⟨pa, pn, pc, rfl, n5, k5⟩
  rw [x3] at n5 ⊢
  have w15 := k5.at w14 (fun h => h)
  have w25 := k5.at w24 (fun h => h)
  have hb3 := k5.size
  have hx5 : HC.cellIn h5[b3]? (o3 + 1) = some (.int .i64 2) := by
    have hb : b3 < h3.size := by
      obtain ⟨_, _, _, e, hf, _⟩ := r3.get 0 (by simp)
      cases e; exact hf.2.1
    rw [k5.blk b3 (by have := k4.size; omega) (fun h => h), k4.blk b3 hb (fun h => h)]; exact hx3'
  simp -dsimp
  rw [push_set rfl]
  have w16 : ∀ o, (Array.push h5 o)[h1.size]? = _ := fun o => push_at w15
  have w26 : ∀ o, (Array.push h5 o)[h3.size]? = _ := fun o => push_at w25
  have hlb : b3 < h5.size := by
    obtain ⟨_, _, _, e, hf, _⟩ := r3.get 0 (by simp)
    cases e
    have := hf.2.1; have := k4.size; omega
  have hx6 : ∀ o, HC.cellIn (Array.push h5 o)[b3]? (o3 + 1) = some (.int .i64 2) := fun o => (congrArg (HC.cellIn · (o3 + 1)) (push_old o hlb)).trans hx5
  simp -dsimp [w16, w26, hx6, idxA_zero (show 0 < 1 by decide)]
  exact hK _ _ ⟨rfl, ((((k1.trans k2 fun _ _ h => h).trans k3 fun _ _ h => h).trans k4 fun _ _ h => h).trans k5 fun _ _ h => h).pushed _⟩
end Go.Proofs
