/-
  The document's group-by in parts.
-/
import Derived.Test.YtjkefplcbmdndaaKE7c
import Derived.ProofKit
import Derived.OpenShut

namespace Go.HC
theorem putC_last : ∀ {o : List CellM} {c : CellM}, (∀ d ∈ o, lessM d.key c.key < 0) → putC o c = o ++ [c]
  | [], _, _ => rfl
  | d :: o, c, h => by
    rw [putC, if_pos (h d List.mem_cons_self), putC_last fun e he => h e (List.mem_cons_of_mem _ he)]; rfl
theorem group_id {o : List CellM} (h : Srt o) : groupC o = o := by
  have key : ∀ k, groupC (o.take k) = o.take k := by
    intro k
    induction k with
    | zero => rfl
    | succ k ih =>
      by_cases hk : k < o.length
      · rw [group_take hk, ih, take_snoc hk]
        refine putC_last fun d hd => ?_
        obtain ⟨j, hj, e⟩ := List.getElem_of_mem hd
        rw [List.length_take] at hj
        rw [List.getElem_take] at e
        rw [← e]
        exact h.get (by omega) hk (by omega)
      · rw [List.take_of_length_le (by omega)]; rwa [List.take_of_length_le (by omega)] at ih
  have := key o.length
  rwa [List.take_length] at this
theorem Holds.group {T : Tab} {l : List CellM} (h : Holds T l) : groupC (cellsM T) = groupC l := (group_perm h.perm).trans (group_id (grp_group l).srt)
/-- The values below v at a place of the keys. -/
def valsTo (i : Nat) (l : List CellM) (v : Nat) : List Int := ((List.range v).map Int.ofNat).filter fun v => l.any fun c => decide (atV c i = v)
theorem valsTo_succ (i : Nat) (l : List CellM) (v : Nat) : valsTo i l (v + 1) = valsTo i l v ++ (if 0 < (partC i v l).length then [(v : Int)] else []) := by
  unfold valsTo
  rw [List.range_succ, List.map_append, List.filter_append]
  congr 1
  have : (l.any fun c => decide (atV c i = Int.ofNat v)) = decide (0 < (partC i v l).length) := by
    rw [Bool.eq_iff_iff]
    simp only [List.any_eq_true, decide_eq_true_eq]
    constructor
    · rintro ⟨c, hc, e⟩
      exact List.length_pos_of_mem (mem_part.2 ⟨hc, e⟩)
    · intro hl
      obtain ⟨c, hc⟩ := List.exists_mem_of_length_pos hl
      exact ⟨c, (mem_part.1 hc).1, (mem_part.1 hc).2⟩
  by_cases h : 0 < (partC i v l).length
  · rw [if_pos h]; simp only [List.map_cons, List.map_nil, List.filter_cons, List.filter_nil, this]; simp [h]
  · rw [if_neg h]; simp only [List.map_cons, List.map_nil, List.filter_cons, List.filter_nil, this]; simp [h]
theorem valsTo_all (i : Nat) (l : List CellM) : valsTo i l 16 = valsM i l := rfl
theorem valsTo_le (i : Nat) (l : List CellM) (g : Int → Nat) {v w : Nat} (h : v ≤ w) : ((valsTo i l v).map g).sum ≤ ((valsTo i l w).map g).sum := by
  induction w with
  | zero => have : v = 0 := by omega
            subst this; exact Nat.le_refl _
  | succ w ih =>
    rcases Nat.lt_or_ge v (w + 1) with h1 | h1
    · have := ih (by omega)
      rw [valsTo_succ i l w, List.map_append, List.sum_append]; omega
    · have : v = w + 1 := by omega
      subst this; exact Nat.le_refl _
theorem part_take {i : Nat} {v : Int} {l : List CellM} {k : Nat} (hk : k < l.length) : partC i v (l.take (k + 1)) = if atV l[k] i = v then partC i v (l.take k) ++ [l[k]] else partC i v (l.take k) := by
  rw [take_snoc hk, part_snoc]
end Go.HC
namespace Go.Proofs
open Go Go.HC

theorem cellsT : ElemT Try.prog 74 29 (rSlice rCell) 24 := ⟨Try.elS74, Try.szS29, Try.byS29, _, Try.zS29, rfl⟩
/-- The document's parts of cells whose keys have f numbers from the place i on. -/
def RPartsOk (f : Nat) : Prop := ∀ {i n m : Nat} {h : Heap} {v : Value} {l : List CellM}, Pre (i + f) i l → SlRep rCell (Old h) h v l → 0 < n → n < 1000000 → l.length < 1000000 → (∀ d ∈ l, Sml m d) → m < 1000000000 → i + f < 1000000 →
  CallH Try.prog 45 #[v, .int .i64 n, .int .i64 i] h fun r h' => (∃ ls, SlRep (rSlice rCell) (Ft h.size none_ h') h' r ls ∧ ls.flatten = groupC l ∧ ls.length = cntM n f i l) ∧ Keep none_ h h'

set_option maxHeartbeats 4000000 in
set_option maxRecDepth 10000 in
theorem rparts_step (f : Nat) (ih : ∀ f', f = f' + 1 → RPartsOk f') : RPartsOk f := by
  intro i n m h v l hpre hl h0 hn hln hsm hm hif
  refine callH_by fun K hK => ?_
  refine enter [.tmp 6] Try.func45 rfl rfl (by kernel_rfl) rfl ?_
  obtain ⟨a0, c0, rfl, hc0, hc0'⟩ := hl.val
  simp -dsimp
  refine call_by (rnew7_spec n (by omega) h) ?_
  rintro tv h0' ⟨G0, t0, k0, n0⟩
  simp -dsimp
  refine loopc (σ := Nat × Bool) (fun t => [(0, .slice a0 l.length c0), (1, .int .i64 n), (2, .int .i64 i), (7, tv), (8, .bool t.2), (9, .int .i64 t.1)])
    (fun t h1 => t.1 ≤ l.length ∧ Keep none_ h h1 ∧ ((t.2 = false ∧ n < (groupC l).length) ∨ (t.2 = true ∧ ∃ G T, RTabT tv G h1 T ∧ (∀ b, G b → h.size ≤ b) ∧ T.length = n ∧ (∀ (k : Nat) (d : CellM), T[k]? = some (some d) → Sml m d) ∧ Holds T (l.take t.1)))) (fun t => l.length - t.1) (0, true) 0 (fun t _ => t.2 = true → t.1 = l.length) noRet noRet_le (by simp)
    ⟨Nat.zero_le _, k0, .inr ⟨rfl, G0, _, t0, n0, new_len n, (fun k d hd => by
      unfold newM at hd
      rw [List.getElem?_replicate] at hd
      split at hd <;> cases hd), .new n⟩⟩ (by kernel_rfl) ?_ ?_
  · rintro ⟨k, fit⟩ h1 g ⟨hk, k1, hor⟩
    simp only at hk hor
    by_cases hkl : k < l.length
    · have wk := wrap_succ (k := k) (by omega)
      rcases hor with ⟨rfl, hnk⟩ | ⟨rfl, G, T, t1, n1, hT, hTs, hH⟩
      · simp -dsimp [hkl]
        exact ⟨rfl, (k, false), by simp, rfl, ⟨hk, k1, .inl ⟨rfl, hnk⟩⟩, by simp⟩
      · obtain ⟨b1, o1, cs, e1, _, hrep, hx1⟩ := (hl.mono ((Tr.of k1).ft (Nat.le_refl 0))).get k hkl
        obtain ⟨ka, kc, sa, sc, na, nc, xa, xc, rfl, _⟩ := cell_open hrep
        have hx1' : HC.cellsIn h1[b1]? (o1 + k * 5) 5 = _ := hx1
        have hck := hsm _ (List.getElem_mem hkl)
        simp -dsimp [hkl, e1, idxA_nat hkl, hx1']
        refine call_by (rput7_spec t1 hrep (fun v hv => by have := hpre.small _ (List.getElem_mem hkl) v hv; omega) (by omega) (by omega) hm hck hTs) ?_
        rintro _ h3 ⟨rfl, G3, t3, k3, n3⟩
        have kk3 : Keep none_ h h3 := keep_from k1 k3 n1 (Nat.le_refl _)
        have s1 := k1.size
        simp -dsimp [wk]
        refine ⟨(k + 1, (putM T l[k]).isSome), by simp [e1], rfl, ⟨by show k + 1 ≤ l.length; omega, kk3, ?_⟩, by show l.length - (k + 1) < l.length - k; omega⟩
        cases hp : putM T l[k] with
        | none =>
          refine .inl ⟨rfl, Classical.byContradiction fun hle => ?_⟩
          have := group_take_le l (k + 1)
          obtain ⟨T', hT'⟩ := hH.goes l[k] (by rw [take_snoc hkl] at this; rw [hT]; omega)
          rw [hp] at hT'; cases hT'
        | some T' =>
          rw [hp] at t3
          refine .inr ⟨rfl, G3, T', t3, fun b hb => (n3 b hb).elim (n1 b) (by omega), by rw [put_len hp, hT], put_cells hTs hck (fun d hd => hd.join hck) hp, ?_⟩
          simp only [take_snoc hkl]
          exact hH.put hp
    · simp -dsimp [hkl]
      exact ⟨rfl, (k, fit), by simp, rfl, ⟨hk, k1, hor⟩, fun _ => by show k = l.length; omega⟩
  · rintro ⟨k, fit⟩ h1 g ⟨hk, k1, hor⟩ hkl
    simp only at hk hor hkl
    rcases hor with ⟨rfl, hnk⟩ | ⟨rfl, G, T, t1, n1, hT, hTs, hH⟩
    · cases f with
      | zero =>
        have := hpre.one
        omega
      | succ f =>
        have hi : i < i + (f + 1) := by omega
        simp -dsimp
        have hwi := wrap_succ (k := i) (by omega)
        have hcnt : cntM n (f + 1) i l = ((valsM i l).map fun v => cntM n f (i + 1) (partC i v l)).sum := by rw [cntM, if_neg (by omega)]
        have hgrp := group_parts hpre hi (hpre.vals hi)
        have hcl := cnt_le (n := n) hpre
        have hgl := groupC_le l
        refine loopc (σ := Nat × Value) (fun t => [(0, .slice a0 l.length c0), (1, .int .i64 n), (2, .int .i64 i), (10, t.2), (11, .int .i64 t.1)])
          (fun t h2 => t.1 ≤ 16 ∧ ∃ M own ls, Tr none_ M h h2 ∧ Gr (rSlice rCell) 29 h.size M h2 t.2 ls own ∧ (∀ b, own = some b → h.size ≤ b) ∧ ls.flatten = (valsTo i l t.1).flatMap (fun v => groupC (partC i v l)) ∧ ls.length = ((valsTo i l t.1).map fun v => cntM n f (i + 1) (partC i v l)).sum)
          (fun t => 16 - t.1) (0, .slice none 0 0) 2 (fun t _ => t.1 = 16) noRet noRet_le (by simp) ⟨by decide, none_, none, [], Tr.of k1, .nil _ _ _ _ _, (fun b hb => by cases hb), rfl, rfl⟩ (by kernel_rfl) ?_ ?_
        · rintro ⟨v, ov⟩ h2 g ⟨hv, M, own, ls, t2, g2, ho2, hfl, hle⟩
          simp only at hv g2 hfl hle
          have wv := wrap_succ (k := v) (by omega)
          by_cases hv16 : v < 16
          · have hv16' : ((v : Int) < 16) = True := by simp; omega
            simp -dsimp [hv16']
            refine loopc (σ := Nat × Value) (fun t => [(0, .slice a0 l.length c0), (1, .int .i64 n), (2, .int .i64 i), (10, ov), (11, .int .i64 v), (12, t.2), (13, .int .i64 t.1)])
              (fun t h3 => t.1 ≤ l.length ∧ ∃ M2 own2, Tr none_ M2 h2 h3 ∧ Gr rCell 39 0 M2 h3 t.2 (partC i v (l.take t.1)) own2) (fun t => l.length - t.1) (0, .slice none 0 0) 4 (fun t _ => t.1 = l.length) noRet noRet_le (by simp) ⟨Nat.zero_le _, none_, none, .start h2, .nil _ _ _ _ _⟩ (by kernel_rfl) ?_ ?_
            · rintro ⟨j, pv⟩ h3 g ⟨hj, M2, own2, t3, g3⟩
              simp only at hj g3
              by_cases hjl : j < l.length
              · have wj := wrap_succ (k := j) (by omega)
                obtain ⟨hij, hat, _⟩ := hpre.at hi (List.getElem_mem hjl)
                obtain ⟨b1, o1, cs, e1, _, hrep, hx1⟩ := ((hl.mono ((Tr.of t2.keep).ft (Nat.le_refl 0))).mono t3.old).get j hjl
                obtain ⟨ka, kc, sa, sc, na, nc, xa, xc, rfl, r1, _⟩ := cell_open hrep
                have hx1' : HC.cellsIn h3[b1]? (o1 + j * 5) 5 = _ := hx1
                have hk0 : cellIn h3[b1]? (o1 + j * 5) = some (.slice ka l[j].key.length kc) := cellsIn_cell (d := 0) hx1 (by decide)
                obtain ⟨b2, o2, e2, _, hc2⟩ := r1.int_at i hij
                subst e2
                obtain ⟨x, ex⟩ : ∃ x, x = l[j].key[i] := ⟨_, rfl⟩
                rw [← ex] at hat hc2
                have hpt := part_take (i := i) (v := (v : Int)) hjl
                have hpl := part_len (i := i) (v := (v : Int)) (l := l.take j)
                rw [List.length_take] at hpl
                rw [hat] at hpt
                by_cases hxv : x = (v : Int)
                · rw [if_pos hxv] at hpt
                  have hxv' : (x == (v : Int)) = true := by rw [hxv]; exact beq_self_eq_true _
                  simp -dsimp [hjl, e1, idxA_nat hjl, hk0, idxA_nat hij, hc2, hxv', hx1']
                  refine gr_app1 (x := l[j]) rfl cellT g3 t3.lt hrep rfl (by omega) (by omega) ?_
                  intro v5 h5 own5 g5 t5 k5 ho5
                  simp -dsimp [wj]
                  exact ⟨(j + 1, v5), by simp [e1], rfl, ⟨by show j + 1 ≤ l.length; omega, _, own5, t3.trans t5, by rw [hpt]; exact g5⟩, by show l.length - (j + 1) < l.length - j; omega⟩
                · rw [if_neg hxv] at hpt
                  have hxv' : (x == (v : Int)) = false := by simpa using hxv
                  simp -dsimp [hjl, e1, idxA_nat hjl, hk0, idxA_nat hij, hc2, hxv', wj]
                  exact ⟨(j + 1, pv), by simp [e1], rfl, ⟨by show j + 1 ≤ l.length; omega, M2, own2, t3, by rw [hpt]; exact g3⟩, by show l.length - (j + 1) < l.length - j; omega⟩
              · simp -dsimp [hjl]
                exact ⟨rfl, (j, pv), by simp, rfl, ⟨hj, M2, own2, t3, g3⟩, by show j = l.length; omega⟩
            · rintro ⟨j, pv⟩ h3 g ⟨hj, M2, own2, t3, g3⟩ hjl
              simp only at hj g3 hjl
              subst hjl
              rw [List.take_length] at g3
              have hp3 : SlRep rCell (Old h3) h3 pv (partC i v l) := g3.rep (Nat.le_refl 0) (fun _ _ => Nat.zero_le _)
              obtain ⟨pa, pn, pc, epv, hpn⟩ := g3.vals
              subst epv
              have hvt := valsTo_succ i l v
              have g4 := g2.call t3.keep
              have t4 := t2.call t3.keep
              have s4 := t4.size
              by_cases hpos : 0 < (partC i v l).length
              · rw [if_pos hpos] at hvt
                have hpl := part_len (i := i) (v := (v : Int)) (l := l)
                have hfl' : (valsTo i l (v + 1)).flatMap (fun v => groupC (partC i v l)) = ls.flatten ++ groupC (partC i v l) := by rw [hvt, List.flatMap_append, hfl]; simp
                have hle' : ((valsTo i l (v + 1)).map fun v => cntM n f (i + 1) (partC i v l)).sum = ls.length + cntM n f (i + 1) (partC i v l) := by rw [hvt, List.map_append, List.sum_append, hle]; simp
                subst hpn
                simp -dsimp [hpos, hwi]
                refine call_by (ih f rfl (i := i + 1) (show Pre (i + 1 + f) (i + 1) (partC i v l) by have := hpre.part hi v; rwa [show i + 1 + f = i + (f + 1) by omega]) hp3 h0 hn (by omega) (fun d hd => hsm d (mem_part.1 hd).1) hm (show i + 1 + f < 1000000 by omega)) ?_
                rintro rv h5 ⟨⟨ls5, hr5, hf5, hl5⟩, k5⟩
                have hs5 : SlRep (rSlice rCell) (Ft h.size M h5) h5 rv ls5 := hr5.mono (t4.ret (by omega))
                obtain ⟨ra, rc, rfl, _, _⟩ := hs5.val
                obtain ⟨cs5, _, _, _, hc5, he5⟩ := hs5.open_
                have t5 := t4.call k5
                have hsz : ls.length + ls5.length ≤ max 1 (groupC l).length := by
                  have := valsTo_le i l (fun v => cntM n f (i + 1) (partC i v l)) (show v + 1 ≤ 16 by omega)
                  rw [hle', valsTo_all, ← hcnt, ← hl5] at this
                  omega
                simp -dsimp
                refine gr_append cellsT (g4.call k5) t5.lt rfl hc5 he5 (by omega) (by omega) ?_
                intro v6 h6 own6 g6 t6 k6 ho6
                simp -dsimp [wv]
                exact ⟨(v + 1, v6), by simp, rfl, ⟨by show v + 1 ≤ 16; omega, _, own6, ls ++ ls5, t5.trans t6, g6, fun b hb => (ho6 b hb).elim (ho2 b) (fun h => by have := k5.size; omega), by rw [hfl', List.flatten_append, hf5], by rw [hle', List.length_append, hl5]⟩, by show 16 - (v + 1) < 16 - v; omega⟩
              · rw [if_neg hpos, List.append_nil] at hvt
                subst hpn
                simp -dsimp [hpos, wv]
                exact ⟨(v + 1, ov), by simp, rfl, ⟨by show v + 1 ≤ 16; omega, M, own, ls, t4, g4, ho2, by rw [hvt]; exact hfl, by rw [hvt]; exact hle⟩, by show 16 - (v + 1) < 16 - v; omega⟩
          · have hv16' : ((v : Int) < 16) = False := by simp; omega
            simp -dsimp [hv16']
            exact ⟨rfl, (v, ov), by simp, rfl, ⟨hv, M, own, ls, t2, g2, ho2, hfl, hle⟩, by show v = 16; omega⟩
        · rintro ⟨v, ov⟩ h2 g ⟨hv, M, own, ls, t2, g2, ho2, hfl, hle⟩ hv16
          simp only at hv g2 hfl hle hv16
          subst hv16
          rw [valsTo_all, hgrp] at hfl
          rw [valsTo_all, ← hcnt] at hle
          obtain ⟨oa, on, oc, eo, hon⟩ := g2.vals
          subst eo
          simp -dsimp
          exact hK _ _ ⟨⟨ls, g2.rep (Nat.le_refl _) ho2, hfl, hle⟩, t2.keep⟩
    · have hkl' := hkl rfl
      rw [hkl', List.take_length] at hH
      have hcl : (cellsM T).length ≤ l.length := by rw [hH.perm.length_eq]; exact groupC_le l
      have hnk : (groupC l).length ≤ n := by
        have := taken_le T
        rwa [hH.taken, hT] at this
      simp -dsimp
      refine call_by (rcells7_spec t1 (by omega) hm hTs) ?_
      rintro cv h2 ⟨r2, k2⟩
      have s1 := k1.size
      obtain ⟨a2, c2, rfl, _, _⟩ := r2.val
      simp -dsimp
      refine call_by (rgroup_at (n0 := h1.size) r2 (by omega) hm (fun d hd => by
        obtain ⟨k, hk⟩ := cellsM_mem.1 hd
        exact hTs k d hk) k2.size) ?_
      rintro gv h3 ⟨r3, k3⟩
      obtain ⟨a3, c3, rfl, _, _⟩ := r3.val
      rw [hH.group] at r3
      simp -dsimp
      rw [hH.group]
      have s3 := Nat.le_trans k2.size k3.size
      refine hK _ _ ⟨⟨[groupC l], ?_, by simp, (cnt_one hnk).symm⟩, ((k1.trans k2 fun _ _ h => h).trans k3 fun _ _ h => h).trans (.push _ _ _) fun _ _ h => h⟩
      refine ⟨_, 1, [.slice a3 (groupC l).length c3], rfl, Nat.le_refl _, by decide, .inr ⟨h3.size, 0, _, _, _, rfl, ⟨Nat.le_trans s1 s3, by simp, fun h => h⟩, push_new _ _, by rw [List.drop_zero, List.take_of_length_le (Nat.le_refl _)]⟩, ?_⟩
      refine .single ⟨_, rfl, r3.mono fun b hb => ⟨⟨Nat.le_trans s1 hb.1, by have := hb.2.1; simp; omega, fun h => h⟩, push_old _ hb.2.1⟩⟩
end Go.Proofs

/-
  The document's group-by by tables.
-/
namespace Go.HC
theorem flatten_take {α : Type} {ls : List (List α)} {k : Nat} (hk : k < ls.length) : (ls.take (k + 1)).flatten = (ls.take k).flatten ++ ls[k] := by
  rw [take_snoc hk, List.flatten_append]; simp
theorem flatten_take_le {α : Type} (ls : List (List α)) (k : Nat) : (ls.take k).flatten.length ≤ ls.flatten.length := by
  conv => rhs; rw [← List.take_append_drop k ls]
  rw [List.flatten_append, List.length_append]; omega
theorem SlRep.row_at {α : Type} {R : Rp α} {F : Nat → Prop} {h : Heap} {a : Option Addr} {m c : Nat} {ls : List (List α)} (hs : SlRep (rSlice R) F h (.slice a m c) ls) (k : Nat) (hk : k < ls.length) :
    ∃ b o v, a = some ⟨b, o, none⟩ ∧ F b ∧ cellIn h[b]? (o + k) = some v ∧ SlRep R F h v ls[k] := by
  obtain ⟨b, o, cs, e, hb, ⟨v, rfl, hv⟩, hx⟩ := hs.get k hk
  refine ⟨b, o, v, e, hb, ?_, hv⟩
  have := cellsIn_cell (d := 0) hx (by show 0 < 1; decide)
  have hz : (rSlice R).sz = 1 := rfl
  rw [hz, Nat.mul_one, Nat.add_zero] at this
  simpa using this
end Go.HC
namespace Go.Proofs
open Go Go.HC

theorem rparts_spec (f : Nat) : RPartsOk f := by
  induction f with
  | zero => exact rparts_step 0 fun f' h => by omega
  | succ f ih =>
    exact rparts_step (f + 1) fun f' h => by
      cases h
      exact ih

set_option maxHeartbeats 4000000 in
set_option maxRecDepth 10000 in
theorem rgroup7_spec {f n m : Nat} {h : Heap} {v : Value} {l : List CellM} (hpre : Pre f 0 l) (hl : SlRep rCell (Old h) h v l) (h0 : 0 < n) (hn : n < 1000000) (hln : l.length < 1000000) (hsm : ∀ d ∈ l, Sml m d) (hm : m < 1000000000) (hf : f < 1000000) :
    CallH Try.prog 29 #[v, .int .i64 n] h fun r h' => (∃ rv, r = .tuple #[rv, .int .i64 (cntM n f 0 l : Nat)] ∧ SlRep rCell (Ft h.size none_ h') h' rv (groupC l)) ∧ Keep none_ h h' := by
  refine callH_by fun K hK => ?_
  refine enter [.tmp 4, .tmp 5] Try.func29 rfl rfl (by kernel_rfl) rfl ?_
  obtain ⟨a0, c0, rfl, hc0, hc0'⟩ := hl.val
  simp -dsimp
  refine call_by (rparts_spec f (i := 0) (by rwa [Nat.zero_add]) hl h0 hn hln hsm hm (by omega)) ?_
  rintro lv h1 ⟨⟨ls, hls, hfl, hle⟩, k1⟩
  obtain ⟨a1, c1, rfl, _, _⟩ := hls.val
  have hgl := groupC_le l
  have hcl := cnt_le (n := n) (f := f) (i := 0) (l := l) (by rwa [Nat.zero_add])
  have s1 := k1.size
  simp -dsimp
  refine loopc (σ := Nat × Value) (fun t => [(6, .slice a1 ls.length c1), (7, t.2), (8, .int .i64 t.1)])
    (fun t h2 => t.1 ≤ ls.length ∧ ∃ M own, Tr none_ M h1 h2 ∧ Gr rCell 39 h.size M h2 t.2 (ls.take t.1).flatten own ∧ ∀ b, own = some b → h.size ≤ b) (fun t => ls.length - t.1) (0, .slice none 0 0) 0 (fun t _ => t.1 = ls.length) noRet noRet_le (by simp) ⟨Nat.zero_le _, none_, none, .start h1, .nil _ _ _ _ _, fun b hb => by cases hb⟩ (by kernel_rfl) ?_ ?_
  · rintro ⟨k, ov⟩ h2 g ⟨hk, M, own, t2, g2, ho2⟩
    simp only at hk g2
    by_cases hkl : k < ls.length
    · have wk := wrap_succ (k := k) (by omega)
      obtain ⟨b1, o1, gv, e1, _, hx1, hgv⟩ := (hls.mono (fun b hb => t2.ft (M := none_) (n' := h.size) (n := h.size) (Nat.le_refl _) b hb)).row_at k hkl
      obtain ⟨ga, gc, egv, _, _⟩ := hgv.val
      subst egv
      have hft := flatten_take hkl
      have hftl := flatten_take_le ls (k + 1)
      rw [hfl, hft, List.length_append] at hftl
      obtain ⟨cs5, _, _, _, hc5, he5⟩ := hgv.open_
      obtain ⟨oa, on, oc, eo, hon⟩ := g2.vals
      subst eo
      simp -dsimp [hkl, e1, idxA_nat hkl, hx1]
      refine gr_append cellT g2 t2.lt rfl hc5 he5 (by omega) (by omega) ?_
      intro v6 h6 own6 g6 t6 k6 ho6
      simp -dsimp [wk]
      exact ⟨(k + 1, v6), by simp [e1], rfl, ⟨by show k + 1 ≤ ls.length; omega, _, own6, t2.trans t6, by rw [hft]; exact g6, fun b hb => (ho6 b hb).elim (ho2 b) (fun h => by have := t2.size; omega)⟩, by show ls.length - (k + 1) < ls.length - k; omega⟩
    · simp -dsimp [hkl]
      exact ⟨rfl, (k, ov), by simp, rfl, ⟨hk, M, own, t2, g2, ho2⟩, by show k = ls.length; omega⟩
  · rintro ⟨k, ov⟩ h2 g ⟨hk, M, own, t2, g2, ho2⟩ hkl
    simp only at hk g2 hkl
    subst hkl
    rw [List.take_length, hfl] at g2
    obtain ⟨oa, on, oc, eo, hon⟩ := g2.vals
    subst eo
    simp -dsimp
    rw [hle]
    exact hK _ _ ⟨⟨_, rfl, g2.rep (Nat.le_refl _) ho2⟩, k1.trans t2.keep fun _ _ h => h⟩
end Go.Proofs

/-
  HashGroups: the walk.
-/
namespace Go.HC
theorem lvl_le (s : Int) : ∀ (n i : Nat), lvlM s i n ≤ n
  | 0, _ => Nat.le_refl _
  | n + 1, i => by
    rw [lvlM]
    have := lvl_le s n (i + 1)
    split <;> omega
theorem CellOk.preL {m n : Nat} {l : List CellM} (h : ∀ c ∈ l, CellOk m n c) : Pre n 0 l := .start (fun c hc => (h c hc).len) fun c hc => (h c hc).key
end Go.HC
namespace Go.Proofs
open Go Go.HC

set_option maxHeartbeats 4000000 in
set_option maxRecDepth 10000 in
theorem hashGroups_spec {F1 F2 : Nat → Prop} {h : Heap} {cv nv : Value} {cards ns : List Int} (dims ms set slots : Int) (hc : SlRep rInt F1 h cv cards) (hF1 : ∀ b, F1 b → b < h.size) (hn : SlRep rInt F2 h nv ns) (hF2 : ∀ b, F2 b → b < h.size) :
    CallH Try.prog 4 #[.int .i64 dims, cv, .int .i64 ms, nv, .int .i64 set, .int .i64 slots] h fun r h' => r = .bool true ∧ Keep none_ h h' := by
  refine callH_by fun K hK => ?_
  refine enter [.tmp 12] Try.func4 rfl rfl (by kernel_rfl) rfl ?_
  replace hc := hc.mono (F' := Old h) (h' := h) fun b hb => ⟨⟨Nat.zero_le _, hF1 b hb, fun h => h⟩, rfl⟩
  replace hn := hn.mono (F' := Old h) (h' := h) fun b hb => ⟨⟨Nat.zero_le _, hF2 b hb, fun h => h⟩, rfl⟩
  obtain ⟨a0, c0, rfl, _, _⟩ := hc.val
  obtain ⟨a1, c1, rfl, _, _⟩ := hn.val
  simp -dsimp
  refine call_by (hknown_spec h) ?_
  rintro _ h0 ⟨rfl, k0⟩
  have t0 := Tr.of k0
  simp -dsimp
  refine call_by (facts1_spec dims ms (hc.mono (t0.ft (Nat.le_refl 0))) (hn.mono (t0.ft (Nat.le_refl 0)))) ?_
  rintro _ h1 ⟨sv, rv, rfl, s1, r1, k1⟩
  have hok := factsM_ok dims cards ms ns
  generalize hfs : (factsM dims cards ms ns).1 = s at *
  generalize hfr : (factsM dims cards ms ns).2 = rows at *
  obtain ⟨sa, sc, rfl, _, _⟩ := s1.val
  obtain ⟨ra, rc, rfl, _, _⟩ := r1.val
  simp -dsimp
  rw [push_set rfl]
  generalize hB : Array.push h1 _ = h2
  have k2 : Keep none_ h1 h2 := by rw [← hB]; exact .push _ _ _
  have hS : h2[h1.size]? = some (.cells #[.slice sa s.cards.length sc, .int .i64 s.ms] 25 (0, 0)) := by rw [← hB]; exact push_new _ _
  have u2 : Keep none_ h h2 := (k0.trans k1 fun _ _ h => h).trans k2 fun _ _ h => h
  have hdim := hok.dims
  refine call_by (set2_spec s.ms set ((s1.mono (Ft.free (Nat.zero_le _))).mono ((Tr.of k2).ft (Nat.le_refl 0))) hdim.2) ?_
  rintro _ h3 ⟨rfl, k3⟩
  obtain ⟨a, ea⟩ : ∃ a, a = withinM set (2 ^ s.cards.length) := ⟨_, rfl⟩
  rw [← ea]
  have u3 := u2.trans k3 fun _ _ h => h
  have k13 := k2.trans k3 fun _ _ h => h
  have hml := hok.ms
  have hlen := hok.len
  have r3 := (r1.mono (Ft.free (Nat.zero_le _))).mono ((Tr.of k13).ft (Nat.le_refl 0))
  have hrow : ∀ r ∈ rows, r.key.length < 64 ∧ r.m.length = s.ms.toNat := fun r hr => ⟨by rw [(hok.key r hr).1]; omega, (hok.m r hr).1⟩
  simp -dsimp
  refine call_by (make_spec a r3 (by omega) fun r hr => ⟨(hrow r hr).1, by rw [(hrow r hr).2]; omega⟩) ?_
  rintro lv h4 ⟨l4, k4⟩
  have hcells := hok.cell a
  obtain ⟨l, el⟩ : ∃ l, l = rows.map (ofM a) := ⟨_, rfl⟩
  rw [← el] at l4 hcells
  have hll : l.length = rows.length := by rw [el]; simp
  obtain ⟨la, lc, rfl, _, _⟩ := l4.val
  have u4 := u3.trans k4 fun _ _ h => h
  have hmt : s.ms.toNat < 1000000000 := by omega
  replace l4 := l4.mono (Ft.free (Nat.zero_le _))
  replace r3 := r3.mono ((Tr.of k4).ft (Nat.le_refl 0))
  have hpre := CellOk.preL hcells
  have hlv : lvlM a 0 s.cards.length < 1000000 := by
    have := lvl_le a s.cards.length 0
    omega
  generalize lvlM a 0 s.cards.length = L at *
  have hsm : ∀ d ∈ l, CellSmall d := fun d hd => (hcells d hd).sml.small hmt
  simp -dsimp
  refine call_by (within_spec slots 20 (by decide) (by decide) h4) ?_
  rintro _ h4' ⟨rfl, hh⟩
  subst h4'
  have hwk := withinM_bound (a := slots) (n := 20) (by omega)
  obtain ⟨k, ek⟩ : ∃ k : Nat, 1 + withinM slots 20 = k := ⟨(1 + withinM slots 20).toNat, by omega⟩
  have w1 : IntKind.i64.wrap (1 + withinM slots 20) = (k : Int) := by rw [wrap_i64 (by omega) (by omega), ek]
  simp -dsimp [w1]
  refine call_by (hgroup_spec hpre l4 (by omega) (by omega) (by omega) hsm hlv) ?_
  rintro _ h5 ⟨⟨cv, rfl, c5⟩, k5⟩
  have c5 := c5.rep (Nat.zero_le _)
  obtain ⟨ca, cc, rfl, _, _⟩ := c5.val
  have l5 := l4.mono ((Tr.of k5).ft (Nat.le_refl 0))
  simp -dsimp
  refine call_by (rgroup7_spec hpre l5 (by omega) (by omega) (by omega) (fun d hd => (hcells d hd).sml) hmt hlv) ?_
  rintro _ h6 ⟨⟨dv, rfl, d6⟩, k6⟩
  replace d6 := d6.mono (Ft.free (Nat.zero_le _))
  obtain ⟨da, dc, rfl, _, _⟩ := d6.val
  have l6 := l5.mono ((Tr.of k6).ft (Nat.le_refl 0))
  simp -dsimp
  obtain ⟨q, eq⟩ : ∃ q, q = IntKind.i64.wrap (slots.tdiv 20) := ⟨_, rfl⟩
  rw [← eq]
  refine call_by (within_spec q 300 (by decide) (by decide) h6) ?_
  rintro _ h6' ⟨rfl, hh⟩
  subst h6'
  have hwq := withinM_bound (a := q) (n := 300) (by omega)
  obtain ⟨k', ek'⟩ : ∃ k' : Nat, 1 + withinM q 300 = k' := ⟨(1 + withinM q 300).toNat, by omega⟩
  have w2 : IntKind.i64.wrap (1 + withinM q 300) = (k' : Int) := by rw [wrap_i64 (by omega) (by omega), ek']
  simp -dsimp [w2]
  refine call_by (hgroup_spec hpre l6 (by omega) (by omega) (by omega) hsm hlv) ?_
  rintro _ h7 ⟨⟨ev, rfl, e7⟩, k7⟩
  have e7 := e7.rep (Nat.zero_le _)
  obtain ⟨ea', ec, rfl, _, _⟩ := e7.val
  have c7 := (c5.mono ((Tr.of k6).ft (Nat.le_refl 0))).mono ((Tr.of k7).ft (Nat.le_refl 0))
  have d7 := d6.mono ((Tr.of k7).ft (Nat.le_refl 0))
  have hcc : ((cntM k L 0 l : Nat) : Int) == ((cntM k L 0 l : Nat) : Int) := beq_self_eq_true _
  simp -dsimp
  refine call_by (rsame_spec c7 d7) ?_
  rintro _ h8 ⟨⟨t8, rfl, ht8⟩, k8⟩
  have ht8 : t8 = true := ht8.2 rfl
  subst ht8
  have r7 := (r3.mono ((Tr.of ((k5.trans k6 fun _ _ h => h).trans k7 fun _ _ h => h)).ft (Nat.le_refl 0))).mono ((Tr.of k8).ft (Nat.le_refl 0))
  have c8 := c7.mono ((Tr.of k8).ft (Nat.le_refl 0))
  have e8 := e7.mono ((Tr.of k8).ft (Nat.le_refl 0))
  simp -dsimp
  refine call_by (rfacts_spec (m := s.ms.toNat) a r7 (by omega) hmt hrow) ?_
  rintro fv h9 ⟨f9, k9⟩
  rw [← el] at f9
  obtain ⟨fa, fc, rfl, _, _⟩ := f9.val
  have c9 := c8.mono ((Tr.of k9).ft (Nat.le_refl 0))
  have e9 := e8.mono ((Tr.of k9).ft (Nat.le_refl 0))
  simp -dsimp
  refine call_by (rsame_spec c9 f9) ?_
  rintro _ h10 ⟨⟨t10, rfl, ht10⟩, k10⟩
  have ht10 : t10 = true := ht10.2 rfl
  subst ht10
  have c10 := c9.mono ((Tr.of k10).ft (Nat.le_refl 0))
  have e10 := e9.mono ((Tr.of k10).ft (Nat.le_refl 0))
  simp -dsimp
  refine call_by (rsame_spec e10 c10) ?_
  rintro _ h11 ⟨⟨t11, rfl, ht11⟩, k11⟩
  have ht11 : t11 = true := ht11.2 rfl
  subst ht11
  simp -dsimp
  exact hK _ _ ⟨rfl, (((((((u4.trans k5 fun _ _ h => h).trans k6 fun _ _ h => h).trans k7 fun _ _ h => h).trans k8 fun _ _ h => h).trans k9 fun _ _ h => h).trans k10 fun _ _ h => h).trans k11 fun _ _ h => h)⟩
end Go.Proofs

/-
  HashOrders: the walk.
-/
namespace Go.Proofs
open Go Go.HC

set_option maxHeartbeats 4000000 in
set_option maxRecDepth 10000 in
theorem hashOrders_spec {F1 F2 F3 : Nat → Prop} {h : Heap} {cv nv wv : Value} {cards ns order : List Int} (dims ms set slots : Int) (hc : SlRep rInt F1 h cv cards) (hF1 : ∀ b, F1 b → b < h.size) (hn : SlRep rInt F2 h nv ns) (hF2 : ∀ b, F2 b → b < h.size) (hw : SlRep rInt F3 h wv order) (hF3 : ∀ b, F3 b → b < h.size) :
    CallH Try.prog 10 #[.int .i64 dims, cv, .int .i64 ms, nv, .int .i64 set, .int .i64 slots, wv] h fun r h' => r = .bool true ∧ Keep none_ h h' := by
  refine callH_by fun K hK => ?_
  refine enter [.tmp 14] Try.func10 rfl rfl (by kernel_rfl) rfl ?_
  replace hc := hc.mono (F' := Old h) (h' := h) fun b hb => ⟨⟨Nat.zero_le _, hF1 b hb, fun h => h⟩, rfl⟩
  replace hn := hn.mono (F' := Old h) (h' := h) fun b hb => ⟨⟨Nat.zero_le _, hF2 b hb, fun h => h⟩, rfl⟩
  replace hw := hw.mono (F' := Old h) (h' := h) fun b hb => ⟨⟨Nat.zero_le _, hF3 b hb, fun h => h⟩, rfl⟩
  obtain ⟨a0, c0, rfl, _, _⟩ := hc.val
  obtain ⟨a2, c2, rfl, _, _⟩ := hw.val
  obtain ⟨a1, c1, rfl, _, _⟩ := hn.val
  simp -dsimp
  refine call_by (hknown_spec h) ?_
  rintro _ h0 ⟨rfl, k0⟩
  have t0 := Tr.of k0
  simp -dsimp
  refine call_by (facts1_spec dims ms (hc.mono (t0.ft (Nat.le_refl 0))) (hn.mono (t0.ft (Nat.le_refl 0)))) ?_
  rintro _ h1 ⟨sv, rv, rfl, s1, r1, k1⟩
  have hok := factsM_ok dims cards ms ns
  generalize hfs : (factsM dims cards ms ns).1 = s at *
  generalize hfr : (factsM dims cards ms ns).2 = rows at *
  obtain ⟨sa, sc, rfl, _, _⟩ := s1.val
  obtain ⟨ra, rc, rfl, _, _⟩ := r1.val
  simp -dsimp
  rw [push_set rfl]
  generalize hB : Array.push h1 _ = h2
  have k2 : Keep none_ h1 h2 := by rw [← hB]; exact .push _ _ _
  have hS : h2[h1.size]? = some (.cells #[.slice sa s.cards.length sc, .int .i64 s.ms] 25 (0, 0)) := by rw [← hB]; exact push_new _ _
  have u2 : Keep none_ h h2 := (k0.trans k1 fun _ _ h => h).trans k2 fun _ _ h => h
  have hdim := hok.dims
  refine call_by (set2_spec s.ms set ((s1.mono (Ft.free (Nat.zero_le _))).mono ((Tr.of k2).ft (Nat.le_refl 0))) hdim.2) ?_
  rintro _ h3 ⟨rfl, k3⟩
  obtain ⟨a, ea⟩ : ∃ a, a = withinM set (2 ^ s.cards.length) := ⟨_, rfl⟩
  rw [← ea]
  have u3 := u2.trans k3 fun _ _ h => h
  have k13 := k2.trans k3 fun _ _ h => h
  have hml := hok.ms
  have hlen := hok.len
  have r3 := (r1.mono (Ft.free (Nat.zero_le _))).mono ((Tr.of k13).ft (Nat.le_refl 0))
  have hrow : ∀ r ∈ rows, r.key.length < 64 ∧ r.m.length = s.ms.toNat := fun r hr => ⟨by rw [(hok.key r hr).1]; omega, (hok.m r hr).1⟩
  simp -dsimp
  refine call_by (make_spec a r3 (by omega) fun r hr => ⟨(hrow r hr).1, by rw [(hrow r hr).2]; omega⟩) ?_
  rintro lv h4 ⟨l4, k4⟩
  have hcells := hok.cell a
  obtain ⟨l, el⟩ : ∃ l, l = rows.map (ofM a) := ⟨_, rfl⟩
  rw [← el] at l4 hcells
  have hll : l.length = rows.length := by rw [el]; simp
  obtain ⟨la, lc, rfl, _, _⟩ := l4.val
  have u4 := u3.trans k4 fun _ _ h => h
  have hmt : s.ms.toNat < 1000000000 := by omega
  replace l4 := l4.mono (Ft.free (Nat.zero_le _))
  replace r3 := r3.mono ((Tr.of k4).ft (Nat.le_refl 0))
  have hpre := CellOk.preL hcells
  have hlv : lvlM a 0 s.cards.length < 1000000 := by
    have := lvl_le a s.cards.length 0
    omega
  generalize lvlM a 0 s.cards.length = L at *
  have hsm : ∀ d ∈ l, CellSmall d := fun d hd => (hcells d hd).sml.small hmt
  have hol := hw.len_lt
  simp -dsimp
  obtain ⟨ge, te⟩ := gr_empty rCell 39 0 (Tr.start h4) h4.size rfl
  obtain ⟨cs0, _, _, _, hcl, hel⟩ := l4.open_
  refine gr_append (ys := l) (n := 0) cellT ge te.lt rfl (hcl.mono fun b hb => te.ft (Nat.le_refl 0) b hb) (hel.mono fun b hb => te.ft (Nat.le_refl 0) b hb) (by simp; omega) (by simp; omega) ?_
  intro v5 h5 own5 g5 t5 k5 ho5
  rw [List.nil_append] at g5
  have u5 := te.trans t5
  obtain ⟨va, vn, vc, ev5, hvn⟩ := g5.vals
  subst ev5
  simp -dsimp
  refine loopc (σ := Nat) (fun j => [(5, .int .i64 slots), (6, .slice a2 order.length c2), (17, .slice la l.length lc), (18, .slice va vn vc), (19, .int .i64 j)])
    (fun j h6 => j ≤ 40 ∧ ∃ M own xs, Tr none_ M h4 h6 ∧ Gr rCell 39 0 M h6 (.slice va vn vc) xs own ∧ xs.Perm l) (fun j => 40 - j) 0 0 (fun _ _ => True) noRet noRet_le (by simp) ⟨by decide, _, own5, l, u5, g5, List.Perm.refl _⟩ (by kernel_rfl) ?_ ?_
  · rintro j h6 g ⟨hj, M, own, xs, t6, g6, hp⟩
    have hxl := hp.length_eq
    by_cases hc1 : j < order.length ∧ j < 40 ∧ 0 < vn
    · obtain ⟨hjo, hj40, hv0⟩ := hc1
      have wj := wrap_succ (k := j) (by omega)
      have hj40' : ((j : Int) < 40) = True := by simp; omega
      obtain ⟨b1, o1, e1, _, hx1⟩ := (hw.mono ((Tr.of (u4.trans t6.keep fun _ _ h => h)).ft (Nat.le_refl 0))).int_at j hjo
      subst e1
      simp -dsimp [hjo, hj40', hv0]
      refine drawn_by [⟨0, true, []⟩, ⟨1, true, []⟩, ⟨2, true, []⟩, ⟨3, true, []⟩, ⟨4, true, []⟩, ⟨5, true, []⟩, ⟨6, true, []⟩, ⟨7, true, []⟩, ⟨8, true, []⟩, ⟨9, true, []⟩, ⟨10, false, [0, 1, 2, 3]⟩, ⟨11, true, []⟩, ⟨12, true, []⟩] (by kernel_rfl) (by kernel_rfl) ?_
      have hrem : ∀ x : Int, intRes .rem .i64 x (vn : Int) = some (.int .i64 (x.tmod vn)) := fun x => intRes_rem _ _ _ (by omega)
      have ht := tmod_bound (a := (j : Int)) (n := (vn : Int)) (by omega)
      have ht0 : 0 ≤ (j : Int).tmod vn := Int.tmod_nonneg _ (by omega)
      obtain ⟨p, ep⟩ : ∃ p : Nat, (j : Int).tmod vn = p := ⟨((j : Int).tmod vn).toNat, by omega⟩
      have hpv : p < vn := by omega
      simp -dsimp [idxV_nat hjo, elSz_eq, hx1, hrem, ep]
      refine call_by (within_spec order[j] vn (by omega) (by omega) h6) ?_
      rintro _ h6' ⟨rfl, hh⟩
      subst h6'
      have hwb := withinM_bound (a := order[j]) (n := (vn : Int)) (by omega)
      obtain ⟨q, eq⟩ : ∃ q : Nat, withinM order[j] vn = q := ⟨(withinM order[j] vn).toNat, by omega⟩
      have hqv : q < vn := by omega
      rw [eq]
      simp -dsimp [again_cons, hrem, ep]
      refine drawn_by [⟨0, true, []⟩, ⟨1, true, []⟩, ⟨2, true, []⟩, ⟨3, true, []⟩, ⟨4, true, []⟩, ⟨5, true, []⟩, ⟨6, true, []⟩, ⟨7, true, []⟩, ⟨8, true, []⟩, ⟨9, true, []⟩, ⟨10, true, []⟩, ⟨11, true, []⟩, ⟨12, true, []⟩, ⟨13, false, [2, 3]⟩, ⟨14, true, []⟩, ⟨15, false, []⟩] (by kernel_rfl) (by kernel_rfl) ?_
      obtain ⟨bk, cp', eb, eo, hrp, hcp⟩ := g6.elem p (by omega)
      obtain ⟨bk', cq, eb', _, hrq, hcq⟩ := g6.elem q (by omega)
      subst eb
      cases eb'
      obtain ⟨kp, kpc, sp, spc, np, npc, xp, xpc, rfl, _⟩ := cell_open hrp
      obtain ⟨kq, kqc, sq, sqc, nq, nqc, xq, xqc, rfl, _⟩ := cell_open hrq
      have hcp' : HC.cellsIn h6[bk]? (p * 5) 5 = _ := hcp
      have hcq' : HC.cellsIn h6[bk]? (q * 5) 5 = _ := hcq
      obtain ⟨bk2, m2, c2', o2, hv2, hm2, ho2, hw2, g7⟩ := g6.setE (i := p) (by omega) hrq
      cases hv2
      have hMb := g6.mu bk ho2
      obtain ⟨bk3, m3, c3', o3, hv3, hm3, ho3, hw3, g8⟩ := g7.setE (i := q) (x := xs[p]) (by simp; omega) (rCell.mono hrp fun b hb => ⟨⟨hb.1, by simpa using hb.2.1, hb.2.2⟩, set_other _ fun e => hb.2.2 (e ▸ hMb)⟩)
      cases hv3
      have hw2' : writeIn h6[bk]? (p * 5) _ = some o2 := hw2
      have hw3' : writeIn (h6.setIfInBounds bk o2)[bk]? (q * 5) _ = some o3 := hw3
      simp -dsimp [idxV_nat hpv, idxV_nat hqv, elSz_eq, hcp', hcq', again_cons, hw2', hw3', wj]
      have e2 : (h6.setIfInBounds bk o2).setIfInBounds bk o3 = h6.setIfInBounds bk o3 := by simp
      rw [e2] at g8
      refine ⟨j + 1, by simp, rfl, ⟨by omega, M, own, _, t6.set _ hMb, g8, ?_⟩, by show 40 - (j + 1) < 40 - j; omega⟩
      exact (List.set_set_perm (by omega) (by omega)).trans hp
    · have hz : xs.length = vn := by omega
      by_cases hjo : j < order.length
      · by_cases hj40 : j < 40
        · have hv0 : ¬ 0 < vn := fun h => hc1 ⟨hjo, hj40, h⟩
          have hj40' : ((j : Int) < 40) = True := by simp; omega
          simp -dsimp [hjo, hj40', hv0]
          exact ⟨rfl, j, by simp, rfl, ⟨hj, M, own, xs, t6, g6, hp⟩, trivial⟩
        · have hj40' : ((j : Int) < 40) = False := by simp; omega
          simp -dsimp [hjo, hj40']
          exact ⟨rfl, j, by simp, rfl, ⟨hj, M, own, xs, t6, g6, hp⟩, trivial⟩
      · simp -dsimp [hjo]
        exact ⟨rfl, j, by simp, rfl, ⟨hj, M, own, xs, t6, g6, hp⟩, trivial⟩
  · rintro j h6 g ⟨hj, M, own, xs, t6, g6, hp⟩ _
    have l6 := l4.mono ((Tr.of t6.keep).ft (Nat.le_refl 0))
    have m6 : SlRep rCell (Old h6) h6 (.slice va vn vc) xs := g6.rep (Nat.le_refl 0) (fun _ _ => Nat.zero_le _)
    have hpre' : Pre (0 + L) 0 l := by rwa [Nat.zero_add]
    have hcp := fun n => cnt_perm (n := n) hpre' hp.symm
    have hgp := group_perm hp
    have hxl := hp.length_eq
    have hwk := withinM_bound (a := slots) (n := 20) (by omega)
    obtain ⟨k, ek⟩ : ∃ k : Nat, 1 + withinM slots 20 = k := ⟨(1 + withinM slots 20).toNat, by omega⟩
    have w1 : IntKind.i64.wrap (1 + withinM slots 20) = (k : Int) := by rw [wrap_i64 (by omega) (by omega), ek]
    simp -dsimp
    refine call_by (within_spec slots 20 (by decide) (by decide) h6) ?_
    rintro _ h6' ⟨rfl, hh⟩
    subst h6'
    simp -dsimp [w1]
    refine call_by (hgroup_spec hpre l6 (by omega) (by omega) (by omega) hsm hlv) ?_
    rintro _ h7 ⟨⟨v7, rfl, c7⟩, k7⟩
    have c7 := c7.rep (Nat.zero_le _)
    obtain ⟨ba, bc, rfl, _, _⟩ := c7.val
    have m7 := m6.mono ((Tr.of k7).ft (Nat.le_refl 0))
    simp -dsimp
    refine call_by (hgroup_spec (hpre.perm hp.symm) m7 (by omega) (by omega) (by omega) (fun d hd => hsm d (hp.mem_iff.1 hd)) hlv) ?_
    rintro _ h8 ⟨⟨v8, rfl, d8⟩, k8⟩
    have d8 := d8.rep (Nat.zero_le _)
    rw [hgp] at d8
    rw [← hcp k]
    obtain ⟨da, dc, rfl, _, _⟩ := d8.val
    have c8 := c7.mono ((Tr.of k8).ft (Nat.le_refl 0))
    have hcc : ((cntM k L 0 l : Nat) : Int) == ((cntM k L 0 l : Nat) : Int) := beq_self_eq_true _
    simp -dsimp
    refine call_by (rsame_spec c8 d8) ?_
    rintro _ h9 ⟨⟨t9, rfl, ht9⟩, k9⟩
    have ht9 : t9 = true := ht9.2 rfl
    subst ht9
    simp -dsimp
    exact hK _ _ ⟨rfl, (((u4.trans t6.keep fun _ _ h => h).trans k7 fun _ _ h => h).trans k8 fun _ _ h => h).trans k9 fun _ _ h => h⟩
end Go.Proofs

/-
  The bridge from a contract on heaps to a row: what an argument that is a slice of numbers is, in memory.
-/
namespace Go.HC
open Go.ChangeShapes Go.WideShapes Go.ChangeAt Go.RowKit

theorem cells_of {w : World} {a : Addr} {vs : List Value} (hc : ∀ i (hi : i < vs.length), w.cell? (a.add i) = some vs[i]) : Cells (fun b => b < w.heap.size) w.heap (some a) vs := by
  by_cases hne : vs = []
  · exact .inl hne
  · have hpos : 0 < vs.length := List.length_pos_iff.2 hne
    obtain ⟨bk, off, spot⟩ := a
    have h0 := hc 0 hpos
    rw [cellH_eq] at h0
    unfold cellH at h0
    simp only [Addr.add, if_true] at h0
    cases hb : w.heap[bk]? with
    | none => rw [hb] at h0; cases h0
    | some o =>
      rw [hb] at h0
      cases o with
      | cells c e fz =>
        simp only at h0
        have hsp : spot = none := by
          cases spot with
          | none => rfl
          | some s => simp at h0
        subst hsp
        refine .inr ⟨bk, off, c, e, fz, rfl, lt_of_blk hb, hb, ?_⟩
        apply List.ext_getElem?
        intro i
        by_cases hi : i < vs.length
        · have h1 := hc i hi
          rw [cellH_eq] at h1
          unfold cellH at h1
          rw [add_mk] at h1
          simp only [hb, Option.isSome_none, Bool.false_eq_true, if_false] at h1
          rw [List.getElem?_take, if_pos hi, List.getElem?_drop, Array.getElem?_toList, h1, List.getElem?_eq_getElem hi]
        · rw [List.getElem?_take, if_neg hi, List.getElem?_eq_none (by omega)]
      | _ => cases h0

variable {H : Type} {enc : TypeId × Value → H} {P : Program} {W : World} {base : Nat}
theorem open_rep {t e : TypeId} {k : IntKind} {v : Value} {d : DataW H} {p : List MemPlace} (ht : P.underlying t = some (.slice e)) (he : P.underlying e = some (.int k)) (hc : P.cellsOf e = 1)
    (hval : Value.okWide P W .any base t v) (hd : DataW.Trod enc P W 0 (fun _ => true) true t v d p) :
    ∃ (a : Option Addr) (n c : Nat) (zs : List Int), v = .slice a n c ∧ zs.length = n ∧ n ≤ c ∧ c < 9223372036854775808 ∧ Cells (fun b => b < W.heap.size) W.heap a (zs.map (.int k)) ∧ ∀ z ∈ zs, (Lit.int k z).wf = true := by
  obtain ⟨a0, len, cap, rfl⟩ := okWide_slice ht hval
  obtain ⟨fuel, hf⟩ := hd
  rcases open_ints ht he hc hf with ⟨hcs, hx⟩ | ⟨a, len', cap', zs, hcs, _, hl, hm, hz, hx, hcell, hwz⟩
  · simp [Value.cells] at hcs
    obtain ⟨rfl, rfl, rfl⟩ := hcs
    exact ⟨none, 0, 0, [], rfl, rfl, Nat.le_refl _, by decide, .inl rfl, by simp⟩
  · simp [Value.cells] at hcs
    obtain ⟨rfl, rfl, rfl⟩ := hcs
    simp only [if_true] at hz
    have hm' : maxLen = 9223372036854775807 := rfl
    refine ⟨some a, len, cap, zs.take len, rfl, by simp; omega, hl, by omega, cells_of fun i hi => ?_, fun z hz => hwz z (List.mem_of_mem_take hz)⟩
    simp only [List.length_map, List.length_take] at hi
    rw [hcell i (by omega)]
    simp [List.getElem_map, List.getElem_take, List.getD, List.getElem?_eq_getElem (show i < zs.length by omega)]
theorem open_intRep {t e : TypeId} {v : Value} {d : DataW H} {p : List MemPlace} (ht : P.underlying t = some (.slice e)) (he : P.underlying e = some (.int .i64)) (hc : P.cellsOf e = 1)
    (hval : Value.okWide P W .any base t v) (hd : DataW.Trod enc P W 0 (fun _ => true) true t v d p) : ∃ xs : List Int, SlRep rInt (fun b => b < W.heap.size) W.heap v xs := by
  obtain ⟨a, n, c, zs, rfl, rfl, h1, h2, h3, _⟩ := open_rep ht he hc hval hd
  exact ⟨zs, a, c, _, rfl, h1, h2, h3, ints_map.2 rfl⟩
theorem open_byteRep {t e : TypeId} {v : Value} {d : DataW H} {p : List MemPlace} (ht : P.underlying t = some (.slice e)) (he : P.underlying e = some (.int .u8)) (hc : P.cellsOf e = 1)
    (hval : Value.okWide P W .any base t v) (hd : DataW.Trod enc P W 0 (fun _ => true) true t v d p) : ∃ xs : List UInt8, SlRep rByte (fun b => b < W.heap.size) W.heap v xs := by
  obtain ⟨a, n, c, zs, rfl, rfl, h1, h2, h3, h4⟩ := open_rep ht he hc hval hd
  have hl : (zs.map fun z => UInt8.ofNat z.toNat).length = zs.length := by simp
  refine ⟨zs.map fun z => UInt8.ofNat z.toNat, a, c, _, by rw [hl], by rw [hl]; exact h1, h2, h3, bytes_map.2 ?_⟩
  rw [List.map_map]
  apply List.map_congr_left
  intro z hz
  have := h4 z hz
  have e1 : IntKind.u8.min = 0 := rfl
  have e2 : IntKind.u8.max = 255 := rfl
  simp only [Lit.wf, Bool.and_eq_true, decide_eq_true_eq, e1, e2] at this
  simp only [Function.comp_apply, Value.int.injEq, true_and, UInt8.toNat_ofNat']
  omega

/-- A contract, as the row's walk. -/
theorem below_of {w w' : World} (h : Same w w') (k : Keep none_ w.heap w'.heap) : Below w.heap.size w w' :=
  ⟨h.os, h.tape, h.output, k.size, fun i hi => k.blk i hi (fun h => h)⟩
theorem calls_of {f : FuncId} {args : Array Value} {w : World} (h : CallH P f args w.heap fun r h' => r = .bool true ∧ Keep none_ w.heap h') : Calls P f args w fun e w' => e = .returned (.bool true) ∧ Below w.heap.size w w' :=
  (h w rfl).mono fun e w' ⟨v, he, hs, hv, hk⟩ => ⟨by rw [he, hv], below_of hs hk⟩
end Go.HC

/-
  The bridge: arguments that stay as they were, all at once.
-/
namespace Go.HC
open Go.ChangeShapes Go.WideShapes Go.ChangeAt Go.RowKit Go.ChangeMaps
theorem below_trodAll {H : Type} {enc : TypeId × Value → H} {P : Program} (hl : laidOutB P = true) {W W' : World} (hb : Below W.heap.size W W') :
    ∀ {ts : List TypeId} {vs : List Value} {ds : List (DataW H)} {ps : List MemPlace}, (ts.all fun t => P.readableRec t && decide (t < P.types.size)) = true →
      DataW.TrodAll enc P W 0 (fun _ => true) true ts vs ds ps → (∀ x ∈ ps, x.block < W.heap.size) → DataW.TrodAll enc P W' 0 (fun b => decide (b < W.heap.size)) true ts vs ds ps
  | [], vs, ds, ps, _, h, _ => by
    obtain ⟨rfl, rfl, rfl⟩ := trodAll_nil h
    exact trodAll_mk0
  | t :: ts, vs, ds, ps, ht, h, hlt => by
    rw [List.all_cons, Bool.and_eq_true, Bool.and_eq_true] at ht
    obtain ⟨⟨h1, h2⟩, h3⟩ := ht
    obtain ⟨v, vs', d, ds', p, q, rfl, rfl, rfl, hd, hs⟩ := trodAll_cons h
    exact trodAll_cons_mk (Below.trod hl h1 (of_decide_eq_true h2) hd hb fun x hx => hlt x (List.mem_append.2 (.inl hx))) (below_trodAll hl hb h3 hs fun x hx => hlt x (List.mem_append.2 (.inr hx)))
theorem open_u8 {H : Type} {enc : TypeId × Value → H} {P : Program} {W : World} {r : Reach} {b0 : Nat} {t : TypeId} {v : Value} {d : DataW H} {ps : List MemPlace} (ht : P.underlying t = some (.int .u8)) (hval : Value.okWide P W r b0 t v)
    (hd : DataW.Trod enc P W 0 (fun _ => true) true t v d ps) : ∃ c : UInt8, v = .int .u8 c.toNat := by
  obtain ⟨a, rfl, _, _, wa⟩ := open_int ht hval hd
  have e1 : IntKind.u8.min = 0 := rfl
  have e2 : IntKind.u8.max = 255 := rfl
  simp only [Lit.wf, Bool.and_eq_true, decide_eq_true_eq, e1, e2] at wa
  refine ⟨UInt8.ofNat a.toNat, ?_⟩
  simp only [Value.int.injEq, true_and, UInt8.toNat_ofNat']
  omega
theorem open_str {H : Type} {enc : TypeId × Value → H} {P : Program} {W : World} {r : Reach} {b0 : Nat} {t : TypeId} {v : Value} {d : DataW H} {ps : List MemPlace} (ht : P.underlying t = some .string) (hval : Value.okWide P W r b0 t v)
    (hd : DataW.Trod enc P W 0 (fun _ => true) true t v d ps) : ∃ s : ByteArray, v = .string s ∧ s.size ≤ 9223372036854775807 := by
  obtain ⟨s, rfl, _, _, hs⟩ := open_string ht hval hd
  exact ⟨s, rfl, hs⟩
end Go.HC
