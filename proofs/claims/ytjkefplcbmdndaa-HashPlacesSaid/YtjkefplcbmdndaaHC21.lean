/-
  HC, part 21: a drawn region in which several operations that change the memory stand in no order: a tree of orders.
-/
import Derived.Test.YtjkefplcbmdndaaHC20
namespace Go.HC
/-- Orders: one that is written out; or two trees: of those in which i stands ahead of j, and of those in which j stands ahead of i. -/
inductive DT
  | leaf (ds : List Di)
  | node (i j : Nat) (a b : DT)
section
variable {P : Program}
def leafOk (ops : Array Oper) (ds : List Di) : Bool :=
  Region.noSelect ops && pairB ops ds && (ds.map (·.i)).isPerm (List.range ops.size) && ds.all fun d => !d.mv || (match ops[d.i]? with | some o => valOp o.op | none => false)
def treeOk (ops : Array Oper) : DT → Bool
  | .leaf ds => leafOk ops ds
  | .node i j a b => decide (i ≠ j) && decide (i < ops.size) && decide (j < ops.size) && treeOk (addE ops i j) a && treeOk (addE ops j i) b
def treeS (P : Program) (ops : Array Oper) (K : L → Base → Heap → Prop) (l : L) (b : Base) (h : Heap) : DT → Prop
  | .leaf ds => dsem P ops ds [] K l b h
  | .node _ _ x y => treeS P ops K l b h x ∧ treeS P ops K l b h y
theorem treeS_add {ops : Array Oper} {K : L → Base → Heap → Prop} {l : L} {b : Base} {h : Heap} {i j : Nat} : ∀ (t : DT), treeS P ops K l b h t → treeS P (addE ops i j) K l b h t
  | .leaf ds, hd => addE_dsem (i := i) (j := j) ds hd
  | .node _ _ x y, ⟨h1, h2⟩ => ⟨treeS_add x h1, treeS_add y h2⟩
theorem tree_arun {n : Nat} {κ : L → Base → Heap → Prop} {l : L} {b : Base} {h : Heap} {a : Act} {σ : List Nat} (hnd : σ.Nodup) (hfr : IsFr n a l b) : ∀ (t : DT) {ops : Array Oper}, opsOk n ops = true → treeOk ops t = true → σ.Perm (List.range ops.size) → Lin ops [] σ →
    treeS P ops κ l b h t → arun P ops σ (fun a' h' => ∃ l', IsFr n a' l' b ∧ κ l' b h') a h
  | .leaf ds, ops, hok, ht, hp, hlin, hd => by
    unfold treeOk leafOk at ht
    rw [Bool.and_eq_true, Bool.and_eq_true, Bool.and_eq_true] at ht
    obtain ⟨⟨⟨hsel, hpair⟩, hperm⟩, hval⟩ := ht
    have hperm := List.isPerm_iff.1 hperm
    have hcr := crun_of_dsem (P := P) hok ds (pa := []) hval (by simp) hfr hd
    refine arun_of_crun hsel _ ds [] [] a _ (hp.trans hperm.symm) hnd (fun d hd => ?_) (fun y hy => by cases hy) hlin (fun d _ => by simp) hpair hcr
    have : d.i ∈ List.range ops.size := hperm.subset (List.mem_map.2 ⟨d, hd, rfl⟩)
    simp at this
    simp [this]
  | .node i j x y, ops, hok, ht, hp, hlin, hd => by
    unfold treeOk at ht
    rw [Bool.and_eq_true, Bool.and_eq_true, Bool.and_eq_true, Bool.and_eq_true] at ht
    obtain ⟨⟨⟨⟨hij, hi⟩, hj⟩, h1⟩, h2⟩ := ht
    have hij := of_decide_eq_true hij
    have hi := of_decide_eq_true hi
    have hj := of_decide_eq_true hj
    rcases two_orders hnd (hp.symm.subset (by simpa using hi)) (hp.symm.subset (by simpa using hj)) hij with ho | ho
    · exact addE_arun (i := i) (j := j) _ (tree_arun hnd hfr x (addE_opsOk hok) h1 (by rw [addE_size]; exact hp) (addE_lin hlin ho) (treeS_add x hd.1))
    · exact addE_arun (i := j) (j := i) _ (tree_arun hnd hfr y (addE_opsOk hok) h2 (by rw [addE_size]; exact hp) (addE_lin hlin ho) (treeS_add y hd.2))
def drawOkT (ops : Array Oper) (t : DT) : Bool := (!Region.departs ops || (upM .text ops && upM .gc ops)) && upB ops && treeOk ops t
theorem draw_ruleT {n : Nat} {ro : Option Nat} {id : Nat} {κ : Kont} {l : L} {b : Base} {h : Heap} {ops : Array Oper} (t : DT) (hd : drawOkT ops t = true) (hok : opsOk n ops = true)
    (hc : treeS P ops κ.nx l b h t) : gsem P n ro (.region id ops true) κ l b h := by
  intro a w hw hfr fr k cs hkd hro
  subst hw
  unfold drawOkT at hd
  rw [Bool.and_eq_true, Bool.and_eq_true] at hd
  obtain ⟨⟨hdep, hup⟩, ht⟩ := hd
  let tp := w.tape w.drawn (.order fr.fn id)
  obtain ⟨hp1, hlin⟩ := sched_all (mixed := P.follows .mixedOrders) hdep hup tp
  have har := tree_arun (P := P) (κ := κ.nx) (hp1.symm.nodup List.nodup_range) hfr t hok ht hp1 hlin hc
  obtain ⟨a', w', hs, ⟨l', hfr', hk⟩, hst⟩ := steps_arun (P := P) (d := b.d) (fr := fr) (k := k) (cs := cs) hok _ (w := { w with drawn := w.drawn + 1 }) hfr.size hfr.defers har
  exact ⟨.nx, a', w', l', b, ⟨hs.os, hs.tape, hs.output⟩, hfr', hk, .head stepR_region_draw hst⟩
/-- A tree of orders, for simp. -/
def treeW (P : Program) (ops : List Oper) (K : L → Base → Heap → Prop) (l : L) (b : Base) (h : Heap) : DT → Prop
  | .leaf ds => dw P ops ds [] K l b h
  | .node _ _ x y => treeW P ops K l b h x ∧ treeW P ops K l b h y
theorem treeW_leaf {ops : List Oper} {K : L → Base → Heap → Prop} {l : L} {b : Base} {h : Heap} {ds : List Di} : treeW P ops K l b h (.leaf ds) = dw P ops ds [] K l b h := _root_.id rfl
theorem treeS_of {ops : List Oper} {K : L → Base → Heap → Prop} {l : L} {b : Base} {h : Heap} : ∀ (t : DT), treeW P ops K l b h t → treeS P ops.toArray K l b h t
  | .leaf ds, hd => dsem_of_dwF ds (by simp) hd
  | .node _ _ x y, ⟨h1, h2⟩ => ⟨treeS_of x h1, treeS_of y h2⟩
theorem drawn_byT {n : Nat} {ro : Option Nat} {id : Nat} {κ : Kont} {l : L} {b : Base} {h : Heap} {ops : List Oper} (t : DT) (hd : drawOkT ops.toArray t = true) (hok : opsOk n ops.toArray = true)
    (hc : treeW P ops κ.nx l b h t) : gs P n ro (.region id ops.toArray true) κ l b h := draw_ruleT t hd hok (treeS_of t hc)
end
end Go.HC
namespace Go.HC
theorem cut_cells {α : Type} {R : Rp α} {F G : Nat → Prop} {h : Heap} {a : Option Addr} {cs : List Value} {xs : List α} {i j c : Nat} (hc : Cells G h a cs) (he : Elems R F h cs xs) (h1 : i ≤ j) (h2 : j ≤ xs.length) (h3 : xs.length ≤ c) :
    Cells G h (piece a i c R.sz) ((cs.drop (i * R.sz)).take ((j - i) * R.sz)) ∧ Elems R F h ((cs.drop (i * R.sz)).take ((j - i) * R.sz)) ((xs.drop i).take (j - i)) := by
  refine ⟨?_, (he.drop i).take (j - i)⟩
  by_cases hij : i = j
  · left; subst hij; simp
  · rcases hc with h0 | ⟨bk, off, arr, e, fz, rfl, q1, q2, q3⟩
    · left; rw [h0]; simp
    · have hp : piece (some ⟨bk, off, none⟩) i c R.sz = some ⟨bk, off + i * R.sz, none⟩ := by
        unfold HC.piece
        rw [if_neg (by omega), offs_mk]
      rw [hp]
      refine Cells.take _ (Cells.drop (i * R.sz) (.inr ⟨bk, off, arr, e, fz, rfl, q1, q2, q3⟩) ?_)
      rw [he.len]
      exact Nat.mul_le_mul_right _ (by omega)
end Go.HC
