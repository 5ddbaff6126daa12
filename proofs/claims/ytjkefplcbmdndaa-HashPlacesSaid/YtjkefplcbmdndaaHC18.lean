/-
  HC, part 18: a drawn region in which two operations that both change the memory stand in no order: two orders are written out.
-/
import Derived.Test.YtjkefplcbmdndaaHC17
namespace Go.HC

/-- The same operations, the one with number j behind that with number i. -/
def addE (ops : Array Oper) (i j : Nat) : Array Oper := ops.modify j fun o => { o with after := o.after.push { on := i, ground := .data } }

section
variable {P : Program} {ops : Array Oper} {i j : Nat}
theorem addE_get (m : Nat) : (addE ops i j)[m]? = (ops[m]?).map fun o => if m = j then { o with after := o.after.push { on := i, ground := .data } } else o := by
  unfold addE
  rw [Array.getElem?_modify]
  by_cases h : j = m
  · subst h; simp
  · rw [if_neg h]
    cases ops[m]? with
    | none => rfl
    | some o => simp [Ne.symm h]
theorem addE_size : (addE ops i j).size = ops.size := by simp [addE]
theorem execOp_after (ρ : Operand → Value) (o : Oper) (x : Array Edge) : execOp ρ { o with after := x } = execOp ρ o := by
  obtain ⟨dst, op, type, pos, after, guard⟩ := o
  rfl
theorem addE_dst (m : Nat) : ((addE ops i j)[m]?).bind (·.dst) = (ops[m]?).bind (·.dst) := by
  rw [addE_get]
  cases ops[m]? with
  | none => rfl
  | some o => simp only [Option.map_some, Option.bind_some]; split <;> rfl
theorem addE_gval (l : L) (b : Base) (m : Nat) : gval (addE ops i j) l b m = gval ops l b m := by
  unfold gval; rw [addE_dst]
theorem addE_yielded (tmps : Array Value) : yielded (addE ops i j) tmps = yielded ops tmps := by
  funext m
  unfold yielded
  rw [addE_dst]
theorem addE_deps {s z : Nat} (h : z ∈ depsOf (addE ops i j) s) : z ∈ depsOf ops s ∨ s = j ∧ z = i := by
  unfold depsOf at h ⊢
  rw [addE_get] at h
  cases ho : ops[s]? with
  | none => rw [ho] at h; cases h
  | some o =>
    rw [ho] at h
    simp only [Option.map_some] at h
    by_cases hs : s = j
    · subst hs
      simp only [if_true, Array.toList_push, List.filter_append, List.map_append, List.mem_append] at h
      rcases h with h | h
      · exact .inl h
      · right
        refine ⟨rfl, ?_⟩
        simp [Region.binds] at h
        exact h
    · simp only [if_neg hs] at h
      exact .inl h
theorem addE_lin : ∀ {σ E : List Nat}, Lin ops E σ → (∀ A B, σ = A ++ j :: B → i ∈ A ∨ i ∈ E) → Lin (addE ops i j) E σ
  | [], _, _, _ => trivial
  | s :: σ, E, ⟨h1, h2⟩, hc => by
    refine ⟨fun z hz => ?_, addE_lin h2 fun A B hAB => ?_⟩
    · rcases addE_deps hz with h | ⟨rfl, rfl⟩
      · exact h1 z h
      · rcases hc [] σ rfl with h | h
        · cases h
        · exact h
    · rcases hc (s :: A) B (by rw [hAB]; rfl) with h | h
      · rcases List.mem_cons.1 h with h | h
        · exact .inr (h ▸ List.mem_cons_self ..)
        · exact .inl h
      · exact .inr (List.mem_cons_of_mem _ h)
theorem split_uniq {x : Nat} : ∀ {A A' B B' : List Nat}, (A ++ x :: B).Nodup → A ++ x :: B = A' ++ x :: B' → A = A'
  | [], [], _, _, _, _ => rfl
  | [], a :: A', B, B', hn, h => by
    simp only [List.nil_append, List.cons_append, List.cons.injEq] at h
    obtain ⟨rfl, rfl⟩ := h
    simp at hn
  | a :: A, [], B, B', hn, h => by
    simp only [List.nil_append, List.cons_append, List.cons.injEq] at h
    obtain ⟨rfl, rfl⟩ := h
    simp at hn
  | a :: A, a' :: A', B, B', hn, h => by
    simp only [List.cons_append, List.cons.injEq] at h
    obtain ⟨rfl, h⟩ := h
    rw [split_uniq (List.nodup_cons.1 hn).2 h]
theorem two_orders {σ : List Nat} (hn : σ.Nodup) (hi : i ∈ σ) (hj : j ∈ σ) (hij : i ≠ j) : (∀ A B, σ = A ++ j :: B → i ∈ A ∨ i ∈ ([] : List Nat)) ∨ (∀ A B, σ = A ++ i :: B → j ∈ A ∨ j ∈ ([] : List Nat)) := by
  obtain ⟨A0, B0, rfl⟩ := List.append_of_mem hj
  rcases List.mem_append.1 hi with h | h
  · exact .inl fun A B hAB => .inl (split_uniq hn hAB ▸ h)
  · rcases List.mem_cons.1 h with h | h
    · exact absurd h hij
    · right
      intro A B hAB
      obtain ⟨B1, B2, rfl⟩ := List.append_of_mem h
      have : A0 ++ j :: (B1 ++ i :: B2) = (A0 ++ j :: B1) ++ i :: B2 := by simp
      rw [this] at hAB hn
      rw [← split_uniq hn hAB]
      exact .inl (by simp)
theorem addE_arun : ∀ (σ : List Nat) {K : Act → Heap → Prop} {a : Act} {h : Heap}, arun P (addE ops i j) σ K a h → arun P ops σ K a h
  | [], _, _, _, h => h
  | s :: σ, K, a, h, hr => by
    simp only [arun] at hr ⊢
    rw [addE_get] at hr
    cases ho : ops[s]? with
    | none => simp [ho] at hr
    | some o =>
      simp only [ho, Option.map_some] at hr ⊢
      have hw : wanted (addE ops i j) (if s = j then { o with after := o.after.push { on := i, ground := .data } } else o) a = wanted ops o a := by
        unfold wanted
        rw [addE_yielded]
        split <;> rfl
      have he : execOp a.eval (if s = j then { o with after := o.after.push { on := i, ground := .data } } else o) = execOp a.eval o := by
        split
        · exact execOp_after _ _ _
        · rfl
      have hd : (if s = j then { o with after := o.after.push { on := i, ground := .data } } else o).dst = o.dst := by split <;> rfl
      rw [hw, he, hd] at hr
      split
      · rename_i hww
        rw [if_pos hww] at hr
        exact hp_mono _ hr fun x h' hx => nextK_mono (fun v h'' hh => addE_arun σ hh) x h' hx
      · rename_i hww
        rw [if_neg hww] at hr
        exact addE_arun σ hr
theorem addE_dsem : ∀ (ds : List Di) {pl : List (Nat × (Heap → Prop))} {K : L → Base → Heap → Prop} {l : L} {b : Base} {h : Heap}, dsem P ops ds pl K l b h → dsem P (addE ops i j) ds pl K l b h
  | [], _, _, _, _, _, h => h
  | d :: ds, pl, K, l, b, h, hd => by
    simp only [dsem] at hd ⊢
    rw [addE_get]
    cases ho : ops[d.i]? with
    | none => simp [ho] at hd
    | some o =>
      simp only [ho, Option.map_some] at hd ⊢
      have hw : guardB (if d.i = j then { o with after := o.after.push { on := i, ground := .data } } else o) (addE ops i j) l b = guardB o ops l b := by
        have key : ∀ o' : Oper, guardB o' (addE ops i j) l b = guardB o' ops l b := by
          intro o'
          unfold guardB
          cases o'.guard with
          | none => rfl
          | some p => simp only [addE_gval]
        rw [key]
        split <;> rfl
      have he : ∀ h K, osem P (if d.i = j then { o with after := o.after.push { on := i, ground := .data } } else o) l b h K = osem P o l b h K := by
        intro h K
        split
        · unfold osem; rw [execOp_after]
        · rfl
      have hdst : (if d.i = j then { o with after := o.after.push { on := i, ground := .data } } else o).dst = o.dst := by split <;> rfl
      simp only [hw, he, hdst]
      split
      · rename_i hg
        rw [if_pos hg] at hd
        split
        · rename_i hm
          rw [if_pos hm] at hd
          obtain ⟨v, h1, h2⟩ := hd
          exact ⟨v, h1, addE_dsem ds h2⟩
        · rename_i hm
          rw [if_neg hm] at hd
          exact hp_mono _ hd fun x h' hx => nextK_mono (fun v h'' hh => ⟨hh.1, addE_dsem ds hh.2⟩) x h' hx
      · rename_i hg
        rw [if_neg hg] at hd
        exact addE_dsem ds hd

def drawOk2 (ops : Array Oper) (i j : Nat) (ds1 ds2 : List Di) : Bool :=
  (!Region.departs ops || (upM .text ops && upM .gc ops)) && upB ops && decide (i ≠ j) && decide (i < ops.size) && decide (j < ops.size) &&
  (Region.noSelect (addE ops i j) && pairB (addE ops i j) ds1 && (ds1.map (·.i)).isPerm (List.range ops.size) && ds1.all fun d => !d.mv || (match (addE ops i j)[d.i]? with | some o => valOp o.op | none => false)) &&
  (Region.noSelect (addE ops j i) && pairB (addE ops j i) ds2 && (ds2.map (·.i)).isPerm (List.range ops.size) && ds2.all fun d => !d.mv || (match (addE ops j i)[d.i]? with | some o => valOp o.op | none => false))
theorem addE_opsOk {n : Nat} (hok : opsOk n ops = true) : opsOk n (addE ops i j) = true := by
  unfold opsOk at *
  rw [List.all_eq_true] at *
  intro o ho
  obtain ⟨m, hm⟩ := List.mem_iff_getElem?.1 ho
  rw [Array.getElem?_toList, addE_get] at hm
  cases ho' : ops[m]? with
  | none => rw [ho'] at hm; cases hm
  | some o' =>
    rw [ho'] at hm
    simp only [Option.map_some, Option.some.injEq] at hm
    have h1 := hok o' (by simpa using Array.mem_of_getElem? ho')
    have hdst : o.dst = o'.dst := by rw [← hm]; split <;> rfl
    rw [hdst]
    exact h1

theorem draw_rule2 {n : Nat} {ro : Option Nat} {id : Nat} {κ : Kont} {l : L} {b : Base} {h : Heap} (i j : Nat) (ds1 ds2 : List Di) (hd : drawOk2 ops i j ds1 ds2 = true) (hok : opsOk n ops = true)
    (hc1 : dsem P ops ds1 [] κ.nx l b h) (hc2 : dsem P ops ds2 [] κ.nx l b h) : gsem P n ro (.region id ops true) κ l b h := by
  intro a w hw hfr fr k cs hkd hro
  subst hw
  unfold drawOk2 at hd
  rw [Bool.and_eq_true, Bool.and_eq_true, Bool.and_eq_true, Bool.and_eq_true, Bool.and_eq_true, Bool.and_eq_true] at hd
  obtain ⟨⟨⟨⟨⟨⟨hdep, hup⟩, hij⟩, hi⟩, hj⟩, h1⟩, h2⟩ := hd
  rw [Bool.and_eq_true, Bool.and_eq_true, Bool.and_eq_true] at h1 h2
  obtain ⟨⟨⟨hsel1, hpair1⟩, hperm1⟩, hval1⟩ := h1
  obtain ⟨⟨⟨hsel2, hpair2⟩, hperm2⟩, hval2⟩ := h2
  have hij := of_decide_eq_true hij
  have hi := of_decide_eq_true hi
  have hj := of_decide_eq_true hj
  have hperm1 := List.isPerm_iff.1 hperm1
  have hperm2 := List.isPerm_iff.1 hperm2
  let t := w.tape w.drawn (.order fr.fn id)
  obtain ⟨hp1, hlin⟩ := sched_all (mixed := P.follows .mixedOrders) hdep hup t
  have hnd : (Region.schedule (P.follows .mixedOrders) ops t).Nodup := hp1.symm.nodup List.nodup_range
  have har : arun P ops (Region.schedule (P.follows .mixedOrders) ops t) (fun a' h' => ∃ l', IsFr n a' l' b ∧ κ.nx l' b h') a w.heap := by
    rcases two_orders hnd (hp1.symm.subset (by simpa using hi)) (hp1.symm.subset (by simpa using hj)) hij with ho | ho
    · have hcr := crun_of_dsem (P := P) (addE_opsOk hok) ds1 (pa := []) hval1 (by simp) hfr (addE_dsem (i := i) (j := j) ds1 hc1)
      refine addE_arun (i := i) (j := j) _ (arun_of_crun hsel1 _ ds1 [] [] a _ (hp1.trans hperm1.symm) hnd (fun d hd => ?_) (fun y hy => by cases hy) (addE_lin hlin ho) (fun d _ => by simp) hpair1 hcr)
      have : d.i ∈ List.range ops.size := hperm1.subset (List.mem_map.2 ⟨d, hd, rfl⟩)
      simp at this
      rw [addE_get]
      simp [this]
    · have hcr := crun_of_dsem (P := P) (addE_opsOk hok) ds2 (pa := []) hval2 (by simp) hfr (addE_dsem (i := j) (j := i) ds2 hc2)
      refine addE_arun (i := j) (j := i) _ (arun_of_crun hsel2 _ ds2 [] [] a _ (hp1.trans hperm2.symm) hnd (fun d hd => ?_) (fun y hy => by cases hy) (addE_lin hlin ho) (fun d _ => by simp) hpair2 hcr)
      have : d.i ∈ List.range ops.size := hperm2.subset (List.mem_map.2 ⟨d, hd, rfl⟩)
      simp at this
      rw [addE_get]
      simp [this]
  obtain ⟨a', w', hs, ⟨l', hfr', hk⟩, hst⟩ := steps_arun (P := P) (d := b.d) (fr := fr) (k := k) (cs := cs) hok _ (w := { w with drawn := w.drawn + 1 }) hfr.size hfr.defers har
  exact ⟨.nx, a', w', l', b, ⟨hs.os, hs.tape, hs.output⟩, hfr', hk, .head stepR_region_draw hst⟩

/-- Two orders that are written out. -/
theorem drawn_by2 {n : Nat} {ro : Option Nat} {id : Nat} {κ : Kont} {l : L} {b : Base} {h : Heap} {ops : List Oper} (i j : Nat) (ds1 ds2 : List Di) (hd : drawOk2 ops.toArray i j ds1 ds2 = true) (hok : opsOk n ops.toArray = true)
    (hc1 : dw P ops ds1 [] κ.nx l b h) (hc2 : dw P ops ds2 [] κ.nx l b h) : gs P n ro (.region id ops.toArray true) κ l b h :=
  draw_rule2 i j ds1 ds2 hd hok (dsem_of_dwF ds1 (by simp) hc1) (dsem_of_dwF ds2 (by simp) hc2)
end
end Go.HC
