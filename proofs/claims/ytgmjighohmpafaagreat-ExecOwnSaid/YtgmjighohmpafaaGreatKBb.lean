/-
  HC, part 18: a drawn region in which two operations that both change the memory stand in no order: two orders are written out.
-/
import Derived.Test.YtgmjighohmpafaaGreatKBa
import Derived.Test.YtgmjighohmpafaaGreatProg
import Derived.KernelRfl

namespace Go.HC

/-- The same operations, the one with number j behind that with number i. -/
def addE (ops : Array Oper) (i j : Nat) : Array Oper := ops.modify j fun o => { o with after := o.after.push { on := i, ground := .data } }

section
variable {P : Program} {ops : Array Oper} {i j : Nat}
theorem addE_get (m : Nat) : (addE ops i j)[m]? = (ops[m]?).map fun o => if m = j then { o with after := o.after.push { on := i, ground := .data } } else o := by
  unfold addE
  rw [Array.getElem?_modify]
  by_cases h : j = m
  · subst h; simp
  · rw [if_neg h]
    cases ops[m]? with
    | none => rfl
    | some o => simp [Ne.symm h]
theorem addE_size : (addE ops i j).size = ops.size := by simp [addE]
theorem execOp_after (ρ : Operand → Value) (o : Oper) (x : Array Edge) : execOp ρ { o with after := x } = execOp ρ o := by
  obtain ⟨dst, op, type, pos, after, guard⟩ := o
  rfl
theorem addE_dst (m : Nat) : ((addE ops i j)[m]?).bind (·.dst) = (ops[m]?).bind (·.dst) := by
  rw [addE_get]
  cases ops[m]? with
  | none => rfl
  | some o => simp only [Option.map_some, Option.bind_some]; split <;> rfl
theorem addE_gval (l : L) (b : Base) (m : Nat) : gval (addE ops i j) l b m = gval ops l b m := by
  unfold gval; rw [addE_dst]
theorem addE_yielded (tmps : Array Value) : yielded (addE ops i j) tmps = yielded ops tmps := by
  funext m
  unfold yielded
  rw [addE_dst]
theorem addE_deps {s z : Nat} (h : z ∈ depsOf (addE ops i j) s) : z ∈ depsOf ops s ∨ s = j ∧ z = i := by
  unfold depsOf at h ⊢
  rw [addE_get] at h
  cases ho : ops[s]? with
  | none => rw [ho] at h; cases h
  | some o =>
    rw [ho] at h
    simp only [Option.map_some] at h
    by_cases hs : s = j
    · subst hs
      simp only [if_true, Array.toList_push, List.filter_append, List.map_append, List.mem_append] at h
      rcases h with h | h
      · exact .inl h
      · right
        refine ⟨rfl, ?_⟩
        simp [Region.binds] at h
        exact h
    · simp only [if_neg hs] at h
      exact .inl h
theorem addE_lin : ∀ {σ E : List Nat}, Lin ops E σ → (∀ A B, σ = A ++ j :: B → i ∈ A ∨ i ∈ E) → Lin (addE ops i j) E σ
  | [], _, _, _ => trivial
  | s :: σ, E, ⟨h1, h2⟩, hc => by
    refine ⟨fun z hz => ?_, addE_lin h2 fun A B hAB => ?_⟩
    · rcases addE_deps hz with h | ⟨rfl, rfl⟩
      · exact h1 z h
      · rcases hc [] σ rfl with h | h
        · cases h
        · exact h
    · rcases hc (s :: A) B (by rw [hAB]; rfl) with h | h
      · rcases List.mem_cons.1 h with h | h
        · exact .inr (h ▸ List.mem_cons_self ..)
        · exact .inl h
      · exact .inr (List.mem_cons_of_mem _ h)
theorem split_uniq {x : Nat} : ∀ {A A' B B' : List Nat}, (A ++ x :: B).Nodup → A ++ x :: B = A' ++ x :: B' → A = A'
  | [], [], _, _, _, _ => rfl
  | [], a :: A', B, B', hn, h => by
    simp only [List.nil_append, List.cons_append, List.cons.injEq] at h
    obtain ⟨rfl, rfl⟩ := h
    simp at hn
  | a :: A, [], B, B', hn, h => by
    simp only [List.nil_append, List.cons_append, List.cons.injEq] at h
    obtain ⟨rfl, rfl⟩ := h
    simp at hn
  | a :: A, a' :: A', B, B', hn, h => by
    simp only [List.cons_append, List.cons.injEq] at h
    obtain ⟨rfl, h⟩ := h
    rw [split_uniq (List.nodup_cons.1 hn).2 h]
theorem two_orders {σ : List Nat} (hn : σ.Nodup) (hi : i ∈ σ) (hj : j ∈ σ) (hij : i ≠ j) : (∀ A B, σ = A ++ j :: B → i ∈ A ∨ i ∈ ([] : List Nat)) ∨ (∀ A B, σ = A ++ i :: B → j ∈ A ∨ j ∈ ([] : List Nat)) := by
  obtain ⟨A0, B0, rfl⟩ := List.append_of_mem hj
  rcases List.mem_append.1 hi with h | h
  · exact .inl fun A B hAB => .inl (split_uniq hn hAB ▸ h)
  · rcases List.mem_cons.1 h with h | h
    · exact absurd h hij
    · right
      intro A B hAB
      obtain ⟨B1, B2, rfl⟩ := List.append_of_mem h
      have : A0 ++ j :: (B1 ++ i :: B2) = (A0 ++ j :: B1) ++ i :: B2 := by simp
      rw [this] at hAB hn
      rw [← split_uniq hn hAB]
      exact .inl (by simp)
theorem addE_arun : ∀ (σ : List Nat) {K : Act → Heap → Prop} {a : Act} {h : Heap}, arun P (addE ops i j) σ K a h → arun P ops σ K a h
  | [], _, _, _, h => h
  | s :: σ, K, a, h, hr => by
    simp only [arun] at hr ⊢
    rw [addE_get] at hr
    cases ho : ops[s]? with
    | none => simp [ho] at hr
    | some o =>
      simp only [ho, Option.map_some] at hr ⊢
      have hw : wanted (addE ops i j) (if s = j then { o with after := o.after.push { on := i, ground := .data } } else o) a = wanted ops o a := by
        unfold wanted
        rw [addE_yielded]
        split <;> rfl
      have he : execOp a.eval (if s = j then { o with after := o.after.push { on := i, ground := .data } } else o) = execOp a.eval o := by
        split
        · exact execOp_after _ _ _
        · rfl
      have hd : (if s = j then { o with after := o.after.push { on := i, ground := .data } } else o).dst = o.dst := by split <;> rfl
      rw [hw, he, hd] at hr
      split
      · rename_i hww
        rw [if_pos hww] at hr
        exact hp_mono _ hr fun x h' hx => nextK_mono (fun v h'' hh => addE_arun σ hh) x h' hx
      · rename_i hww
        rw [if_neg hww] at hr
        exact addE_arun σ hr
theorem addE_dsem : ∀ (ds : List Di) {pl : List (Nat × (Heap → Prop))} {K : L → Base → Heap → Prop} {l : L} {b : Base} {h : Heap}, dsem P ops ds pl K l b h → dsem P (addE ops i j) ds pl K l b h
  | [], _, _, _, _, _, h => h
  | d :: ds, pl, K, l, b, h, hd => by
    simp only [dsem] at hd ⊢
    rw [addE_get]
    cases ho : ops[d.i]? with
    | none => simp [ho] at hd
    | some o =>
      simp only [ho, Option.map_some] at hd ⊢
      have hw : guardB (if d.i = j then { o with after := o.after.push { on := i, ground := .data } } else o) (addE ops i j) l b = guardB o ops l b := by
        have key : ∀ o' : Oper, guardB o' (addE ops i j) l b = guardB o' ops l b := by
          intro o'
          unfold guardB
          cases o'.guard with
          | none => rfl
          | some p => simp only [addE_gval]
        rw [key]
        split <;> rfl
      have he : ∀ h K, osem P (if d.i = j then { o with after := o.after.push { on := i, ground := .data } } else o) l b h K = osem P o l b h K := by
        intro h K
        split
        · unfold osem; rw [execOp_after]
        · rfl
      have hdst : (if d.i = j then { o with after := o.after.push { on := i, ground := .data } } else o).dst = o.dst := by split <;> rfl
      simp only [hw, he, hdst]
      split
      · rename_i hg
        rw [if_pos hg] at hd
        split
        · rename_i hm
          rw [if_pos hm] at hd
          obtain ⟨v, h1, h2⟩ := hd
          exact ⟨v, h1, addE_dsem ds h2⟩
        · rename_i hm
          rw [if_neg hm] at hd
          exact hp_mono _ hd fun x h' hx => nextK_mono (fun v h'' hh => ⟨hh.1, addE_dsem ds hh.2⟩) x h' hx
      · rename_i hg
        rw [if_neg hg] at hd
        exact addE_dsem ds hd

def drawOk2 (ops : Array Oper) (i j : Nat) (ds1 ds2 : List Di) : Bool :=
  (!Region.departs ops || (upM .text ops && upM .gc ops)) && upB ops && decide (i ≠ j) && decide (i < ops.size) && decide (j < ops.size) &&
  (Region.noSelect (addE ops i j) && pairB (addE ops i j) ds1 && (ds1.map (·.i)).isPerm (List.range ops.size) && ds1.all fun d => !d.mv || (match (addE ops i j)[d.i]? with | some o => valOp o.op | none => false)) &&
  (Region.noSelect (addE ops j i) && pairB (addE ops j i) ds2 && (ds2.map (·.i)).isPerm (List.range ops.size) && ds2.all fun d => !d.mv || (match (addE ops j i)[d.i]? with | some o => valOp o.op | none => false))
theorem addE_opsOk {n : Nat} (hok : opsOk n ops = true) : opsOk n (addE ops i j) = true := by
  unfold opsOk at *
  rw [List.all_eq_true] at *
  intro o ho
  obtain ⟨m, hm⟩ := List.mem_iff_getElem?.1 ho
  rw [Array.getElem?_toList, addE_get] at hm
  cases ho' : ops[m]? with
  | none => rw [ho'] at hm; cases hm
  | some o' =>
    rw [ho'] at hm
    simp only [Option.map_some, Option.some.injEq] at hm
    have h1 := hok o' (by simpa using Array.mem_of_getElem? ho')
    have hdst : o.dst = o'.dst := by rw [← hm]; split <;> rfl
    rw [hdst]
    exact h1

theorem draw_rule2 {n : Nat} {ro : Option Nat} {id : Nat} {κ : Kont} {l : L} {b : Base} {h : Heap} (i j : Nat) (ds1 ds2 : List Di) (hd : drawOk2 ops i j ds1 ds2 = true) (hok : opsOk n ops = true)
    (hc1 : dsem P ops ds1 [] κ.nx l b h) (hc2 : dsem P ops ds2 [] κ.nx l b h) : gsem P n ro (.region id ops true) κ l b h := by
  intro a w hw hfr fr k cs hkd hro
  subst hw
  unfold drawOk2 at hd
  rw [Bool.and_eq_true, Bool.and_eq_true, Bool.and_eq_true, Bool.and_eq_true, Bool.and_eq_true, Bool.and_eq_true] at hd
  obtain ⟨⟨⟨⟨⟨⟨hdep, hup⟩, hij⟩, hi⟩, hj⟩, h1⟩, h2⟩ := hd
  rw [Bool.and_eq_true, Bool.and_eq_true, Bool.and_eq_true] at h1 h2
  obtain ⟨⟨⟨hsel1, hpair1⟩, hperm1⟩, hval1⟩ := h1
  obtain ⟨⟨⟨hsel2, hpair2⟩, hperm2⟩, hval2⟩ := h2
  have hij := of_decide_eq_true hij
  have hi := of_decide_eq_true hi
  have hj := of_decide_eq_true hj
  have hperm1 := List.isPerm_iff.1 hperm1
  have hperm2 := List.isPerm_iff.1 hperm2
  let t := w.tape w.drawn (.order fr.fn id)
  obtain ⟨hp1, hlin⟩ := sched_all (mixed := P.follows .mixedOrders) hdep hup t
  have hnd : (Region.schedule (P.follows .mixedOrders) ops t).Nodup := hp1.symm.nodup List.nodup_range
  have har : arun P ops (Region.schedule (P.follows .mixedOrders) ops t) (fun a' h' => ∃ l', IsFr n a' l' b ∧ κ.nx l' b h') a w.heap := by
    rcases two_orders hnd (hp1.symm.subset (by simpa using hi)) (hp1.symm.subset (by simpa using hj)) hij with ho | ho
    · have hcr := crun_of_dsem (P := P) (addE_opsOk hok) ds1 (pa := []) hval1 (by simp) hfr (addE_dsem (i := i) (j := j) ds1 hc1)
      refine addE_arun (i := i) (j := j) _ (arun_of_crun hsel1 _ ds1 [] [] a _ (hp1.trans hperm1.symm) hnd (fun d hd => ?_) (fun y hy => by cases hy) (addE_lin hlin ho) (fun d _ => by simp) hpair1 hcr)
      have : d.i ∈ List.range ops.size := hperm1.subset (List.mem_map.2 ⟨d, hd, rfl⟩)
      simp at this
      rw [addE_get]
      simp [this]
    · have hcr := crun_of_dsem (P := P) (addE_opsOk hok) ds2 (pa := []) hval2 (by simp) hfr (addE_dsem (i := j) (j := i) ds2 hc2)
      refine addE_arun (i := j) (j := i) _ (arun_of_crun hsel2 _ ds2 [] [] a _ (hp1.trans hperm2.symm) hnd (fun d hd => ?_) (fun y hy => by cases hy) (addE_lin hlin ho) (fun d _ => by simp) hpair2 hcr)
      have : d.i ∈ List.range ops.size := hperm2.subset (List.mem_map.2 ⟨d, hd, rfl⟩)
      simp at this
      rw [addE_get]
      simp [this]
  obtain ⟨a', w', hs, ⟨l', hfr', hk⟩, hst⟩ := steps_arun (P := P) (d := b.d) (fr := fr) (k := k) (cs := cs) hok _ (w := { w with drawn := w.drawn + 1 }) hfr.size hfr.defers har
  exact ⟨.nx, a', w', l', b, ⟨hs.os, hs.tape, hs.output, (by first | exact hs.drawn | exact Nat.le_trans (Nat.le_succ _) hs.drawn)⟩, hfr', hk, .head stepR_region_draw hst⟩

/-- Two orders that are written out. -/
theorem drawn_by2 {n : Nat} {ro : Option Nat} {id : Nat} {κ : Kont} {l : L} {b : Base} {h : Heap} {ops : List Oper} (i j : Nat) (ds1 ds2 : List Di) (hd : drawOk2 ops.toArray i j ds1 ds2 = true) (hok : opsOk n ops.toArray = true)
    (hc1 : dw P ops ds1 [] κ.nx l b h) (hc2 : dw P ops ds2 [] κ.nx l b h) : gs P n ro (.region id ops.toArray true) κ l b h :=
  draw_rule2 i j ds1 ds2 hd hok (dsem_of_dwF ds1 (by simp) hc1) (dsem_of_dwF ds2 (by simp) hc2)
end
end Go.HC

/-
  HC: the whole of it.
-/

/-
  HC, part 19: a store into an element of a slice that has a block of its own.
-/
namespace Go.HC
section
variable {α : Type} {R : Rp α} {F : Nat → Prop} {h : Heap}
theorem Elems.setF {d : Nat} {news : List Value} {x : α} (hd : d + news.length ≤ R.sz) : ∀ {xs : List α} {cs : List Value} (i : Nat) (hi : i < xs.length), Elems R F h cs xs →
    (∀ cs, R.rep F h cs xs[i] → R.rep F h (cs.take d ++ news ++ cs.drop (d + news.length)) x) →
    Elems R F h (cs.take (i * R.sz + d) ++ news ++ cs.drop (i * R.sz + d + news.length)) (xs.set i x)
  | [], _, i, hi, _, _ => by simp at hi
  | y :: xs, cs, 0, _, ⟨c1, c2, e, h1, h2⟩, hr => by
    subst e
    have hl := R.len h1
    refine ⟨_, c2, ?_, hr c1 h1, h2⟩
    rw [Nat.zero_mul, Nat.zero_add, List.take_append_of_le_length (by omega), List.drop_append_of_le_length (by omega)]
    simp
  | y :: xs, cs, i + 1, hi, ⟨c1, c2, e, h1, h2⟩, hr => by
    subst e
    have hl := R.len h1
    have ih := Elems.setF hd i (by simpa using hi) h2 (by simpa using hr)
    refine ⟨c1, _, ?_, h1, ih⟩
    have e1 : (i + 1) * R.sz + d = c1.length + (i * R.sz + d) := by rw [hl, Nat.succ_mul]; omega
    rw [e1, List.take_length_add_append, Nat.add_assoc, List.drop_length_add_append]
    simp
/-- A part of an element is written. -/
theorem Grow.setF {e : TypeId} {v : Value} {xs : List α} {own : Option Nat} {d : Nat} {news : List Value} {x : α} {i : Nat} (hg : Grow R e F h v xs own) (hi : i < xs.length) (hd : d + news.length ≤ R.sz) (hone : news.all Value.oneCell' = true)
    (hr : ∀ cs, R.rep F h cs xs[i] → R.rep F h (cs.take d ++ news ++ cs.drop (d + news.length)) x) :
    ∃ bk c o, v = .slice (some ⟨bk, 0, none⟩) xs.length c ∧ own = some bk ∧ writeIn h[bk]? (i * R.sz + d) news = some o ∧ Grow R e F (h.setIfInBounds bk o) v (xs.set i x) own := by
  rcases hg with ⟨_, rfl, _⟩ | ⟨bk, c, arr, cs, rfl, rfl, hb, hf, h1, h2, h3, h4, h5⟩
  · simp at hi
  · have hin : i * R.sz + d + news.length ≤ xs.length * R.sz := by
      have : (i + 1) * R.sz ≤ xs.length * R.sz := Nat.mul_le_mul_right _ hi
      rw [Nat.succ_mul] at this
      omega
    have hsz : i * R.sz + d + news.length ≤ arr.size := by
      have : xs.length * R.sz ≤ c * R.sz := Nat.mul_le_mul_right _ h2
      omega
    have hfr : frozenIn (0, 0) (i * R.sz + d) news.length = false := by
      unfold frozenIn; simp
    have hlt := lt_of_blk hb
    refine ⟨bk, c, .cells (writeC arr (i * R.sz + d) news) e (0, 0), rfl, rfl, ?_, ?_⟩
    · rw [hb]
      show (if _ then _ else _) = _
      rw [if_pos (by rw [hone, hfr]; simpa using hsz)]
    · refine .inr ⟨bk, c, _, _, by rw [List.length_set], rfl, set_same _ hlt, hf, by rw [size_writeC, h1], by rw [List.length_set]; exact h2, h3, rfl, ?_⟩
      have hcl := h5.len
      have := (h5.setF (x := x) hd i hi hr)
      rw [toList_writeC _ _ _ hsz, List.length_set]
      have e1 : ((arr.toList.take (i * R.sz + d) ++ news ++ arr.toList.drop (i * R.sz + d + news.length)).take (xs.length * R.sz)) = cs.take (i * R.sz + d) ++ news ++ cs.drop (i * R.sz + d + news.length) := by
        have hl1 : (arr.toList.take (i * R.sz + d) ++ news).length = i * R.sz + d + news.length := by
          rw [List.length_append, List.length_take]; simp; omega
        rw [List.take_append, List.take_of_length_le (by rw [hl1]; exact hin), hl1, ← h4, List.take_take, Nat.min_eq_left (by omega), List.drop_take]
      rw [e1]
      exact this.mono fun b hFb => ⟨hFb, set_other _ (fun (e : bk = b) => hf (e ▸ hFb))⟩
/-- An element is written. -/
theorem Grow.setE {e : TypeId} {v : Value} {xs : List α} {own : Option Nat} {news : List Value} {x : α} {i : Nat} (hg : Grow R e F h v xs own) (hi : i < xs.length) (hr : R.rep F h news x) :
    ∃ bk c o, v = .slice (some ⟨bk, 0, none⟩) xs.length c ∧ own = some bk ∧ writeIn h[bk]? (i * R.sz) news = some o ∧ Grow R e F (h.setIfInBounds bk o) v (xs.set i x) own := by
  have hl := R.len hr
  have := hg.setF (d := 0) (news := news) (x := x) hi (by omega) (R.one hr) (fun cs hc => by
    rw [List.take_zero, List.nil_append, List.drop_of_length_le (by rw [R.len hc]; omega), List.append_nil]; exact hr)
  simpa using this
end
/-- A block that nobody has set fast. -/
def Thaw (h : Heap) (b : Nat) : Prop := ∀ (c : Array Value) (e : TypeId) (fz : Nat × Nat), h[b]? = some (.cells c e fz) → fz = (0, 0)
/-- From n on; what is new is not set fast. -/
def Nw (n : Nat) (h : Heap) (b : Nat) : Prop := n ≤ b ∧ (0 < n → Thaw h b)
theorem nz {h : Heap} {b : Nat} : Nw 0 h b := ⟨Nat.zero_le _, fun h => absurd h (Nat.lt_irrefl _)⟩
theorem Thaw.at {h h' : Heap} {b : Nat} (t : Thaw h b) (e : h'[b]? = h[b]?) : Thaw h' b := fun c el fz hb => t c el fz (by rw [← e]; exact hb)
theorem Thaw.is {h : Heap} {b : Nat} {c : Array Value} {e : TypeId} (hb : h[b]? = some (.cells c e (0, 0))) : Thaw h b := fun c' e' fz hb' => by
  rw [hb] at hb'; cases hb'; rfl
theorem Nw.less {n n' : Nat} {h : Heap} {b : Nat} (x : Nw n h b) (hn : n' ≤ n) : Nw n' h b := ⟨Nat.le_trans hn x.1, fun h0 => x.2 (Nat.lt_of_lt_of_le h0 hn)⟩
theorem Nw.at {n n' : Nat} {h h' : Heap} {b : Nat} (x : Nw n h b) (hn : n' ≤ n) (e : h'[b]? = h[b]?) : Nw n' h' b := ⟨Nat.le_trans hn x.1, fun h0 => (x.2 (Nat.lt_of_lt_of_le h0 hn)).at e⟩
theorem Nw.is {n : Nat} {h : Heap} {b : Nat} {c : Array Value} {e : TypeId} (hn : n ≤ b) (hb : h[b]? = some (.cells c e (0, 0))) : Nw n h b := ⟨hn, fun _ => .is hb⟩
theorem Grow.notF {α : Type} {R : Rp α} {h : Heap} {e : TypeId} {F : Nat → Prop} {v : Value} {xs : List α} {own : Option Nat} (g : Grow R e F h v xs own) : ∀ b, own = some b → ¬ F b := by
  intro b hb
  rcases g with ⟨_, _, rfl⟩ | ⟨bk, c, arr, cs, _, rfl, _, h1, _⟩
  · cases hb
  · cases hb; exact h1
theorem Grow.thaw {α : Type} {R : Rp α} {h : Heap} {e : TypeId} {F : Nat → Prop} {v : Value} {xs : List α} {own : Option Nat} (g : Grow R e F h v xs own) : ∀ b, own = some b → Thaw h b := by
  intro b hb
  rcases g with ⟨_, _, rfl⟩ | ⟨bk, c, arr, cs, _, rfl, h1, _⟩
  · cases hb
  · cases hb; exact .is h1
end Go.HC

/-
  HC, part 20: a slice is copied ('append([]T{}, b...)').
-/
namespace Go.HC
section
variable {P : Program} {h : Heap} {K : Value → Heap → Prop} {ty : TypeId} {α : Type} {R : Rp α} {F F2 : Nat → Prop}
theorem clone_cells {T e by_ : Nat} {cs : Array Bool} {xs : List α} {a : Option Addr} {n c2 : Nat} {news : List Value} (hT : ElemT P T e R by_) (hF : ∀ b, F b → b < h.size) (hF2 : ∀ b, F2 b → b < h.size)
    (hn : n = xs.length) (hrn : Cells F2 h a news) (hel : Elems R F h news xs) (hbig : xs.length * by_ ≤ 140737488355328) (h63 : xs.length < 9223372036854775808)
    (hk : ∀ v' h' own', Grow R e F h' v' xs own' → Keep none_ h h' → (∀ b, own' = some b → h.size ≤ b) → h.size ≤ h'.size → K v' h') :
    builtinS P .append #[T, T] ty cs #[.slice (some ⟨h.size, 0, none⟩) 0 0, .slice a n c2] (h.push (.cells #[] e)) K := by
  refine append_grow (F2 := F2) hT (Grow.empty R e hF) (fun b hb => by have := hF b hb; simp; omega) hn (hrn.mono fun b hb => ⟨hb, push_old _ (hF2 b hb)⟩) (hel.mono fun b hb => ⟨hb, push_old _ (hF b hb)⟩) (by simpa using hbig) (by simpa using h63) ?_
  intro v' h' own' hg hk' ho
  have hps : (h.push (.cells #[] e)).size = h.size + 1 := by simp
  rw [hps] at ho
  have hs := hk'.size
  rw [hps] at hs
  refine hk v' h' own' (by simpa using hg) ⟨by omega, fun b hb _ => ?_⟩ (fun b hb => (ho b hb).elim (fun e => by cases e; exact Nat.le_refl _) (fun h => by omega)) (by omega)
  rw [hk'.blk b (by omega) (fun e => by cases e; omega), push_old _ hb]
theorem clone_bytes {T e : Nat} {cs : Array Bool} {xs : List UInt8} {a : Option Addr} {n c2 : Nat} (hT : ElemT P T e rByte 1) (hv : SlRep rByte F2 h (.slice a n c2) xs) (hF2 : ∀ b, F2 b → b < h.size) (hbig : xs.length ≤ 140737488355328)
    (hk : ∀ v' h' own', Grow rByte e none_ h' v' xs own' → Keep none_ h h' → (∀ b, own' = some b → h.size ≤ b) → h.size ≤ h'.size → K v' h') :
    builtinS P .append #[T, T] ty cs #[.slice (some ⟨h.size, 0, none⟩) 0 0, .slice a n c2] (h.push (.cells #[] e)) K := by
  obtain ⟨a', c', news, hv', h1, h2, h3, h4⟩ := hv
  cases hv'
  exact clone_cells (F := none_) hT (fun _ h => h.elim) hF2 rfl h3 (bytes_map.2 (bytes_map.1 h4)) (by omega) (by omega) hk
end
theorem Grow.bytes_own {e : TypeId} {F : Nat → Prop} {h : Heap} {v : Value} {xs : List UInt8} {own : Option Nat} (hg : Grow rByte e F h v xs own) : Grow rByte e none_ h v xs own := by
  rcases hg with h0 | ⟨bk, c, arr, cs, h0, h1, h2, h3, h4, h5, h6, h7, h8⟩
  · exact .inl h0
  · exact .inr ⟨bk, c, arr, cs, h0, h1, h2, (fun h => h), h4, h5, h6, h7, bytes_map.2 (bytes_map.1 h8)⟩
theorem u8_add (x y : UInt8) : (((x + y).toNat : Nat) : Int) = IntKind.u8.wrap ((x.toNat : Int) + (y.toNat : Int)) := by
  rw [UInt8.toNat_add]
  simp [IntKind.wrap, IntKind.signed, IntKind.bits]
end Go.HC

/-
  HC, part 21: a drawn region in which several operations that change the memory stand in no order: a tree of orders.
-/
namespace Go.HC
/-- Orders: one that is written out; or two trees: of those in which i stands ahead of j, and of those in which j stands ahead of i. -/
inductive DT
  | leaf (ds : List Di)
  | node (i j : Nat) (a b : DT)
section
variable {P : Program}
def leafOk (ops : Array Oper) (ds : List Di) : Bool :=
  Region.noSelect ops && pairB ops ds && (ds.map (·.i)).isPerm (List.range ops.size) && ds.all fun d => !d.mv || (match ops[d.i]? with | some o => valOp o.op | none => false)
def treeOk (ops : Array Oper) : DT → Bool
  | .leaf ds => leafOk ops ds
  | .node i j a b => decide (i ≠ j) && decide (i < ops.size) && decide (j < ops.size) && treeOk (addE ops i j) a && treeOk (addE ops j i) b
def treeS (P : Program) (ops : Array Oper) (K : L → Base → Heap → Prop) (l : L) (b : Base) (h : Heap) : DT → Prop
  | .leaf ds => dsem P ops ds [] K l b h
  | .node _ _ x y => treeS P ops K l b h x ∧ treeS P ops K l b h y
theorem treeS_add {ops : Array Oper} {K : L → Base → Heap → Prop} {l : L} {b : Base} {h : Heap} {i j : Nat} : ∀ (t : DT), treeS P ops K l b h t → treeS P (addE ops i j) K l b h t
  | .leaf ds, hd => addE_dsem (i := i) (j := j) ds hd
  | .node _ _ x y, ⟨h1, h2⟩ => ⟨treeS_add x h1, treeS_add y h2⟩
theorem tree_arun {n : Nat} {κ : L → Base → Heap → Prop} {l : L} {b : Base} {h : Heap} {a : Act} {σ : List Nat} (hnd : σ.Nodup) (hfr : IsFr n a l b) : ∀ (t : DT) {ops : Array Oper}, opsOk n ops = true → treeOk ops t = true → σ.Perm (List.range ops.size) → Lin ops [] σ →
    treeS P ops κ l b h t → arun P ops σ (fun a' h' => ∃ l', IsFr n a' l' b ∧ κ l' b h') a h
  | .leaf ds, ops, hok, ht, hp, hlin, hd => by
    unfold treeOk leafOk at ht
    rw [Bool.and_eq_true, Bool.and_eq_true, Bool.and_eq_true] at ht
    obtain ⟨⟨⟨hsel, hpair⟩, hperm⟩, hval⟩ := ht
    have hperm := List.isPerm_iff.1 hperm
    have hcr := crun_of_dsem (P := P) hok ds (pa := []) hval (by simp) hfr hd
    refine arun_of_crun hsel _ ds [] [] a _ (hp.trans hperm.symm) hnd (fun d hd => ?_) (fun y hy => by cases hy) hlin (fun d _ => by simp) hpair hcr
    have : d.i ∈ List.range ops.size := hperm.subset (List.mem_map.2 ⟨d, hd, rfl⟩)
    simp at this
    simp [this]
  | .node i j x y, ops, hok, ht, hp, hlin, hd => by
    unfold treeOk at ht
    rw [Bool.and_eq_true, Bool.and_eq_true, Bool.and_eq_true, Bool.and_eq_true] at ht
    obtain ⟨⟨⟨⟨hij, hi⟩, hj⟩, h1⟩, h2⟩ := ht
    have hij := of_decide_eq_true hij
    have hi := of_decide_eq_true hi
    have hj := of_decide_eq_true hj
    rcases two_orders hnd (hp.symm.subset (by simpa using hi)) (hp.symm.subset (by simpa using hj)) hij with ho | ho
    · exact addE_arun (i := i) (j := j) _ (tree_arun hnd hfr x (addE_opsOk hok) h1 (by rw [addE_size]; exact hp) (addE_lin hlin ho) (treeS_add x hd.1))
    · exact addE_arun (i := j) (j := i) _ (tree_arun hnd hfr y (addE_opsOk hok) h2 (by rw [addE_size]; exact hp) (addE_lin hlin ho) (treeS_add y hd.2))
def drawOkT (ops : Array Oper) (t : DT) : Bool := (!Region.departs ops || (upM .text ops && upM .gc ops)) && upB ops && treeOk ops t
theorem draw_ruleT {n : Nat} {ro : Option Nat} {id : Nat} {κ : Kont} {l : L} {b : Base} {h : Heap} {ops : Array Oper} (t : DT) (hd : drawOkT ops t = true) (hok : opsOk n ops = true)
    (hc : treeS P ops κ.nx l b h t) : gsem P n ro (.region id ops true) κ l b h := by
  intro a w hw hfr fr k cs hkd hro
  subst hw
  unfold drawOkT at hd
  rw [Bool.and_eq_true, Bool.and_eq_true] at hd
  obtain ⟨⟨hdep, hup⟩, ht⟩ := hd
  let tp := w.tape w.drawn (.order fr.fn id)
  obtain ⟨hp1, hlin⟩ := sched_all (mixed := P.follows .mixedOrders) hdep hup tp
  have har := tree_arun (P := P) (κ := κ.nx) (hp1.symm.nodup List.nodup_range) hfr t hok ht hp1 hlin hc
  obtain ⟨a', w', hs, ⟨l', hfr', hk⟩, hst⟩ := steps_arun (P := P) (d := b.d) (fr := fr) (k := k) (cs := cs) hok _ (w := { w with drawn := w.drawn + 1 }) hfr.size hfr.defers har
  exact ⟨.nx, a', w', l', b, ⟨hs.os, hs.tape, hs.output, (by first | exact hs.drawn | exact Nat.le_trans (Nat.le_succ _) hs.drawn)⟩, hfr', hk, .head stepR_region_draw hst⟩
/-- A tree of orders, for simp. -/
def treeW (P : Program) (ops : List Oper) (K : L → Base → Heap → Prop) (l : L) (b : Base) (h : Heap) : DT → Prop
  | .leaf ds => dw P ops ds [] K l b h
  | .node _ _ x y => treeW P ops K l b h x ∧ treeW P ops K l b h y
theorem treeW_leaf {ops : List Oper} {K : L → Base → Heap → Prop} {l : L} {b : Base} {h : Heap} {ds : List Di} : treeW P ops K l b h (.leaf ds) = dw P ops ds [] K l b h := _root_.id rfl
theorem treeS_of {ops : List Oper} {K : L → Base → Heap → Prop} {l : L} {b : Base} {h : Heap} : ∀ (t : DT), treeW P ops K l b h t → treeS P ops.toArray K l b h t
  | .leaf ds, hd => dsem_of_dwF ds (by simp) hd
  | .node _ _ x y, ⟨h1, h2⟩ => ⟨treeS_of x h1, treeS_of y h2⟩
theorem drawn_byT {n : Nat} {ro : Option Nat} {id : Nat} {κ : Kont} {l : L} {b : Base} {h : Heap} {ops : List Oper} (t : DT) (hd : drawOkT ops.toArray t = true) (hok : opsOk n ops.toArray = true)
    (hc : treeW P ops κ.nx l b h t) : gs P n ro (.region id ops.toArray true) κ l b h := draw_ruleT t hd hok (treeS_of t hc)
end
end Go.HC
namespace Go.HC
theorem cut_cells {α : Type} {R : Rp α} {F G : Nat → Prop} {h : Heap} {a : Option Addr} {cs : List Value} {xs : List α} {i j c : Nat} (hc : Cells G h a cs) (he : Elems R F h cs xs) (h1 : i ≤ j) (h2 : j ≤ xs.length) (h3 : xs.length ≤ c) :
    Cells G h (piece a i c R.sz) ((cs.drop (i * R.sz)).take ((j - i) * R.sz)) ∧ Elems R F h ((cs.drop (i * R.sz)).take ((j - i) * R.sz)) ((xs.drop i).take (j - i)) := by
  refine ⟨?_, (he.drop i).take (j - i)⟩
  by_cases hij : i = j
  · left; subst hij; simp
  · rcases hc with h0 | ⟨bk, off, arr, e, fz, rfl, q1, q2, q3⟩
    · left; rw [h0]; simp
    · have hp : piece (some ⟨bk, off, none⟩) i c R.sz = some ⟨bk, off + i * R.sz, none⟩ := by
        unfold HC.piece
        rw [if_neg (by omega), offs_mk]
      rw [hp]
      refine Cells.take _ (Cells.drop (i * R.sz) (.inr ⟨bk, off, arr, e, fz, rfl, q1, q2, q3⟩) ?_)
      rw [he.len]
      exact Nat.mul_le_mul_right _ (by omega)
end Go.HC

/-
  Tables of cells by their keys, plainly. No program is in sight.
-/
namespace Go.HC

structure CellM where
  key : List Int
  count : Int
  sum : List Int
  mn : List Int
  mx : List Int
def joinC (a b : CellM) : CellM :=
  ⟨a.key, IntKind.i64.wrap (a.count + b.count), List.zipWith (fun x y => IntKind.i64.wrap (x + y)) a.sum b.sum, List.zipWith min a.mn b.mn, List.zipWith max a.mx b.mx⟩
/-- A key's hash; its place among n slots. -/
def hashM (key : List Int) : Int := key.foldl (fun h v => (31 * h + v.tmod 1000003 + 1).tmod 1000003) 7
def placeM (key : List Int) (n : Nat) : Nat := (((hashM key).tmod n + n).tmod n).toNat
theorem tmod_bound {a n : Int} (hn : 0 < n) : -n < a.tmod n ∧ a.tmod n < n := by
  have h1 := Int.tmod_lt_of_pos a hn
  have h2 := Int.tmod_lt_of_pos (-a) hn
  rw [Int.neg_tmod] at h2
  omega
theorem placeM_lt (key : List Int) {n : Nat} (hn : 0 < n) : placeM key n < n := by
  unfold placeM
  have h1 := tmod_bound (a := hashM key) (n := n) (by omega)
  have h2 := tmod_bound (a := (hashM key).tmod n + n) (n := n) (by omega)
  have h3 : 0 ≤ ((hashM key).tmod n + n).tmod n := Int.tmod_nonneg _ (by omega)
  omega

abbrev Tab := List (Option CellM)
/-- The key stands here, or may. -/
def hitM (T : Tab) (key : List Int) (k : Nat) : Bool :=
  match T[k]? with
  | some (some c) => decide (c.key = key)
  | _ => true
def probe (key : List Int) (n i : Nat) : Nat := (placeM key n + i) % n
def findM (T : Tab) (key : List Int) : Option Nat := ((List.range T.length).find? fun i => hitM T key (probe key T.length i)).map (probe key T.length)
def takenM (T : Tab) : Nat := T.countP (·.isSome)
def putM (T : Tab) (c : CellM) : Option Tab :=
  match findM T c.key with
  | none => none
  | some k => some (T.set k (match T[k]? with | some (some d) => some (joinC d c) | _ => some c))
def getM (T : Tab) (key : List Int) : Option CellM :=
  match findM T key with
  | none => none
  | some k => (T[k]?).join
def cellsM (T : Tab) : List CellM := T.filterMap id
/-- A cell stands where it is found: all slots from its key's place on are taken, and by other keys. -/
def StandsAt (T : Tab) (i : Nat) (key : List Int) (k : Nat) : Prop := i < T.length ∧ probe key T.length i = k ∧ ∀ j, j < i → ∃ c : CellM, T[probe key T.length j]? = some (some c) ∧ c.key ≠ key
def TabOk (T : Tab) : Prop := ∀ (k : Nat) (c : CellM), T[k]? = some (some c) → ∃ i, StandsAt T i c.key k

theorem probe_lt (key : List Int) {n : Nat} (hn : 0 < n) (i : Nat) : probe key n i < n := Nat.mod_lt _ hn
theorem probe_onto (key : List Int) {n : Nat} (k : Nat) (hk : k < n) : ∃ i, i < n ∧ probe key n i = k := by
  have hp := placeM_lt key (n := n) (by omega)
  unfold probe
  by_cases h : placeM key n ≤ k
  · exact ⟨k - placeM key n, by omega, by rw [Nat.add_sub_cancel' h, Nat.mod_eq_of_lt hk]⟩
  · refine ⟨k + n - placeM key n, by omega, ?_⟩
    have : placeM key n + (k + n - placeM key n) = k + n := by omega
    rw [this, Nat.add_mod_right, Nat.mod_eq_of_lt hk]
theorem find_spec_some {T : Tab} {key : List Int} {k : Nat} (h : findM T key = some k) : k < T.length ∧ (T[k]? = some none ∨ ∃ c, T[k]? = some (some c) ∧ c.key = key) ∧ ∃ i, StandsAt T i key k := by
  unfold findM at h
  rw [Option.map_eq_some_iff] at h
  obtain ⟨i, hi, rfl⟩ := h
  have hmem := List.mem_of_find?_eq_some hi
  have hhit := List.find?_some hi
  rw [List.mem_range] at hmem
  have hlt := probe_lt key (n := T.length) (by omega) i
  refine ⟨hlt, ?_, i, hmem, rfl, fun j hj => ?_⟩
  · unfold hitM at hhit
    rw [List.getElem?_eq_getElem hlt] at hhit ⊢
    cases hc : T[probe key T.length i] with
    | none => exact .inl rfl
    | some c =>
      rw [hc] at hhit
      exact .inr ⟨c, rfl, of_decide_eq_true hhit⟩
  · have hno : hitM T key (probe key T.length j) = false := by
      rw [List.find?_range_eq_some] at hi
      have := hi.2.2 j hj
      simpa using this
    have hlj := probe_lt key (n := T.length) (by omega) j
    unfold hitM at hno
    rw [List.getElem?_eq_getElem hlj] at hno ⊢
    cases hc : T[probe key T.length j] with
    | none => rw [hc] at hno; cases hno
    | some c =>
      rw [hc] at hno
      exact ⟨c, rfl, of_decide_eq_false hno⟩
theorem find_spec_none {T : Tab} {key : List Int} (h : findM T key = none) : ∀ k, k < T.length → ∃ c, T[k]? = some (some c) ∧ c.key ≠ key := by
  intro k hk
  obtain ⟨i, hi, rfl⟩ := probe_onto key (n := T.length) k hk
  unfold findM at h
  rw [Option.map_eq_none_iff, List.find?_eq_none] at h
  have hno := h i (List.mem_range.2 hi)
  unfold hitM at hno
  rw [List.getElem?_eq_getElem hk] at hno ⊢
  cases hc : T[probe key T.length i] with
  | none => rw [hc] at hno; simp at hno
  | some c =>
    rw [hc] at hno
    exact ⟨c, rfl, by simpa using hno⟩
/-- What is there is found. -/
theorem find_there {T : Tab} (hT : TabOk T) {k : Nat} {c : CellM} (h : T[k]? = some (some c)) : findM T c.key = some k := by
  obtain ⟨i, hi, hp, hb⟩ := hT k c h
  unfold findM
  rw [Option.map_eq_some_iff]
  refine ⟨i, ?_, hp⟩
  rw [List.find?_range_eq_some]
  refine ⟨?_, List.mem_range.2 hi, fun j hj => ?_⟩
  · unfold hitM
    rw [hp, h]
    simp
  · obtain ⟨d, hd, hne⟩ := hb j hj
    unfold hitM
    rw [hd]
    simpa using hne
theorem taken_set_new {T : Tab} {k : Nat} {c : CellM} (h : T[k]? = some none) : takenM (T.set k (some c)) = takenM T + 1 := by
  obtain ⟨hk, hv⟩ := List.getElem?_eq_some_iff.1 h
  unfold takenM
  rw [List.countP_set hk, hv]
  simp
theorem taken_set_old {T : Tab} {k : Nat} {c d : CellM} (h : T[k]? = some (some d)) : takenM (T.set k (some c)) = takenM T := by
  obtain ⟨hk, hv⟩ := List.getElem?_eq_some_iff.1 h
  unfold takenM
  rw [List.countP_set hk, hv]
  have : 0 < T.countP (·.isSome) := List.countP_pos_iff.2 ⟨some d, hv ▸ List.getElem_mem hk, rfl⟩
  simp; omega
theorem taken_le (T : Tab) : takenM T ≤ T.length := List.countP_le_length
theorem taken_full {T : Tab} (h : ∀ k, k < T.length → ∃ c, T[k]? = some (some c)) : takenM T = T.length := by
  unfold takenM
  rw [List.countP_eq_length]
  intro x hx
  obtain ⟨k, hk, rfl⟩ := List.getElem_of_mem hx
  obtain ⟨c, hc⟩ := h k hk
  rw [List.getElem?_eq_getElem hk] at hc
  simp only [Option.some.injEq] at hc
  rw [hc]; rfl
theorem cells_len (T : Tab) : (cellsM T).length = takenM T := by
  unfold cellsM takenM
  induction T with
  | nil => rfl
  | cons x T ih =>
    cases x with
    | none => simpa using ih
    | some c => simp [ih]
/-- The keys that are there. -/
def keysM (T : Tab) : List (List Int) := (cellsM T).map (·.key)
theorem mem_keys {T : Tab} {key : List Int} : key ∈ keysM T ↔ ∃ (k : Nat) (c : CellM), T[k]? = some (some c) ∧ c.key = key := by
  unfold keysM cellsM
  simp only [List.mem_map, List.mem_filterMap, id]
  constructor
  · rintro ⟨c, ⟨x, hx, rfl⟩, rfl⟩
    obtain ⟨k, hk⟩ := List.mem_iff_getElem?.1 hx
    exact ⟨k, c, hk, rfl⟩
  · rintro ⟨k, c, h, rfl⟩
    exact ⟨c, ⟨some c, List.mem_of_getElem? h, rfl⟩, rfl⟩
/-- Whether a put goes: the key is there, or there is room. -/
theorem put_goes {T : Tab} (c : CellM) : (putM T c).isSome = true ↔ c.key ∈ keysM T ∨ takenM T < T.length := by
  unfold putM
  cases hf : findM T c.key with
  | none =>
    have hn := find_spec_none hf
    have h1 : takenM T = T.length := taken_full fun k hk => (hn k hk).imp fun c h => h.1
    simp only [Option.isSome_none, Bool.false_eq_true, false_iff, not_or]
    refine ⟨fun hm => ?_, by omega⟩
    obtain ⟨k, d, hd, he⟩ := mem_keys.1 hm
    obtain ⟨hk, _⟩ := List.getElem?_eq_some_iff.1 hd
    obtain ⟨d', hd', hne⟩ := hn k hk
    rw [hd] at hd'
    cases hd'
    exact hne he
  | some k =>
    obtain ⟨hk, hor, _⟩ := find_spec_some hf
    simp only [Option.isSome_some, true_iff]
    rcases hor with h | ⟨d, hd, he⟩
    · right
      have h1 := taken_set_new (c := c) h
      have h2 := taken_le (T.set k (some c))
      rw [List.length_set] at h2
      omega
    · exact .inl (mem_keys.2 ⟨k, d, hd, he⟩)
theorem put_len {T T' : Tab} {c : CellM} (h : putM T c = some T') : T'.length = T.length := by
  unfold putM at h
  split at h
  · cases h
  · simp only [Option.some.injEq] at h
    rw [← h, List.length_set]
/-- Behind a put: the table is right; the keys are those and this. -/
theorem put_ok {T T' : Tab} (hT : TabOk T) {c : CellM} (h : putM T c = some T') :
    TabOk T' ∧ takenM T' = (if c.key ∈ keysM T then takenM T else takenM T + 1) ∧ ∀ key, key ∈ keysM T' ↔ key = c.key ∨ key ∈ keysM T := by
  unfold putM at h
  cases hf : findM T c.key with
  | none => rw [hf] at h; cases h
  | some k =>
    rw [hf] at h
    simp only [Option.some.injEq] at h
    obtain ⟨hk, hor, i, hi, hp, hb⟩ := find_spec_some hf
    have hkey : ∃ d : CellM, T' = T.set k (some d) ∧ d.key = c.key := by
      rcases hor with h0 | ⟨d, hd, he⟩
      · rw [h0] at h; exact ⟨c, h.symm, rfl⟩
      · rw [hd] at h; exact ⟨joinC d c, h.symm, he⟩
    obtain ⟨d, rfl, hdk⟩ := hkey
    have hget : ∀ m, (T.set k (some d))[m]? = if k = m then some (some d) else T[m]? := by
      intro m
      rw [List.getElem?_set]
      by_cases e : k = m
      · subst e; simp [hk]
      · simp [e]
    have hlen : (T.set k (some d)).length = T.length := List.length_set
    -- a probe that met a taken slot of another key meets one
    have hpb : ∀ key j, (∃ e : CellM, T[probe key T.length j]? = some (some e) ∧ e.key ≠ key) → (probe key T.length j = k → c.key ≠ key) → ∃ e : CellM, (T.set k (some d))[probe key T.length j]? = some (some e) ∧ e.key ≠ key := by
      rintro key j ⟨e, he, hne⟩ hk'
      rw [hget]
      by_cases hc : k = probe key T.length j
      · rw [if_pos hc]; exact ⟨d, rfl, by rw [hdk]; exact hk' hc.symm⟩
      · rw [if_neg hc]; exact ⟨e, he, hne⟩
    refine ⟨?_, ?_, ?_⟩
    · intro m e hm
      rw [hget] at hm
      by_cases hkm : k = m
      · rw [if_pos hkm] at hm
        cases hm
        subst hkm
        refine ⟨i, by rw [hlen]; exact hi, by rw [hlen, hdk]; exact hp, fun j hj => ?_⟩
        rw [hlen, hdk]
        obtain ⟨e, he, hne⟩ := hb j hj
        refine hpb c.key j ⟨e, he, hne⟩ fun hpk => ?_
        exfalso
        rcases hor with h0 | ⟨d', hd', he'⟩
        · rw [hpk, h0] at he; cases he
        · rw [hpk, hd'] at he; cases he; exact hne he'
      · rw [if_neg hkm] at hm
        obtain ⟨i', hi', hp', hb'⟩ := hT m e hm
        refine ⟨i', by rw [hlen]; exact hi', by rw [hlen]; exact hp', fun j hj => ?_⟩
        rw [hlen]
        refine hpb e.key j (hb' j hj) fun hpk hce => ?_
        obtain ⟨e2, he2, hne2⟩ := hb' j hj
        rw [hpk] at he2
        rcases hor with h0 | ⟨d', hd', he'⟩
        · rw [h0] at he2; cases he2
        · rw [hd'] at he2; cases he2; exact hne2 (he'.trans hce)
    · rcases hor with h0 | ⟨d', hd', he'⟩
      · have hnot : ¬ c.key ∈ keysM T := by
          intro hm
          obtain ⟨k', d', hd', he'⟩ := mem_keys.1 hm
          have := find_there hT hd'
          rw [he', hf] at this
          cases this
          rw [h0] at hd'; cases hd'
        rw [if_neg hnot, taken_set_new h0]
      · rw [if_pos (mem_keys.2 ⟨k, d', hd', he'⟩), taken_set_old hd']
    · intro key
      rw [mem_keys, mem_keys]
      constructor
      · rintro ⟨m, e, hm, rfl⟩
        rw [hget] at hm
        by_cases hkm : k = m
        · rw [if_pos hkm] at hm; cases hm; exact .inl hdk
        · rw [if_neg hkm] at hm; exact .inr ⟨m, e, hm, rfl⟩
      · rintro (rfl | ⟨m, e, hm, rfl⟩)
        · exact ⟨k, d, by rw [hget, if_pos rfl], hdk⟩
        · by_cases hkm : k = m
          · subst hkm
            rcases hor with h0 | ⟨d', hd', he'⟩
            · rw [h0] at hm; cases hm
            · rw [hd'] at hm; cases hm
              exact ⟨k, d, by rw [hget, if_pos rfl], by rw [hdk, he']⟩
          · exact ⟨m, e, by rw [hget, if_neg hkm]; exact hm, rfl⟩
def newM (n : Nat) : Tab := List.replicate n none
theorem newM_ok (n : Nat) : TabOk (newM n) := by
  intro k c h
  unfold newM at h
  rw [List.getElem?_replicate] at h
  split at h <;> cases h
theorem newM_taken (n : Nat) : takenM (newM n) = 0 := by
  unfold takenM newM
  rw [List.countP_eq_zero]
  intro x hx
  rw [(List.mem_replicate.1 hx).2]; simp
end Go.HC

/-
  HC, part 22: a scope in which the run jumps back to one label.
-/
namespace Go.HC
/-- A jump back to label t, nearer the end. -/
def JumpK {σ : Type} (S : σ → L) (D : σ → List Nat) (J : σ → Heap → Prop) (μ : σ → Nat) (t m : Nat) (t' : Nat) (l : L) (b : Base) (h : Heap) : Prop :=
  t' = t ∧ ∃ s', Sub (S s') l b ∧ b.d = D s' ∧ J s' h ∧ μ s' < m
section
variable {P : Program} {n : Nat} {ro : Option Nat} {c : Code} {κ : Kont} {l : L} {b : Base} {h : Heap}
theorem stepR_scope {b : Frame} {a : Act} {k : List Item} {cs : List Frame} {w : World} {c : Code} : step P (lone (b.atR a (.code (.scope c) :: k)) cs w) = .next (lone (b.atR a (.code c :: .inScope c :: k)) cs w) :=
  step_lone_go (by simp [stepG, stepG.exec, Frame.atR])
theorem stepR_inScope {b : Frame} {a : Act} {k : List Item} {cs : List Frame} {w : World} {c : Code} : step P (lone (b.atR a (.inScope c :: k)) cs w) = .next (lone (b.atR a k) cs w) :=
  step_lone_go (by simp [stepG, stepG.exec, Frame.atR])
theorem scope_rule {σ : Type} (t : Nat) (rest : Code) (hf : findLabel c t = some rest) (S : σ → L) (D : σ → List Nat) (J : σ → Heap → Prop) (μ : σ → Nat) (m0 : Nat) (hok : codeOk n c = true) (hok2 : codeOk n rest = true)
    (first : csem P n ro c { κ with gt := JumpK S D J μ t m0 } l b h)
    (pass : ∀ s h g, J s h → csem P n ro rest { κ with gt := JumpK S D J μ t (μ s) } (S s) ⟨g, D s⟩ h) : gsem P n ro (.scope c) κ l b h := by
  intro a w hw hfr fr k cs hkd hro
  have hg : ∀ k, gotoIn t (.inScope c :: k) = some (.code rest :: .inScope c :: k) := by intro k; simp [gotoIn, hf]
  have key : ∀ m s (a : Act) (w : World) g, μ s = m → J s w.heap → IsFr n a (S s) ⟨g, D s⟩ →
      ∃ e a' w' l' b', Same w w' ∧ IsFr n a' l' b' ∧ κ.at e l' b' w'.heap ∧ ArrR P (lone (fr.atR a (.code rest :: .inScope c :: k)) cs w) fr k cs e a' w' := by
    intro m
    induction m using Nat.strongRecOn with
    | _ m ih =>
      intro s a w g hm hJ hfr
      obtain ⟨e, a', w', l', b', hs, hfr', hk, harr⟩ := csem_sound P n ro rest _ _ _ _ hok2 (pass s w.heap g hJ) a w rfl hfr fr (.inScope c :: k) cs hkd hro
      cases e with
      | nx => exact ⟨.nx, a', w', l', b', hs, hfr', hk, Steps.trans harr (.one stepR_inScope)⟩
      | rt => exact ⟨.rt, a', w', l', b', hs, hfr', hk, harr⟩
      | ex id => obtain ⟨td, x, st⟩ := harr; exact ⟨.ex id, a', w', l', b', hs, hfr', hk, td, by simpa [exitTo] using x, st⟩
      | gt tt =>
        obtain ⟨rfl, s', hsub, hd, hJ', hlt⟩ := hk
        obtain ⟨td, x, st⟩ := harr
        have hfr2 := hfr'.clean hsub
        rw [hd] at hfr2
        obtain ⟨e, a'', w'', l'', b'', hs', hfr'', hk', harr'⟩ := ih (μ s') (hm ▸ hlt) s' a' w' _ rfl hJ' hfr2
        exact ⟨e, a'', w'', l'', b'', hs.trans hs', hfr'', hk', .of_steps (st.trans (.one (stepR_goto (x.trans (hg k))))) harr'⟩
  obtain ⟨e, a', w', l', b', hs, hfr', hk, harr⟩ := csem_sound P n ro c _ _ _ _ hok first a w hw hfr fr (.inScope c :: k) cs hkd hro
  have h1 : Steps P (lone (fr.atR a (.code (.scope c) :: k)) cs w) (lone (fr.atR a (.code c :: .inScope c :: k)) cs w) := .one stepR_scope
  cases e with
  | nx => exact ⟨.nx, a', w', l', b', hs, hfr', hk, h1.trans (Steps.trans harr (.one stepR_inScope))⟩
  | rt => obtain ⟨td, st⟩ := harr; exact ⟨.rt, a', w', l', b', hs, hfr', hk, td, h1.trans st⟩
  | ex id => obtain ⟨td, x, st⟩ := harr; exact ⟨.ex id, a', w', l', b', hs, hfr', hk, td, by simpa [exitTo] using x, h1.trans st⟩
  | gt tt =>
    obtain ⟨rfl, s', hsub, hd, hJ', _⟩ := hk
    obtain ⟨td, x, st⟩ := harr
    have hfr2 := hfr'.clean hsub
    rw [hd] at hfr2
    obtain ⟨e, a'', w'', l'', b'', hs', hfr'', hk', harr'⟩ := key _ s' a' w' _ rfl hJ' hfr2
    exact ⟨e, a'', w'', l'', b'', hs.trans hs', hfr'', hk', .of_steps (h1.trans (st.trans (.one (stepR_goto (x.trans (hg k)))))) harr'⟩
/-- The same, for simp. -/
theorem scope {σ : Type} (t : Nat) (rest : Code) (hf : findLabel c t = some rest) (S : σ → L) (D : σ → List Nat) (J : σ → Heap → Prop) (μ : σ → Nat) (m0 : Nat) (hok : codeOk n c = true) (hok2 : codeOk n rest = true)
    (first : cs P n ro c { κ with gt := JumpK S D J μ t m0 } l b h)
    (pass : ∀ s h g, J s h → cs P n ro rest { κ with gt := JumpK S D J μ t (μ s) } (S s) ⟨g, D s⟩ h) : gs P n ro (.scope c) κ l b h := scope_rule t rest hf S D J μ m0 hok hok2 first pass
end
/-- A contract is proved with its end out of sight. -/
theorem callH_by {P : Program} {f : FuncId} {args : Array Value} {h : Heap} {Q : Value → Heap → Prop} (hc : ∀ K : Value → Heap → Prop, (∀ v h, Q v h → K v h) → CallH P f args h K) : CallH P f args h Q := hc Q fun _ _ h => h
/-- A round of a loop has ended well: some state that is nearer the end. -/
def LoopK {σ : Type} (S : σ → L) (D : σ → List Nat) (J : σ → Heap → Prop) (μ : σ → Nat) (s : σ) (l : L) (b : Base) (h : Heap) : Prop := ∃ s', Sub (S s') l b ∧ b.d = D s' ∧ J s' h ∧ μ s' < μ s
theorem loop' {P : Program} {n : Nat} {ro : Option Nat} {c : Code} {κ : Kont} {l : L} {b : Base} {h : Heap} {σ : Type} (S : σ → L) (D : σ → List Nat) (J : σ → Heap → Prop) (μ : σ → Nat) (s0 : σ) (hS : Sub (S s0) l b) (hD : b.d = D s0) (hJ : J s0 h) (hok : codeOk n c = true)
    (round : ∀ s h g, J s h → cs P n ro c { κ with nx := LoopK S D J μ s } (S s) ⟨g, D s⟩ h) : gs P n ro (.loop c) κ l b h := loop S D J μ s0 hS hD hJ hok round
theorem Grow.elem {α : Type} {R : Rp α} {e : TypeId} {F : Nat → Prop} {h : Heap} {a : Option Addr} {n c : Nat} {xs : List α} {own : Option Nat} (hg : Grow R e F h (.slice a n c) xs own) (k : Nat) (hk : k < xs.length) :
    ∃ bk cs, a = some ⟨bk, 0, none⟩ ∧ own = some bk ∧ R.rep F h cs xs[k] ∧ HC.cellsIn h[bk]? (k * R.sz) R.sz = some cs := by
  rcases hg with ⟨_, rfl, _⟩ | ⟨bk, c', arr, cs, hv, rfl, hb, hf, h1, h2, h3, h4, h5⟩
  · simp at hk
  · cases hv
    refine ⟨bk, _, rfl, rfl, h5.get k hk, ?_⟩
    have hlen := h5.len
    have h6 : k * R.sz + R.sz ≤ xs.length * R.sz := by rw [← Nat.succ_mul]; exact Nat.mul_le_mul_right _ hk
    have h7 : xs.length * R.sz ≤ c * R.sz := Nat.mul_le_mul_right _ h2
    rw [hb, cellsIn_some, if_pos (by omega), ← h4, List.drop_take, List.take_take, Nat.min_eq_left (by omega)]
theorem cellsIn_cell {o : Option Obj} {i n d : Nat} {cs : List Value} (h : cellsIn o i n = some cs) (hd : d < n) : cellIn o (i + d) = cs[d]? := by
  cases o with
  | none => simp [cellsIn] at h
  | some o =>
    cases o with
    | cells c e fz =>
      rw [cellsIn_some] at h
      split at h
      · simp only [Option.some.injEq] at h
        rw [cellIn_some, ← h, List.getElem?_take, if_pos hd, List.getElem?_drop]
        simp
      · cases h
    | _ => simp [cellsIn] at h
end Go.HC

/- The facts on the types and functions of this seat, printed by a program of this session (wip/tools/facts.py) off the translation; each is proved by the kernel. -/
namespace Go.Proofs
open Go Go.HC
@[simp] theorem Tryz.aggS0 : aggS Tryz.prog 0 = some false := by kernel_rfl
@[simp] theorem Tryz.szS0 : szS Tryz.prog 0 = some 1 := by kernel_rfl
@[simp] theorem Tryz.byS0 : byS Tryz.prog 0 = some 0 := by kernel_rfl
@[simp] theorem Tryz.zS0 : zS Tryz.prog 0 = some (.tuple #[]) := by kernel_rfl
@[simp] theorem Tryz.aggS1 : aggS Tryz.prog 1 = some false := by kernel_rfl
@[simp] theorem Tryz.szS1 : szS Tryz.prog 1 = some 1 := by kernel_rfl
@[simp] theorem Tryz.byS1 : byS Tryz.prog 1 = some 8 := by kernel_rfl
@[simp] theorem Tryz.zS1 : zS Tryz.prog 1 = some (.nilFunc) := by kernel_rfl
@[simp] theorem Tryz.aggS2 : aggS Tryz.prog 2 = some false := by kernel_rfl
@[simp] theorem Tryz.szS2 : szS Tryz.prog 2 = some 1 := by kernel_rfl
@[simp] theorem Tryz.byS2 : byS Tryz.prog 2 = some 8 := by kernel_rfl
@[simp] theorem Tryz.zS2 : zS Tryz.prog 2 = some (.int .i64 0) := by kernel_rfl
@[simp] theorem Tryz.intK2 : intK Tryz.prog 2 = some .i64 := by kernel_rfl
@[simp] theorem Tryz.aggS3 : aggS Tryz.prog 3 = some false := by kernel_rfl
@[simp] theorem Tryz.szS3 : szS Tryz.prog 3 = some 1 := by kernel_rfl
@[simp] theorem Tryz.byS3 : byS Tryz.prog 3 = some 8 := by kernel_rfl
@[simp] theorem Tryz.zS3 : zS Tryz.prog 3 = some (.int .i64 0) := by kernel_rfl
@[simp] theorem Tryz.intK3 : intK Tryz.prog 3 = some .i64 := by kernel_rfl
@[simp] theorem Tryz.aggS4 : aggS Tryz.prog 4 = some false := by kernel_rfl
@[simp] theorem Tryz.szS4 : szS Tryz.prog 4 = some 1 := by kernel_rfl
@[simp] theorem Tryz.byS4 : byS Tryz.prog 4 = some 1 := by kernel_rfl
@[simp] theorem Tryz.zS4 : zS Tryz.prog 4 = some (.bool false) := by kernel_rfl
@[simp] theorem Tryz.boolT4 : boolT Tryz.prog 4 = true := by kernel_rfl
@[simp] theorem Tryz.aggS5 : aggS Tryz.prog 5 = some false := by kernel_rfl
@[simp] theorem Tryz.szS5 : szS Tryz.prog 5 = some 1 := by kernel_rfl
@[simp] theorem Tryz.byS5 : byS Tryz.prog 5 = some 1 := by kernel_rfl
@[simp] theorem Tryz.zS5 : zS Tryz.prog 5 = some (.int .u8 0) := by kernel_rfl
@[simp] theorem Tryz.intK5 : intK Tryz.prog 5 = some .u8 := by kernel_rfl
@[simp] theorem Tryz.aggS6 : aggS Tryz.prog 6 = some false := by kernel_rfl
@[simp] theorem Tryz.szS6 : szS Tryz.prog 6 = some 1 := by kernel_rfl
@[simp] theorem Tryz.byS6 : byS Tryz.prog 6 = some 1 := by kernel_rfl
@[simp] theorem Tryz.zS6 : zS Tryz.prog 6 = some (.int .u8 0) := by kernel_rfl
@[simp] theorem Tryz.intK6 : intK Tryz.prog 6 = some .u8 := by kernel_rfl
@[simp] theorem Tryz.aggS7 : aggS Tryz.prog 7 = some true := by kernel_rfl
@[simp] theorem Tryz.szS7 : szS Tryz.prog 7 = some 4 := by kernel_rfl
@[simp] theorem Tryz.byS7 : byS Tryz.prog 7 = some 24 := by kernel_rfl
@[simp] theorem Tryz.zS7 : zS Tryz.prog 7 = some (.agg #[.int .i64 0, .int .i64 0, .bool false, .int .u8 0]) := by kernel_rfl
@[simp] theorem Tryz.strOk7 : structOk Tryz.prog 7 = true := by kernel_rfl
@[simp] theorem Tryz.fldS7_0 : fldS Tryz.prog 7 0 = some (0, 1, false) := by kernel_rfl
@[simp] theorem Tryz.fldS7_1 : fldS Tryz.prog 7 1 = some (1, 1, false) := by kernel_rfl
@[simp] theorem Tryz.fldS7_2 : fldS Tryz.prog 7 2 = some (2, 1, false) := by kernel_rfl
@[simp] theorem Tryz.fldS7_3 : fldS Tryz.prog 7 3 = some (3, 1, false) := by kernel_rfl
@[simp] theorem Tryz.aggS8 : aggS Tryz.prog 8 = some true := by kernel_rfl
@[simp] theorem Tryz.szS8 : szS Tryz.prog 8 = some 4 := by kernel_rfl
@[simp] theorem Tryz.byS8 : byS Tryz.prog 8 = some 24 := by kernel_rfl
@[simp] theorem Tryz.zS8 : zS Tryz.prog 8 = some (.agg #[.int .i64 0, .int .i64 0, .bool false, .int .u8 0]) := by kernel_rfl
@[simp] theorem Tryz.strOk8 : structOk Tryz.prog 8 = true := by kernel_rfl
@[simp] theorem Tryz.fldS8_0 : fldS Tryz.prog 8 0 = some (0, 1, false) := by kernel_rfl
@[simp] theorem Tryz.fldS8_1 : fldS Tryz.prog 8 1 = some (1, 1, false) := by kernel_rfl
@[simp] theorem Tryz.fldS8_2 : fldS Tryz.prog 8 2 = some (2, 1, false) := by kernel_rfl
@[simp] theorem Tryz.fldS8_3 : fldS Tryz.prog 8 3 = some (3, 1, false) := by kernel_rfl
@[simp] theorem Tryz.aggS9 : aggS Tryz.prog 9 = some false := by kernel_rfl
@[simp] theorem Tryz.szS9 : szS Tryz.prog 9 = some 1 := by kernel_rfl
@[simp] theorem Tryz.byS9 : byS Tryz.prog 9 = some 16 := by kernel_rfl
@[simp] theorem Tryz.zS9 : zS Tryz.prog 9 = some (.string ⟨#[]⟩) := by kernel_rfl
@[simp] theorem Tryz.strT9 : strT Tryz.prog 9 = true := by kernel_rfl
@[simp] theorem Tryz.aggS10 : aggS Tryz.prog 10 = some false := by kernel_rfl
@[simp] theorem Tryz.szS10 : szS Tryz.prog 10 = some 1 := by kernel_rfl
@[simp] theorem Tryz.byS10 : byS Tryz.prog 10 = some 16 := by kernel_rfl
@[simp] theorem Tryz.zS10 : zS Tryz.prog 10 = some (.string ⟨#[]⟩) := by kernel_rfl
@[simp] theorem Tryz.strT10 : strT Tryz.prog 10 = true := by kernel_rfl
@[simp] theorem Tryz.aggS11 : aggS Tryz.prog 11 = some false := by kernel_rfl
@[simp] theorem Tryz.szS11 : szS Tryz.prog 11 = some 1 := by kernel_rfl
@[simp] theorem Tryz.byS11 : byS Tryz.prog 11 = some 16 := by kernel_rfl
@[simp] theorem Tryz.zS11 : zS Tryz.prog 11 = some (.string ⟨#[]⟩) := by kernel_rfl
@[simp] theorem Tryz.strT11 : strT Tryz.prog 11 = true := by kernel_rfl
@[simp] theorem Tryz.aggS12 : aggS Tryz.prog 12 = some false := by kernel_rfl
@[simp] theorem Tryz.szS12 : szS Tryz.prog 12 = some 1 := by kernel_rfl
@[simp] theorem Tryz.byS12 : byS Tryz.prog 12 = some 8 := by kernel_rfl
@[simp] theorem Tryz.zS12 : zS Tryz.prog 12 = some (.int .u64 0) := by kernel_rfl
@[simp] theorem Tryz.intK12 : intK Tryz.prog 12 = some .u64 := by kernel_rfl
@[simp] theorem Tryz.aggS13 : aggS Tryz.prog 13 = some true := by kernel_rfl
@[simp] theorem Tryz.szS13 : szS Tryz.prog 13 = some 2 := by kernel_rfl
@[simp] theorem Tryz.byS13 : byS Tryz.prog 13 = some 24 := by kernel_rfl
@[simp] theorem Tryz.zS13 : zS Tryz.prog 13 = some (.agg #[.string ⟨#[]⟩, .int .u64 0]) := by kernel_rfl
@[simp] theorem Tryz.strOk13 : structOk Tryz.prog 13 = true := by kernel_rfl
@[simp] theorem Tryz.fldS13_0 : fldS Tryz.prog 13 0 = some (0, 1, false) := by kernel_rfl
@[simp] theorem Tryz.fldS13_1 : fldS Tryz.prog 13 1 = some (1, 1, false) := by kernel_rfl
@[simp] theorem Tryz.aggS14 : aggS Tryz.prog 14 = some true := by kernel_rfl
@[simp] theorem Tryz.szS14 : szS Tryz.prog 14 = some 2 := by kernel_rfl
@[simp] theorem Tryz.byS14 : byS Tryz.prog 14 = some 24 := by kernel_rfl
@[simp] theorem Tryz.zS14 : zS Tryz.prog 14 = some (.agg #[.string ⟨#[]⟩, .int .u64 0]) := by kernel_rfl
@[simp] theorem Tryz.strOk14 : structOk Tryz.prog 14 = true := by kernel_rfl
@[simp] theorem Tryz.fldS14_0 : fldS Tryz.prog 14 0 = some (0, 1, false) := by kernel_rfl
@[simp] theorem Tryz.fldS14_1 : fldS Tryz.prog 14 1 = some (1, 1, false) := by kernel_rfl
@[simp] theorem Tryz.aggS15 : aggS Tryz.prog 15 = some false := by kernel_rfl
@[simp] theorem Tryz.szS15 : szS Tryz.prog 15 = some 1 := by kernel_rfl
@[simp] theorem Tryz.byS15 : byS Tryz.prog 15 = some 8 := by kernel_rfl
@[simp] theorem Tryz.zS15 : zS Tryz.prog 15 = some (.pointer none) := by kernel_rfl
@[simp] theorem Tryz.nilKind15 : nilKind Tryz.prog 15 = 2 := by kernel_rfl
@[simp] theorem Tryz.aggS16 : aggS Tryz.prog 16 = some false := by kernel_rfl
@[simp] theorem Tryz.szS16 : szS Tryz.prog 16 = some 1 := by kernel_rfl
@[simp] theorem Tryz.byS16 : byS Tryz.prog 16 = some 8 := by kernel_rfl
@[simp] theorem Tryz.zS16 : zS Tryz.prog 16 = some (.pointer none) := by kernel_rfl
@[simp] theorem Tryz.nilKind16 : nilKind Tryz.prog 16 = 2 := by kernel_rfl
@[simp] theorem Tryz.aggS17 : aggS Tryz.prog 17 = some false := by kernel_rfl
@[simp] theorem Tryz.szS17 : szS Tryz.prog 17 = some 1 := by kernel_rfl
@[simp] theorem Tryz.byS17 : byS Tryz.prog 17 = some 8 := by kernel_rfl
@[simp] theorem Tryz.zS17 : zS Tryz.prog 17 = some (.pointer none) := by kernel_rfl
@[simp] theorem Tryz.nilKind17 : nilKind Tryz.prog 17 = 2 := by kernel_rfl
@[simp] theorem Tryz.aggS18 : aggS Tryz.prog 18 = some true := by kernel_rfl
@[simp] theorem Tryz.szS18 : szS Tryz.prog 18 = some 1 := by kernel_rfl
@[simp] theorem Tryz.byS18 : byS Tryz.prog 18 = some 8 := by kernel_rfl
@[simp] theorem Tryz.zS18 : zS Tryz.prog 18 = some (.agg #[.pointer none]) := by kernel_rfl
@[simp] theorem Tryz.strOk18 : structOk Tryz.prog 18 = true := by kernel_rfl
@[simp] theorem Tryz.fldS18_0 : fldS Tryz.prog 18 0 = some (0, 1, false) := by kernel_rfl
@[simp] theorem Tryz.aggS19 : aggS Tryz.prog 19 = some true := by kernel_rfl
@[simp] theorem Tryz.szS19 : szS Tryz.prog 19 = some 1 := by kernel_rfl
@[simp] theorem Tryz.byS19 : byS Tryz.prog 19 = some 8 := by kernel_rfl
@[simp] theorem Tryz.zS19 : zS Tryz.prog 19 = some (.agg #[.pointer none]) := by kernel_rfl
@[simp] theorem Tryz.strOk19 : structOk Tryz.prog 19 = true := by kernel_rfl
@[simp] theorem Tryz.fldS19_0 : fldS Tryz.prog 19 0 = some (0, 1, false) := by kernel_rfl
@[simp] theorem Tryz.aggS21 : aggS Tryz.prog 21 = some false := by kernel_rfl
@[simp] theorem Tryz.szS21 : szS Tryz.prog 21 = some 1 := by kernel_rfl
@[simp] theorem Tryz.byS21 : byS Tryz.prog 21 = some 4 := by kernel_rfl
@[simp] theorem Tryz.zS21 : zS Tryz.prog 21 = some (.int .i32 0) := by kernel_rfl
@[simp] theorem Tryz.intK21 : intK Tryz.prog 21 = some .i32 := by kernel_rfl
@[simp] theorem Tryz.aggS22 : aggS Tryz.prog 22 = some false := by kernel_rfl
@[simp] theorem Tryz.szS22 : szS Tryz.prog 22 = some 1 := by kernel_rfl
@[simp] theorem Tryz.byS22 : byS Tryz.prog 22 = some 24 := by kernel_rfl
@[simp] theorem Tryz.zS22 : zS Tryz.prog 22 = some (.slice none 0 0) := by kernel_rfl
@[simp] theorem Tryz.elS22 : elS Tryz.prog 22 = some 3 := by kernel_rfl
@[simp] theorem Tryz.nilKind22 : nilKind Tryz.prog 22 = 1 := by kernel_rfl
@[simp] theorem Tryz.aggS23 : aggS Tryz.prog 23 = some false := by kernel_rfl
@[simp] theorem Tryz.szS23 : szS Tryz.prog 23 = some 1 := by kernel_rfl
@[simp] theorem Tryz.byS23 : byS Tryz.prog 23 = some 8 := by kernel_rfl
@[simp] theorem Tryz.zS23 : zS Tryz.prog 23 = some (.nilFunc) := by kernel_rfl
@[simp] theorem Tryz.aggS24 : aggS Tryz.prog 24 = some true := by kernel_rfl
@[simp] theorem Tryz.szS24 : szS Tryz.prog 24 = some 2 := by kernel_rfl
@[simp] theorem Tryz.byS24 : byS Tryz.prog 24 = some 32 := by kernel_rfl
@[simp] theorem Tryz.zS24 : zS Tryz.prog 24 = some (.agg #[.slice none 0 0, .int .i64 0]) := by kernel_rfl
@[simp] theorem Tryz.strOk24 : structOk Tryz.prog 24 = true := by kernel_rfl
@[simp] theorem Tryz.fldS24_0 : fldS Tryz.prog 24 0 = some (0, 1, false) := by kernel_rfl
@[simp] theorem Tryz.fldS24_1 : fldS Tryz.prog 24 1 = some (1, 1, false) := by kernel_rfl
@[simp] theorem Tryz.aggS25 : aggS Tryz.prog 25 = some true := by kernel_rfl
@[simp] theorem Tryz.szS25 : szS Tryz.prog 25 = some 2 := by kernel_rfl
@[simp] theorem Tryz.byS25 : byS Tryz.prog 25 = some 32 := by kernel_rfl
@[simp] theorem Tryz.zS25 : zS Tryz.prog 25 = some (.agg #[.slice none 0 0, .int .i64 0]) := by kernel_rfl
@[simp] theorem Tryz.strOk25 : structOk Tryz.prog 25 = true := by kernel_rfl
@[simp] theorem Tryz.fldS25_0 : fldS Tryz.prog 25 0 = some (0, 1, false) := by kernel_rfl
@[simp] theorem Tryz.fldS25_1 : fldS Tryz.prog 25 1 = some (1, 1, false) := by kernel_rfl
@[simp] theorem Tryz.aggS26 : aggS Tryz.prog 26 = some false := by kernel_rfl
@[simp] theorem Tryz.szS26 : szS Tryz.prog 26 = some 1 := by kernel_rfl
@[simp] theorem Tryz.byS26 : byS Tryz.prog 26 = some 24 := by kernel_rfl
@[simp] theorem Tryz.zS26 : zS Tryz.prog 26 = some (.slice none 0 0) := by kernel_rfl
@[simp] theorem Tryz.elS26 : elS Tryz.prog 26 = some 49 := by kernel_rfl
@[simp] theorem Tryz.nilKind26 : nilKind Tryz.prog 26 = 1 := by kernel_rfl
@[simp] theorem Tryz.aggS28 : aggS Tryz.prog 28 = some false := by kernel_rfl
@[simp] theorem Tryz.szS28 : szS Tryz.prog 28 = some 1 := by kernel_rfl
@[simp] theorem Tryz.byS28 : byS Tryz.prog 28 = some 8 := by kernel_rfl
@[simp] theorem Tryz.zS28 : zS Tryz.prog 28 = some (.nilFunc) := by kernel_rfl
@[simp] theorem Tryz.aggS29 : aggS Tryz.prog 29 = some false := by kernel_rfl
@[simp] theorem Tryz.szS29 : szS Tryz.prog 29 = some 1 := by kernel_rfl
@[simp] theorem Tryz.byS29 : byS Tryz.prog 29 = some 8 := by kernel_rfl
@[simp] theorem Tryz.zS29 : zS Tryz.prog 29 = some (.nilFunc) := by kernel_rfl
@[simp] theorem Tryz.aggS30 : aggS Tryz.prog 30 = some false := by kernel_rfl
@[simp] theorem Tryz.szS30 : szS Tryz.prog 30 = some 1 := by kernel_rfl
@[simp] theorem Tryz.byS30 : byS Tryz.prog 30 = some 8 := by kernel_rfl
@[simp] theorem Tryz.zS30 : zS Tryz.prog 30 = some (.nilFunc) := by kernel_rfl
@[simp] theorem Tryz.aggS31 : aggS Tryz.prog 31 = some false := by kernel_rfl
@[simp] theorem Tryz.szS31 : szS Tryz.prog 31 = some 1 := by kernel_rfl
@[simp] theorem Tryz.byS31 : byS Tryz.prog 31 = some 24 := by kernel_rfl
@[simp] theorem Tryz.zS31 : zS Tryz.prog 31 = some (.slice none 0 0) := by kernel_rfl
@[simp] theorem Tryz.elS31 : elS Tryz.prog 31 = some 46 := by kernel_rfl
@[simp] theorem Tryz.nilKind31 : nilKind Tryz.prog 31 = 1 := by kernel_rfl
@[simp] theorem Tryz.aggS32 : aggS Tryz.prog 32 = some false := by kernel_rfl
@[simp] theorem Tryz.szS32 : szS Tryz.prog 32 = some 1 := by kernel_rfl
@[simp] theorem Tryz.byS32 : byS Tryz.prog 32 = some 8 := by kernel_rfl
@[simp] theorem Tryz.zS32 : zS Tryz.prog 32 = some (.nilFunc) := by kernel_rfl
@[simp] theorem Tryz.aggS33 : aggS Tryz.prog 33 = some true := by kernel_rfl
@[simp] theorem Tryz.szS33 : szS Tryz.prog 33 = some 2 := by kernel_rfl
@[simp] theorem Tryz.byS33 : byS Tryz.prog 33 = some 32 := by kernel_rfl
@[simp] theorem Tryz.zS33 : zS Tryz.prog 33 = some (.agg #[.slice none 0 0, .int .i64 0]) := by kernel_rfl
@[simp] theorem Tryz.strOk33 : structOk Tryz.prog 33 = true := by kernel_rfl
@[simp] theorem Tryz.fldS33_0 : fldS Tryz.prog 33 0 = some (0, 1, false) := by kernel_rfl
@[simp] theorem Tryz.fldS33_1 : fldS Tryz.prog 33 1 = some (1, 1, false) := by kernel_rfl
@[simp] theorem Tryz.aggS34 : aggS Tryz.prog 34 = some true := by kernel_rfl
@[simp] theorem Tryz.szS34 : szS Tryz.prog 34 = some 2 := by kernel_rfl
@[simp] theorem Tryz.byS34 : byS Tryz.prog 34 = some 32 := by kernel_rfl
@[simp] theorem Tryz.zS34 : zS Tryz.prog 34 = some (.agg #[.slice none 0 0, .int .i64 0]) := by kernel_rfl
@[simp] theorem Tryz.strOk34 : structOk Tryz.prog 34 = true := by kernel_rfl
@[simp] theorem Tryz.fldS34_0 : fldS Tryz.prog 34 0 = some (0, 1, false) := by kernel_rfl
@[simp] theorem Tryz.fldS34_1 : fldS Tryz.prog 34 1 = some (1, 1, false) := by kernel_rfl
@[simp] theorem Tryz.aggS35 : aggS Tryz.prog 35 = some false := by kernel_rfl
@[simp] theorem Tryz.szS35 : szS Tryz.prog 35 = some 1 := by kernel_rfl
@[simp] theorem Tryz.byS35 : byS Tryz.prog 35 = some 8 := by kernel_rfl
@[simp] theorem Tryz.zS35 : zS Tryz.prog 35 = some (.int .i64 0) := by kernel_rfl
@[simp] theorem Tryz.intK35 : intK Tryz.prog 35 = some .i64 := by kernel_rfl
@[simp] theorem Tryz.aggS37 : aggS Tryz.prog 37 = some false := by kernel_rfl
@[simp] theorem Tryz.szS37 : szS Tryz.prog 37 = some 1 := by kernel_rfl
@[simp] theorem Tryz.byS37 : byS Tryz.prog 37 = some 8 := by kernel_rfl
@[simp] theorem Tryz.zS37 : zS Tryz.prog 37 = some (.nilFunc) := by kernel_rfl
@[simp] theorem Tryz.aggS38 : aggS Tryz.prog 38 = some true := by kernel_rfl
@[simp] theorem Tryz.szS38 : szS Tryz.prog 38 = some 2 := by kernel_rfl
@[simp] theorem Tryz.byS38 : byS Tryz.prog 38 = some 32 := by kernel_rfl
@[simp] theorem Tryz.zS38 : zS Tryz.prog 38 = some (.agg #[.slice none 0 0, .int .i64 0]) := by kernel_rfl
@[simp] theorem Tryz.strOk38 : structOk Tryz.prog 38 = true := by kernel_rfl
@[simp] theorem Tryz.fldS38_0 : fldS Tryz.prog 38 0 = some (0, 1, false) := by kernel_rfl
@[simp] theorem Tryz.fldS38_1 : fldS Tryz.prog 38 1 = some (1, 1, false) := by kernel_rfl
@[simp] theorem Tryz.aggS40 : aggS Tryz.prog 40 = some false := by kernel_rfl
@[simp] theorem Tryz.szS40 : szS Tryz.prog 40 = some 1 := by kernel_rfl
@[simp] theorem Tryz.byS40 : byS Tryz.prog 40 = some 8 := by kernel_rfl
@[simp] theorem Tryz.zS40 : zS Tryz.prog 40 = some (.nilFunc) := by kernel_rfl
@[simp] theorem Tryz.aggS41 : aggS Tryz.prog 41 = some false := by kernel_rfl
@[simp] theorem Tryz.szS41 : szS Tryz.prog 41 = some 1 := by kernel_rfl
@[simp] theorem Tryz.byS41 : byS Tryz.prog 41 = some 8 := by kernel_rfl
@[simp] theorem Tryz.zS41 : zS Tryz.prog 41 = some (.nilFunc) := by kernel_rfl
@[simp] theorem Tryz.aggS42 : aggS Tryz.prog 42 = some false := by kernel_rfl
@[simp] theorem Tryz.szS42 : szS Tryz.prog 42 = some 1 := by kernel_rfl
@[simp] theorem Tryz.byS42 : byS Tryz.prog 42 = some 8 := by kernel_rfl
@[simp] theorem Tryz.zS42 : zS Tryz.prog 42 = some (.nilFunc) := by kernel_rfl
@[simp] theorem Tryz.aggS43 : aggS Tryz.prog 43 = some false := by kernel_rfl
@[simp] theorem Tryz.szS43 : szS Tryz.prog 43 = some 1 := by kernel_rfl
@[simp] theorem Tryz.byS43 : byS Tryz.prog 43 = some 8 := by kernel_rfl
@[simp] theorem Tryz.zS43 : zS Tryz.prog 43 = some (.nilFunc) := by kernel_rfl
@[simp] theorem Tryz.aggS44 : aggS Tryz.prog 44 = some false := by kernel_rfl
@[simp] theorem Tryz.szS44 : szS Tryz.prog 44 = some 1 := by kernel_rfl
@[simp] theorem Tryz.byS44 : byS Tryz.prog 44 = some 8 := by kernel_rfl
@[simp] theorem Tryz.zS44 : zS Tryz.prog 44 = some (.nilFunc) := by kernel_rfl
@[simp] theorem Tryz.aggS45 : aggS Tryz.prog 45 = some true := by kernel_rfl
@[simp] theorem Tryz.szS45 : szS Tryz.prog 45 = some 5 := by kernel_rfl
@[simp] theorem Tryz.byS45 : byS Tryz.prog 45 = some 104 := by kernel_rfl
@[simp] theorem Tryz.zS45 : zS Tryz.prog 45 = some (.agg #[.slice none 0 0, .int .i64 0, .slice none 0 0, .slice none 0 0, .slice none 0 0]) := by kernel_rfl
@[simp] theorem Tryz.strOk45 : structOk Tryz.prog 45 = true := by kernel_rfl
@[simp] theorem Tryz.fldS45_0 : fldS Tryz.prog 45 0 = some (0, 1, false) := by kernel_rfl
@[simp] theorem Tryz.fldS45_1 : fldS Tryz.prog 45 1 = some (1, 1, false) := by kernel_rfl
@[simp] theorem Tryz.fldS45_2 : fldS Tryz.prog 45 2 = some (2, 1, false) := by kernel_rfl
@[simp] theorem Tryz.fldS45_3 : fldS Tryz.prog 45 3 = some (3, 1, false) := by kernel_rfl
@[simp] theorem Tryz.fldS45_4 : fldS Tryz.prog 45 4 = some (4, 1, false) := by kernel_rfl
@[simp] theorem Tryz.aggS46 : aggS Tryz.prog 46 = some true := by kernel_rfl
@[simp] theorem Tryz.szS46 : szS Tryz.prog 46 = some 5 := by kernel_rfl
@[simp] theorem Tryz.byS46 : byS Tryz.prog 46 = some 104 := by kernel_rfl
@[simp] theorem Tryz.zS46 : zS Tryz.prog 46 = some (.agg #[.slice none 0 0, .int .i64 0, .slice none 0 0, .slice none 0 0, .slice none 0 0]) := by kernel_rfl
@[simp] theorem Tryz.strOk46 : structOk Tryz.prog 46 = true := by kernel_rfl
@[simp] theorem Tryz.fldS46_0 : fldS Tryz.prog 46 0 = some (0, 1, false) := by kernel_rfl
@[simp] theorem Tryz.fldS46_1 : fldS Tryz.prog 46 1 = some (1, 1, false) := by kernel_rfl
@[simp] theorem Tryz.fldS46_2 : fldS Tryz.prog 46 2 = some (2, 1, false) := by kernel_rfl
@[simp] theorem Tryz.fldS46_3 : fldS Tryz.prog 46 3 = some (3, 1, false) := by kernel_rfl
@[simp] theorem Tryz.fldS46_4 : fldS Tryz.prog 46 4 = some (4, 1, false) := by kernel_rfl
@[simp] theorem Tryz.aggS47 : aggS Tryz.prog 47 = some false := by kernel_rfl
@[simp] theorem Tryz.szS47 : szS Tryz.prog 47 = some 1 := by kernel_rfl
@[simp] theorem Tryz.byS47 : byS Tryz.prog 47 = some 8 := by kernel_rfl
@[simp] theorem Tryz.zS47 : zS Tryz.prog 47 = some (.nilFunc) := by kernel_rfl
@[simp] theorem Tryz.aggS48 : aggS Tryz.prog 48 = some true := by kernel_rfl
@[simp] theorem Tryz.szS48 : szS Tryz.prog 48 = some 2 := by kernel_rfl
@[simp] theorem Tryz.byS48 : byS Tryz.prog 48 = some 48 := by kernel_rfl
@[simp] theorem Tryz.zS48 : zS Tryz.prog 48 = some (.agg #[.slice none 0 0, .slice none 0 0]) := by kernel_rfl
@[simp] theorem Tryz.strOk48 : structOk Tryz.prog 48 = true := by kernel_rfl
@[simp] theorem Tryz.fldS48_0 : fldS Tryz.prog 48 0 = some (0, 1, false) := by kernel_rfl
@[simp] theorem Tryz.fldS48_1 : fldS Tryz.prog 48 1 = some (1, 1, false) := by kernel_rfl
@[simp] theorem Tryz.aggS49 : aggS Tryz.prog 49 = some true := by kernel_rfl
@[simp] theorem Tryz.szS49 : szS Tryz.prog 49 = some 2 := by kernel_rfl
@[simp] theorem Tryz.byS49 : byS Tryz.prog 49 = some 48 := by kernel_rfl
@[simp] theorem Tryz.zS49 : zS Tryz.prog 49 = some (.agg #[.slice none 0 0, .slice none 0 0]) := by kernel_rfl
@[simp] theorem Tryz.strOk49 : structOk Tryz.prog 49 = true := by kernel_rfl
@[simp] theorem Tryz.fldS49_0 : fldS Tryz.prog 49 0 = some (0, 1, false) := by kernel_rfl
@[simp] theorem Tryz.fldS49_1 : fldS Tryz.prog 49 1 = some (1, 1, false) := by kernel_rfl
@[simp] theorem Tryz.aggS50 : aggS Tryz.prog 50 = some false := by kernel_rfl
@[simp] theorem Tryz.szS50 : szS Tryz.prog 50 = some 1 := by kernel_rfl
@[simp] theorem Tryz.byS50 : byS Tryz.prog 50 = some 8 := by kernel_rfl
@[simp] theorem Tryz.zS50 : zS Tryz.prog 50 = some (.int .u64 0) := by kernel_rfl
@[simp] theorem Tryz.intK50 : intK Tryz.prog 50 = some .u64 := by kernel_rfl
@[simp] theorem Tryz.aggS51 : aggS Tryz.prog 51 = some false := by kernel_rfl
@[simp] theorem Tryz.szS51 : szS Tryz.prog 51 = some 1 := by kernel_rfl
@[simp] theorem Tryz.byS51 : byS Tryz.prog 51 = some 8 := by kernel_rfl
@[simp] theorem Tryz.zS51 : zS Tryz.prog 51 = some (.nilFunc) := by kernel_rfl
@[simp] theorem Tryz.aggS52 : aggS Tryz.prog 52 = some false := by kernel_rfl
@[simp] theorem Tryz.szS52 : szS Tryz.prog 52 = some 1 := by kernel_rfl
@[simp] theorem Tryz.byS52 : byS Tryz.prog 52 = some 8 := by kernel_rfl
@[simp] theorem Tryz.zS52 : zS Tryz.prog 52 = some (.nilFunc) := by kernel_rfl
@[simp] theorem Tryz.aggS53 : aggS Tryz.prog 53 = some false := by kernel_rfl
@[simp] theorem Tryz.szS53 : szS Tryz.prog 53 = some 1 := by kernel_rfl
@[simp] theorem Tryz.byS53 : byS Tryz.prog 53 = some 8 := by kernel_rfl
@[simp] theorem Tryz.zS53 : zS Tryz.prog 53 = some (.nilFunc) := by kernel_rfl
@[simp] theorem Tryz.aggS54 : aggS Tryz.prog 54 = some false := by kernel_rfl
@[simp] theorem Tryz.szS54 : szS Tryz.prog 54 = some 1 := by kernel_rfl
@[simp] theorem Tryz.byS54 : byS Tryz.prog 54 = some 8 := by kernel_rfl
@[simp] theorem Tryz.zS54 : zS Tryz.prog 54 = some (.nilFunc) := by kernel_rfl
@[simp] theorem Tryz.aggS55 : aggS Tryz.prog 55 = some false := by kernel_rfl
@[simp] theorem Tryz.szS55 : szS Tryz.prog 55 = some 1 := by kernel_rfl
@[simp] theorem Tryz.byS55 : byS Tryz.prog 55 = some 8 := by kernel_rfl
@[simp] theorem Tryz.zS55 : zS Tryz.prog 55 = some (.nilFunc) := by kernel_rfl
@[simp] theorem Tryz.aggS56 : aggS Tryz.prog 56 = some false := by kernel_rfl
@[simp] theorem Tryz.szS56 : szS Tryz.prog 56 = some 1 := by kernel_rfl
@[simp] theorem Tryz.byS56 : byS Tryz.prog 56 = some 8 := by kernel_rfl
@[simp] theorem Tryz.zS56 : zS Tryz.prog 56 = some (.nilFunc) := by kernel_rfl
@[simp] theorem Tryz.aggS57 : aggS Tryz.prog 57 = some false := by kernel_rfl
@[simp] theorem Tryz.szS57 : szS Tryz.prog 57 = some 1 := by kernel_rfl
@[simp] theorem Tryz.byS57 : byS Tryz.prog 57 = some 8 := by kernel_rfl
@[simp] theorem Tryz.zS57 : zS Tryz.prog 57 = some (.nilFunc) := by kernel_rfl
@[simp] theorem Tryz.aggS58 : aggS Tryz.prog 58 = some false := by kernel_rfl
@[simp] theorem Tryz.szS58 : szS Tryz.prog 58 = some 1 := by kernel_rfl
@[simp] theorem Tryz.byS58 : byS Tryz.prog 58 = some 8 := by kernel_rfl
@[simp] theorem Tryz.zS58 : zS Tryz.prog 58 = some (.nilFunc) := by kernel_rfl
@[simp] theorem Tryz.aggS59 : aggS Tryz.prog 59 = some false := by kernel_rfl
@[simp] theorem Tryz.szS59 : szS Tryz.prog 59 = some 1 := by kernel_rfl
@[simp] theorem Tryz.byS59 : byS Tryz.prog 59 = some 8 := by kernel_rfl
@[simp] theorem Tryz.zS59 : zS Tryz.prog 59 = some (.nilFunc) := by kernel_rfl
@[simp] theorem Tryz.aggS60 : aggS Tryz.prog 60 = some false := by kernel_rfl
@[simp] theorem Tryz.szS60 : szS Tryz.prog 60 = some 1 := by kernel_rfl
@[simp] theorem Tryz.byS60 : byS Tryz.prog 60 = some 8 := by kernel_rfl
@[simp] theorem Tryz.zS60 : zS Tryz.prog 60 = some (.nilFunc) := by kernel_rfl
@[simp] theorem Tryz.aggS61 : aggS Tryz.prog 61 = some false := by kernel_rfl
@[simp] theorem Tryz.szS61 : szS Tryz.prog 61 = some 1 := by kernel_rfl
@[simp] theorem Tryz.byS61 : byS Tryz.prog 61 = some 8 := by kernel_rfl
@[simp] theorem Tryz.zS61 : zS Tryz.prog 61 = some (.nilFunc) := by kernel_rfl
@[simp] theorem Tryz.aggS62 : aggS Tryz.prog 62 = some false := by kernel_rfl
@[simp] theorem Tryz.szS62 : szS Tryz.prog 62 = some 1 := by kernel_rfl
@[simp] theorem Tryz.byS62 : byS Tryz.prog 62 = some 8 := by kernel_rfl
@[simp] theorem Tryz.zS62 : zS Tryz.prog 62 = some (.nilFunc) := by kernel_rfl
@[simp] theorem Tryz.aggS63 : aggS Tryz.prog 63 = some false := by kernel_rfl
@[simp] theorem Tryz.szS63 : szS Tryz.prog 63 = some 1 := by kernel_rfl
@[simp] theorem Tryz.byS63 : byS Tryz.prog 63 = some 24 := by kernel_rfl
@[simp] theorem Tryz.zS63 : zS Tryz.prog 63 = some (.slice none 0 0) := by kernel_rfl
@[simp] theorem Tryz.elS63 : elS Tryz.prog 63 = some 31 := by kernel_rfl
@[simp] theorem Tryz.nilKind63 : nilKind Tryz.prog 63 = 1 := by kernel_rfl
@[simp] theorem Tryz.aggS64 : aggS Tryz.prog 64 = some false := by kernel_rfl
@[simp] theorem Tryz.szS64 : szS Tryz.prog 64 = some 1 := by kernel_rfl
@[simp] theorem Tryz.byS64 : byS Tryz.prog 64 = some 8 := by kernel_rfl
@[simp] theorem Tryz.zS64 : zS Tryz.prog 64 = some (.nilFunc) := by kernel_rfl
@[simp] theorem Tryz.aggS66 : aggS Tryz.prog 66 = some false := by kernel_rfl
@[simp] theorem Tryz.szS66 : szS Tryz.prog 66 = some 1 := by kernel_rfl
@[simp] theorem Tryz.byS66 : byS Tryz.prog 66 = some 8 := by kernel_rfl
@[simp] theorem Tryz.zS66 : zS Tryz.prog 66 = some (.nilFunc) := by kernel_rfl
@[simp] theorem Tryz.aggS67 : aggS Tryz.prog 67 = some false := by kernel_rfl
@[simp] theorem Tryz.szS67 : szS Tryz.prog 67 = some 1 := by kernel_rfl
@[simp] theorem Tryz.byS67 : byS Tryz.prog 67 = some 8 := by kernel_rfl
@[simp] theorem Tryz.zS67 : zS Tryz.prog 67 = some (.nilFunc) := by kernel_rfl
@[simp] theorem Tryz.aggS68 : aggS Tryz.prog 68 = some false := by kernel_rfl
@[simp] theorem Tryz.szS68 : szS Tryz.prog 68 = some 1 := by kernel_rfl
@[simp] theorem Tryz.byS68 : byS Tryz.prog 68 = some 8 := by kernel_rfl
@[simp] theorem Tryz.zS68 : zS Tryz.prog 68 = some (.nilFunc) := by kernel_rfl
@[simp] theorem Tryz.aggS69 : aggS Tryz.prog 69 = some false := by kernel_rfl
@[simp] theorem Tryz.szS69 : szS Tryz.prog 69 = some 1 := by kernel_rfl
@[simp] theorem Tryz.byS69 : byS Tryz.prog 69 = some 8 := by kernel_rfl
@[simp] theorem Tryz.zS69 : zS Tryz.prog 69 = some (.nilFunc) := by kernel_rfl
@[simp] theorem Tryz.aggS70 : aggS Tryz.prog 70 = some false := by kernel_rfl
@[simp] theorem Tryz.szS70 : szS Tryz.prog 70 = some 1 := by kernel_rfl
@[simp] theorem Tryz.byS70 : byS Tryz.prog 70 = some 8 := by kernel_rfl
@[simp] theorem Tryz.zS70 : zS Tryz.prog 70 = some (.nilFunc) := by kernel_rfl
@[simp] theorem Tryz.aggS71 : aggS Tryz.prog 71 = some false := by kernel_rfl
@[simp] theorem Tryz.szS71 : szS Tryz.prog 71 = some 1 := by kernel_rfl
@[simp] theorem Tryz.byS71 : byS Tryz.prog 71 = some 8 := by kernel_rfl
@[simp] theorem Tryz.zS71 : zS Tryz.prog 71 = some (.nilFunc) := by kernel_rfl
@[simp] theorem Tryz.aggS72 : aggS Tryz.prog 72 = some false := by kernel_rfl
@[simp] theorem Tryz.szS72 : szS Tryz.prog 72 = some 1 := by kernel_rfl
@[simp] theorem Tryz.byS72 : byS Tryz.prog 72 = some 8 := by kernel_rfl
@[simp] theorem Tryz.zS72 : zS Tryz.prog 72 = some (.nilFunc) := by kernel_rfl
@[simp] theorem Tryz.aggS73 : aggS Tryz.prog 73 = some false := by kernel_rfl
@[simp] theorem Tryz.szS73 : szS Tryz.prog 73 = some 1 := by kernel_rfl
@[simp] theorem Tryz.byS73 : byS Tryz.prog 73 = some 8 := by kernel_rfl
@[simp] theorem Tryz.zS73 : zS Tryz.prog 73 = some (.nilFunc) := by kernel_rfl
@[simp] theorem Tryz.aggS74 : aggS Tryz.prog 74 = some false := by kernel_rfl
@[simp] theorem Tryz.szS74 : szS Tryz.prog 74 = some 1 := by kernel_rfl
@[simp] theorem Tryz.byS74 : byS Tryz.prog 74 = some 8 := by kernel_rfl
@[simp] theorem Tryz.zS74 : zS Tryz.prog 74 = some (.nilFunc) := by kernel_rfl
@[simp] theorem Tryz.aggS75 : aggS Tryz.prog 75 = some false := by kernel_rfl
@[simp] theorem Tryz.szS75 : szS Tryz.prog 75 = some 1 := by kernel_rfl
@[simp] theorem Tryz.byS75 : byS Tryz.prog 75 = some 8 := by kernel_rfl
@[simp] theorem Tryz.zS75 : zS Tryz.prog 75 = some (.nilFunc) := by kernel_rfl
@[simp] theorem Tryz.aggS76 : aggS Tryz.prog 76 = some false := by kernel_rfl
@[simp] theorem Tryz.szS76 : szS Tryz.prog 76 = some 1 := by kernel_rfl
@[simp] theorem Tryz.byS76 : byS Tryz.prog 76 = some 8 := by kernel_rfl
@[simp] theorem Tryz.zS76 : zS Tryz.prog 76 = some (.nilFunc) := by kernel_rfl
@[simp] theorem Tryz.aggS77 : aggS Tryz.prog 77 = some false := by kernel_rfl
@[simp] theorem Tryz.szS77 : szS Tryz.prog 77 = some 1 := by kernel_rfl
@[simp] theorem Tryz.byS77 : byS Tryz.prog 77 = some 8 := by kernel_rfl
@[simp] theorem Tryz.zS77 : zS Tryz.prog 77 = some (.nilFunc) := by kernel_rfl
@[simp] theorem Tryz.aggS78 : aggS Tryz.prog 78 = some false := by kernel_rfl
@[simp] theorem Tryz.szS78 : szS Tryz.prog 78 = some 1 := by kernel_rfl
@[simp] theorem Tryz.byS78 : byS Tryz.prog 78 = some 8 := by kernel_rfl
@[simp] theorem Tryz.zS78 : zS Tryz.prog 78 = some (.pointer none) := by kernel_rfl
@[simp] theorem Tryz.nilKind78 : nilKind Tryz.prog 78 = 2 := by kernel_rfl
@[simp] theorem Tryz.aggS79 : aggS Tryz.prog 79 = some true := by kernel_rfl
@[simp] theorem Tryz.szS79 : szS Tryz.prog 79 = some 1 := by kernel_rfl
@[simp] theorem Tryz.byS79 : byS Tryz.prog 79 = some 24 := by kernel_rfl
@[simp] theorem Tryz.zS79 : zS Tryz.prog 79 = some (.agg #[.slice none 0 0]) := by kernel_rfl
@[simp] theorem Tryz.strOk79 : structOk Tryz.prog 79 = true := by kernel_rfl
@[simp] theorem Tryz.fldS79_0 : fldS Tryz.prog 79 0 = some (0, 1, false) := by kernel_rfl
@[simp] theorem Tryz.aggS80 : aggS Tryz.prog 80 = some true := by kernel_rfl
@[simp] theorem Tryz.szS80 : szS Tryz.prog 80 = some 1 := by kernel_rfl
@[simp] theorem Tryz.byS80 : byS Tryz.prog 80 = some 24 := by kernel_rfl
@[simp] theorem Tryz.zS80 : zS Tryz.prog 80 = some (.agg #[.slice none 0 0]) := by kernel_rfl
@[simp] theorem Tryz.strOk80 : structOk Tryz.prog 80 = true := by kernel_rfl
@[simp] theorem Tryz.fldS80_0 : fldS Tryz.prog 80 0 = some (0, 1, false) := by kernel_rfl
@[simp] theorem Tryz.aggS81 : aggS Tryz.prog 81 = some false := by kernel_rfl
@[simp] theorem Tryz.szS81 : szS Tryz.prog 81 = some 1 := by kernel_rfl
@[simp] theorem Tryz.byS81 : byS Tryz.prog 81 = some 8 := by kernel_rfl
@[simp] theorem Tryz.zS81 : zS Tryz.prog 81 = some (.nilFunc) := by kernel_rfl
@[simp] theorem Tryz.aggS82 : aggS Tryz.prog 82 = some false := by kernel_rfl
@[simp] theorem Tryz.szS82 : szS Tryz.prog 82 = some 1 := by kernel_rfl
@[simp] theorem Tryz.byS82 : byS Tryz.prog 82 = some 8 := by kernel_rfl
@[simp] theorem Tryz.zS82 : zS Tryz.prog 82 = some (.nilFunc) := by kernel_rfl
@[simp] theorem Tryz.aggS83 : aggS Tryz.prog 83 = some false := by kernel_rfl
@[simp] theorem Tryz.szS83 : szS Tryz.prog 83 = some 1 := by kernel_rfl
@[simp] theorem Tryz.byS83 : byS Tryz.prog 83 = some 8 := by kernel_rfl
@[simp] theorem Tryz.zS83 : zS Tryz.prog 83 = some (.nilFunc) := by kernel_rfl
@[simp] theorem Tryz.aggS84 : aggS Tryz.prog 84 = some false := by kernel_rfl
@[simp] theorem Tryz.szS84 : szS Tryz.prog 84 = some 1 := by kernel_rfl
@[simp] theorem Tryz.byS84 : byS Tryz.prog 84 = some 8 := by kernel_rfl
@[simp] theorem Tryz.zS84 : zS Tryz.prog 84 = some (.nilFunc) := by kernel_rfl
@[simp] theorem Tryz.aggS85 : aggS Tryz.prog 85 = some false := by kernel_rfl
@[simp] theorem Tryz.szS85 : szS Tryz.prog 85 = some 1 := by kernel_rfl
@[simp] theorem Tryz.byS85 : byS Tryz.prog 85 = some 8 := by kernel_rfl
@[simp] theorem Tryz.zS85 : zS Tryz.prog 85 = some (.nilFunc) := by kernel_rfl
@[simp] theorem Tryz.aggS86 : aggS Tryz.prog 86 = some false := by kernel_rfl
@[simp] theorem Tryz.szS86 : szS Tryz.prog 86 = some 1 := by kernel_rfl
@[simp] theorem Tryz.byS86 : byS Tryz.prog 86 = some 8 := by kernel_rfl
@[simp] theorem Tryz.zS86 : zS Tryz.prog 86 = some (.nilFunc) := by kernel_rfl
@[simp] theorem Tryz.aggS87 : aggS Tryz.prog 87 = some false := by kernel_rfl
@[simp] theorem Tryz.szS87 : szS Tryz.prog 87 = some 1 := by kernel_rfl
@[simp] theorem Tryz.byS87 : byS Tryz.prog 87 = some 8 := by kernel_rfl
@[simp] theorem Tryz.zS87 : zS Tryz.prog 87 = some (.nilFunc) := by kernel_rfl
@[simp] theorem Tryz.aggS88 : aggS Tryz.prog 88 = some false := by kernel_rfl
@[simp] theorem Tryz.szS88 : szS Tryz.prog 88 = some 1 := by kernel_rfl
@[simp] theorem Tryz.byS88 : byS Tryz.prog 88 = some 8 := by kernel_rfl
@[simp] theorem Tryz.zS88 : zS Tryz.prog 88 = some (.map none) := by kernel_rfl
@[simp] theorem Tryz.nilKind88 : nilKind Tryz.prog 88 = 3 := by kernel_rfl
@[simp] theorem Tryz.mapS88 : mapS Tryz.prog 88 = some (3, 31) := by kernel_rfl
@[simp] theorem Tryz.aggS89 : aggS Tryz.prog 89 = some false := by kernel_rfl
@[simp] theorem Tryz.szS89 : szS Tryz.prog 89 = some 1 := by kernel_rfl
@[simp] theorem Tryz.byS89 : byS Tryz.prog 89 = some 8 := by kernel_rfl
@[simp] theorem Tryz.zS89 : zS Tryz.prog 89 = some (.nilFunc) := by kernel_rfl
@[simp] theorem Tryz.aggS90 : aggS Tryz.prog 90 = some false := by kernel_rfl
@[simp] theorem Tryz.szS90 : szS Tryz.prog 90 = some 1 := by kernel_rfl
@[simp] theorem Tryz.byS90 : byS Tryz.prog 90 = some 8 := by kernel_rfl
@[simp] theorem Tryz.zS90 : zS Tryz.prog 90 = some (.nilFunc) := by kernel_rfl
@[simp] theorem Tryz.aggS91 : aggS Tryz.prog 91 = some false := by kernel_rfl
@[simp] theorem Tryz.szS91 : szS Tryz.prog 91 = some 1 := by kernel_rfl
@[simp] theorem Tryz.byS91 : byS Tryz.prog 91 = some 8 := by kernel_rfl
@[simp] theorem Tryz.zS91 : zS Tryz.prog 91 = some (.pointer none) := by kernel_rfl
@[simp] theorem Tryz.nilKind91 : nilKind Tryz.prog 91 = 2 := by kernel_rfl
@[simp] theorem Tryz.aggS92 : aggS Tryz.prog 92 = some false := by kernel_rfl
@[simp] theorem Tryz.szS92 : szS Tryz.prog 92 = some 1 := by kernel_rfl
@[simp] theorem Tryz.byS92 : byS Tryz.prog 92 = some 8 := by kernel_rfl
@[simp] theorem Tryz.zS92 : zS Tryz.prog 92 = some (.nilFunc) := by kernel_rfl
@[simp] theorem Tryz.aggS93 : aggS Tryz.prog 93 = some false := by kernel_rfl
@[simp] theorem Tryz.szS93 : szS Tryz.prog 93 = some 1 := by kernel_rfl
@[simp] theorem Tryz.byS93 : byS Tryz.prog 93 = some 8 := by kernel_rfl
@[simp] theorem Tryz.zS93 : zS Tryz.prog 93 = some (.nilFunc) := by kernel_rfl
@[simp] theorem Tryz.aggS95 : aggS Tryz.prog 95 = some false := by kernel_rfl
@[simp] theorem Tryz.szS95 : szS Tryz.prog 95 = some 1 := by kernel_rfl
@[simp] theorem Tryz.byS95 : byS Tryz.prog 95 = some 8 := by kernel_rfl
@[simp] theorem Tryz.zS95 : zS Tryz.prog 95 = some (.nilFunc) := by kernel_rfl
@[simp] theorem Tryz.aggS96 : aggS Tryz.prog 96 = some false := by kernel_rfl
@[simp] theorem Tryz.szS96 : szS Tryz.prog 96 = some 1 := by kernel_rfl
@[simp] theorem Tryz.byS96 : byS Tryz.prog 96 = some 8 := by kernel_rfl
@[simp] theorem Tryz.zS96 : zS Tryz.prog 96 = some (.nilFunc) := by kernel_rfl
@[simp] theorem Tryz.aggS97 : aggS Tryz.prog 97 = some false := by kernel_rfl
@[simp] theorem Tryz.szS97 : szS Tryz.prog 97 = some 1 := by kernel_rfl
@[simp] theorem Tryz.byS97 : byS Tryz.prog 97 = some 8 := by kernel_rfl
@[simp] theorem Tryz.zS97 : zS Tryz.prog 97 = some (.nilFunc) := by kernel_rfl
@[simp] theorem Tryz.aggS98 : aggS Tryz.prog 98 = some false := by kernel_rfl
@[simp] theorem Tryz.szS98 : szS Tryz.prog 98 = some 1 := by kernel_rfl
@[simp] theorem Tryz.byS98 : byS Tryz.prog 98 = some 8 := by kernel_rfl
@[simp] theorem Tryz.zS98 : zS Tryz.prog 98 = some (.nilFunc) := by kernel_rfl
@[simp] theorem Tryz.aggS99 : aggS Tryz.prog 99 = some false := by kernel_rfl
@[simp] theorem Tryz.szS99 : szS Tryz.prog 99 = some 1 := by kernel_rfl
@[simp] theorem Tryz.byS99 : byS Tryz.prog 99 = some 8 := by kernel_rfl
@[simp] theorem Tryz.zS99 : zS Tryz.prog 99 = some (.nilFunc) := by kernel_rfl
@[simp] theorem Tryz.aggS100 : aggS Tryz.prog 100 = some false := by kernel_rfl
@[simp] theorem Tryz.szS100 : szS Tryz.prog 100 = some 1 := by kernel_rfl
@[simp] theorem Tryz.byS100 : byS Tryz.prog 100 = some 8 := by kernel_rfl
@[simp] theorem Tryz.zS100 : zS Tryz.prog 100 = some (.nilFunc) := by kernel_rfl
@[simp] theorem Tryz.aggS101 : aggS Tryz.prog 101 = some false := by kernel_rfl
@[simp] theorem Tryz.szS101 : szS Tryz.prog 101 = some 1 := by kernel_rfl
@[simp] theorem Tryz.byS101 : byS Tryz.prog 101 = some 8 := by kernel_rfl
@[simp] theorem Tryz.zS101 : zS Tryz.prog 101 = some (.nilFunc) := by kernel_rfl
@[simp] theorem Tryz.aggS103 : aggS Tryz.prog 103 = some false := by kernel_rfl
@[simp] theorem Tryz.szS103 : szS Tryz.prog 103 = some 1 := by kernel_rfl
@[simp] theorem Tryz.byS103 : byS Tryz.prog 103 = some 8 := by kernel_rfl
@[simp] theorem Tryz.zS103 : zS Tryz.prog 103 = some (.nilFunc) := by kernel_rfl
@[simp] theorem Tryz.aggS104 : aggS Tryz.prog 104 = some false := by kernel_rfl
@[simp] theorem Tryz.szS104 : szS Tryz.prog 104 = some 1 := by kernel_rfl
@[simp] theorem Tryz.byS104 : byS Tryz.prog 104 = some 8 := by kernel_rfl
@[simp] theorem Tryz.zS104 : zS Tryz.prog 104 = some (.nilFunc) := by kernel_rfl
@[simp] theorem Tryz.aggS105 : aggS Tryz.prog 105 = some true := by kernel_rfl
@[simp] theorem Tryz.szS105 : szS Tryz.prog 105 = some 2 := by kernel_rfl
@[simp] theorem Tryz.byS105 : byS Tryz.prog 105 = some 32 := by kernel_rfl
@[simp] theorem Tryz.zS105 : zS Tryz.prog 105 = some (.agg #[.slice none 0 0, .nilFunc]) := by kernel_rfl
@[simp] theorem Tryz.strOk105 : structOk Tryz.prog 105 = true := by kernel_rfl
@[simp] theorem Tryz.fldS105_0 : fldS Tryz.prog 105 0 = some (0, 1, false) := by kernel_rfl
@[simp] theorem Tryz.fldS105_1 : fldS Tryz.prog 105 1 = some (1, 1, false) := by kernel_rfl
@[simp] theorem Tryz.aggS106 : aggS Tryz.prog 106 = some true := by kernel_rfl
@[simp] theorem Tryz.szS106 : szS Tryz.prog 106 = some 2 := by kernel_rfl
@[simp] theorem Tryz.byS106 : byS Tryz.prog 106 = some 32 := by kernel_rfl
@[simp] theorem Tryz.zS106 : zS Tryz.prog 106 = some (.agg #[.slice none 0 0, .nilFunc]) := by kernel_rfl
@[simp] theorem Tryz.strOk106 : structOk Tryz.prog 106 = true := by kernel_rfl
@[simp] theorem Tryz.fldS106_0 : fldS Tryz.prog 106 0 = some (0, 1, false) := by kernel_rfl
@[simp] theorem Tryz.fldS106_1 : fldS Tryz.prog 106 1 = some (1, 1, false) := by kernel_rfl
@[simp] theorem Tryz.aggS107 : aggS Tryz.prog 107 = some false := by kernel_rfl
@[simp] theorem Tryz.szS107 : szS Tryz.prog 107 = some 1 := by kernel_rfl
@[simp] theorem Tryz.byS107 : byS Tryz.prog 107 = some 8 := by kernel_rfl
@[simp] theorem Tryz.zS107 : zS Tryz.prog 107 = some (.nilFunc) := by kernel_rfl
@[simp] theorem Tryz.aggS108 : aggS Tryz.prog 108 = some false := by kernel_rfl
@[simp] theorem Tryz.szS108 : szS Tryz.prog 108 = some 1 := by kernel_rfl
@[simp] theorem Tryz.byS108 : byS Tryz.prog 108 = some 24 := by kernel_rfl
@[simp] theorem Tryz.zS108 : zS Tryz.prog 108 = some (.slice none 0 0) := by kernel_rfl
@[simp] theorem Tryz.elS108 : elS Tryz.prog 108 = some 4 := by kernel_rfl
@[simp] theorem Tryz.nilKind108 : nilKind Tryz.prog 108 = 1 := by kernel_rfl
@[simp] theorem Tryz.aggS109 : aggS Tryz.prog 109 = some true := by kernel_rfl
@[simp] theorem Tryz.szS109 : szS Tryz.prog 109 = some 3 := by kernel_rfl
@[simp] theorem Tryz.byS109 : byS Tryz.prog 109 = some 56 := by kernel_rfl
@[simp] theorem Tryz.zS109 : zS Tryz.prog 109 = some (.agg #[.slice none 0 0, .slice none 0 0, .int .i64 0]) := by kernel_rfl
@[simp] theorem Tryz.strOk109 : structOk Tryz.prog 109 = true := by kernel_rfl
@[simp] theorem Tryz.fldS109_0 : fldS Tryz.prog 109 0 = some (0, 1, false) := by kernel_rfl
@[simp] theorem Tryz.fldS109_1 : fldS Tryz.prog 109 1 = some (1, 1, false) := by kernel_rfl
@[simp] theorem Tryz.fldS109_2 : fldS Tryz.prog 109 2 = some (2, 1, false) := by kernel_rfl
@[simp] theorem Tryz.aggS110 : aggS Tryz.prog 110 = some true := by kernel_rfl
@[simp] theorem Tryz.szS110 : szS Tryz.prog 110 = some 3 := by kernel_rfl
@[simp] theorem Tryz.byS110 : byS Tryz.prog 110 = some 56 := by kernel_rfl
@[simp] theorem Tryz.zS110 : zS Tryz.prog 110 = some (.agg #[.slice none 0 0, .slice none 0 0, .int .i64 0]) := by kernel_rfl
@[simp] theorem Tryz.strOk110 : structOk Tryz.prog 110 = true := by kernel_rfl
@[simp] theorem Tryz.fldS110_0 : fldS Tryz.prog 110 0 = some (0, 1, false) := by kernel_rfl
@[simp] theorem Tryz.fldS110_1 : fldS Tryz.prog 110 1 = some (1, 1, false) := by kernel_rfl
@[simp] theorem Tryz.fldS110_2 : fldS Tryz.prog 110 2 = some (2, 1, false) := by kernel_rfl
@[simp] theorem Tryz.aggS111 : aggS Tryz.prog 111 = some false := by kernel_rfl
@[simp] theorem Tryz.szS111 : szS Tryz.prog 111 = some 1 := by kernel_rfl
@[simp] theorem Tryz.byS111 : byS Tryz.prog 111 = some 8 := by kernel_rfl
@[simp] theorem Tryz.zS111 : zS Tryz.prog 111 = some (.nilFunc) := by kernel_rfl
@[simp] theorem Tryz.aggS112 : aggS Tryz.prog 112 = some false := by kernel_rfl
@[simp] theorem Tryz.szS112 : szS Tryz.prog 112 = some 1 := by kernel_rfl
@[simp] theorem Tryz.byS112 : byS Tryz.prog 112 = some 8 := by kernel_rfl
@[simp] theorem Tryz.zS112 : zS Tryz.prog 112 = some (.nilFunc) := by kernel_rfl
@[simp] theorem Tryz.aggS113 : aggS Tryz.prog 113 = some false := by kernel_rfl
@[simp] theorem Tryz.szS113 : szS Tryz.prog 113 = some 1 := by kernel_rfl
@[simp] theorem Tryz.byS113 : byS Tryz.prog 113 = some 8 := by kernel_rfl
@[simp] theorem Tryz.zS113 : zS Tryz.prog 113 = some (.nilFunc) := by kernel_rfl
@[simp] theorem Tryz.aggS114 : aggS Tryz.prog 114 = some false := by kernel_rfl
@[simp] theorem Tryz.szS114 : szS Tryz.prog 114 = some 1 := by kernel_rfl
@[simp] theorem Tryz.byS114 : byS Tryz.prog 114 = some 8 := by kernel_rfl
@[simp] theorem Tryz.zS114 : zS Tryz.prog 114 = some (.nilFunc) := by kernel_rfl
@[simp] theorem Tryz.aggS115 : aggS Tryz.prog 115 = some false := by kernel_rfl
@[simp] theorem Tryz.szS115 : szS Tryz.prog 115 = some 1 := by kernel_rfl
@[simp] theorem Tryz.byS115 : byS Tryz.prog 115 = some 8 := by kernel_rfl
@[simp] theorem Tryz.zS115 : zS Tryz.prog 115 = some (.nilFunc) := by kernel_rfl
@[simp] theorem Tryz.aggS116 : aggS Tryz.prog 116 = some false := by kernel_rfl
@[simp] theorem Tryz.szS116 : szS Tryz.prog 116 = some 1 := by kernel_rfl
@[simp] theorem Tryz.byS116 : byS Tryz.prog 116 = some 8 := by kernel_rfl
@[simp] theorem Tryz.zS116 : zS Tryz.prog 116 = some (.nilFunc) := by kernel_rfl
@[simp] theorem Tryz.aggS117 : aggS Tryz.prog 117 = some false := by kernel_rfl
@[simp] theorem Tryz.szS117 : szS Tryz.prog 117 = some 1 := by kernel_rfl
@[simp] theorem Tryz.byS117 : byS Tryz.prog 117 = some 8 := by kernel_rfl
@[simp] theorem Tryz.zS117 : zS Tryz.prog 117 = some (.pointer none) := by kernel_rfl
@[simp] theorem Tryz.nilKind117 : nilKind Tryz.prog 117 = 2 := by kernel_rfl
@[simp] theorem Tryz.aggS118 : aggS Tryz.prog 118 = some false := by kernel_rfl
@[simp] theorem Tryz.szS118 : szS Tryz.prog 118 = some 1 := by kernel_rfl
@[simp] theorem Tryz.byS118 : byS Tryz.prog 118 = some 8 := by kernel_rfl
@[simp] theorem Tryz.zS118 : zS Tryz.prog 118 = some (.nilFunc) := by kernel_rfl
@[simp] theorem Tryz.aggS119 : aggS Tryz.prog 119 = some false := by kernel_rfl
@[simp] theorem Tryz.szS119 : szS Tryz.prog 119 = some 1 := by kernel_rfl
@[simp] theorem Tryz.byS119 : byS Tryz.prog 119 = some 8 := by kernel_rfl
@[simp] theorem Tryz.zS119 : zS Tryz.prog 119 = some (.nilFunc) := by kernel_rfl
@[simp] theorem Tryz.aggS120 : aggS Tryz.prog 120 = some false := by kernel_rfl
@[simp] theorem Tryz.szS120 : szS Tryz.prog 120 = some 1 := by kernel_rfl
@[simp] theorem Tryz.byS120 : byS Tryz.prog 120 = some 8 := by kernel_rfl
@[simp] theorem Tryz.zS120 : zS Tryz.prog 120 = some (.nilFunc) := by kernel_rfl
@[simp] theorem Tryz.aggS121 : aggS Tryz.prog 121 = some false := by kernel_rfl
@[simp] theorem Tryz.szS121 : szS Tryz.prog 121 = some 1 := by kernel_rfl
@[simp] theorem Tryz.byS121 : byS Tryz.prog 121 = some 8 := by kernel_rfl
@[simp] theorem Tryz.zS121 : zS Tryz.prog 121 = some (.nilFunc) := by kernel_rfl
@[simp] theorem Tryz.aggS122 : aggS Tryz.prog 122 = some false := by kernel_rfl
@[simp] theorem Tryz.szS122 : szS Tryz.prog 122 = some 1 := by kernel_rfl
@[simp] theorem Tryz.byS122 : byS Tryz.prog 122 = some 8 := by kernel_rfl
@[simp] theorem Tryz.zS122 : zS Tryz.prog 122 = some (.pointer none) := by kernel_rfl
@[simp] theorem Tryz.nilKind122 : nilKind Tryz.prog 122 = 2 := by kernel_rfl
@[simp] theorem Tryz.aggS123 : aggS Tryz.prog 123 = some false := by kernel_rfl
@[simp] theorem Tryz.szS123 : szS Tryz.prog 123 = some 1 := by kernel_rfl
@[simp] theorem Tryz.byS123 : byS Tryz.prog 123 = some 8 := by kernel_rfl
@[simp] theorem Tryz.zS123 : zS Tryz.prog 123 = some (.nilFunc) := by kernel_rfl
@[simp] theorem Tryz.aggS124 : aggS Tryz.prog 124 = some false := by kernel_rfl
@[simp] theorem Tryz.szS124 : szS Tryz.prog 124 = some 1 := by kernel_rfl
@[simp] theorem Tryz.byS124 : byS Tryz.prog 124 = some 24 := by kernel_rfl
@[simp] theorem Tryz.zS124 : zS Tryz.prog 124 = some (.slice none 0 0) := by kernel_rfl
@[simp] theorem Tryz.elS124 : elS Tryz.prog 124 = some 128 := by kernel_rfl
@[simp] theorem Tryz.nilKind124 : nilKind Tryz.prog 124 = 1 := by kernel_rfl
@[simp] theorem Tryz.aggS125 : aggS Tryz.prog 125 = some true := by kernel_rfl
@[simp] theorem Tryz.szS125 : szS Tryz.prog 125 = some 2 := by kernel_rfl
@[simp] theorem Tryz.byS125 : byS Tryz.prog 125 = some 32 := by kernel_rfl
@[simp] theorem Tryz.zS125 : zS Tryz.prog 125 = some (.agg #[.slice none 0 0, .int .i64 0]) := by kernel_rfl
@[simp] theorem Tryz.strOk125 : structOk Tryz.prog 125 = true := by kernel_rfl
@[simp] theorem Tryz.fldS125_0 : fldS Tryz.prog 125 0 = some (0, 1, false) := by kernel_rfl
@[simp] theorem Tryz.fldS125_1 : fldS Tryz.prog 125 1 = some (1, 1, false) := by kernel_rfl
@[simp] theorem Tryz.aggS126 : aggS Tryz.prog 126 = some true := by kernel_rfl
@[simp] theorem Tryz.szS126 : szS Tryz.prog 126 = some 2 := by kernel_rfl
@[simp] theorem Tryz.byS126 : byS Tryz.prog 126 = some 32 := by kernel_rfl
@[simp] theorem Tryz.zS126 : zS Tryz.prog 126 = some (.agg #[.slice none 0 0, .int .i64 0]) := by kernel_rfl
@[simp] theorem Tryz.strOk126 : structOk Tryz.prog 126 = true := by kernel_rfl
@[simp] theorem Tryz.fldS126_0 : fldS Tryz.prog 126 0 = some (0, 1, false) := by kernel_rfl
@[simp] theorem Tryz.fldS126_1 : fldS Tryz.prog 126 1 = some (1, 1, false) := by kernel_rfl
@[simp] theorem Tryz.aggS127 : aggS Tryz.prog 127 = some true := by kernel_rfl
@[simp] theorem Tryz.szS127 : szS Tryz.prog 127 = some 6 := by kernel_rfl
@[simp] theorem Tryz.byS127 : byS Tryz.prog 127 = some 112 := by kernel_rfl
@[simp] theorem Tryz.zS127 : zS Tryz.prog 127 = some (.agg #[.slice none 0 0, .int .i64 0, .slice none 0 0, .slice none 0 0, .slice none 0 0, .bool false]) := by kernel_rfl
@[simp] theorem Tryz.strOk127 : structOk Tryz.prog 127 = true := by kernel_rfl
@[simp] theorem Tryz.fldS127_0 : fldS Tryz.prog 127 0 = some (0, 5, true) := by kernel_rfl
@[simp] theorem Tryz.fldS127_1 : fldS Tryz.prog 127 1 = some (5, 1, false) := by kernel_rfl
@[simp] theorem Tryz.aggS128 : aggS Tryz.prog 128 = some true := by kernel_rfl
@[simp] theorem Tryz.szS128 : szS Tryz.prog 128 = some 6 := by kernel_rfl
@[simp] theorem Tryz.byS128 : byS Tryz.prog 128 = some 112 := by kernel_rfl
@[simp] theorem Tryz.zS128 : zS Tryz.prog 128 = some (.agg #[.slice none 0 0, .int .i64 0, .slice none 0 0, .slice none 0 0, .slice none 0 0, .bool false]) := by kernel_rfl
@[simp] theorem Tryz.strOk128 : structOk Tryz.prog 128 = true := by kernel_rfl
@[simp] theorem Tryz.fldS128_0 : fldS Tryz.prog 128 0 = some (0, 5, true) := by kernel_rfl
@[simp] theorem Tryz.fldS128_1 : fldS Tryz.prog 128 1 = some (5, 1, false) := by kernel_rfl
@[simp] theorem Tryz.aggS129 : aggS Tryz.prog 129 = some false := by kernel_rfl
@[simp] theorem Tryz.szS129 : szS Tryz.prog 129 = some 1 := by kernel_rfl
@[simp] theorem Tryz.byS129 : byS Tryz.prog 129 = some 8 := by kernel_rfl
@[simp] theorem Tryz.zS129 : zS Tryz.prog 129 = some (.nilFunc) := by kernel_rfl
@[simp] theorem Tryz.aggS130 : aggS Tryz.prog 130 = some false := by kernel_rfl
@[simp] theorem Tryz.szS130 : szS Tryz.prog 130 = some 1 := by kernel_rfl
@[simp] theorem Tryz.byS130 : byS Tryz.prog 130 = some 8 := by kernel_rfl
@[simp] theorem Tryz.zS130 : zS Tryz.prog 130 = some (.nilFunc) := by kernel_rfl
@[simp] theorem Tryz.aggS131 : aggS Tryz.prog 131 = some false := by kernel_rfl
@[simp] theorem Tryz.szS131 : szS Tryz.prog 131 = some 1 := by kernel_rfl
@[simp] theorem Tryz.byS131 : byS Tryz.prog 131 = some 8 := by kernel_rfl
@[simp] theorem Tryz.zS131 : zS Tryz.prog 131 = some (.int .i64 0) := by kernel_rfl
@[simp] theorem Tryz.intK131 : intK Tryz.prog 131 = some .i64 := by kernel_rfl
@[simp] theorem Tryz.aggS133 : aggS Tryz.prog 133 = some false := by kernel_rfl
@[simp] theorem Tryz.szS133 : szS Tryz.prog 133 = some 1 := by kernel_rfl
@[simp] theorem Tryz.byS133 : byS Tryz.prog 133 = some 8 := by kernel_rfl
@[simp] theorem Tryz.zS133 : zS Tryz.prog 133 = some (.nilFunc) := by kernel_rfl
@[simp] theorem Tryz.aggS134 : aggS Tryz.prog 134 = some false := by kernel_rfl
@[simp] theorem Tryz.szS134 : szS Tryz.prog 134 = some 1 := by kernel_rfl
@[simp] theorem Tryz.byS134 : byS Tryz.prog 134 = some 8 := by kernel_rfl
@[simp] theorem Tryz.zS134 : zS Tryz.prog 134 = some (.nilFunc) := by kernel_rfl
@[simp] theorem Tryz.aggS135 : aggS Tryz.prog 135 = some false := by kernel_rfl
@[simp] theorem Tryz.szS135 : szS Tryz.prog 135 = some 1 := by kernel_rfl
@[simp] theorem Tryz.byS135 : byS Tryz.prog 135 = some 8 := by kernel_rfl
@[simp] theorem Tryz.zS135 : zS Tryz.prog 135 = some (.nilFunc) := by kernel_rfl
@[simp] theorem Tryz.aggS136 : aggS Tryz.prog 136 = some false := by kernel_rfl
@[simp] theorem Tryz.szS136 : szS Tryz.prog 136 = some 1 := by kernel_rfl
@[simp] theorem Tryz.byS136 : byS Tryz.prog 136 = some 8 := by kernel_rfl
@[simp] theorem Tryz.zS136 : zS Tryz.prog 136 = some (.nilFunc) := by kernel_rfl
@[simp] theorem Tryz.aggS137 : aggS Tryz.prog 137 = some false := by kernel_rfl
@[simp] theorem Tryz.szS137 : szS Tryz.prog 137 = some 1 := by kernel_rfl
@[simp] theorem Tryz.byS137 : byS Tryz.prog 137 = some 8 := by kernel_rfl
@[simp] theorem Tryz.zS137 : zS Tryz.prog 137 = some (.nilFunc) := by kernel_rfl
@[simp] theorem Tryz.aggS138 : aggS Tryz.prog 138 = some false := by kernel_rfl
@[simp] theorem Tryz.szS138 : szS Tryz.prog 138 = some 1 := by kernel_rfl
@[simp] theorem Tryz.byS138 : byS Tryz.prog 138 = some 8 := by kernel_rfl
@[simp] theorem Tryz.zS138 : zS Tryz.prog 138 = some (.nilFunc) := by kernel_rfl
@[simp] theorem Tryz.aggS139 : aggS Tryz.prog 139 = some false := by kernel_rfl
@[simp] theorem Tryz.szS139 : szS Tryz.prog 139 = some 1 := by kernel_rfl
@[simp] theorem Tryz.byS139 : byS Tryz.prog 139 = some 4 := by kernel_rfl
@[simp] theorem Tryz.zS139 : zS Tryz.prog 139 = some (.int .u32 0) := by kernel_rfl
@[simp] theorem Tryz.intK139 : intK Tryz.prog 139 = some .u32 := by kernel_rfl
@[simp] theorem Tryz.aggS140 : aggS Tryz.prog 140 = some false := by kernel_rfl
@[simp] theorem Tryz.szS140 : szS Tryz.prog 140 = some 1 := by kernel_rfl
@[simp] theorem Tryz.byS140 : byS Tryz.prog 140 = some 8 := by kernel_rfl
@[simp] theorem Tryz.zS140 : zS Tryz.prog 140 = some (.nilFunc) := by kernel_rfl
@[simp] theorem Tryz.aggS141 : aggS Tryz.prog 141 = some false := by kernel_rfl
@[simp] theorem Tryz.szS141 : szS Tryz.prog 141 = some 1 := by kernel_rfl
@[simp] theorem Tryz.byS141 : byS Tryz.prog 141 = some 8 := by kernel_rfl
@[simp] theorem Tryz.zS141 : zS Tryz.prog 141 = some (.int .u64 0) := by kernel_rfl
@[simp] theorem Tryz.intK141 : intK Tryz.prog 141 = some .u64 := by kernel_rfl
@[simp] theorem Tryz.aggS142 : aggS Tryz.prog 142 = some false := by kernel_rfl
@[simp] theorem Tryz.szS142 : szS Tryz.prog 142 = some 1 := by kernel_rfl
@[simp] theorem Tryz.byS142 : byS Tryz.prog 142 = some 8 := by kernel_rfl
@[simp] theorem Tryz.zS142 : zS Tryz.prog 142 = some (.nilFunc) := by kernel_rfl
@[simp] theorem Tryz.aggS143 : aggS Tryz.prog 143 = some false := by kernel_rfl
@[simp] theorem Tryz.szS143 : szS Tryz.prog 143 = some 1 := by kernel_rfl
@[simp] theorem Tryz.byS143 : byS Tryz.prog 143 = some 8 := by kernel_rfl
@[simp] theorem Tryz.zS143 : zS Tryz.prog 143 = some (.nilFunc) := by kernel_rfl
@[simp] theorem Tryz.aggS144 : aggS Tryz.prog 144 = some false := by kernel_rfl
@[simp] theorem Tryz.szS144 : szS Tryz.prog 144 = some 1 := by kernel_rfl
@[simp] theorem Tryz.byS144 : byS Tryz.prog 144 = some 8 := by kernel_rfl
@[simp] theorem Tryz.zS144 : zS Tryz.prog 144 = some (.nilFunc) := by kernel_rfl
@[simp] theorem Tryz.aggS145 : aggS Tryz.prog 145 = some false := by kernel_rfl
@[simp] theorem Tryz.szS145 : szS Tryz.prog 145 = some 1 := by kernel_rfl
@[simp] theorem Tryz.byS145 : byS Tryz.prog 145 = some 8 := by kernel_rfl
@[simp] theorem Tryz.zS145 : zS Tryz.prog 145 = some (.nilFunc) := by kernel_rfl
@[simp] theorem Tryz.aggS146 : aggS Tryz.prog 146 = some false := by kernel_rfl
@[simp] theorem Tryz.szS146 : szS Tryz.prog 146 = some 1 := by kernel_rfl
@[simp] theorem Tryz.byS146 : byS Tryz.prog 146 = some 8 := by kernel_rfl
@[simp] theorem Tryz.zS146 : zS Tryz.prog 146 = some (.nilFunc) := by kernel_rfl
@[simp] theorem Tryz.aggS147 : aggS Tryz.prog 147 = some false := by kernel_rfl
@[simp] theorem Tryz.szS147 : szS Tryz.prog 147 = some 1 := by kernel_rfl
@[simp] theorem Tryz.byS147 : byS Tryz.prog 147 = some 8 := by kernel_rfl
@[simp] theorem Tryz.zS147 : zS Tryz.prog 147 = some (.nilFunc) := by kernel_rfl
@[simp] theorem Tryz.aggS148 : aggS Tryz.prog 148 = some false := by kernel_rfl
@[simp] theorem Tryz.szS148 : szS Tryz.prog 148 = some 1 := by kernel_rfl
@[simp] theorem Tryz.byS148 : byS Tryz.prog 148 = some 8 := by kernel_rfl
@[simp] theorem Tryz.zS148 : zS Tryz.prog 148 = some (.int .u64 0) := by kernel_rfl
@[simp] theorem Tryz.intK148 : intK Tryz.prog 148 = some .u64 := by kernel_rfl
@[simp] theorem Tryz.aggS149 : aggS Tryz.prog 149 = some false := by kernel_rfl
@[simp] theorem Tryz.szS149 : szS Tryz.prog 149 = some 1 := by kernel_rfl
@[simp] theorem Tryz.byS149 : byS Tryz.prog 149 = some 8 := by kernel_rfl
@[simp] theorem Tryz.zS149 : zS Tryz.prog 149 = some (.nilFunc) := by kernel_rfl
@[simp] theorem Tryz.aggS150 : aggS Tryz.prog 150 = some false := by kernel_rfl
@[simp] theorem Tryz.szS150 : szS Tryz.prog 150 = some 1 := by kernel_rfl
@[simp] theorem Tryz.byS150 : byS Tryz.prog 150 = some 8 := by kernel_rfl
@[simp] theorem Tryz.zS150 : zS Tryz.prog 150 = some (.nilFunc) := by kernel_rfl
@[simp] theorem Tryz.aggS151 : aggS Tryz.prog 151 = some false := by kernel_rfl
@[simp] theorem Tryz.szS151 : szS Tryz.prog 151 = some 1 := by kernel_rfl
@[simp] theorem Tryz.byS151 : byS Tryz.prog 151 = some 8 := by kernel_rfl
@[simp] theorem Tryz.zS151 : zS Tryz.prog 151 = some (.nilFunc) := by kernel_rfl
@[simp] theorem Tryz.aggS152 : aggS Tryz.prog 152 = some false := by kernel_rfl
@[simp] theorem Tryz.szS152 : szS Tryz.prog 152 = some 1 := by kernel_rfl
@[simp] theorem Tryz.byS152 : byS Tryz.prog 152 = some 8 := by kernel_rfl
@[simp] theorem Tryz.zS152 : zS Tryz.prog 152 = some (.pointer none) := by kernel_rfl
@[simp] theorem Tryz.nilKind152 : nilKind Tryz.prog 152 = 2 := by kernel_rfl
@[simp] theorem Tryz.aggS153 : aggS Tryz.prog 153 = some false := by kernel_rfl
@[simp] theorem Tryz.szS153 : szS Tryz.prog 153 = some 1 := by kernel_rfl
@[simp] theorem Tryz.byS153 : byS Tryz.prog 153 = some 8 := by kernel_rfl
@[simp] theorem Tryz.zS153 : zS Tryz.prog 153 = some (.nilFunc) := by kernel_rfl
@[simp] theorem Tryz.aggS154 : aggS Tryz.prog 154 = some false := by kernel_rfl
@[simp] theorem Tryz.szS154 : szS Tryz.prog 154 = some 1 := by kernel_rfl
@[simp] theorem Tryz.byS154 : byS Tryz.prog 154 = some 8 := by kernel_rfl
@[simp] theorem Tryz.zS154 : zS Tryz.prog 154 = some (.nilFunc) := by kernel_rfl
@[simp] theorem Tryz.aggS155 : aggS Tryz.prog 155 = some false := by kernel_rfl
@[simp] theorem Tryz.szS155 : szS Tryz.prog 155 = some 1 := by kernel_rfl
@[simp] theorem Tryz.byS155 : byS Tryz.prog 155 = some 8 := by kernel_rfl
@[simp] theorem Tryz.zS155 : zS Tryz.prog 155 = some (.nilFunc) := by kernel_rfl
@[simp] theorem Tryz.aggS156 : aggS Tryz.prog 156 = some false := by kernel_rfl
@[simp] theorem Tryz.szS156 : szS Tryz.prog 156 = some 1 := by kernel_rfl
@[simp] theorem Tryz.byS156 : byS Tryz.prog 156 = some 8 := by kernel_rfl
@[simp] theorem Tryz.zS156 : zS Tryz.prog 156 = some (.pointer none) := by kernel_rfl
@[simp] theorem Tryz.nilKind156 : nilKind Tryz.prog 156 = 2 := by kernel_rfl
@[simp] theorem Tryz.aggS158 : aggS Tryz.prog 158 = some false := by kernel_rfl
@[simp] theorem Tryz.szS158 : szS Tryz.prog 158 = some 1 := by kernel_rfl
@[simp] theorem Tryz.byS158 : byS Tryz.prog 158 = some 8 := by kernel_rfl
@[simp] theorem Tryz.zS158 : zS Tryz.prog 158 = some (.nilFunc) := by kernel_rfl
@[simp] theorem Tryz.aggS159 : aggS Tryz.prog 159 = some false := by kernel_rfl
@[simp] theorem Tryz.szS159 : szS Tryz.prog 159 = some 1 := by kernel_rfl
@[simp] theorem Tryz.byS159 : byS Tryz.prog 159 = some 8 := by kernel_rfl
@[simp] theorem Tryz.zS159 : zS Tryz.prog 159 = some (.nilFunc) := by kernel_rfl
@[simp] theorem Tryz.aggS160 : aggS Tryz.prog 160 = some false := by kernel_rfl
@[simp] theorem Tryz.szS160 : szS Tryz.prog 160 = some 1 := by kernel_rfl
@[simp] theorem Tryz.byS160 : byS Tryz.prog 160 = some 8 := by kernel_rfl
@[simp] theorem Tryz.zS160 : zS Tryz.prog 160 = some (.nilFunc) := by kernel_rfl
@[simp] theorem Tryz.aggS161 : aggS Tryz.prog 161 = some true := by kernel_rfl
@[simp] theorem Tryz.szS161 : szS Tryz.prog 161 = some 4 := by kernel_rfl
@[simp] theorem Tryz.byS161 : byS Tryz.prog 161 = some 40 := by kernel_rfl
@[simp] theorem Tryz.zS161 : zS Tryz.prog 161 = some (.agg #[.pointer none, .pointer none, .pointer none, .string ⟨#[]⟩]) := by kernel_rfl
@[simp] theorem Tryz.strOk161 : structOk Tryz.prog 161 = true := by kernel_rfl
@[simp] theorem Tryz.fldS161_0 : fldS Tryz.prog 161 0 = some (0, 1, false) := by kernel_rfl
@[simp] theorem Tryz.fldS161_1 : fldS Tryz.prog 161 1 = some (1, 1, false) := by kernel_rfl
@[simp] theorem Tryz.fldS161_2 : fldS Tryz.prog 161 2 = some (2, 1, false) := by kernel_rfl
@[simp] theorem Tryz.fldS161_3 : fldS Tryz.prog 161 3 = some (3, 1, false) := by kernel_rfl
@[simp] theorem Tryz.aggS162 : aggS Tryz.prog 162 = some true := by kernel_rfl
@[simp] theorem Tryz.szS162 : szS Tryz.prog 162 = some 4 := by kernel_rfl
@[simp] theorem Tryz.byS162 : byS Tryz.prog 162 = some 40 := by kernel_rfl
@[simp] theorem Tryz.zS162 : zS Tryz.prog 162 = some (.agg #[.pointer none, .pointer none, .pointer none, .string ⟨#[]⟩]) := by kernel_rfl
@[simp] theorem Tryz.strOk162 : structOk Tryz.prog 162 = true := by kernel_rfl
@[simp] theorem Tryz.fldS162_0 : fldS Tryz.prog 162 0 = some (0, 1, false) := by kernel_rfl
@[simp] theorem Tryz.fldS162_1 : fldS Tryz.prog 162 1 = some (1, 1, false) := by kernel_rfl
@[simp] theorem Tryz.fldS162_2 : fldS Tryz.prog 162 2 = some (2, 1, false) := by kernel_rfl
@[simp] theorem Tryz.fldS162_3 : fldS Tryz.prog 162 3 = some (3, 1, false) := by kernel_rfl
@[simp] theorem Tryz.aggS163 : aggS Tryz.prog 163 = some true := by kernel_rfl
@[simp] theorem Tryz.szS163 : szS Tryz.prog 163 = some 0 := by kernel_rfl
@[simp] theorem Tryz.byS163 : byS Tryz.prog 163 = some 0 := by kernel_rfl
@[simp] theorem Tryz.zS163 : zS Tryz.prog 163 = some (.agg #[]) := by kernel_rfl
@[simp] theorem Tryz.arrS163 : arrS Tryz.prog 163 = some (0, 1) := by kernel_rfl
@[simp] theorem Tryz.aggS164 : aggS Tryz.prog 164 = some true := by kernel_rfl
@[simp] theorem Tryz.szS164 : szS Tryz.prog 164 = some 0 := by kernel_rfl
@[simp] theorem Tryz.byS164 : byS Tryz.prog 164 = some 0 := by kernel_rfl
@[simp] theorem Tryz.zS164 : zS Tryz.prog 164 = some (.agg #[]) := by kernel_rfl
@[simp] theorem Tryz.strOk164 : structOk Tryz.prog 164 = true := by kernel_rfl
@[simp] theorem Tryz.fldS164_0 : fldS Tryz.prog 164 0 = some (0, 0, true) := by kernel_rfl
@[simp] theorem Tryz.aggS165 : aggS Tryz.prog 165 = some true := by kernel_rfl
@[simp] theorem Tryz.szS165 : szS Tryz.prog 165 = some 0 := by kernel_rfl
@[simp] theorem Tryz.byS165 : byS Tryz.prog 165 = some 0 := by kernel_rfl
@[simp] theorem Tryz.zS165 : zS Tryz.prog 165 = some (.agg #[]) := by kernel_rfl
@[simp] theorem Tryz.strOk165 : structOk Tryz.prog 165 = true := by kernel_rfl
@[simp] theorem Tryz.fldS165_0 : fldS Tryz.prog 165 0 = some (0, 0, true) := by kernel_rfl
@[simp] theorem Tryz.aggS166 : aggS Tryz.prog 166 = some false := by kernel_rfl
@[simp] theorem Tryz.szS166 : szS Tryz.prog 166 = some 1 := by kernel_rfl
@[simp] theorem Tryz.byS166 : byS Tryz.prog 166 = some 8 := by kernel_rfl
@[simp] theorem Tryz.zS166 : zS Tryz.prog 166 = some (.nilFunc) := by kernel_rfl
@[simp] theorem Tryz.aggS167 : aggS Tryz.prog 167 = some false := by kernel_rfl
@[simp] theorem Tryz.szS167 : szS Tryz.prog 167 = some 1 := by kernel_rfl
@[simp] theorem Tryz.byS167 : byS Tryz.prog 167 = some 1 := by kernel_rfl
@[simp] theorem Tryz.zS167 : zS Tryz.prog 167 = some (.int .u8 0) := by kernel_rfl
@[simp] theorem Tryz.intK167 : intK Tryz.prog 167 = some .u8 := by kernel_rfl
@[simp] theorem Tryz.aggS168 : aggS Tryz.prog 168 = some false := by kernel_rfl
@[simp] theorem Tryz.szS168 : szS Tryz.prog 168 = some 1 := by kernel_rfl
@[simp] theorem Tryz.byS168 : byS Tryz.prog 168 = some 1 := by kernel_rfl
@[simp] theorem Tryz.zS168 : zS Tryz.prog 168 = some (.int .u8 0) := by kernel_rfl
@[simp] theorem Tryz.intK168 : intK Tryz.prog 168 = some .u8 := by kernel_rfl
@[simp] theorem Tryz.aggS169 : aggS Tryz.prog 169 = some false := by kernel_rfl
@[simp] theorem Tryz.szS169 : szS Tryz.prog 169 = some 1 := by kernel_rfl
@[simp] theorem Tryz.byS169 : byS Tryz.prog 169 = some 8 := by kernel_rfl
@[simp] theorem Tryz.zS169 : zS Tryz.prog 169 = some (.nilFunc) := by kernel_rfl
@[simp] theorem Tryz.aggS170 : aggS Tryz.prog 170 = some false := by kernel_rfl
@[simp] theorem Tryz.szS170 : szS Tryz.prog 170 = some 1 := by kernel_rfl
@[simp] theorem Tryz.byS170 : byS Tryz.prog 170 = some 8 := by kernel_rfl
@[simp] theorem Tryz.zS170 : zS Tryz.prog 170 = some (.pointer none) := by kernel_rfl
@[simp] theorem Tryz.nilKind170 : nilKind Tryz.prog 170 = 2 := by kernel_rfl
@[simp] theorem Tryz.aggS171 : aggS Tryz.prog 171 = some false := by kernel_rfl
@[simp] theorem Tryz.szS171 : szS Tryz.prog 171 = some 1 := by kernel_rfl
@[simp] theorem Tryz.byS171 : byS Tryz.prog 171 = some 4 := by kernel_rfl
@[simp] theorem Tryz.zS171 : zS Tryz.prog 171 = some (.int .i32 0) := by kernel_rfl
@[simp] theorem Tryz.intK171 : intK Tryz.prog 171 = some .i32 := by kernel_rfl
@[simp] theorem Tryz.aggS172 : aggS Tryz.prog 172 = some false := by kernel_rfl
@[simp] theorem Tryz.szS172 : szS Tryz.prog 172 = some 1 := by kernel_rfl
@[simp] theorem Tryz.byS172 : byS Tryz.prog 172 = some 4 := by kernel_rfl
@[simp] theorem Tryz.zS172 : zS Tryz.prog 172 = some (.int .i32 0) := by kernel_rfl
@[simp] theorem Tryz.intK172 : intK Tryz.prog 172 = some .i32 := by kernel_rfl
@[simp] theorem Tryz.aggS173 : aggS Tryz.prog 173 = some true := by kernel_rfl
@[simp] theorem Tryz.szS173 : szS Tryz.prog 173 = some 11 := by kernel_rfl
@[simp] theorem Tryz.byS173 : byS Tryz.prog 173 = some 48 := by kernel_rfl
@[simp] theorem Tryz.zS173 : zS Tryz.prog 173 = some (.agg #[.int .u64 0, .int .u64 0, .int .u32 0, .int .u8 0, .int .u8 0, .int .u8 0, .int .u8 0, .nilFunc, .pointer none, .int .i32 0, .int .i32 0]) := by kernel_rfl
@[simp] theorem Tryz.strOk173 : structOk Tryz.prog 173 = true := by kernel_rfl
@[simp] theorem Tryz.fldS173_0 : fldS Tryz.prog 173 0 = some (0, 1, false) := by kernel_rfl
@[simp] theorem Tryz.fldS173_1 : fldS Tryz.prog 173 1 = some (1, 1, false) := by kernel_rfl
@[simp] theorem Tryz.fldS173_2 : fldS Tryz.prog 173 2 = some (2, 1, false) := by kernel_rfl
@[simp] theorem Tryz.fldS173_3 : fldS Tryz.prog 173 3 = some (3, 1, false) := by kernel_rfl
@[simp] theorem Tryz.fldS173_4 : fldS Tryz.prog 173 4 = some (4, 1, false) := by kernel_rfl
@[simp] theorem Tryz.fldS173_5 : fldS Tryz.prog 173 5 = some (5, 1, false) := by kernel_rfl
@[simp] theorem Tryz.fldS173_6 : fldS Tryz.prog 173 6 = some (6, 1, false) := by kernel_rfl
@[simp] theorem Tryz.fldS173_7 : fldS Tryz.prog 173 7 = some (7, 1, false) := by kernel_rfl
@[simp] theorem Tryz.fldS173_8 : fldS Tryz.prog 173 8 = some (8, 1, false) := by kernel_rfl
@[simp] theorem Tryz.fldS173_9 : fldS Tryz.prog 173 9 = some (9, 1, false) := by kernel_rfl
@[simp] theorem Tryz.fldS173_10 : fldS Tryz.prog 173 10 = some (10, 1, false) := by kernel_rfl
@[simp] theorem Tryz.aggS174 : aggS Tryz.prog 174 = some true := by kernel_rfl
@[simp] theorem Tryz.szS174 : szS Tryz.prog 174 = some 11 := by kernel_rfl
@[simp] theorem Tryz.byS174 : byS Tryz.prog 174 = some 48 := by kernel_rfl
@[simp] theorem Tryz.zS174 : zS Tryz.prog 174 = some (.agg #[.int .u64 0, .int .u64 0, .int .u32 0, .int .u8 0, .int .u8 0, .int .u8 0, .int .u8 0, .nilFunc, .pointer none, .int .i32 0, .int .i32 0]) := by kernel_rfl
@[simp] theorem Tryz.strOk174 : structOk Tryz.prog 174 = true := by kernel_rfl
@[simp] theorem Tryz.fldS174_0 : fldS Tryz.prog 174 0 = some (0, 1, false) := by kernel_rfl
@[simp] theorem Tryz.fldS174_1 : fldS Tryz.prog 174 1 = some (1, 1, false) := by kernel_rfl
@[simp] theorem Tryz.fldS174_2 : fldS Tryz.prog 174 2 = some (2, 1, false) := by kernel_rfl
@[simp] theorem Tryz.fldS174_3 : fldS Tryz.prog 174 3 = some (3, 1, false) := by kernel_rfl
@[simp] theorem Tryz.fldS174_4 : fldS Tryz.prog 174 4 = some (4, 1, false) := by kernel_rfl
@[simp] theorem Tryz.fldS174_5 : fldS Tryz.prog 174 5 = some (5, 1, false) := by kernel_rfl
@[simp] theorem Tryz.fldS174_6 : fldS Tryz.prog 174 6 = some (6, 1, false) := by kernel_rfl
@[simp] theorem Tryz.fldS174_7 : fldS Tryz.prog 174 7 = some (7, 1, false) := by kernel_rfl
@[simp] theorem Tryz.fldS174_8 : fldS Tryz.prog 174 8 = some (8, 1, false) := by kernel_rfl
@[simp] theorem Tryz.fldS174_9 : fldS Tryz.prog 174 9 = some (9, 1, false) := by kernel_rfl
@[simp] theorem Tryz.fldS174_10 : fldS Tryz.prog 174 10 = some (10, 1, false) := by kernel_rfl
@[simp] theorem Tryz.aggS175 : aggS Tryz.prog 175 = some false := by kernel_rfl
@[simp] theorem Tryz.szS175 : szS Tryz.prog 175 = some 1 := by kernel_rfl
@[simp] theorem Tryz.byS175 : byS Tryz.prog 175 = some 8 := by kernel_rfl
@[simp] theorem Tryz.zS175 : zS Tryz.prog 175 = some (.pointer none) := by kernel_rfl
@[simp] theorem Tryz.ok2 : FnOk Tryz.prog 2 := ⟨Tryz.f2, Tryz.func2, by kernel_rfl, by kernel_rfl⟩
@[simp] theorem Tryz.ok3 : FnOk Tryz.prog 3 := ⟨Tryz.f3, Tryz.func3, by kernel_rfl, by kernel_rfl⟩
@[simp] theorem Tryz.ok4 : FnOk Tryz.prog 4 := ⟨Tryz.f4, Tryz.func4, by kernel_rfl, by kernel_rfl⟩
@[simp] theorem Tryz.ok5 : FnOk Tryz.prog 5 := ⟨Tryz.f5, Tryz.func5, by kernel_rfl, by kernel_rfl⟩
@[simp] theorem Tryz.ok6 : FnOk Tryz.prog 6 := ⟨Tryz.f6, Tryz.func6, by kernel_rfl, by kernel_rfl⟩
@[simp] theorem Tryz.ok7 : FnOk Tryz.prog 7 := ⟨Tryz.f7, Tryz.func7, by kernel_rfl, by kernel_rfl⟩
@[simp] theorem Tryz.ok8 : FnOk Tryz.prog 8 := ⟨Tryz.f8, Tryz.func8, by kernel_rfl, by kernel_rfl⟩
@[simp] theorem Tryz.ok9 : FnOk Tryz.prog 9 := ⟨Tryz.f9, Tryz.func9, by kernel_rfl, by kernel_rfl⟩
@[simp] theorem Tryz.ok10 : FnOk Tryz.prog 10 := ⟨Tryz.f10, Tryz.func10, by kernel_rfl, by kernel_rfl⟩
@[simp] theorem Tryz.ok11 : FnOk Tryz.prog 11 := ⟨Tryz.f11, Tryz.func11, by kernel_rfl, by kernel_rfl⟩
@[simp] theorem Tryz.ok12 : FnOk Tryz.prog 12 := ⟨Tryz.f12, Tryz.func12, by kernel_rfl, by kernel_rfl⟩
@[simp] theorem Tryz.ok13 : FnOk Tryz.prog 13 := ⟨Tryz.f13, Tryz.func13, by kernel_rfl, by kernel_rfl⟩
@[simp] theorem Tryz.ok14 : FnOk Tryz.prog 14 := ⟨Tryz.f14, Tryz.func14, by kernel_rfl, by kernel_rfl⟩
@[simp] theorem Tryz.ok15 : FnOk Tryz.prog 15 := ⟨Tryz.f15, Tryz.func15, by kernel_rfl, by kernel_rfl⟩
@[simp] theorem Tryz.ok16 : FnOk Tryz.prog 16 := ⟨Tryz.f16, Tryz.func16, by kernel_rfl, by kernel_rfl⟩
@[simp] theorem Tryz.ok17 : FnOk Tryz.prog 17 := ⟨Tryz.f17, Tryz.func17, by kernel_rfl, by kernel_rfl⟩
@[simp] theorem Tryz.ok18 : FnOk Tryz.prog 18 := ⟨Tryz.f18, Tryz.func18, by kernel_rfl, by kernel_rfl⟩
@[simp] theorem Tryz.ok19 : FnOk Tryz.prog 19 := ⟨Tryz.f19, Tryz.func19, by kernel_rfl, by kernel_rfl⟩
@[simp] theorem Tryz.ok20 : FnOk Tryz.prog 20 := ⟨Tryz.f20, Tryz.func20, by kernel_rfl, by kernel_rfl⟩
@[simp] theorem Tryz.ok21 : FnOk Tryz.prog 21 := ⟨Tryz.f21, Tryz.func21, by kernel_rfl, by kernel_rfl⟩
@[simp] theorem Tryz.ok22 : FnOk Tryz.prog 22 := ⟨Tryz.f22, Tryz.func22, by kernel_rfl, by kernel_rfl⟩
@[simp] theorem Tryz.ok23 : FnOk Tryz.prog 23 := ⟨Tryz.f23, Tryz.func23, by kernel_rfl, by kernel_rfl⟩
@[simp] theorem Tryz.ok24 : FnOk Tryz.prog 24 := ⟨Tryz.f24, Tryz.func24, by kernel_rfl, by kernel_rfl⟩
@[simp] theorem Tryz.ok25 : FnOk Tryz.prog 25 := ⟨Tryz.f25, Tryz.func25, by kernel_rfl, by kernel_rfl⟩
@[simp] theorem Tryz.ok26 : FnOk Tryz.prog 26 := ⟨Tryz.f26, Tryz.func26, by kernel_rfl, by kernel_rfl⟩
@[simp] theorem Tryz.ok27 : FnOk Tryz.prog 27 := ⟨Tryz.f27, Tryz.func27, by kernel_rfl, by kernel_rfl⟩
@[simp] theorem Tryz.ok28 : FnOk Tryz.prog 28 := ⟨Tryz.f28, Tryz.func28, by kernel_rfl, by kernel_rfl⟩
@[simp] theorem Tryz.ok29 : FnOk Tryz.prog 29 := ⟨Tryz.f29, Tryz.func29, by kernel_rfl, by kernel_rfl⟩
@[simp] theorem Tryz.ok30 : FnOk Tryz.prog 30 := ⟨Tryz.f30, Tryz.func30, by kernel_rfl, by kernel_rfl⟩
@[simp] theorem Tryz.ok31 : FnOk Tryz.prog 31 := ⟨Tryz.f31, Tryz.func31, by kernel_rfl, by kernel_rfl⟩
@[simp] theorem Tryz.ok32 : FnOk Tryz.prog 32 := ⟨Tryz.f32, Tryz.func32, by kernel_rfl, by kernel_rfl⟩
@[simp] theorem Tryz.ok33 : FnOk Tryz.prog 33 := ⟨Tryz.f33, Tryz.func33, by kernel_rfl, by kernel_rfl⟩
@[simp] theorem Tryz.ok34 : FnOk Tryz.prog 34 := ⟨Tryz.f34, Tryz.func34, by kernel_rfl, by kernel_rfl⟩
@[simp] theorem Tryz.ok35 : FnOk Tryz.prog 35 := ⟨Tryz.f35, Tryz.func35, by kernel_rfl, by kernel_rfl⟩
@[simp] theorem Tryz.ok36 : FnOk Tryz.prog 36 := ⟨Tryz.f36, Tryz.func36, by kernel_rfl, by kernel_rfl⟩
@[simp] theorem Tryz.ok37 : FnOk Tryz.prog 37 := ⟨Tryz.f37, Tryz.func37, by kernel_rfl, by kernel_rfl⟩
@[simp] theorem Tryz.ok38 : FnOk Tryz.prog 38 := ⟨Tryz.f38, Tryz.func38, by kernel_rfl, by kernel_rfl⟩
@[simp] theorem Tryz.ok39 : FnOk Tryz.prog 39 := ⟨Tryz.f39, Tryz.func39, by kernel_rfl, by kernel_rfl⟩
@[simp] theorem Tryz.ok40 : FnOk Tryz.prog 40 := ⟨Tryz.f40, Tryz.func40, by kernel_rfl, by kernel_rfl⟩
@[simp] theorem Tryz.ok41 : FnOk Tryz.prog 41 := ⟨Tryz.f41, Tryz.func41, by kernel_rfl, by kernel_rfl⟩
@[simp] theorem Tryz.ok42 : FnOk Tryz.prog 42 := ⟨Tryz.f42, Tryz.func42, by kernel_rfl, by kernel_rfl⟩
@[simp] theorem Tryz.ok43 : FnOk Tryz.prog 43 := ⟨Tryz.f43, Tryz.func43, by kernel_rfl, by kernel_rfl⟩
@[simp] theorem Tryz.ok44 : FnOk Tryz.prog 44 := ⟨Tryz.f44, Tryz.func44, by kernel_rfl, by kernel_rfl⟩
@[simp] theorem Tryz.ok45 : FnOk Tryz.prog 45 := ⟨Tryz.f45, Tryz.func45, by kernel_rfl, by kernel_rfl⟩
@[simp] theorem Tryz.ok46 : FnOk Tryz.prog 46 := ⟨Tryz.f46, Tryz.func46, by kernel_rfl, by kernel_rfl⟩
@[simp] theorem Tryz.ok47 : FnOk Tryz.prog 47 := ⟨Tryz.f47, Tryz.func47, by kernel_rfl, by kernel_rfl⟩
@[simp] theorem Tryz.ok48 : FnOk Tryz.prog 48 := ⟨Tryz.f48, Tryz.func48, by kernel_rfl, by kernel_rfl⟩
@[simp] theorem Tryz.ok49 : FnOk Tryz.prog 49 := ⟨Tryz.f49, Tryz.func49, by kernel_rfl, by kernel_rfl⟩
@[simp] theorem Tryz.ok50 : FnOk Tryz.prog 50 := ⟨Tryz.f50, Tryz.func50, by kernel_rfl, by kernel_rfl⟩
@[simp] theorem Tryz.ok51 : FnOk Tryz.prog 51 := ⟨Tryz.f51, Tryz.func51, by kernel_rfl, by kernel_rfl⟩
@[simp] theorem Tryz.ok52 : FnOk Tryz.prog 52 := ⟨Tryz.f52, Tryz.func52, by kernel_rfl, by kernel_rfl⟩
@[simp] theorem Tryz.ok53 : FnOk Tryz.prog 53 := ⟨Tryz.f53, Tryz.func53, by kernel_rfl, by kernel_rfl⟩
@[simp] theorem Tryz.ok54 : FnOk Tryz.prog 54 := ⟨Tryz.f54, Tryz.func54, by kernel_rfl, by kernel_rfl⟩
@[simp] theorem Tryz.ok55 : FnOk Tryz.prog 55 := ⟨Tryz.f55, Tryz.func55, by kernel_rfl, by kernel_rfl⟩
@[simp] theorem Tryz.ok56 : FnOk Tryz.prog 56 := ⟨Tryz.f56, Tryz.func56, by kernel_rfl, by kernel_rfl⟩
@[simp] theorem Tryz.ok57 : FnOk Tryz.prog 57 := ⟨Tryz.f57, Tryz.func57, by kernel_rfl, by kernel_rfl⟩
@[simp] theorem Tryz.ok58 : FnOk Tryz.prog 58 := ⟨Tryz.f58, Tryz.func58, by kernel_rfl, by kernel_rfl⟩
@[simp] theorem Tryz.ok59 : FnOk Tryz.prog 59 := ⟨Tryz.f59, Tryz.func59, by kernel_rfl, by kernel_rfl⟩
@[simp] theorem Tryz.ok60 : FnOk Tryz.prog 60 := ⟨Tryz.f60, Tryz.func60, by kernel_rfl, by kernel_rfl⟩
@[simp] theorem Tryz.ok61 : FnOk Tryz.prog 61 := ⟨Tryz.f61, Tryz.func61, by kernel_rfl, by kernel_rfl⟩
@[simp] theorem Tryz.ok62 : FnOk Tryz.prog 62 := ⟨Tryz.f62, Tryz.func62, by kernel_rfl, by kernel_rfl⟩
@[simp] theorem Tryz.ok63 : FnOk Tryz.prog 63 := ⟨Tryz.f63, Tryz.func63, by kernel_rfl, by kernel_rfl⟩
@[simp] theorem Tryz.ok64 : FnOk Tryz.prog 64 := ⟨Tryz.f64, Tryz.func64, by kernel_rfl, by kernel_rfl⟩
@[simp] theorem Tryz.ok65 : FnOk Tryz.prog 65 := ⟨Tryz.f65, Tryz.func65, by kernel_rfl, by kernel_rfl⟩
@[simp] theorem Tryz.ok66 : FnOk Tryz.prog 66 := ⟨Tryz.f66, Tryz.func66, by kernel_rfl, by kernel_rfl⟩
@[simp] theorem Tryz.ok67 : FnOk Tryz.prog 67 := ⟨Tryz.f67, Tryz.func67, by kernel_rfl, by kernel_rfl⟩
@[simp] theorem Tryz.ok68 : FnOk Tryz.prog 68 := ⟨Tryz.f68, Tryz.func68, by kernel_rfl, by kernel_rfl⟩
@[simp] theorem Tryz.ok69 : FnOk Tryz.prog 69 := ⟨Tryz.f69, Tryz.func69, by kernel_rfl, by kernel_rfl⟩
@[simp] theorem Tryz.ok70 : FnOk Tryz.prog 70 := ⟨Tryz.f70, Tryz.func70, by kernel_rfl, by kernel_rfl⟩
@[simp] theorem Tryz.ok71 : FnOk Tryz.prog 71 := ⟨Tryz.f71, Tryz.func71, by kernel_rfl, by kernel_rfl⟩
@[simp] theorem Tryz.ok72 : FnOk Tryz.prog 72 := ⟨Tryz.f72, Tryz.func72, by kernel_rfl, by kernel_rfl⟩
@[simp] theorem Tryz.ok73 : FnOk Tryz.prog 73 := ⟨Tryz.f73, Tryz.func73, by kernel_rfl, by kernel_rfl⟩
@[simp] theorem Tryz.ok74 : FnOk Tryz.prog 74 := ⟨Tryz.f74, Tryz.func74, by kernel_rfl, by kernel_rfl⟩
@[simp] theorem Tryz.ok75 : FnOk Tryz.prog 75 := ⟨Tryz.f75, Tryz.func75, by kernel_rfl, by kernel_rfl⟩
@[simp] theorem Tryz.ok76 : FnOk Tryz.prog 76 := ⟨Tryz.f76, Tryz.func76, by kernel_rfl, by kernel_rfl⟩
@[simp] theorem Tryz.ok77 : FnOk Tryz.prog 77 := ⟨Tryz.f77, Tryz.func77, by kernel_rfl, by kernel_rfl⟩
@[simp] theorem Tryz.ok78 : FnOk Tryz.prog 78 := ⟨Tryz.f78, Tryz.func78, by kernel_rfl, by kernel_rfl⟩
@[simp] theorem Tryz.ok79 : FnOk Tryz.prog 79 := ⟨Tryz.f79, Tryz.func79, by kernel_rfl, by kernel_rfl⟩
@[simp] theorem Tryz.ok81 : FnOk Tryz.prog 81 := ⟨Tryz.f81, Tryz.func81, by kernel_rfl, by kernel_rfl⟩
@[simp] theorem Tryz.ok82 : FnOk Tryz.prog 82 := ⟨Tryz.f82, Tryz.func82, by kernel_rfl, by kernel_rfl⟩
@[simp] theorem Tryz.ok83 : FnOk Tryz.prog 83 := ⟨Tryz.f83, Tryz.func83, by kernel_rfl, by kernel_rfl⟩
@[simp] theorem Tryz.ok84 : FnOk Tryz.prog 84 := ⟨Tryz.f84, Tryz.func84, by kernel_rfl, by kernel_rfl⟩
@[simp] theorem Tryz.ok85 : FnOk Tryz.prog 85 := ⟨Tryz.f85, Tryz.func85, by kernel_rfl, by kernel_rfl⟩
@[simp] theorem Tryz.ok86 : FnOk Tryz.prog 86 := ⟨Tryz.f86, Tryz.func86, by kernel_rfl, by kernel_rfl⟩
@[simp] theorem Tryz.ok87 : FnOk Tryz.prog 87 := ⟨Tryz.f87, Tryz.func87, by kernel_rfl, by kernel_rfl⟩
@[simp] theorem Tryz.ok88 : FnOk Tryz.prog 88 := ⟨Tryz.f88, Tryz.func88, by kernel_rfl, by kernel_rfl⟩
@[simp] theorem Tryz.ok89 : FnOk Tryz.prog 89 := ⟨Tryz.f89, Tryz.func89, by kernel_rfl, by kernel_rfl⟩
@[simp] theorem Tryz.ok90 : FnOk Tryz.prog 90 := ⟨Tryz.f90, Tryz.func90, by kernel_rfl, by kernel_rfl⟩
@[simp] theorem Tryz.ok91 : FnOk Tryz.prog 91 := ⟨Tryz.f91, Tryz.func91, by kernel_rfl, by kernel_rfl⟩
@[simp] theorem Tryz.ok92 : FnOk Tryz.prog 92 := ⟨Tryz.f92, Tryz.func92, by kernel_rfl, by kernel_rfl⟩
@[simp] theorem Tryz.ok93 : FnOk Tryz.prog 93 := ⟨Tryz.f93, Tryz.func93, by kernel_rfl, by kernel_rfl⟩
@[simp] theorem Tryz.ok94 : FnOk Tryz.prog 94 := ⟨Tryz.f94, Tryz.func94, by kernel_rfl, by kernel_rfl⟩
@[simp] theorem Tryz.ok95 : FnOk Tryz.prog 95 := ⟨Tryz.f95, Tryz.func95, by kernel_rfl, by kernel_rfl⟩
@[simp] theorem Tryz.ok96 : FnOk Tryz.prog 96 := ⟨Tryz.f96, Tryz.func96, by kernel_rfl, by kernel_rfl⟩
@[simp] theorem Tryz.ok97 : FnOk Tryz.prog 97 := ⟨Tryz.f97, Tryz.func97, by kernel_rfl, by kernel_rfl⟩
@[simp] theorem Tryz.ok98 : FnOk Tryz.prog 98 := ⟨Tryz.f98, Tryz.func98, by kernel_rfl, by kernel_rfl⟩
@[simp] theorem Tryz.ok99 : FnOk Tryz.prog 99 := ⟨Tryz.f99, Tryz.func99, by kernel_rfl, by kernel_rfl⟩
@[simp] theorem Tryz.ok100 : FnOk Tryz.prog 100 := ⟨Tryz.f100, Tryz.func100, by kernel_rfl, by kernel_rfl⟩
@[simp] theorem Tryz.ok101 : FnOk Tryz.prog 101 := ⟨Tryz.f101, Tryz.func101, by kernel_rfl, by kernel_rfl⟩
@[simp] theorem Tryz.ok102 : FnOk Tryz.prog 102 := ⟨Tryz.f102, Tryz.func102, by kernel_rfl, by kernel_rfl⟩
@[simp] theorem Tryz.ok103 : FnOk Tryz.prog 103 := ⟨Tryz.f103, Tryz.func103, by kernel_rfl, by kernel_rfl⟩
@[simp] theorem Tryz.ok104 : FnOk Tryz.prog 104 := ⟨Tryz.f104, Tryz.func104, by kernel_rfl, by kernel_rfl⟩
@[simp] theorem Tryz.ok105 : FnOk Tryz.prog 105 := ⟨Tryz.f105, Tryz.func105, by kernel_rfl, by kernel_rfl⟩
@[simp] theorem Tryz.ok106 : FnOk Tryz.prog 106 := ⟨Tryz.f106, Tryz.func106, by kernel_rfl, by kernel_rfl⟩
@[simp] theorem Tryz.ok107 : FnOk Tryz.prog 107 := ⟨Tryz.f107, Tryz.func107, by kernel_rfl, by kernel_rfl⟩
@[simp] theorem Tryz.ok108 : FnOk Tryz.prog 108 := ⟨Tryz.f108, Tryz.func108, by kernel_rfl, by kernel_rfl⟩
@[simp] theorem Tryz.ok109 : FnOk Tryz.prog 109 := ⟨Tryz.f109, Tryz.func109, by kernel_rfl, by kernel_rfl⟩
@[simp] theorem Tryz.ok110 : FnOk Tryz.prog 110 := ⟨Tryz.f110, Tryz.func110, by kernel_rfl, by kernel_rfl⟩
@[simp] theorem Tryz.ok111 : FnOk Tryz.prog 111 := ⟨Tryz.f111, Tryz.func111, by kernel_rfl, by kernel_rfl⟩
@[simp] theorem Tryz.ok112 : FnOk Tryz.prog 112 := ⟨Tryz.f112, Tryz.func112, by kernel_rfl, by kernel_rfl⟩
@[simp] theorem Tryz.ok113 : FnOk Tryz.prog 113 := ⟨Tryz.f113, Tryz.func113, by kernel_rfl, by kernel_rfl⟩
@[simp] theorem Tryz.ok114 : FnOk Tryz.prog 114 := ⟨Tryz.f114, Tryz.func114, by kernel_rfl, by kernel_rfl⟩
@[simp] theorem Tryz.ok115 : FnOk Tryz.prog 115 := ⟨Tryz.f115, Tryz.func115, by kernel_rfl, by kernel_rfl⟩
@[simp] theorem Tryz.ok116 : FnOk Tryz.prog 116 := ⟨Tryz.f116, Tryz.func116, by kernel_rfl, by kernel_rfl⟩
@[simp] theorem Tryz.ok117 : FnOk Tryz.prog 117 := ⟨Tryz.f117, Tryz.func117, by kernel_rfl, by kernel_rfl⟩
@[simp] theorem Tryz.ok118 : FnOk Tryz.prog 118 := ⟨Tryz.f118, Tryz.func118, by kernel_rfl, by kernel_rfl⟩
@[simp] theorem Tryz.ok119 : FnOk Tryz.prog 119 := ⟨Tryz.f119, Tryz.func119, by kernel_rfl, by kernel_rfl⟩
@[simp] theorem Tryz.ok120 : FnOk Tryz.prog 120 := ⟨Tryz.f120, Tryz.func120, by kernel_rfl, by kernel_rfl⟩
@[simp] theorem Tryz.ok121 : FnOk Tryz.prog 121 := ⟨Tryz.f121, Tryz.func121, by kernel_rfl, by kernel_rfl⟩
@[simp] theorem Tryz.ok122 : FnOk Tryz.prog 122 := ⟨Tryz.f122, Tryz.func122, by kernel_rfl, by kernel_rfl⟩
@[simp] theorem Tryz.ok123 : FnOk Tryz.prog 123 := ⟨Tryz.f123, Tryz.func123, by kernel_rfl, by kernel_rfl⟩
@[simp] theorem Tryz.ok124 : FnOk Tryz.prog 124 := ⟨Tryz.f124, Tryz.func124, by kernel_rfl, by kernel_rfl⟩
@[simp] theorem Tryz.ok125 : FnOk Tryz.prog 125 := ⟨Tryz.f125, Tryz.func125, by kernel_rfl, by kernel_rfl⟩
@[simp] theorem Tryz.ok126 : FnOk Tryz.prog 126 := ⟨Tryz.f126, Tryz.func126, by kernel_rfl, by kernel_rfl⟩
@[simp] theorem Tryz.ok127 : FnOk Tryz.prog 127 := ⟨Tryz.f127, Tryz.func127, by kernel_rfl, by kernel_rfl⟩
@[simp] theorem Tryz.ok128 : FnOk Tryz.prog 128 := ⟨Tryz.f128, Tryz.func128, by kernel_rfl, by kernel_rfl⟩
@[simp] theorem Tryz.ok129 : FnOk Tryz.prog 129 := ⟨Tryz.f129, Tryz.func129, by kernel_rfl, by kernel_rfl⟩
@[simp] theorem Tryz.ok130 : FnOk Tryz.prog 130 := ⟨Tryz.f130, Tryz.func130, by kernel_rfl, by kernel_rfl⟩
@[simp] theorem Tryz.ok131 : FnOk Tryz.prog 131 := ⟨Tryz.f131, Tryz.func131, by kernel_rfl, by kernel_rfl⟩
end Go.Proofs

/-
  Cells and tables of the program in memory; the contracts of small functions on them.
-/
namespace Go.HC
theorem Grow.ints {e : TypeId} {F : Nat → Prop} {h : Heap} {v : Value} {xs : List Int} {own : Option Nat} (hg : Grow rInt e F h v xs own) : SlRep rInt (fun b => own = some b) h v xs := by
  obtain ⟨a, c, rfl⟩ := hg.val
  obtain ⟨cs, _, h1, h2, h3, h4⟩ := hg.cells
  exact ⟨a, c, cs, rfl, h1, h2, h3, ints_map.2 (ints_map.1 h4)⟩
def rCell : Rp CellM where
  sz := 5
  pos := by decide
  rep F h cs c := ∃ kv sv nv xv, cs = [kv, .int .i64 c.count, sv, nv, xv] ∧ SlRep rInt F h kv c.key ∧ SlRep rInt F h sv c.sum ∧ SlRep rInt F h nv c.mn ∧ SlRep rInt F h xv c.mx
  len := by rintro F h cs c ⟨kv, sv, nv, xv, rfl, _⟩; rfl
  one := by
    rintro F h cs c ⟨kv, sv, nv, xv, rfl, h1, h2, h3, h4⟩
    obtain ⟨_, _, rfl, _⟩ := h1.val
    obtain ⟨_, _, rfl, _⟩ := h2.val
    obtain ⟨_, _, rfl, _⟩ := h3.val
    obtain ⟨_, _, rfl, _⟩ := h4.val
    rfl
  mono := by
    rintro F F' h h' cs c ⟨kv, sv, nv, xv, rfl, h1, h2, h3, h4⟩ hm
    exact ⟨kv, sv, nv, xv, rfl, h1.mono hm, h2.mono hm, h3.mono hm, h4.mono hm⟩
def rSlot : Rp (Option CellM) where
  sz := 6
  pos := by decide
  rep F h cs s := match s with
    | none => cs = [.slice none 0 0, .int .i64 0, .slice none 0 0, .slice none 0 0, .slice none 0 0, .bool false]
    | some c => ∃ ds, rCell.rep F h ds c ∧ cs = ds ++ [.bool true]
  len := by
    rintro F h cs (_ | c) hr
    · rw [show cs = _ from hr]; rfl
    · obtain ⟨ds, h1, rfl⟩ := hr
      rw [List.length_append, rCell.len h1]; rfl
  one := by
    rintro F h cs (_ | c) hr
    · rw [show cs = _ from hr]; rfl
    · obtain ⟨ds, h1, rfl⟩ := hr
      rw [List.all_append, rCell.one h1]; rfl
  mono := by
    rintro F F' h h' cs (_ | c) hr hm
    · exact hr
    · obtain ⟨ds, h1, rfl⟩ := hr
      exact ⟨ds, rCell.mono h1 hm, rfl⟩
theorem hashM_take {key : List Int} {k : Nat} (hk : k < key.length) : hashM (key.take (k + 1)) = (31 * hashM (key.take k) + key[k].tmod 1000003 + 1).tmod 1000003 := by
  unfold hashM
  rw [List.take_add_one, List.getElem?_eq_getElem hk, List.foldl_append]
  rfl
theorem hashM_bound (key : List Int) : -1000003 < hashM key ∧ hashM key < 1000003 := by
  unfold hashM
  generalize h0 : (7 : Int) = z
  have hz : -1000003 < z ∧ z < 1000003 := by omega
  clear h0
  induction key generalizing z with
  | nil => exact hz
  | cons v key ih => exact ih _ (tmod_bound (by decide))
theorem probe_next (key : List Int) (n i : Nat) : (probe key n i + 1) % n = probe key n (i + 1) := by
  unfold probe
  rw [Nat.mod_add_mod]; rfl
theorem find_hit {T : Tab} {key : List Int} {i : Nat} (hi : i < T.length) (hb : ∀ j, j < i → hitM T key (probe key T.length j) = false) (hh : hitM T key (probe key T.length i) = true) : findM T key = some (probe key T.length i) := by
  unfold findM
  rw [Option.map_eq_some_iff]
  refine ⟨i, ?_, rfl⟩
  rw [List.find?_range_eq_some]
  exact ⟨hh, List.mem_range.2 hi, fun j hj => by simpa using hb j hj⟩
theorem find_miss {T : Tab} {key : List Int} (hb : ∀ j, j < T.length → hitM T key (probe key T.length j) = false) : findM T key = none := by
  unfold findM
  rw [Option.map_eq_none_iff, List.find?_eq_none]
  intro j hj
  rw [hb j (List.mem_range.1 hj)]; simp
end Go.HC
namespace Go.Proofs
open Go Go.HC

theorem intT : ElemT Tryz.prog 22 3 rInt 8 := ⟨Tryz.elS22, Tryz.szS3, Tryz.byS3, _, Tryz.zS3, rfl⟩
theorem cellT : ElemT Tryz.prog 31 46 rCell 104 := ⟨Tryz.elS31, Tryz.szS46, Tryz.byS46, _, Tryz.zS46, rfl⟩
set_option maxRecDepth 10000 in
theorem cloneInt_spec {F : Nat → Prop} {h : Heap} {v : Value} {xs : List Int} (hv : SlRep rInt F h v xs) (hF : ∀ b, F b → b < h.size) (hn : xs.length < 1099511627776) :
    CallH Tryz.prog 49 #[v] h fun r h' => ∃ own, Grow rInt 3 none_ h' r xs own ∧ Keep none_ h h' ∧ ∀ b, own = some b → h.size ≤ b := by
  refine enter [.tmp 2] Tryz.func49 rfl rfl (by kernel_rfl) rfl ?_
  obtain ⟨a, c, cs, rfl, h1, h2, h3, h4⟩ := hv
  cases a with
  | none =>
    simp -dsimp
    have : xs = [] := by
      rcases h3 with h0 | ⟨_, _, _, _, _, hx, _⟩
      · have hl := h4.len
        rw [h0] at hl
        rcases Nat.mul_eq_zero.1 hl.symm with h | h
        · exact List.eq_nil_of_length_eq_zero h
        · exact absurd h (Nat.ne_of_gt rInt.pos)
      · cases hx
    subst this
    exact ⟨none, .nil _ _ _ _, .refl _ _, fun b hb => by cases hb⟩
  | some a =>
    simp -dsimp
    refine clone_cells (F := none_) (F2 := F) intT (fun _ h => h.elim) hF rfl h3 (ints_map.2 (ints_map.1 h4)) (by omega) (by omega) ?_
    intro v' h' own' hg hk ho hz
    obtain ⟨a', c', rfl⟩ := hg.val
    simp -dsimp
    exact ⟨own', hg, hk, ho⟩

set_option maxRecDepth 10000 in
theorem equal_spec {F G : Nat → Prop} {h : Heap} {av bv : Value} {xs ys : List Int} (ha : SlRep rInt F h av xs) (hb : SlRep rInt G h bv ys) :
    CallH Tryz.prog 112 #[av, bv] h fun r h' => r = .bool (decide (xs = ys)) ∧ h' = h := by
  refine callH_by fun K hK => ?_
  refine enter [.tmp 4] Tryz.func112 rfl rfl (by kernel_rfl) rfl ?_
  obtain ⟨a0, c0, rfl, hc0, hc0'⟩ := ha.val
  obtain ⟨a1, c1, rfl, hc1, hc1'⟩ := hb.val
  by_cases hl : xs.length = ys.length
  · have hl' : ((xs.length : Int) == (ys.length : Int)) = true := by simp; omega
    have hl2 : ((xs.length : Int) != (ys.length : Int)) = false := by simp [bne]; omega
    simp -dsimp [hl2]
    refine loop' (σ := Nat) (fun k => [(0, .slice a0 xs.length c0), (1, .slice a1 ys.length c1), (12, .int .i64 xs.length), (13, .int .i64 k)]) (fun _ => []) (fun k h' => h' = h ∧ k ≤ xs.length ∧ xs.take k = ys.take k) (fun k => xs.length - k) 0 ?_ rfl ⟨rfl, Nat.zero_le _, rfl⟩ (by kernel_rfl) ?_
    · intro p hp
      simp at hp
      rcases hp with rfl | rfl | rfl | rfl <;> simp
    · rintro k h' g ⟨rfl, hk, hpre⟩
      by_cases hkl : k < xs.length
      · obtain ⟨b1, o1, v1, rfl, _, hr1, hc1⟩ := ha.get1 rfl k hkl
        obtain ⟨b2, o2, v2, rfl, _, hr2, hc2⟩ := hb.get1 rfl k (by omega)
        have hv1 : v1 = .int .i64 xs[k] := by simpa [rInt] using hr1
        have hv2 : v2 = .int .i64 ys[k] := by simpa [rInt] using hr2
        subst hv1; subst hv2
        have hid1 : ∀ sz ar kk, idxV sz ar (.slice (some ⟨b1, o1, none⟩) xs.length c0) (.int kk (k : Int)) = sz.map fun s => .pointer (some ⟨b1, o1 + k * s, none⟩) := by
          intro sz ar kk
          rw [idxV_slice (by omega) (by omega) rfl]
          simp
        have hid2 : ∀ sz ar kk, idxV sz ar (.slice (some ⟨b2, o2, none⟩) ys.length c1) (.int kk (k : Int)) = sz.map fun s => .pointer (some ⟨b2, o2 + k * s, none⟩) := by
          intro sz ar kk
          rw [idxV_slice (by omega) (by omega) rfl]
          simp
        have wk : IntKind.i64.wrap ((k : Int) + 1) = ((k + 1 : Nat) : Int) := by rw [wrap_i64 (by omega) (by omega)]; rfl
        simp -dsimp [hkl]
        refine drawn_by [⟨0, true, []⟩, ⟨1, true, []⟩, ⟨2, true, []⟩, ⟨3, true, []⟩, ⟨4, true, []⟩, ⟨5, true, []⟩, ⟨6, true, []⟩, ⟨7, true, []⟩, ⟨8, true, []⟩] (by kernel_rfl) (by kernel_rfl) ?_
        by_cases he : xs[k] = ys[k]
        · have he2 : (ys[k] != ys[k]) = false := by simp
          simp -dsimp [hid1, hid2, hc1, hc2, elSz, he, wk]
          refine ⟨k + 1, ?_, rfl, ⟨rfl, by omega, ?_⟩, by show xs.length - (k + 1) < xs.length - k; omega⟩
          · intro p hp
            simp at hp
            rcases hp with rfl | rfl | rfl | rfl <;> simp
          · rw [List.take_add_one, List.take_add_one, hpre, List.getElem?_eq_getElem hkl, List.getElem?_eq_getElem (show k < ys.length by omega), he]
        · have he2 : (xs[k] != ys[k]) = true := by simpa [bne] using he
          have hne : decide (xs = ys) = false := decide_eq_false fun e => he (by subst e; rfl)
          simp -dsimp [hid1, hid2, hc1, hc2, elSz, he2]
          exact hK _ _ ⟨by rw [hne], rfl⟩
      · have heq : decide (xs = ys) = true := decide_eq_true (by
          rw [List.take_of_length_le (by omega), List.take_of_length_le (by omega)] at hpre
          exact hpre)
        simp -dsimp [hkl]
        exact hK _ _ ⟨by rw [heq], rfl⟩
  · have hl2 : ((xs.length : Int) != (ys.length : Int)) = true := by simp [bne]; omega
    have hne : decide (xs = ys) = false := decide_eq_false fun e => hl (by rw [e])
    simp -dsimp [hl2]
    exact hK _ _ ⟨by rw [hne], rfl⟩
end Go.Proofs

/-
  Groups of cells by their keys, plainly: what cells of one key come to, one cell of each key, rising.
-/
namespace Go.HC
/-! ### the order of keys -/
def lessM : List Int → List Int → Int
  | [], [] => 0
  | [], _ :: _ => -1
  | _ :: _, [] => 1
  | x :: xs, y :: ys => if x < y then -1 else if y < x then 1 else lessM xs ys
theorem lessM_zero : ∀ {xs ys : List Int}, lessM xs ys = 0 ↔ xs = ys
  | [], [] => by simp [lessM]
  | [], _ :: _ => by simp [lessM]
  | _ :: _, [] => by simp [lessM]
  | x :: xs, y :: ys => by
    rw [lessM]
    split
    · rename_i h
      simp only [List.cons.injEq]
      constructor
      · intro h; omega
      · rintro ⟨rfl, _⟩; omega
    · split
      · rename_i h
        simp only [List.cons.injEq]
        constructor
        · intro h; omega
        · rintro ⟨rfl, _⟩; omega
      · rename_i h1 h2
        rw [lessM_zero]
        simp only [List.cons.injEq]
        constructor
        · intro h; exact ⟨by omega, h⟩
        · rintro ⟨_, h⟩; exact h
theorem lessM_neg : ∀ (xs ys : List Int), lessM ys xs = - lessM xs ys
  | [], [] => rfl
  | [], _ :: _ => rfl
  | _ :: _, [] => rfl
  | x :: xs, y :: ys => by
    rw [lessM, lessM]
    by_cases h1 : x < y
    · have h2 : ¬ y < x := by omega
      simp only [if_pos h1, if_neg h2]; rfl
    · by_cases h2 : y < x
      · simp only [if_neg h1, if_pos h2]
      · simp only [if_neg h1, if_neg h2, lessM_neg xs ys]
theorem lessM_three : ∀ (xs ys : List Int), lessM xs ys = -1 ∨ lessM xs ys = 0 ∨ lessM xs ys = 1
  | [], [] => .inr (.inl rfl)
  | [], _ :: _ => .inl rfl
  | _ :: _, [] => .inr (.inr rfl)
  | x :: xs, y :: ys => by
    rw [lessM]
    split
    · exact .inl rfl
    · split
      · exact .inr (.inr rfl)
      · exact lessM_three xs ys
theorem lessM_trans : ∀ {xs ys zs : List Int}, lessM xs ys < 0 → lessM ys zs < 0 → lessM xs zs < 0
  | [], [], _, h, _ => by simp [lessM] at h
  | [], _ :: _, [], _, h => by simp [lessM] at h
  | [], _ :: _, _ :: _, _, _ => by simp [lessM]
  | _ :: _, [], _, h, _ => by simp [lessM] at h
  | _ :: _, _ :: _, [], _, h => by simp [lessM] at h
  | x :: xs, y :: ys, z :: zs, h1, h2 => by
    rw [lessM] at h1 h2 ⊢
    split at h1
    · split at h2
      · rw [if_pos (by omega)]; omega
      · split at h2
        · omega
        · rw [if_pos (by omega)]; omega
    · split at h1
      · omega
      · split at h2
        · rw [if_pos (by omega)]; omega
        · split at h2
          · omega
          · rw [if_neg (by omega), if_neg (by omega)]
            exact lessM_trans h1 h2
theorem lessM_self (xs : List Int) : lessM xs xs = 0 := lessM_zero.2 rfl
/-! ### cells of one key -/
def joinAll : List CellM → Option CellM
  | [] => none
  | c :: cs => some (cs.foldl joinC c)
/-- A cell, put to what is there. -/
def joinO : Option CellM → CellM → CellM
  | none, c => c
  | some d, c => joinC d c
theorem joinAll_snoc (l : List CellM) (c : CellM) : joinAll (l ++ [c]) = some (joinO (joinAll l) c) := by
  cases l with
  | nil => rfl
  | cons d l => simp [joinAll, joinO]
theorem foldl_key : ∀ (l : List CellM) (c : CellM), (l.foldl joinC c).key = c.key
  | [], _ => rfl
  | d :: l, c => by rw [List.foldl_cons, foldl_key l]; rfl
/-- What the cells of a key come to. -/
def atKey (key : List Int) (l : List CellM) : Option CellM := joinAll (l.filter fun c => decide (c.key = key))
theorem atKey_nil (key : List Int) : atKey key [] = none := rfl
theorem atKey_key {key : List Int} {l : List CellM} {c : CellM} (h : atKey key l = some c) : c.key = key := by
  unfold atKey at h
  cases hf : l.filter (fun c => decide (c.key = key)) with
  | nil => rw [hf] at h; cases h
  | cons d m =>
    rw [hf] at h
    simp only [joinAll, Option.some.injEq] at h
    rw [← h, foldl_key]
    have : d ∈ l.filter (fun c => decide (c.key = key)) := by rw [hf]; exact List.mem_cons_self
    simpa using (List.mem_filter.1 this).2
theorem atKey_snoc (key : List Int) (l : List CellM) (c : CellM) :
    atKey key (l ++ [c]) = if c.key = key then some (joinO (atKey key l) c) else atKey key l := by
  unfold atKey
  rw [List.filter_append]
  by_cases h : c.key = key
  · rw [if_pos h, ← joinAll_snoc]
    simp [h]
  · rw [if_neg h]
    simp [h]
theorem atKey_none {key : List Int} {l : List CellM} : atKey key l = none ↔ ∀ c ∈ l, c.key ≠ key := by
  unfold atKey
  cases hf : l.filter (fun c => decide (c.key = key)) with
  | nil =>
    simp only [joinAll, true_iff]
    intro c hc hk
    have : c ∈ l.filter (fun c => decide (c.key = key)) := List.mem_filter.2 ⟨hc, by simpa using hk⟩
    rw [hf] at this
    cases this
  | cons d m =>
    have : d ∈ l.filter (fun c => decide (c.key = key)) := by rw [hf]; exact List.mem_cons_self
    have := List.mem_filter.1 this
    simp only [joinAll, reduceCtorEq, false_iff]
    exact fun h => h d this.1 (by simpa using this.2)
/-! ### joining is of no order -/
theorem wrap_is (x : Int) : ∃ k : Int, IntKind.i64.wrap x = x + k * 18446744073709551616 ∧ -9223372036854775808 ≤ IntKind.i64.wrap x ∧ IntKind.i64.wrap x < 9223372036854775808 := by
  have e : (2 : Int) ^ IntKind.i64.bits = 18446744073709551616 := by decide
  have e2 : (2 : Int) ^ (IntKind.i64.bits - 1) = 9223372036854775808 := by decide
  unfold IntKind.wrap
  simp only [e, e2]
  by_cases h : x % 18446744073709551616 ≥ 9223372036854775808
  · refine ⟨- (x / 18446744073709551616) - 1, ?_⟩
    simp [IntKind.signed, h]; omega
  · refine ⟨- (x / 18446744073709551616), ?_⟩
    simp [IntKind.signed, h]; omega
theorem wrap_add_wrap (x y : Int) : IntKind.i64.wrap (IntKind.i64.wrap x + y) = IntKind.i64.wrap (x + y) := by
  obtain ⟨k1, h1, _, _⟩ := wrap_is x
  obtain ⟨k2, h2, _, _⟩ := wrap_is (IntKind.i64.wrap x + y)
  obtain ⟨k3, h3, _, _⟩ := wrap_is (x + y)
  omega
theorem wrap_add_wrap' (x y : Int) : IntKind.i64.wrap (x + IntKind.i64.wrap y) = IntKind.i64.wrap (x + y) := by
  rw [Int.add_comm, wrap_add_wrap, Int.add_comm]
theorem zip_assoc {f : Int → Int → Int} (hf : ∀ x y z, f (f x y) z = f x (f y z)) : ∀ xs ys zs : List Int, List.zipWith f (List.zipWith f xs ys) zs = List.zipWith f xs (List.zipWith f ys zs)
  | [], _, _ => by simp
  | _ :: _, [], _ => by simp
  | _ :: _, _ :: _, [] => by simp
  | x :: xs, y :: ys, z :: zs => by simp [hf, zip_assoc hf xs ys zs]
theorem zip_comm {f : Int → Int → Int} (hf : ∀ x y, f x y = f y x) : ∀ xs ys : List Int, List.zipWith f xs ys = List.zipWith f ys xs
  | [], ys => by simp
  | _ :: _, [] => by simp
  | x :: xs, y :: ys => by simp [hf x y, zip_comm hf xs ys]
theorem joinC_assoc (a b c : CellM) : joinC (joinC a b) c = joinC a (joinC b c) := by
  unfold joinC
  simp only [wrap_add_wrap, wrap_add_wrap', Int.add_assoc]
  rw [zip_assoc (fun x y z => by rw [wrap_add_wrap, wrap_add_wrap', Int.add_assoc]), zip_assoc (fun x y z => by omega), zip_assoc (fun x y z => by omega)]
theorem joinC_comm {a b : CellM} (h : a.key = b.key) : joinC a b = joinC b a := by
  unfold joinC
  rw [h, Int.add_comm, zip_comm (fun x y => by rw [Int.add_comm]) a.sum, zip_comm (fun x y => by omega) a.mn, zip_comm (fun x y => by omega) a.mx]
theorem foldl_join (l : List CellM) : ∀ (a b : CellM), l.foldl joinC (joinC a b) = joinC a (l.foldl joinC b) := by
  induction l with
  | nil => exact fun _ _ => rfl
  | cons c l ih => intro a b; rw [List.foldl_cons, List.foldl_cons, joinC_assoc, ih]
/-- Two parts' cells of a key. -/
def join2 : Option CellM → Option CellM → Option CellM
  | none, y => y
  | x, none => x
  | some x, some y => some (joinC x y)
theorem joinAll_append (l m : List CellM) : joinAll (l ++ m) = join2 (joinAll l) (joinAll m) := by
  cases l with
  | nil => cases m <;> rfl
  | cons c l =>
    cases m with
    | nil => simp [joinAll, join2]
    | cons d m => simp [joinAll, join2, foldl_join]
theorem atKey_append (key : List Int) (l m : List CellM) : atKey key (l ++ m) = join2 (atKey key l) (atKey key m) := by
  unfold atKey
  rw [List.filter_append, joinAll_append]
theorem joinAll_perm {key : List Int} {l m : List CellM} (hp : l.Perm m) : (∀ c ∈ l, c.key = key) → joinAll l = joinAll m := by
  induction hp with
  | nil => exact fun _ => rfl
  | @cons x l m hp ih =>
    intro hl
    have := ih fun c hc => hl c (List.mem_cons_of_mem _ hc)
    rw [← List.singleton_append, ← List.singleton_append (l := m), joinAll_append, joinAll_append, this]
  | swap x y l =>
    intro hl
    have h1 := hl x (by simp)
    have h2 := hl y (by simp)
    simp only [joinAll, List.foldl_cons]
    rw [joinC_comm (h2.trans h1.symm)]
  | trans hp1 hp2 ih1 ih2 => exact fun hl => (ih1 hl).trans (ih2 fun c hc => hl c (hp1.mem_iff.2 hc))
theorem atKey_perm {key : List Int} {l m : List CellM} (hp : l.Perm m) : atKey key l = atKey key m :=
  joinAll_perm (key := key) (hp.filter _) fun c hc => by simpa using (List.mem_filter.1 hc).2
/-! ### one cell of each key -/
def Srt (l : List CellM) : Prop := l.Pairwise fun a b => lessM a.key b.key < 0
/-- The group-by: rising, of each key what its cells come to. -/
structure Grp (l out : List CellM) : Prop where
  srt : Srt out
  mem : ∀ c, c ∈ out ↔ atKey c.key l = some c
theorem srt_eq : ∀ {l m : List CellM}, Srt l → Srt m → (∀ c, c ∈ l ↔ c ∈ m) → l = m
  | [], [], _, _, _ => rfl
  | [], c :: m, _, _, h => by have := (h c).2 List.mem_cons_self; cases this
  | c :: l, [], _, _, h => by have := (h c).1 List.mem_cons_self; cases this
  | a :: l, b :: m, h1, h2, h => by
    obtain ⟨h1a, h1b⟩ := List.pairwise_cons.1 h1
    obtain ⟨h2a, h2b⟩ := List.pairwise_cons.1 h2
    have hab : a = b := by
      rcases List.mem_cons.1 ((h a).1 List.mem_cons_self) with e | h3
      · exact e
      · rcases List.mem_cons.1 ((h b).2 List.mem_cons_self) with e | h4
        · exact e.symm
        · have x := lessM_trans (h2a a h3) (h1a b h4)
          rw [lessM_self] at x; omega
    subst hab
    congr 1
    refine srt_eq h1b h2b fun c => ?_
    constructor
    · intro hc
      rcases List.mem_cons.1 ((h c).1 (List.mem_cons_of_mem _ hc)) with e | h3
      · subst e; have x := h1a c hc; rw [lessM_self] at x; omega
      · exact h3
    · intro hc
      rcases List.mem_cons.1 ((h c).2 (List.mem_cons_of_mem _ hc)) with e | h3
      · subst e; have x := h2a c hc; rw [lessM_self] at x; omega
      · exact h3
theorem Grp.unique {l o o' : List CellM} (h : Grp l o) (h' : Grp l o') : o = o' := srt_eq h.srt h'.srt fun c => (h.mem c).trans (h'.mem c).symm
theorem Grp.perm {l m o : List CellM} (h : Grp l o) (hp : l.Perm m) : Grp m o := ⟨h.srt, fun c => by rw [h.mem, atKey_perm hp]⟩
theorem Grp.nil : Grp [] [] := ⟨List.Pairwise.nil, fun c => by simp [atKey_nil]⟩
/-- A cell is put to those of its key, or where it belongs. -/
def putC : List CellM → CellM → List CellM
  | [], c => [c]
  | d :: l, c => if lessM d.key c.key < 0 then d :: putC l c else if lessM d.key c.key = 0 then joinC d c :: l else c :: d :: l
theorem Srt.find {l : List CellM} (hs : Srt l) {a b : CellM} (ha : a ∈ l) (hb : b ∈ l) (h : a.key = b.key) : a = b := by
  induction l with
  | nil => cases ha
  | cons c l ih =>
    obtain ⟨h1, h2⟩ := List.pairwise_cons.1 hs
    rcases List.mem_cons.1 ha with rfl | ha' <;> rcases List.mem_cons.1 hb with rfl | hb'
    · rfl
    · have := h1 b hb'; rw [h, lessM_self] at this; omega
    · have := h1 a ha'; rw [← h, lessM_self] at this; omega
    · exact ih h2 ha' hb'
theorem mem_put {l : List CellM} (hs : Srt l) (c x : CellM) : x ∈ putC l c ↔ (x.key ≠ c.key ∧ x ∈ l) ∨ (x.key = c.key ∧ x = joinO (l.find? (fun d => decide (d.key = c.key))) c) := by
  induction l with
  | nil =>
    simp only [putC, List.mem_singleton, List.not_mem_nil, and_false, false_or, List.find?_nil]
    exact ⟨fun h => ⟨by rw [h], h⟩, fun h => h.2⟩
  | cons d l ih =>
    obtain ⟨h1, h2⟩ := List.pairwise_cons.1 hs
    rw [putC]
    split
    · rename_i hlt
      have hne : d.key ≠ c.key := fun e => by rw [e, lessM_self] at hlt; omega
      rw [List.mem_cons, ih h2, List.find?_cons_of_neg (by simpa using hne), List.mem_cons]
      constructor
      · rintro (rfl | ⟨h3, h4⟩ | h3)
        · exact .inl ⟨hne, .inl rfl⟩
        · exact .inl ⟨h3, .inr h4⟩
        · exact .inr h3
      · rintro (⟨h3, rfl | h4⟩ | h3)
        · exact .inl rfl
        · exact .inr (.inl ⟨h3, h4⟩)
        · exact .inr (.inr h3)
    · split
      · rename_i h0
        have he := lessM_zero.1 h0
        rw [List.find?_cons_of_pos (by simpa using he), List.mem_cons, List.mem_cons]
        have hlk : ∀ y ∈ l, y.key ≠ c.key := fun y hy e => by have := h1 y hy; rw [e, ← he, lessM_self] at this; omega
        constructor
        · rintro (rfl | h3)
          · exact .inr ⟨he, rfl⟩
          · exact .inl ⟨hlk x h3, .inr h3⟩
        · rintro (⟨h3, rfl | h4⟩ | ⟨_, rfl⟩)
          · exact absurd he h3
          · exact .inr h4
          · exact .inl rfl
      · rename_i h3 h0
        have hgt : lessM c.key d.key < 0 := by
          have := lessM_neg d.key c.key
          have := lessM_three d.key c.key
          omega
        have hlk : ∀ y ∈ d :: l, y.key ≠ c.key := by
          intro y hy e
          rcases List.mem_cons.1 hy with rfl | hy
          · rw [e, lessM_self] at hgt; omega
          · have := lessM_trans hgt (h1 y hy)
            rw [e, lessM_self] at this; omega
        have hn : (d :: l).find? (fun d => decide (d.key = c.key)) = none := by
          rw [List.find?_eq_none]
          intro y hy
          simpa using hlk y hy
        rw [hn, List.mem_cons]
        constructor
        · rintro (rfl | h4)
          · exact .inr ⟨rfl, rfl⟩
          · exact .inl ⟨hlk x h4, h4⟩
        · rintro (⟨_, h4⟩ | ⟨_, rfl⟩)
          · exact .inr h4
          · exact .inl rfl
theorem put_key {l : List CellM} {c x : CellM} (hx : x ∈ putC l c) : x.key = c.key ∨ x ∈ l := by
  induction l with
  | nil => rw [putC, List.mem_singleton] at hx; exact .inl (by rw [hx])
  | cons d l ih =>
    rw [putC] at hx
    split at hx
    · rcases List.mem_cons.1 hx with rfl | h
      · exact .inr List.mem_cons_self
      · exact (ih h).imp id (List.mem_cons_of_mem _)
    · split at hx
      · rename_i h0
        rcases List.mem_cons.1 hx with rfl | h
        · exact .inl (lessM_zero.1 h0)
        · exact .inr (List.mem_cons_of_mem _ h)
      · rcases List.mem_cons.1 hx with rfl | h
        · exact .inl rfl
        · exact .inr h
theorem srt_put {l : List CellM} (hs : Srt l) (c : CellM) : Srt (putC l c) := by
  induction l with
  | nil => exact List.pairwise_singleton _ _
  | cons d l ih =>
    obtain ⟨h1, h2⟩ := List.pairwise_cons.1 hs
    rw [putC]
    split
    · rename_i hlt
      refine List.pairwise_cons.2 ⟨fun y hy => ?_, ih h2⟩
      rcases put_key hy with e | h
      · rw [e]; exact hlt
      · exact h1 y h
    · split
      · refine List.pairwise_cons.2 ⟨fun y hy => h1 y hy, h2⟩
      · rename_i h3 h0
        have hgt : lessM c.key d.key < 0 := by
          have := lessM_neg d.key c.key
          have := lessM_three d.key c.key
          omega
        refine List.pairwise_cons.2 ⟨fun y hy => ?_, hs⟩
        rcases List.mem_cons.1 hy with rfl | hy
        · exact hgt
        · exact lessM_trans hgt (h1 y hy)
theorem Grp.find {l o : List CellM} (h : Grp l o) (key : List Int) : o.find? (fun d => decide (d.key = key)) = atKey key l := by
  cases hf : o.find? (fun d => decide (d.key = key)) with
  | none =>
    cases ha : atKey key l with
    | none => rfl
    | some c =>
      have hk := atKey_key ha
      have hm := (h.mem c).2 (by rw [hk, ha])
      have := List.find?_eq_none.1 hf c hm
      simp [hk] at this
  | some d =>
    have hm := (h.mem d).1 (List.mem_of_find?_eq_some hf)
    have hk := List.find?_some hf
    simp only [decide_eq_true_eq] at hk
    rw [hk] at hm
    exact hm.symm
theorem Grp.put {l o : List CellM} (h : Grp l o) (c : CellM) : Grp (l ++ [c]) (putC o c) := by
  refine ⟨srt_put h.srt c, fun x => ?_⟩
  rw [mem_put h.srt, h.find, atKey_snoc]
  by_cases hk : c.key = x.key
  · rw [if_pos hk, hk]
    simp only [ne_eq, not_true_eq_false, false_and, true_and, false_or]
    rw [Option.some.injEq]
    exact eq_comm
  · rw [if_neg hk, h.mem]
    have : x.key ≠ c.key := fun e => hk e.symm
    simp [this]
def groupC (l : List CellM) : List CellM := l.foldl putC []
theorem groupC_snoc (l : List CellM) (c : CellM) : groupC (l ++ [c]) = putC (groupC l) c := by simp [groupC]
theorem group_take {l : List CellM} {k : Nat} (hk : k < l.length) : groupC (l.take (k + 1)) = putC (groupC (l.take k)) l[k] := by
  rw [List.take_add_one, List.getElem?_eq_getElem hk, Option.toList_some, groupC_snoc]
theorem grp_aux : ∀ (l o m : List CellM), Grp m o → Grp (m ++ l) (l.foldl putC o)
  | [], o, m, h => by simpa using h
  | c :: l, o, m, h => by
    have := grp_aux l (putC o c) (m ++ [c]) (h.put c)
    simpa using this
theorem grp_group (l : List CellM) : Grp l (groupC l) := by
  have := grp_aux l [] [] .nil
  rwa [List.nil_append] at this
theorem group_perm {l m : List CellM} (hp : l.Perm m) : groupC l = groupC m := ((grp_group l).perm hp).unique (grp_group m)
theorem Grp.eq {l o : List CellM} (h : Grp l o) : o = groupC l := h.unique (grp_group l)
/-- As many as there are keys. -/
theorem putC_len {l : List CellM} (c : CellM) : (putC l c).length = l.length ∨ (putC l c).length = l.length + 1 := by
  induction l with
  | nil => exact .inr rfl
  | cons d l ih =>
    rw [putC]
    split
    · simpa using ih
    · split <;> simp
theorem putC_le (l : List CellM) (c : CellM) : (putC l c).length ≤ l.length + 1 := by rcases putC_len (l := l) c with h | h <;> omega
theorem group_le : ∀ (l o : List CellM), (l.foldl putC o).length ≤ o.length + l.length
  | [], _ => by simp
  | c :: l, o => by
    have := group_le l (putC o c)
    have := putC_le o c
    rw [List.foldl_cons, List.length_cons]; omega
theorem groupC_le (l : List CellM) : (groupC l).length ≤ l.length := by
  have := group_le l []
  rwa [List.length_nil, Nat.zero_add] at this
end Go.HC

/-
  The document's order of keys.
-/
namespace Go.Proofs
open Go Go.HC

set_option maxHeartbeats 4000000 in
set_option maxRecDepth 10000 in
theorem rless_spec {F G : Nat → Prop} {h : Heap} {av bv : Value} {xs ys : List Int} (ha : SlRep rInt F h av xs) (hb : SlRep rInt G h bv ys) :
    CallH Tryz.prog 44 #[av, bv] h fun r h' => r = .int .i64 (lessM xs ys) ∧ h' = h := by
  refine callH_by fun K hK => ?_
  refine enter [.tmp 4] Tryz.func44 rfl rfl (by kernel_rfl) rfl ?_
  obtain ⟨a0, c0, rfl, hc0, hc0'⟩ := ha.val
  obtain ⟨a1, c1, rfl, hc1, hc1'⟩ := hb.val
  simp -dsimp
  refine loop' (σ := Nat) (fun k => [(0, .slice a0 xs.length c0), (1, .slice a1 ys.length c1), (5, .int .i64 k)]) (fun _ => []) (fun k h' => h' = h ∧ k ≤ xs.length ∧ k ≤ ys.length ∧ lessM xs ys = lessM (xs.drop k) (ys.drop k)) (fun k => xs.length - k) 0 ?_ rfl ⟨rfl, Nat.zero_le _, Nat.zero_le _, rfl⟩ (by kernel_rfl) ?_
  · intro p hp
    simp at hp
    rcases hp with rfl | rfl | rfl <;> simp
  · rintro k h' g ⟨rfl, hk, hk', hpre⟩
    by_cases hx : k < xs.length
    · by_cases hy : k < ys.length
      · obtain ⟨b1, o1, v1, rfl, _, hr1, hc1⟩ := ha.get1 rfl k hx
        obtain ⟨b2, o2, v2, rfl, _, hr2, hc2⟩ := hb.get1 rfl k hy
        have hv1 : v1 = .int .i64 xs[k] := by simpa [rInt] using hr1
        have hv2 : v2 = .int .i64 ys[k] := by simpa [rInt] using hr2
        subst hv1; subst hv2
        have hid1 : ∀ sz ar kk, idxV sz ar (.slice (some ⟨b1, o1, none⟩) xs.length c0) (.int kk (k : Int)) = sz.map fun s => .pointer (some ⟨b1, o1 + k * s, none⟩) := by
          intro sz ar kk
          rw [idxV_slice (by omega) (by omega) rfl]
          simp
        have hid2 : ∀ sz ar kk, idxV sz ar (.slice (some ⟨b2, o2, none⟩) ys.length c1) (.int kk (k : Int)) = sz.map fun s => .pointer (some ⟨b2, o2 + k * s, none⟩) := by
          intro sz ar kk
          rw [idxV_slice (by omega) (by omega) rfl]
          simp
        have wk : IntKind.i64.wrap ((k : Int) + 1) = ((k + 1 : Nat) : Int) := by rw [wrap_i64 (by omega) (by omega)]; rfl
        rw [List.drop_eq_getElem_cons hx, List.drop_eq_getElem_cons hy, lessM] at hpre
        simp -dsimp [hx, hy]
        refine drawn_by [⟨0, true, []⟩, ⟨1, true, []⟩, ⟨2, true, []⟩, ⟨3, true, []⟩, ⟨4, true, []⟩, ⟨5, true, []⟩, ⟨6, true, []⟩, ⟨7, true, []⟩, ⟨8, true, []⟩] (by kernel_rfl) (by kernel_rfl) ?_
        by_cases h1 : xs[k] < ys[k]
        · rw [if_pos h1] at hpre
          simp -dsimp [hid1, hid2, hc1, hc2, elSz, h1]
          exact hK _ _ ⟨by rw [hpre], rfl⟩
        · rw [if_neg h1] at hpre
          simp -dsimp [hid1, hid2, hc1, hc2, elSz, h1]
          refine drawn_by [⟨0, true, []⟩, ⟨1, true, []⟩, ⟨2, true, []⟩, ⟨3, true, []⟩, ⟨4, true, []⟩, ⟨5, true, []⟩, ⟨6, true, []⟩, ⟨7, true, []⟩, ⟨8, true, []⟩] (by kernel_rfl) (by kernel_rfl) ?_
          by_cases h2 : ys[k] < xs[k]
          · rw [if_pos h2] at hpre
            simp -dsimp [hid1, hid2, hc1, hc2, elSz, h2]
            exact hK _ _ ⟨by rw [hpre], rfl⟩
          · rw [if_neg h2] at hpre
            simp -dsimp [hid1, hid2, hc1, hc2, elSz, h2, wk]
            refine ⟨k + 1, ?_, rfl, ⟨rfl, by omega, by omega, hpre⟩, by show xs.length - (k + 1) < xs.length - k; omega⟩
            intro p hp
            simp at hp
            rcases hp with rfl | rfl | rfl <;> simp
      · have hl : ¬ (xs.length < ys.length) := by omega
        have hg : ys.length < xs.length := by omega
        rw [List.drop_eq_getElem_cons hx, List.drop_of_length_le (l := ys) (by omega), lessM] at hpre
        simp -dsimp [hx, hy, hl, hg]
        exact hK _ _ ⟨by rw [hpre], rfl⟩
    · by_cases hy : k < ys.length
      · have hl : xs.length < ys.length := by omega
        rw [List.drop_of_length_le (l := xs) (by omega), List.drop_eq_getElem_cons hy, lessM] at hpre
        simp -dsimp [hx, hl]
        exact hK _ _ ⟨by rw [hpre], rfl⟩
      · have hl : ¬ (xs.length < ys.length) := by omega
        have hg : ¬ (ys.length < xs.length) := by omega
        rw [List.drop_of_length_le (l := xs) (by omega), List.drop_of_length_le (l := ys) (by omega), lessM] at hpre
        simp -dsimp [hx, hl, hg]
        exact hK _ _ ⟨by rw [hpre], rfl⟩
end Go.Proofs

/-
  The document's comparisons of cells.
-/
namespace Go.HC
theorem cellM_ext {a b : CellM} (h1 : a.count = b.count) (h2 : a.key = b.key) (h3 : a.sum = b.sum) (h4 : a.mn = b.mn) (h5 : a.mx = b.mx) : a = b := by
  cases a; cases b; simp_all
end Go.HC
namespace Go.Proofs
open Go Go.HC

set_option maxRecDepth 10000 in
theorem ints_spec {F G : Nat → Prop} {h : Heap} {av bv : Value} {xs ys : List Int} (ha : SlRep rInt F h av xs) (hb : SlRep rInt G h bv ys) :
    CallH Tryz.prog 46 #[av, bv] h fun r h' => r = .bool (decide (xs = ys)) ∧ h' = h := by
  refine callH_by fun K hK => ?_
  refine enter [.tmp 4] Tryz.func46 rfl rfl (by kernel_rfl) rfl ?_
  obtain ⟨a0, c0, rfl, hc0, hc0'⟩ := ha.val
  obtain ⟨a1, c1, rfl, hc1, hc1'⟩ := hb.val
  by_cases hl : xs.length = ys.length
  · have hl' : ((xs.length : Int) == (ys.length : Int)) = true := by simp; omega
    have hl2 : ((xs.length : Int) != (ys.length : Int)) = false := by simp [bne]; omega
    simp -dsimp [hl2]
    refine loop' (σ := Nat) (fun k => [(0, .slice a0 xs.length c0), (1, .slice a1 ys.length c1), (5, .int .i64 k)]) (fun _ => []) (fun k h' => h' = h ∧ k ≤ xs.length ∧ xs.take k = ys.take k) (fun k => xs.length - k) 0 ?_ rfl ⟨rfl, Nat.zero_le _, rfl⟩ (by kernel_rfl) ?_
    · intro p hp
      simp at hp
      rcases hp with rfl | rfl | rfl <;> simp
    · rintro k h' g ⟨rfl, hk, hpre⟩
      by_cases hkl : k < xs.length
      · obtain ⟨b1, o1, v1, rfl, _, hr1, hc1⟩ := ha.get1 rfl k hkl
        obtain ⟨b2, o2, v2, rfl, _, hr2, hc2⟩ := hb.get1 rfl k (by omega)
        have hv1 : v1 = .int .i64 xs[k] := by simpa [rInt] using hr1
        have hv2 : v2 = .int .i64 ys[k] := by simpa [rInt] using hr2
        subst hv1; subst hv2
        have hid1 : ∀ sz ar kk, idxV sz ar (.slice (some ⟨b1, o1, none⟩) xs.length c0) (.int kk (k : Int)) = sz.map fun s => .pointer (some ⟨b1, o1 + k * s, none⟩) := by
          intro sz ar kk
          rw [idxV_slice (by omega) (by omega) rfl]
          simp
        have hid2 : ∀ sz ar kk, idxV sz ar (.slice (some ⟨b2, o2, none⟩) ys.length c1) (.int kk (k : Int)) = sz.map fun s => .pointer (some ⟨b2, o2 + k * s, none⟩) := by
          intro sz ar kk
          rw [idxV_slice (by omega) (by omega) rfl]
          simp
        have wk : IntKind.i64.wrap ((k : Int) + 1) = ((k + 1 : Nat) : Int) := by rw [wrap_i64 (by omega) (by omega)]; rfl
        simp -dsimp [hkl]
        refine drawn_by [⟨0, true, []⟩, ⟨1, true, []⟩, ⟨2, true, []⟩, ⟨3, true, []⟩, ⟨4, true, []⟩, ⟨5, true, []⟩, ⟨6, true, []⟩, ⟨7, true, []⟩, ⟨8, true, []⟩] (by kernel_rfl) (by kernel_rfl) ?_
        by_cases he : xs[k] = ys[k]
        · have he2 : (ys[k] != ys[k]) = false := by simp
          simp -dsimp [hid1, hid2, hc1, hc2, elSz, he, wk]
          refine ⟨k + 1, ?_, rfl, ⟨rfl, by omega, ?_⟩, by show xs.length - (k + 1) < xs.length - k; omega⟩
          · intro p hp
            simp at hp
            rcases hp with rfl | rfl | rfl <;> simp
          · rw [List.take_add_one, List.take_add_one, hpre, List.getElem?_eq_getElem hkl, List.getElem?_eq_getElem (show k < ys.length by omega), he]
        · have he2 : (xs[k] != ys[k]) = true := by simpa [bne] using he
          have hne : decide (xs = ys) = false := decide_eq_false fun e => he (by subst e; rfl)
          simp -dsimp [hid1, hid2, hc1, hc2, elSz, he2]
          exact hK _ _ ⟨by rw [hne], rfl⟩
      · have heq : decide (xs = ys) = true := decide_eq_true (by
          rw [List.take_of_length_le (by omega), List.take_of_length_le (by omega)] at hpre
          exact hpre)
        simp -dsimp [hkl]
        exact hK _ _ ⟨by rw [heq], rfl⟩
  · have hl2 : ((xs.length : Int) != (ys.length : Int)) = true := by simp [bne]; omega
    have hne : decide (xs = ys) = false := decide_eq_false fun e => hl (by rw [e])
    simp -dsimp [hl2]
    exact hK _ _ ⟨by rw [hne], rfl⟩

set_option maxHeartbeats 40000000 in
set_option maxRecDepth 10000 in
theorem cellEq_spec {F G : Nat → Prop} {h : Heap} {cs ds : List Value} {a b : CellM} (ha : rCell.rep F h cs a) (hF : ∀ b, F b → b < h.size) (hb : rCell.rep G h ds b) (hG : ∀ b, G b → b < h.size) :
    CallH Tryz.prog 33 #[.agg cs.toArray, .agg ds.toArray] h fun r h' => (∃ t : Bool, r = .bool t ∧ (t = true ↔ a = b)) ∧ Keep none_ h h' := by
  refine callH_by fun K hK => ?_
  refine enter [.tmp 4] Tryz.func33 rfl rfl (by kernel_rfl) rfl ?_
  obtain ⟨kv, sv, nv, xv, rfl, r1, r2, r3, r4⟩ := ha
  obtain ⟨ka, kc, rfl, _, _⟩ := r1.val
  obtain ⟨s1, sc, rfl, _, _⟩ := r2.val
  obtain ⟨na, nc, rfl, _, _⟩ := r3.val
  obtain ⟨xa, xc, rfl, _, _⟩ := r4.val
  obtain ⟨kv', sv', nv', xv', rfl, q1, q2, q3, q4⟩ := hb
  obtain ⟨ka', kc', rfl, _, _⟩ := q1.val
  obtain ⟨sa', sc', rfl, _, _⟩ := q2.val
  obtain ⟨na', nc', rfl, _, _⟩ := q3.val
  obtain ⟨xa', xc', rfl, _, _⟩ := q4.val
  simp -dsimp [boxS_eq]
  generalize hB : Array.push _ _ = h0
  have hz0 : h0.size = h.size + 2 := by rw [← hB]; simp
  have k0 : Keep none_ h h0 := by rw [← hB]; exact ((Keep.refl none_ h).pushed _).pushed _
  have hp1 : ∀ o, (h.push o).size = h.size + 1 := fun o => by simp
  have hA : h0[h.size]? = some (.cells #[.slice ka a.key.length kc, .int .i64 a.count, .slice s1 a.sum.length sc, .slice na a.mn.length nc, .slice xa a.mx.length xc] 46 (0, 0)) := by rw [← hB]; exact push_at (push_new _ _)
  have hB0 : h0[h.size + 1]? = some (.cells #[.slice ka' b.key.length kc', .int .i64 b.count, .slice sa' b.sum.length sc', .slice na' b.mn.length nc', .slice xa' b.mx.length xc'] 46 (0, 0)) := by
    rw [← hB, ← hp1]; exact push_new _ _
  have m1 : ∀ b, F b → F b ∧ h0[b]? = h[b]? := fun b hb => ⟨hb, k0.blk b (hF b hb) (fun h => h)⟩
  have m2 : ∀ b, G b → G b ∧ h0[b]? = h[b]? := fun b hb => ⟨hb, k0.blk b (hG b hb) (fun h => h)⟩
  by_cases hcn : a.count = b.count
  · have hcb : (b.count == b.count) = true := beq_self_eq_true _
    simp -dsimp [hA, hB0, hcn]
    refine call_by (ints_spec (r1.mono m1) (q1.mono m2)) ?_
    rintro _ h1 ⟨rfl, hh⟩
    obtain rfl := hh.symm
    by_cases hk : a.key = b.key
    · rw [decide_eq_true hk]
      simp -dsimp [hA, hB0]
      refine call_by (ints_spec (r2.mono m1) (q2.mono m2)) ?_
      rintro _ h1 ⟨rfl, hh⟩
      obtain rfl := hh.symm
      by_cases hs : a.sum = b.sum
      · rw [decide_eq_true hs]
        simp -dsimp [hA, hB0]
        refine call_by (ints_spec (r3.mono m1) (q3.mono m2)) ?_
        rintro _ h1 ⟨rfl, hh⟩
        obtain rfl := hh.symm
        by_cases hm : a.mn = b.mn
        · rw [decide_eq_true hm]
          simp -dsimp [hA, hB0]
          refine call_by (ints_spec (r4.mono m1) (q4.mono m2)) ?_
          rintro _ h1 ⟨rfl, hh⟩
          obtain rfl := hh.symm
          simp -dsimp
          exact hK _ _ ⟨⟨_, rfl, by rw [decide_eq_true_iff]; exact ⟨fun h => cellM_ext hcn hk hs hm h, fun h => by rw [h]⟩⟩, k0⟩
        · rw [decide_eq_false hm]
          simp -dsimp
          exact hK _ _ ⟨⟨_, rfl, by simp; exact fun h => hm (by rw [h])⟩, k0⟩
      · rw [decide_eq_false hs]
        simp -dsimp
        exact hK _ _ ⟨⟨_, rfl, by simp; exact fun h => hs (by rw [h])⟩, k0⟩
    · rw [decide_eq_false hk]
      simp -dsimp
      exact hK _ _ ⟨⟨_, rfl, by simp; exact fun h => hk (by rw [h])⟩, k0⟩
  · have hcb : (a.count == b.count) = false := beq_eq_false_iff_ne.2 hcn
    simp -dsimp [hA, hB0, hcb]
    exact hK _ _ ⟨⟨_, rfl, by simp; exact fun h => hcn (by rw [h])⟩, k0⟩
end Go.Proofs

/-
  The program's table in memory; where a key is found.
-/
namespace Go.Proofs
open Go Go.HC

structure TabC (h : Heap) (T : Tab) (bs : Nat) (sv : Value) (os : Option Nat) (R : Nat → Prop) : Prop where
  str : h[bs]? = some (.cells #[sv, .int .i64 (takenM T)] 126 (0, 0))
  slots : Grow rSlot 128 R h sv T os
  sep : ∀ b, R b → b < h.size ∧ b ≠ bs ∧ os ≠ some b
  o1 : os ≠ some bs
  ok : TabOk T
def tfoot (bs : Nat) (os : Option Nat) (R : Nat → Prop) : Nat → Prop := fun b => b = bs ∨ os = some b ∨ R b
theorem TabC.lt {h : Heap} {T : Tab} {bs : Nat} {sv : Value} {os : Option Nat} {R : Nat → Prop} (s : TabC h T bs sv os R) : ∀ b, tfoot bs os R b → b < h.size := by
  rintro b (rfl | ho | hr)
  · exact lt_of_blk s.str
  · exact s.slots.own_lt b ho
  · exact (s.sep b hr).1
theorem TabC.mono {h h' : Heap} {T : Tab} {bs : Nat} {sv : Value} {os : Option Nat} {R : Nat → Prop} (s : TabC h T bs sv os R) (hs : h.size ≤ h'.size) (hk : ∀ b, tfoot bs os R b → h'[b]? = h[b]?) : TabC h' T bs sv os R where
  str := (hk bs (.inl rfl)).trans s.str
  slots := s.slots.mono (fun b hb => ⟨hb, hk b (.inr (.inr hb))⟩) fun b hb => ⟨fun hR => (s.sep b hR).2.2 hb, hk b (.inr (.inl hb))⟩
  sep := fun b hb => ⟨Nat.lt_of_lt_of_le (s.sep b hb).1 hs, (s.sep b hb).2⟩
  o1 := s.o1
  ok := s.ok
def TabAt (v : Value) (F : Nat → Prop) (h : Heap) (T : Tab) : Prop := ∃ bs sv os R, v = .pointer (some ⟨bs, 0, none⟩) ∧ F = tfoot bs os R ∧ TabC h T bs sv os R
theorem TabC.at {h : Heap} {T : Tab} {bs : Nat} {sv : Value} {os : Option Nat} {R : Nat → Prop} (s : TabC h T bs sv os R) : TabAt (.pointer (some ⟨bs, 0, none⟩)) (tfoot bs os R) h T := ⟨bs, sv, os, R, rfl, rfl, s⟩
theorem TabAt.lt {v : Value} {F : Nat → Prop} {h : Heap} {T : Tab} (s : TabAt v F h T) : ∀ b, F b → b < h.size := by
  obtain ⟨bs, sv, os, R, rfl, rfl, s⟩ := s
  exact s.lt
theorem TabAt.mono {v : Value} {F : Nat → Prop} {h h' : Heap} {T : Tab} (s : TabAt v F h T) (hs : h.size ≤ h'.size) (hk : ∀ b, F b → h'[b]? = h[b]?) : TabAt v F h' T := by
  obtain ⟨bs, sv, os, R, rfl, rfl, s⟩ := s
  exact ⟨bs, sv, os, R, rfl, rfl, s.mono hs hk⟩
theorem TabAt.keep {v : Value} {F S : Nat → Prop} {h h' : Heap} {T : Tab} (s : TabAt v F h T) (k : Keep S h h') (hS : ∀ b, F b → ¬ S b) : TabAt v F h' T := s.mono k.size fun b hb => k.blk b (s.lt b hb) (hS b hb)

/-- A slot's cells, as they are loaded. -/
theorem slot_cells {R : Nat → Prop} {h : Heap} {cs : List Value} {s : Option CellM} (hr : rSlot.rep R h cs s) : ∃ kv cn sv nv xv, cs = [kv, .int .i64 cn, sv, nv, xv, .bool s.isSome] ∧ SlRep rInt R h kv ((s.map (·.key)).getD []) ∧
    kv.oneCell' = true ∧ sv.oneCell' = true ∧ nv.oneCell' = true ∧ xv.oneCell' = true := by
  cases s with
  | none => exact ⟨_, _, _, _, _, hr, .nil _ _ _, rfl, rfl, rfl, rfl⟩
  | some c =>
    obtain ⟨ds, ⟨kv, sv, nv, xv, rfl, h1, h2, h3, h4⟩, rfl⟩ := hr
    refine ⟨kv, c.count, sv, nv, xv, rfl, h1, ?_, ?_, ?_, ?_⟩
    · obtain ⟨_, _, rfl, _⟩ := h1.val; rfl
    · obtain ⟨_, _, rfl, _⟩ := h2.val; rfl
    · obtain ⟨_, _, rfl, _⟩ := h3.val; rfl
    · obtain ⟨_, _, rfl, _⟩ := h4.val; rfl

set_option maxHeartbeats 40000000 in
set_option maxRecDepth 10000 in
theorem find_spec {v : Value} {F G : Nat → Prop} {h : Heap} {T : Tab} (s : TabAt v F h T) (hT : T.length < 1000000000) {kv : Value} {key : List Int} (hk : SlRep rInt G h kv key) (hG : ∀ b, G b → b < h.size) :
    CallH Tryz.prog 96 #[v, kv] h fun r h' => r = .int .i64 (match findM T key with | some k => (k : Int) | none => -1) ∧ Keep none_ h h' := by
  refine callH_by fun K hK => ?_
  obtain ⟨bs, sv, os, R, rfl, rfl, s⟩ := s
  obtain ⟨ka, kc, rfl, hkc, hkc'⟩ := hk.val
  refine enter [.tmp 4] Tryz.func96 rfl rfl (by kernel_rfl) rfl ?_
  have hs := s.str
  have hRl : ∀ b, R b → b < h.size := fun b hb => (s.sep b hb).1
  obtain ⟨sa, sc, rfl⟩ := s.slots.val
  obtain ⟨hh0, hh1⟩ := hashM_bound key
  simp -dsimp
  refine scope 0 _ rfl (σ := Nat) (fun i => [(0, .pointer (some ⟨bs, 0, none⟩)), (1, .slice ka key.length kc), (5, .int .i64 T.length), (9, .int .i64 (probe key T.length i)), (10, .int .i64 i)]) (fun _ => [])
    (fun i h' => Keep none_ h h' ∧ i < T.length ∧ ∀ j, j < i → hitM T key (probe key T.length j) = false) (fun i => T.length - i) (T.length + 1) (by kernel_rfl) (by kernel_rfl) ?first ?pass
  case' first =>
    by_cases h0 : T.length = 0
    · have hT0 : T = [] := List.eq_nil_of_length_eq_zero h0
      subst hT0
      simp -dsimp [hs]
      exact hK _ _ ⟨rfl, .refl _ _⟩
    · have hne : ((T.length : Int) == 0) = false := beq_eq_false_iff_ne.2 (by omega)
      have hrem : ∀ x : Int, intRes .rem .i64 x (T.length : Int) = some (.int .i64 (x.tmod T.length)) := fun x => intRes_rem _ _ _ (by omega)
      simp -dsimp [hs, hne]
      refine loop' (σ := Nat) (fun k => [(0, .pointer (some ⟨bs, 0, none⟩)), (1, .slice ka key.length kc), (5, .int .i64 T.length), (6, .int .i64 (hashM (key.take k))), (19, .slice ka key.length kc), (20, .int .i64 key.length), (21, .int .i64 k)]) (fun _ => []) (fun k h' => h' = h ∧ k ≤ key.length) (fun k => key.length - k) 0 ?_ rfl ⟨rfl, Nat.zero_le _⟩ (by kernel_rfl) ?_
      · intro p hp
        simp at hp
        rcases hp with rfl | rfl | rfl | rfl | rfl | rfl | rfl <;> simp [hashM]
      · rintro k h' g ⟨hhe, hkk⟩
        have hhe' := hhe.symm
        subst hhe'
        by_cases hkl : k < key.length
        · obtain ⟨b1, o1, v1, rfl, _, hr1, hc1⟩ := hk.get1 rfl k hkl
          have hv1 : v1 = .int .i64 key[k] := by simpa [rInt] using hr1
          subst hv1
          have hidx : ∀ (K : Value → Heap → Prop) (h : Heap), indexAddrS Tryz.prog 22 (.slice (some ⟨b1, o1, none⟩) key.length kc) (.int .i64 (k : Int)) h K = K (.pointer (some ⟨b1, o1 + k, none⟩)) h := by
            intro K h
            rw [indexAddrS_slice _ _ _ _ _ _ (by omega) (by omega) rfl]
            simp [elSz]
          have wk : IntKind.i64.wrap ((k : Int) + 1) = ((k + 1 : Nat) : Int) := by rw [wrap_i64 (by omega) (by omega)]; rfl
          obtain ⟨q0, q1⟩ := hashM_bound (key.take k)
          have hst := hashM_take hkl
          obtain ⟨p0, p1⟩ := tmod_bound (a := key[k]) (n := 1000003) (by decide)
          have w1 : IntKind.i64.wrap (31 * hashM (key.take k)) = 31 * hashM (key.take k) := wrap_i64 (by omega) (by omega)
          have w2 : IntKind.i64.wrap (31 * hashM (key.take k) + (key[k]).tmod 1000003) = 31 * hashM (key.take k) + (key[k]).tmod 1000003 := wrap_i64 (by omega) (by omega)
          have w3 : IntKind.i64.wrap (31 * hashM (key.take k) + (key[k]).tmod 1000003 + 1) = 31 * hashM (key.take k) + (key[k]).tmod 1000003 + 1 := wrap_i64 (by omega) (by omega)
          simp -dsimp [hkl, hidx, hc1, w1, w2, w3, ← hst, wk]
          refine ⟨k + 1, ?_, rfl, ⟨rfl, by omega⟩, by show key.length - (k + 1) < key.length - k; omega⟩
          intro p hp
          simp at hp
          rcases hp with rfl | rfl | rfl | rfl | rfl | rfl | rfl <;> simp
        · have hall : key.take k = key := List.take_of_length_le (by omega)
          obtain ⟨r0, r1⟩ := tmod_bound (a := hashM key) (n := (T.length : Int)) (by omega)
          have w1 : IntKind.i64.wrap ((hashM key).tmod T.length + T.length) = (hashM key).tmod T.length + T.length := wrap_i64 (by omega) (by omega)
          have hpl := placeM_lt key (n := T.length) (by omega)
          have hp0 : ((hashM key).tmod T.length + T.length).tmod T.length = ((probe key T.length 0 : Nat) : Int) := by
            unfold probe
            rw [Nat.add_zero, Nat.mod_eq_of_lt hpl]
            unfold placeM
            rw [Int.toNat_of_nonneg (Int.tmod_nonneg _ (by omega))]
          simp -dsimp [hkl, hall, hrem, w1, hp0, hs]
          have k1 : Keep none_ h h := .refl _ _
          have hi : 0 < T.length := by omega
          have hb : ∀ j, j < 0 → hitM T key (probe key T.length j) = false := fun j hj => by omega
          have s1' := s.mono k1.size fun b hb => k1.blk b (s.lt b hb) (fun h => h)
          have hs1 := s1'.str
          have hrem : ∀ x : Int, intRes .rem .i64 x (T.length : Int) = some (.int .i64 (x.tmod T.length)) := fun x => intRes_rem _ _ _ (by omega)
          have hpl := probe_lt key (n := T.length) (by omega) 0
          have hnx := probe_next key T.length 0
          have hsat : T[probe key T.length 0]? = some T[probe key T.length 0] := List.getElem?_eq_getElem hpl
          generalize hpe : probe key T.length 0 = at_ at hpl hnx hsat ⊢
          obtain ⟨bk, cs, hsa, _, hr, hc⟩ := s1'.slots.elem at_ hpl
          subst hsa
          obtain ⟨wv, cn, sv, nv, xv, rfl, hkey, u1, u2, u3, u4⟩ := slot_cells hr
          have hcells : HC.cellsIn h[bk]? (at_ * 6) 6 = some [wv, .int .i64 cn, sv, nv, xv, .bool T[at_].isSome] := hc
          have hidx : ∀ (K : Value → Heap → Prop) (h : Heap), indexAddrS Tryz.prog 124 (.slice (some ⟨bk, 0, none⟩) T.length sc) (.int .i64 (at_ : Int)) h K = K (.pointer (some ⟨bk, at_ * 6, none⟩)) h := by
            intro K h
            rw [indexAddrS_slice _ _ _ _ _ _ (by omega) (by omega) rfl]
            simp [elSz]
          have w1 : IntKind.i64.wrap ((0 : Int) + 1) = ((0 + 1 : Nat) : Int) := by rw [wrap_i64 (by omega) (by omega)]; rfl
          have w2 : IntKind.i64.wrap ((at_ : Int) + 1) = (at_ : Int) + 1 := wrap_i64 (by omega) (by omega)
          have w3 : ((at_ : Int) + 1).tmod (T.length : Int) = ((probe key T.length (0 + 1) : Nat) : Int) := by
            rw [← hnx]; exact (Int.ofNat_tmod _ _).symm
          simp -dsimp [hidx, hcells, u1, u2, u3, u4]
          generalize hH : Array.setIfInBounds _ h.size _ = h2
          have hz2 : h2.size = h.size + 1 := by rw [← hH]; simp
          have k12 : Keep none_ h h2 := by rw [← hH]; exact ((Keep.refl none_ h).pushed _).setted _ (fun hh => absurd hh (by omega))
          have k2 := k1.trans k12 (fun _ _ h => h)
          have hfb : h2[h.size]? = some (.cells #[wv, .int .i64 cn, sv, nv, xv, .bool T[at_].isSome] 128 (0, 0)) := by rw [← hH]; exact set_same _ (by simp)
          have hkey2 : SlRep rInt R h2 wv ((T[at_].map (·.key)).getD []) := hkey.mono fun b hb => ⟨hb, k12.blk b (by have := hRl b hb; have := k1.size; omega) (fun h => h)⟩
          have hk2 : SlRep rInt G h2 (.slice ka key.length kc) key := hk.mono fun b hb => ⟨hb, k2.blk b (hG b hb) (fun h => h)⟩
          cases hta : T[at_] with
          | none =>
            have hit : hitM T key (probe key T.length 0) = true := by unfold hitM; rw [hpe, hsat, hta]
            have hfm := find_hit hi hb hit
            rw [hta] at hfb
            simp -dsimp
            refine hK _ _ ⟨?_, k2⟩
            rw [hfm, hpe]
          | some c =>
            rw [hta] at hfb hkey2
            simp -dsimp [hfb]
            refine call_by (equal_spec hkey2 hk2) ?_
            rintro _ h2' ⟨rfl, hh⟩
            obtain rfl := hh.symm
            have hke : ((Option.map (fun x => x.key) (some c)).getD []) = c.key := rfl
            rw [hke]
            have hhit : hitM T key (probe key T.length 0) = decide (c.key = key) := by unfold hitM; rw [hpe, hsat, hta]
            by_cases he : c.key = key
            · have hd : decide (c.key = key) = true := decide_eq_true he
              rw [hd]
              have hfm := find_hit hi hb (hhit.trans hd)
              simp -dsimp
              refine hK _ _ ⟨?_, k2⟩
              rw [hfm, hpe]
            · have hd : decide (c.key = key) = false := decide_eq_false he
              rw [hd]
              have hb' : ∀ j, j < 0 + 1 → hitM T key (probe key T.length j) = false := fun j hj => by
                by_cases hji : j < 0
                · exact hb j hji
                · have : j = 0 := by omega
                  subst this
                  exact hhit.trans hd
              by_cases hin : 0 + 1 < T.length
              · have hin' : (((0 + 1 : Nat) : Int) < (T.length : Int)) := by omega
                have v1 : IntKind.i64.wrap 1 = 1 := by decide
                have v2 : (1 : Int) < (T.length : Int) := by omega
                have v3 : 1 < T.length := by omega
                simp -dsimp [v1, v2, w2, hrem, w3]
                refine ⟨rfl, 0 + 1, ?_, rfl, ⟨k2, hin, hb'⟩, by show T.length - (0 + 1) < T.length + 1; omega⟩
                intro p hp
                simp at hp
                rcases hp with rfl | rfl | rfl | rfl | rfl <;> simp
              · have hin' : ¬ (((0 + 1 : Nat) : Int) < (T.length : Int)) := by omega
                have hfm := find_miss (T := T) (key := key) fun j hj => hb' j (by omega)
                have v1 : IntKind.i64.wrap 1 = 1 := by decide
                have v2 : ¬ (1 : Int) < (T.length : Int) := by omega
                have v3 : ¬ 1 < T.length := by omega
                simp -dsimp [v1, v2]
                refine hK _ _ ⟨?_, k2⟩
                rw [hfm]
  case' pass =>
    rintro i h1 g ⟨k1, hi, hb⟩
    have s1' := s.mono k1.size fun b hb => k1.blk b (s.lt b hb) (fun h => h)
    have hs1 := s1'.str
    have hrem : ∀ x : Int, intRes .rem .i64 x (T.length : Int) = some (.int .i64 (x.tmod T.length)) := fun x => intRes_rem _ _ _ (by omega)
    have hpl := probe_lt key (n := T.length) (by omega) i
    have hnx := probe_next key T.length i
    have hsat : T[probe key T.length i]? = some T[probe key T.length i] := List.getElem?_eq_getElem hpl
    generalize hpe : probe key T.length i = at_ at hpl hnx hsat ⊢
    obtain ⟨bk, cs, hsa, _, hr, hc⟩ := s1'.slots.elem at_ hpl
    subst hsa
    obtain ⟨wv, cn, sv, nv, xv, rfl, hkey, u1, u2, u3, u4⟩ := slot_cells hr
    have hcells : HC.cellsIn h1[bk]? (at_ * 6) 6 = some [wv, .int .i64 cn, sv, nv, xv, .bool T[at_].isSome] := hc
    have hidx : ∀ (K : Value → Heap → Prop) (h : Heap), indexAddrS Tryz.prog 124 (.slice (some ⟨bk, 0, none⟩) T.length sc) (.int .i64 (at_ : Int)) h K = K (.pointer (some ⟨bk, at_ * 6, none⟩)) h := by
      intro K h
      rw [indexAddrS_slice _ _ _ _ _ _ (by omega) (by omega) rfl]
      simp [elSz]
    have w1 : IntKind.i64.wrap ((i : Int) + 1) = (i : Int) + 1 := wrap_i64 (by omega) (by omega)
    have w2 : IntKind.i64.wrap ((at_ : Int) + 1) = (at_ : Int) + 1 := wrap_i64 (by omega) (by omega)
    have w3 : ((at_ : Int) + 1).tmod (T.length : Int) = ((probe key T.length (i + 1) : Nat) : Int) := by
      rw [← hnx]; exact (Int.ofNat_tmod _ _).symm
    simp -dsimp [hs1, hidx, hcells, u1, u2, u3, u4]
    generalize hH : Array.setIfInBounds _ h1.size _ = h2
    have hz2 : h2.size = h1.size + 1 := by rw [← hH]; simp
    have k12 : Keep none_ h1 h2 := by rw [← hH]; exact ((Keep.refl none_ h1).pushed _).setted _ (fun hh => absurd hh (by omega))
    have k2 := k1.trans k12 (fun _ _ h => h)
    have hfb : h2[h1.size]? = some (.cells #[wv, .int .i64 cn, sv, nv, xv, .bool T[at_].isSome] 128 (0, 0)) := by rw [← hH]; exact set_same _ (by simp)
    have hkey2 : SlRep rInt R h2 wv ((T[at_].map (·.key)).getD []) := hkey.mono fun b hb => ⟨hb, k12.blk b (by have := hRl b hb; have := k1.size; omega) (fun h => h)⟩
    have hk2 : SlRep rInt G h2 (.slice ka key.length kc) key := hk.mono fun b hb => ⟨hb, k2.blk b (hG b hb) (fun h => h)⟩
    cases hta : T[at_] with
    | none =>
      have hit : hitM T key (probe key T.length i) = true := by unfold hitM; rw [hpe, hsat, hta]
      have hfm := find_hit hi hb hit
      rw [hta] at hfb
      simp -dsimp
      refine hK _ _ ⟨?_, k2⟩
      rw [hfm, hpe]
    | some c =>
      rw [hta] at hfb hkey2
      simp -dsimp [hfb]
      refine call_by (equal_spec hkey2 hk2) ?_
      rintro _ h2' ⟨rfl, hh⟩
      obtain rfl := hh.symm
      have hke : ((Option.map (fun x => x.key) (some c)).getD []) = c.key := rfl
      rw [hke]
      have hhit : hitM T key (probe key T.length i) = decide (c.key = key) := by unfold hitM; rw [hpe, hsat, hta]
      by_cases he : c.key = key
      · have hd : decide (c.key = key) = true := decide_eq_true he
        rw [hd]
        have hfm := find_hit hi hb (hhit.trans hd)
        simp -dsimp
        refine hK _ _ ⟨?_, k2⟩
        rw [hfm, hpe]
      · have hd : decide (c.key = key) = false := decide_eq_false he
        rw [hd]
        have hb' : ∀ j, j < i + 1 → hitM T key (probe key T.length j) = false := fun j hj => by
          by_cases hji : j < i
          · exact hb j hji
          · have : j = i := by omega
            subst this
            exact hhit.trans hd
        by_cases hin : i + 1 < T.length
        · have hin' : ((i : Int) + 1 < (T.length : Int)) := by omega
          simp -dsimp [w1, hin', w2, hrem, w3]
          refine ⟨rfl, i + 1, ?_, rfl, ⟨k2, hin, hb'⟩, by show T.length - (i + 1) < T.length - i; omega⟩
          intro p hp
          simp at hp
          rcases hp with rfl | rfl | rfl | rfl | rfl <;> simp
        · have hin' : ¬ ((i : Int) + 1 < (T.length : Int)) := by omega
          have hfm := find_miss (T := T) (key := key) fun j hj => hb' j (by omega)
          simp -dsimp [w1, hin']
          refine hK _ _ ⟨?_, k2⟩
          rw [hfm]
end Go.Proofs

/-
  Cells in memory of their own.
-/
namespace Go.HC
/-- No row of a cell is too long. -/
structure CellSmall (c : CellM) : Prop where
  key : c.key.length < 1000000000
  sum : c.sum.length < 1000000000
  mn : c.mn.length < 1000000000
  mx : c.mx.length < 1000000000
end Go.HC
namespace Go.Proofs
open Go Go.HC

set_option maxHeartbeats 40000000 in
set_option maxRecDepth 10000 in
theorem cellOwn_th {F : Nat → Prop} {h : Heap} {cs : List Value} {c : CellM} (hr : rCell.rep F h cs c) (hF : ∀ b, F b → b < h.size) (hc : CellSmall c) :
    CallH Tryz.prog 47 #[.agg cs.toArray] h fun r h' => ∃ ds G, r = .agg ds.toArray ∧ rCell.rep G h' ds c ∧ Keep none_ h h' ∧ (∀ b, G b → h.size ≤ b ∧ b < h'.size) ∧ ∀ b, G b → Thaw h' b := by
  refine callH_by fun K hK => ?_
  refine enter [.cell 2 46] Tryz.func47 rfl rfl (by kernel_rfl) rfl ?_
  obtain ⟨kv, sv, nv, xv, rfl, r1, r2, r3, r4⟩ := hr
  obtain ⟨ka, kc, rfl, _, _⟩ := r1.val
  obtain ⟨sa, sc, rfl, _, _⟩ := r2.val
  obtain ⟨na, nc, rfl, _, _⟩ := r3.val
  obtain ⟨xa, xc, rfl, _, _⟩ := r4.val
  simp -dsimp [boxS_eq]
  generalize hB : (h.push _).push _ = h0
  have hz0 : h0.size = h.size + 2 := by rw [← hB]; simp
  have k0 : Keep none_ h h0 := by rw [← hB]; exact ((Keep.refl none_ h).pushed _).pushed _
  have hb0 : h0[h.size]? = some (.cells #[.slice ka c.key.length kc, .int .i64 c.count, .slice sa c.sum.length sc, .slice na c.mn.length nc, .slice xa c.mx.length xc] 46 (0, 0)) := by rw [← hB]; exact push_at (push_new _ _)
  have ht0 : h.size + 1 < h0.size := by omega
  have m1 : ∀ (h' : Heap), Keep none_ h h' → ∀ b, F b → F b ∧ h'[b]? = h[b]? := fun h' k b hb => ⟨hb, k.blk b (hF b hb) (fun h => h)⟩
  refine drawn_by [⟨0, true, []⟩, ⟨1, true, []⟩, ⟨3, true, []⟩, ⟨4, true, []⟩, ⟨5, true, []⟩, ⟨6, true, []⟩, ⟨8, true, []⟩, ⟨9, true, []⟩, ⟨11, true, []⟩, ⟨12, true, []⟩, ⟨2, false, [3, 4, 5, 6, 8, 9, 11, 12]⟩, ⟨7, false, [3, 4, 8, 9, 11, 12]⟩, ⟨10, false, [3, 4, 11, 12]⟩, ⟨13, false, [3, 4]⟩, ⟨14, false, []⟩, ⟨15, false, []⟩] (by kernel_rfl) (by kernel_rfl) ?_
  simp -dsimp [hb0]
  refine call_by (cloneInt_spec (r1.mono (m1 h0 k0)) (fun b hb => by have := hF b hb; omega) (by have := hc.key; omega)) ?_
  rintro _ h1 ⟨o1, g1, k1, n1⟩
  obtain ⟨a1, c1, rfl⟩ := g1.val
  have k01 := k0.trans k1 (fun _ _ h => h)
  have hb1 := k1.at hb0 (fun h => h)
  have e1 := k1.size
  simp -dsimp [again_cons, hb1]
  refine call_by (cloneInt_spec (r2.mono (m1 h1 k01)) (fun b hb => by have := hF b hb; omega) (by have := hc.sum; omega)) ?_
  rintro _ h2 ⟨o2, g2, k2, n2⟩
  obtain ⟨a2, c2, rfl⟩ := g2.val
  have k02 := k01.trans k2 (fun _ _ h => h)
  have hb2 := k2.at hb1 (fun h => h)
  have e2 := k2.size
  simp -dsimp [again_cons, hb2]
  refine call_by (cloneInt_spec (r3.mono (m1 h2 k02)) (fun b hb => by have := hF b hb; omega) (by have := hc.mn; omega)) ?_
  rintro _ h3 ⟨o3, g3, k3, n3⟩
  obtain ⟨a3, c3, rfl⟩ := g3.val
  have k03 := k02.trans k3 (fun _ _ h => h)
  have hb3 := k3.at hb2 (fun h => h)
  have e3 := k3.size
  simp -dsimp [again_cons, hb3]
  refine call_by (cloneInt_spec (r4.mono (m1 h3 k03)) (fun b hb => by have := hF b hb; omega) (by have := hc.mx; omega)) ?_
  rintro _ h4 ⟨o4, g4, k4, n4⟩
  obtain ⟨a4, c4, rfl⟩ := g4.val
  have k04 := k03.trans k4 (fun _ _ h => h)
  have hb4 := k4.at hb3 (fun h => h)
  have e4 := k4.size
  have ht4 : h4[h.size + 1]? = some (.cells #[.slice none 0 0, .int .i64 0, .slice none 0 0, .slice none 0 0, .slice none 0 0] 46 (0, 0)) := by
    have : h0[h.size + 1]? = some (.cells #[.slice none 0 0, .int .i64 0, .slice none 0 0, .slice none 0 0, .slice none 0 0] 46 (0, 0)) := by
      rw [← hB]
      have : (h.push (.cells #[.slice ka c.key.length kc, .int .i64 c.count, .slice sa c.sum.length sc, .slice na c.mn.length nc, .slice xa c.mx.length xc] 46)).size = h.size + 1 := by simp
      rw [← this]; exact push_new _ _
    exact k4.at (k3.at (k2.at (k1.at this (fun h => h)) (fun h => h)) (fun h => h)) (fun h => h)
  have hset : ∀ o, (h4.setIfInBounds (h.size + 1) o)[h.size + 1]? = some o := fun o => set_same o (by omega)
  simp -dsimp [again_cons, hb4, ht4, hset]
  generalize hH : h4.setIfInBounds (h.size + 1) _ = h5
  have hz5 : h5.size = h4.size := by rw [← hH]; simp
  have hold : ∀ b, b ≠ h.size + 1 → h5[b]? = h4[b]? := fun b hn => by rw [← hH, set_other _ (fun e => hn e.symm)]
  have l1 := g1.own_lt
  have l2 := g2.own_lt
  have l3 := g3.own_lt
  have l4 := g4.own_lt
  refine hK _ _ ⟨_, fun b => o1 = some b ∨ o2 = some b ∨ o3 = some b ∨ o4 = some b, rfl, ⟨_, _, _, _, rfl, ?_, ?_, ?_, ?_⟩, ⟨by omega, fun b hb _ => by rw [hold b (by omega), k04.blk b hb (fun h => h)]⟩, ?_, ?_⟩
  · exact g1.ints.mono fun b hb => ⟨.inl hb, by
      have := n1 b hb
      have := l1 b hb
      rw [hold b (by omega), k4.blk b (by omega) (fun h => h), k3.blk b (by omega) (fun h => h), k2.blk b (by omega) (fun h => h)]⟩
  · exact g2.ints.mono fun b hb => ⟨.inr (.inl hb), by
      have := n2 b hb
      have := l2 b hb
      rw [hold b (by omega), k4.blk b (by omega) (fun h => h), k3.blk b (by omega) (fun h => h)]⟩
  · exact g3.ints.mono fun b hb => ⟨.inr (.inr (.inl hb)), by
      have := n3 b hb
      have := l3 b hb
      rw [hold b (by omega), k4.blk b (by omega) (fun h => h)]⟩
  · exact g4.ints.mono fun b hb => ⟨.inr (.inr (.inr hb)), by
      have := n4 b hb
      rw [hold b (by omega)]⟩
  · rintro b (hb | hb | hb | hb)
    · have := n1 b hb; have := l1 b hb; omega
    · have := n2 b hb; have := l2 b hb; omega
    · have := n3 b hb; have := l3 b hb; omega
    · have := n4 b hb; have := l4 b hb; omega
  · rintro b (hb | hb | hb | hb)
    · refine (g1.thaw b hb).at ?_
      have := n1 b hb; have := l1 b hb
      rw [hold b (by omega), k4.blk b (by omega) (fun h => h), k3.blk b (by omega) (fun h => h), k2.blk b (by omega) (fun h => h)]
    · refine (g2.thaw b hb).at ?_
      have := n2 b hb; have := l2 b hb
      rw [hold b (by omega), k4.blk b (by omega) (fun h => h), k3.blk b (by omega) (fun h => h)]
    · refine (g3.thaw b hb).at ?_
      have := n3 b hb; have := l3 b hb
      rw [hold b (by omega), k4.blk b (by omega) (fun h => h)]
    · refine (g4.thaw b hb).at ?_
      have := n4 b hb
      rw [hold b (by omega)]
theorem cellOwn_spec {F : Nat → Prop} {h : Heap} {cs : List Value} {c : CellM} (hr : rCell.rep F h cs c) (hF : ∀ b, F b → b < h.size) (hc : CellSmall c) :
    CallH Tryz.prog 47 #[.agg cs.toArray] h fun r h' => ∃ ds G, r = .agg ds.toArray ∧ rCell.rep G h' ds c ∧ Keep none_ h h' ∧ ∀ b, G b → h.size ≤ b ∧ b < h'.size :=
  (cellOwn_th hr hF hc).mono fun _ _ ⟨ds, G, e, r, k, n, _⟩ => ⟨ds, G, e, r, k, n⟩

set_option maxRecDepth 10000 in
theorem add_spec (x y : Int) (h : Heap) : CallH Tryz.prog 77 #[.int .i64 x, .int .i64 y] h fun r h' => r = .int .i64 (IntKind.i64.wrap (x + y)) ∧ h' = h := by
  refine enter [.tmp 4] Tryz.func77 rfl rfl (by kernel_rfl) rfl ?_
  simp -dsimp
set_option maxRecDepth 10000 in
theorem min_spec (x y : Int) (h : Heap) : CallH Tryz.prog 78 #[.int .i64 x, .int .i64 y] h fun r h' => r = .int .i64 (min x y) ∧ h' = h := by
  refine enter [.tmp 4] Tryz.func78 rfl rfl (by kernel_rfl) rfl ?_
  simp -dsimp
  done
set_option maxRecDepth 10000 in
theorem max_spec (x y : Int) (h : Heap) : CallH Tryz.prog 79 #[.int .i64 x, .int .i64 y] h fun r h' => r = .int .i64 (max x y) ∧ h' = h := by
  refine enter [.tmp 4] Tryz.func79 rfl rfl (by kernel_rfl) rfl ?_
  simp -dsimp
  done
end Go.Proofs

/-
  HC, part 23: a drawn region in which operations stand in no order, whatever they do; each one's own promise is kept whatever else has been done ahead.
-/
namespace Go.HC
/-- What is said of an operation: it looks, and sees v; or it acts, leaves all older blocks, and promises Q. -/
inductive Sp
  | look (v : Value)
  | act (Q : Value → Heap → Prop)
abbrev Sps := List (List Nat × Sp)
def dstOf (ops : List Oper) (i : Nat) : Option Tmp := (ops[i]?).bind (·.dst)
def rdsOf (sp : Sps) (i : Nat) : List Nat := ((sp[i]?).map (·.1)).getD []
/-- What earlier operations promised, as the frame shows it. -/
def rdS (ops : List Oper) (sp : Sps) (h1 : Heap) : List Nat → L → (L → Prop) → Prop
  | [], l, C => C l
  | j :: js, l, C => match sp[j]? with
    | some (_, .look v) => rdS ops sp h1 js (putl (dstOf ops j) v l) C
    | some (_, .act Q) => ∀ v hj, Q v hj → Keep none_ hj h1 → rdS ops sp h1 js (putl (dstOf ops j) v l) C
    | none => False
/-- The same, looked up. -/
def item (ops : List Oper) (sp : Sps) (j : Nat) : Option Tmp × Option Sp := (dstOf ops j, (sp[j]?).map (·.2))
def rdI (h1 : Heap) : List (Option Tmp × Option Sp) → L → (L → Prop) → Prop
  | [], l, C => C l
  | (d, s) :: r, l, C => match s with
    | some (.look v) => rdI h1 r (putl d v l) C
    | some (.act Q) => ∀ v hj, Q v hj → Keep none_ hj h1 → rdI h1 r (putl d v l) C
    | none => False
def doS (P : Program) (o : Option Oper) (s : Sp) (l : L) (b : Base) (h1 : Heap) : Prop :=
  match o with
  | none => False
  | some o => match s with
    | .look v => vop P o.op (ev l b) h1 = some v
    | .act Q => os P o l b h1 (fun v h2 => Keep none_ h1 h2 ∧ Q v h2)
def obl (P : Program) (ops : List Oper) (sp : Sps) (l : L) (b : Base) (h : Heap) : Nat → Sps → Prop
  | _, [] => True
  | i, (rd, s) :: rest => (∀ h1, Keep none_ h h1 → rdS ops sp h1 rd l (fun l' => doS P ops[i]? s l' b h1)) ∧ obl P ops sp l b h (i + 1) rest

def anyOk (ops : List Oper) (rds : List (List Nat)) (tail : List Di) : Bool :=
  (!Region.departs ops.toArray || (upM .text ops.toArray && upM .gc ops.toArray)) && upB ops.toArray && Region.noSelect ops.toArray && decide (rds.length ≤ ops.length) &&
  ((List.range rds.length).all fun i => match ops[i]? with
    | none => false
    | some o => o.guard.isNone && o.dst.isSome && ((rds.getD i []).all fun j => decide (j < rds.length) && (depsOf ops.toArray i).contains j) &&
      o.op.operands.toList.all fun x => match x with
        | .tmp t => ((rds.getD i []).any fun j => dstOf ops j == some t) || ((List.range rds.length).all fun j => dstOf ops j != some t)
        | _ => true) &&
  ((List.range rds.length).all fun i => (List.range rds.length).all fun j => i == j || dstOf ops i != dstOf ops j) &&
  (tail.all fun d => decide (rds.length ≤ d.i) && (List.range rds.length).all fun x => anc ops.toArray ops.length x d.i) &&
  pairB ops.toArray tail && (List.range rds.length ++ tail.map (·.i)).isPerm (List.range ops.length) &&
  tail.all fun d => !d.mv || (match ops[d.i]? with | some o => valOp o.op | none => false)

def putsL (ops : List Oper) (vals : Nat → Value) : List Nat → L → L
  | [], l => l
  | j :: js, l => putsL ops vals js (putl (dstOf ops j) (vals j) l)

section
variable {P : Program} {ops : List Oper} {sp : Sps}
def Post (sp : Sps) (i : Nat) (v : Value) (h1 : Heap) : Prop :=
  match sp[i]? with
  | some (_, .look u) => v = u
  | some (_, .act Q) => ∃ hj, Q v hj ∧ Keep none_ hj h1
  | none => False
theorem Post.keep {i : Nat} {v : Value} {h1 h2 : Heap} (hp : Post sp i v h1) (k : Keep none_ h1 h2) : Post sp i v h2 := by
  unfold Post at hp ⊢
  split at hp
  · exact hp
  · obtain ⟨hj, hq, hk⟩ := hp
    exact ⟨hj, hq, hk.trans k fun _ _ h => h⟩
  · exact hp
theorem rdS_use {h1 : Heap} {vals : Nat → Value} {C : L → Prop} : ∀ (js : List Nat) {l : L}, (∀ j ∈ js, Post sp j (vals j) h1) → rdS ops sp h1 js l C → C (putsL ops vals js l)
  | [], _, _, h => h
  | j :: js, l, hp, h => by
    have hj := hp j (List.mem_cons_self ..)
    have hp' : ∀ j ∈ js, Post sp j (vals j) h1 := fun i hi => hp i (List.mem_cons_of_mem _ hi)
    unfold rdS at h
    unfold Post at hj
    split at h
    · rename_i hs
      rw [hs] at hj
      have hj : vals j = _ := hj
      rw [← hj] at h
      exact rdS_use js hp' h
    · rename_i hs
      rw [hs] at hj
      obtain ⟨hh, hq, hk⟩ := hj
      exact rdS_use js hp' (h _ _ hq hk)
    · exact h.elim
theorem rdS_mono {h1 : Heap} {C C' : L → Prop} : ∀ (js : List Nat) {l : L}, rdS ops sp h1 js l C → (∀ l, C l → C' l) → rdS ops sp h1 js l C'
  | [], _, h, hc => hc _ h
  | j :: js, l, h, hc => by
    unfold rdS at h ⊢
    split at h
    · exact rdS_mono js h hc
    · exact fun v hj hq hk => rdS_mono js (h v hj hq hk) hc
    · exact h
theorem rdS_of_rdI {h1 : Heap} {C : L → Prop} : ∀ (js : List Nat) {l : L}, rdI h1 (js.map (item ops sp)) l C → rdS ops sp h1 js l C
  | [], _, h => h
  | j :: js, l, h => by
    unfold rdS
    rw [List.map_cons] at h
    unfold item rdI at h
    split
    · rename_i hs
      rw [hs] at h
      exact rdS_of_rdI js h
    · rename_i hs
      rw [hs] at h
      exact fun v hj hq hk => rdS_of_rdI js (h v hj hq hk)
    · rename_i hs
      rw [hs] at h
      exact h
theorem look_putl_ne {d : Option Tmp} {v : Value} {l : L} {b : Base} {t : Nat} (h : d ≠ some t) : look (putl d v l) b t = look l b t := by
  cases d with
  | none => rfl
  | some d =>
    have hne : d ≠ t := fun e => h (by rw [e])
    simp [putl, hne]
theorem look_puts_ne {vals : Nat → Value} {b : Base} {t : Nat} : ∀ (js : List Nat) {l : L}, (∀ j ∈ js, dstOf ops j ≠ some t) → look (putsL ops vals js l) b t = look l b t
  | [], _, _ => rfl
  | j :: js, l, h => by
    unfold putsL
    rw [look_puts_ne js (fun i hi => h i (List.mem_cons_of_mem _ hi)), look_putl_ne (h j (List.mem_cons_self ..))]
theorem look_puts_eq {vals : Nat → Value} {b : Base} {t j : Nat} (hj : dstOf ops j = some t) : ∀ (js : List Nat) {l : L}, (∀ i ∈ js, dstOf ops i = some t → i = j) → j ∈ js → look (putsL ops vals js l) b t = vals j
  | [], _, _, h => by cases h
  | i :: js, l, hu, h => by
    unfold putsL
    by_cases hm : j ∈ js
    · exact look_puts_eq hj js (fun x hx => hu x (List.mem_cons_of_mem _ hx)) hm
    · have hij : i = j := by
        rcases List.mem_cons.1 h with h | h
        · exact h.symm
        · exact absurd h hm
      subst hij
      rw [look_puts_ne js (fun x hx he => hm (hu x (List.mem_cons_of_mem _ hx) he ▸ hx)), hj]
      simp [putl]
theorem obl_get {l : L} {b : Base} {h : Heap} : ∀ (rest : Sps) (i : Nat) {k : Nat} {rd : List Nat} {s : Sp}, obl P ops sp l b h i rest → rest[k]? = some (rd, s) →
    ∀ h1, Keep none_ h h1 → rdS ops sp h1 rd l (fun l' => doS P ops[i + k]? s l' b h1)
  | [], _, _, _, _, _, hk => by simp at hk
  | (rd', s') :: rest, i, k, rd, s, ho, hk => by
    cases k with
    | zero =>
      simp only [List.getElem?_cons_zero, Option.some.injEq, Prod.mk.injEq] at hk
      obtain ⟨rfl, rfl⟩ := hk
      exact ho.1
    | succ k =>
      rw [List.getElem?_cons_succ] at hk
      have := obl_get rest (i + 1) ho.2 hk
      rw [show i + 1 + k = i + (k + 1) by omega] at this
      exact this

/-- What holds while operations are done. -/
structure Mid (P : Program) (ops : List Oper) (sp : Sps) (n : Nat) (l : L) (b : Base) (h : Heap) (E : List Nat) (a : Act) (h1 : Heap) : Prop where
  size : a.tmps.size = n
  defers : a.defers = b.d.map markOf
  other : ∀ t, (∀ j ∈ E, dstOf ops j ≠ some t) → a.tmps.getD t undef = look l b t
  val : ∀ j ∈ E, ∃ d, dstOf ops j = some d ∧ Post sp j (a.tmps.getD d undef) h1
  keep : Keep none_ h h1
def valsOf (ops : List Oper) (a : Act) (j : Nat) : Value := match dstOf ops j with | some d => a.tmps.getD d undef | none => undef
theorem Mid.post {n : Nat} {l : L} {b : Base} {h h1 : Heap} {E : List Nat} {a : Act} (m : Mid P ops sp n l b h E a h1) : ∀ j ∈ E, Post sp j (valsOf ops a j) h1 := by
  intro j hj
  obtain ⟨d, hd, hp⟩ := m.val j hj
  unfold valsOf
  rw [hd]; exact hp
theorem Mid.look {n : Nat} {l : L} {b : Base} {h h1 : Heap} {E : List Nat} {a : Act} (m : Mid P ops sp n l b h E a h1) {js : List Nat} (hjs : ∀ j ∈ js, j ∈ E) (hu : ∀ i ∈ E, ∀ j ∈ E, dstOf ops i = dstOf ops j → i = j) {t : Nat}
    (ht : (∃ j ∈ js, dstOf ops j = some t) ∨ ∀ j ∈ E, dstOf ops j ≠ some t) : a.tmps.getD t undef = HC.look (putsL ops (valsOf ops a) js l) b t := by
  by_cases hex : ∃ j ∈ js, dstOf ops j = some t
  · obtain ⟨j, hj, hd⟩ := hex
    rw [look_puts_eq hd js (fun i hi he => hu i (hjs i hi) j (hjs j hj) (by rw [he, hd])) hj]
    unfold valsOf
    rw [hd]
  · have hE := ht.resolve_left hex
    rw [look_puts_ne js (fun j hj => hE j (hjs j hj))]
    exact m.other t hE
theorem getD_setIfInBounds (a : Array Value) (d t : Nat) (v : Value) (hd : d < a.size) : (a.setIfInBounds d v).getD t undef = if d = t then v else a.getD t undef := by
  by_cases h : d = t
  · subst h; simp [hd]
  · simp [h, Array.getElem?_setIfInBounds_ne h]
theorem Mid.step {n : Nat} {l : L} {b : Base} {h h1 h2 : Heap} {E : List Nat} {a : Act} {s d : Nat} {v : Value} (m : Mid P ops sp n l b h E a h1) (hd : dstOf ops s = some d) (hdn : d < n) (hu : ∀ j ∈ E, dstOf ops j ≠ some d) (hk : Keep none_ h1 h2) (hp : Post sp s v h2) :
    Mid P ops sp n l b h (s :: E) (a.put (some d) v) h2 := by
  have hsz : d < a.tmps.size := by rw [m.size]; exact hdn
  refine ⟨by simp [Act.put, m.size], m.defers, fun t ht => ?_, fun j hj => ?_, m.keep.trans hk fun _ _ h => h⟩
  · have hne : d ≠ t := fun e => ht s (List.mem_cons_self ..) (by rw [hd, e])
    show (a.tmps.setIfInBounds d v).getD t undef = _
    rw [getD_setIfInBounds _ _ _ _ hsz, if_neg hne]
    exact m.other t fun j hj => ht j (List.mem_cons_of_mem _ hj)
  · show ∃ d', dstOf ops j = some d' ∧ Post sp j ((a.tmps.setIfInBounds d v).getD d' undef) h2
    rcases List.mem_cons.1 hj with rfl | hj
    · refine ⟨d, hd, ?_⟩
      rw [getD_setIfInBounds _ _ _ _ hsz, if_pos rfl]
      exact hp
    · obtain ⟨d', hd', hp'⟩ := m.val j hj
      refine ⟨d', hd', ?_⟩
      rw [getD_setIfInBounds _ _ _ _ hsz, if_neg (fun e => hu j hj (by rw [hd', e]))]
      exact hp'.keep hk
theorem ev_other {l l' : L} {b : Base} {x : Operand} (h : ∀ t, x ≠ .tmp t) : ev l b x = ev l' b x := by
  cases x with
  | tmp t => exact absurd rfl (h t)
  | const v => rfl
  | global k => rfl
  | func f => rfl
theorem any_arun {n : Nat} {κ : L → Base → Heap → Prop} {l : L} {b : Base} {h : Heap} (sp : Sps) (tail : List Di) (hok : anyOk ops (sp.map (·.1)) tail = true) (hopn : opsOk n ops.toArray = true)
    (hob : obl P ops sp l b h 0 sp) (hfin : ∀ h1, Keep none_ h h1 → rdS ops sp h1 (List.range sp.length) l (fun l' => dsem P ops.toArray tail [] κ l' b h1)) :
    ∀ (σ : List Nat) (E : List Nat) (a : Act) (h1 : Heap), (E ++ σ).Perm (List.range ops.length) → (∀ j ∈ E, j < sp.length) → DownC ops.toArray E → Lin ops.toArray E σ → Mid P ops sp n l b h E a h1 →
      arun P ops.toArray σ (fun a' h' => ∃ l', IsFr n a' l' b ∧ κ l' b h') a h1 := by
  unfold anyOk at hok
  simp only [List.length_map] at hok
  rw [Bool.and_eq_true, Bool.and_eq_true, Bool.and_eq_true, Bool.and_eq_true, Bool.and_eq_true, Bool.and_eq_true, Bool.and_eq_true, Bool.and_eq_true, Bool.and_eq_true] at hok
  obtain ⟨⟨⟨⟨⟨⟨⟨⟨⟨_, _⟩, hsel⟩, hle⟩, hops⟩, hdst⟩, htl⟩, hpair⟩, hperm⟩, hval⟩ := hok
  have hle := of_decide_eq_true hle
  have hperm := List.isPerm_iff.1 hperm
  have huniq : ∀ i, i < sp.length → ∀ j, j < sp.length → dstOf ops i = dstOf ops j → i = j := by
    intro i hi j hj he
    have h1 := List.all_eq_true.1 (List.all_eq_true.1 hdst i (List.mem_range.2 hi)) j (List.mem_range.2 hj)
    rcases Bool.or_eq_true_iff.1 h1 with h1 | h1
    · simpa using h1
    · simp [he] at h1
  have hnd : ∀ {σ E : List Nat}, (E ++ σ).Perm (List.range ops.length) → (E ++ σ).Nodup := fun hp => hp.symm.nodup List.nodup_range
  have hfinish : ∀ (σ : List Nat) (E : List Nat) (a : Act) (h1 : Heap), (E ++ σ).Perm (List.range ops.length) → (∀ j ∈ E, j < sp.length) → DownC ops.toArray E → Lin ops.toArray E σ → Mid P ops sp n l b h E a h1 → (∀ i, i < sp.length → i ∈ E) →
      arun P ops.toArray σ (fun a' h' => ∃ l', IsFr n a' l' b ∧ κ l' b h') a h1 := by
    intro σ E a h1 hp hE hdc hlin m hall
    have hEp : E.Perm (List.range sp.length) := (List.perm_ext_iff_of_nodup (List.nodup_append.1 (hnd hp)).1 List.nodup_range).2 fun j => ⟨fun hj => List.mem_range.2 (hE j hj), fun hj => hall j (List.mem_range.1 hj)⟩
    have hσ : σ.Perm (tail.map (·.i)) := by
      have h1 : (E ++ σ).Perm (E ++ tail.map (·.i)) := hp.trans (hperm.symm.trans (hEp.symm.append_right _))
      exact (List.perm_append_left_iff E).1 h1
    have hfr : IsFr n a (putsL ops (valsOf ops a) (List.range sp.length) l) b := by
      refine ⟨m.size, fun t => ?_, m.defers⟩
      refine m.look (fun j hj => hall j (List.mem_range.1 hj)) (fun i hi j hj he => huniq i (hE i hi) j (hE j hj) he) ?_
      by_cases hex : ∃ j ∈ List.range sp.length, dstOf ops j = some t
      · exact .inl hex
      · exact .inr fun j hj he => hex ⟨j, List.mem_range.2 (hE j hj), he⟩
    have hd := rdS_use (ops := ops) (vals := valsOf ops a) (List.range sp.length) (fun j hj => m.post j (hall j (List.mem_range.1 hj))) (hfin h1 m.keep)
    have hval' : tail.all (fun d => !d.mv || (match ops.toArray[d.i]? with | some o => valOp o.op | none => false)) = true := by
      simpa only [List.getElem?_toArray] using hval
    have hcr := crun_of_dsem (P := P) hopn tail (pa := []) hval' (by simp) hfr hd
    refine arun_of_crun hsel σ tail E [] a h1 hσ (List.nodup_append.1 (hnd hp)).2.1 (fun d hd => ?_) hdc hlin (fun d hd he => ?_) hpair hcr
    · have h2 : d.i ∈ List.range ops.length := hperm.subset (List.mem_append_right _ (List.mem_map.2 ⟨d, hd, rfl⟩))
      have h3 := List.mem_range.1 h2
      simp [h3]
    · have h1 := List.all_eq_true.1 htl d hd
      rw [Bool.and_eq_true] at h1
      have h2 := of_decide_eq_true h1.1
      have h3 := hE _ he
      omega
  intro σ
  induction σ with
  | nil =>
    intro E a h1 hp hE hdc hlin m
    refine hfinish [] E a h1 hp hE hdc hlin m fun i hi => ?_
    have := hp.symm.subset (List.mem_range.2 (Nat.lt_of_lt_of_le hi hle))
    simpa using this
  | cons s σ ih =>
    intro E a h1 hp hE hdc hlin m
    by_cases hall : ∀ i, i < sp.length → i ∈ E
    · exact hfinish _ E a h1 hp hE hdc hlin m hall
    have hsm : s < sp.length := by
      refine Classical.byContradiction fun hns => hall fun i hi => ?_
      have hsr : s ∈ List.range sp.length ++ tail.map (·.i) := hperm.symm.subset (hp.subset (List.mem_append_right _ (List.mem_cons_self ..)))
      rcases List.mem_append.1 hsr with h2 | h2
      · exact absurd (List.mem_range.1 h2) hns
      · obtain ⟨d, hd, hds⟩ := List.mem_map.1 h2
        have h3 := List.all_eq_true.1 htl d hd
        rw [Bool.and_eq_true] at h3
        have h4 := List.all_eq_true.1 h3.2 i (List.mem_range.2 hi)
        rw [hds] at h4
        exact anc_mem hdc _ _ _ hlin.1 h4
    have hsE : s ∉ E := fun he => (List.nodup_append.1 (hnd hp)).2.2 _ he _ (List.mem_cons_self ..) rfl
    have hso := List.all_eq_true.1 hops s (List.mem_range.2 hsm)
    have hlt : s < ops.length := Nat.lt_of_lt_of_le hsm hle
    simp only [List.getElem?_eq_getElem hlt] at hso
    have hos : ops.toArray[s]? = some ops[s] := by simp [hlt]
    rw [Bool.and_eq_true, Bool.and_eq_true, Bool.and_eq_true] at hso
    obtain ⟨⟨⟨hg, hds⟩, hrd⟩, hopr⟩ := hso
    obtain ⟨rd, q, hsp⟩ : ∃ rd q, sp[s]? = some (rd, q) := ⟨_, _, List.getElem?_eq_getElem hsm⟩
    have hrde : (sp.map (·.1)).getD s [] = rd := by
      rw [List.getD_eq_getElem?_getD, List.getElem?_map, hsp]; rfl
    rw [hrde] at hrd hopr
    have hrE : ∀ j ∈ rd, j ∈ E := by
      intro j hj
      have h2 := List.all_eq_true.1 hrd j hj
      rw [Bool.and_eq_true] at h2
      exact hlin.1 j (by simpa using h2.2)
    obtain ⟨d, hd⟩ := Option.isSome_iff_exists.1 hds
    have hdst' : dstOf ops s = some d := by unfold dstOf; rw [List.getElem?_eq_getElem hlt]; exact hd
    have hdn : d < n := opsOk_spec hopn hos d hd
    have hgn : ops[s].guard = none := by simpa using hg
    have hwant : wanted ops.toArray ops[s] a = true := by unfold wanted Region.wanted; rw [hgn]
    have hgu : ∀ i ∈ E, ∀ j ∈ E, dstOf ops i = dstOf ops j → i = j := fun i hi j hj he => huniq i (hE i hi) j (hE j hj) he
    have heval : execOp a.eval ops[s] = execOp (ev (putsL ops (valsOf ops a) rd l) b) ops[s] := by
      refine execOp_congr _ (fun cs b => Region.noSelect_spec hsel _ _ cs b hos) fun x hx => ?_
      have hfr0 : IsFr n a [] ⟨fun t => a.tmps.getD t undef, b.d⟩ := ⟨m.size, fun _ => rfl, m.defers⟩
      have h2 := List.all_eq_true.1 hopr x (by simpa using hx)
      cases x with
      | tmp t =>
        refine m.look (js := rd) hrE hgu ?_
        rcases Bool.or_eq_true_iff.1 h2 with h2 | h2
        · obtain ⟨j, hj, he⟩ := List.any_eq_true.1 h2
          exact .inl ⟨j, hj, by simpa using he⟩
        · refine .inr fun j hj he => ?_
          have h3 := List.all_eq_true.1 h2 j (List.mem_range.2 (hE j hj))
          simp [he] at h3
      | const v => rfl
      | global k => rfl
      | func f => rfl
    have hdo := rdS_use (ops := ops) (vals := valsOf ops a) rd (fun j hj => m.post j (hrE j hj)) (obl_get sp 0 hob hsp h1 m.keep)
    rw [Nat.zero_add, List.getElem?_eq_getElem hlt] at hdo
    have hp' : (s :: E ++ σ).Perm (List.range ops.length) := (List.perm_middle.symm).trans hp
    have hE' : ∀ j ∈ s :: E, j < sp.length := fun j hj => by
      rcases List.mem_cons.1 hj with rfl | hj
      · exact hsm
      · exact hE j hj
    have hdc' : DownC ops.toArray (s :: E) := by
      intro y hy z hz
      rcases List.mem_cons.1 hy with rfl | hy
      · exact List.mem_cons_of_mem _ (hlin.1 z hz)
      · exact List.mem_cons_of_mem _ (hdc y hy z hz)
    have hun : ∀ j ∈ E, dstOf ops j ≠ some d := fun j hj he => hsE (huniq j (hE j hj) s hsm (by rw [he, hdst']) ▸ hj)
    simp only [arun, hos]
    rw [if_pos hwant, heval, hd]
    cases q with
    | look v =>
      have hv : vop P ops[s].op (ev (putsL ops (valsOf ops a) rd l) b) h1 = some v := hdo
      have hvs : os P ops[s] (putsL ops (valsOf ops a) rd l) b h1 (fun v' h' => v' = v ∧ h' = h1) := vop_sound hv _ ⟨rfl, rfl⟩
      refine hp_mono _ hvs fun x h' hx => nextK_mono (fun v' h'' hh => ?_) x h' hx
      obtain ⟨rfl, rfl⟩ := hh
      exact ih (s :: E) _ _ hp' hE' hdc' hlin.2 (m.step hdst' hdn hun (.refl _ _) (by unfold Post; rw [hsp]))
    | act Q =>
      have hvs : os P ops[s] (putsL ops (valsOf ops a) rd l) b h1 (fun v h2 => Keep none_ h1 h2 ∧ Q v h2) := hdo
      refine hp_mono _ hvs fun x h' hx => nextK_mono (fun v' h'' hh => ?_) x h' hx
      exact ih (s :: E) _ _ hp' hE' hdc' hlin.2 (m.step hdst' hdn hun hh.1 (by unfold Post; rw [hsp]; exact ⟨_, hh.2, .refl _ _⟩))
/-- A drawn region, in any order. -/
theorem drawn_any {n : Nat} {ro : Option Nat} {id : Nat} {κ : Kont} {l : L} {b : Base} {h : Heap} (sp : Sps) (is : List Nat) (tail : List Di) (his : List.range sp.length = is) (hok : anyOk ops (sp.map (·.1)) tail = true) (hopn : opsOk n ops.toArray = true)
    (hob : obl P ops sp l b h 0 sp) (hfin : ∀ h1, Keep none_ h h1 → rdI h1 (is.map (item ops sp)) l (fun l' => dw P ops tail [] κ.nx l' b h1)) : gs P n ro (.region id ops.toArray true) κ l b h := by
  intro a w hw hfr fr k cs hkd hro
  subst hw
  subst his
  have hd := hok
  unfold anyOk at hd
  rw [Bool.and_eq_true, Bool.and_eq_true, Bool.and_eq_true, Bool.and_eq_true, Bool.and_eq_true, Bool.and_eq_true, Bool.and_eq_true, Bool.and_eq_true, Bool.and_eq_true] at hd
  obtain ⟨⟨⟨⟨⟨⟨⟨⟨⟨hdep, hup⟩, _⟩, _⟩, _⟩, _⟩, _⟩, _⟩, _⟩, _⟩ := hd
  let tp := w.tape w.drawn (.order fr.fn id)
  obtain ⟨hp1, hlin⟩ := sched_all (mixed := P.follows .mixedOrders) hdep hup tp
  have hfin' : ∀ h1, Keep none_ w.heap h1 → rdS ops sp h1 (List.range sp.length) l (fun l' => dsem P ops.toArray tail [] κ.nx l' b h1) := fun h1 hk => rdS_mono _ (rdS_of_rdI _ (hfin h1 hk)) fun l' hl' => dsem_of_dwF tail (by simp) hl'
  have har := any_arun (P := P) (κ := κ.nx) (l := l) (b := b) (h := w.heap) sp tail hok hopn hob hfin' _ [] a w.heap (by simpa using hp1) (fun j hj => by cases hj) (fun y hy => by cases hy) hlin
    ⟨hfr.size, hfr.defers, fun t _ => hfr.slot t, (fun j hj => by cases hj), .refl _ _⟩
  obtain ⟨a', w', hs, ⟨l', hfr', hk⟩, hst⟩ := steps_arun (P := P) (d := b.d) (fr := fr) (k := k) (cs := cs) hopn _ (w := { w with drawn := w.drawn + 1 }) hfr.size hfr.defers har
  exact ⟨.nx, a', w', l', b, ⟨hs.os, hs.tape, hs.output, (by first | exact hs.drawn | exact Nat.le_trans (Nat.le_succ _) hs.drawn)⟩, hfr', hk, .head stepR_region_draw hst⟩
/-- append onto a slice of no capacity. -/
theorem clone_at {h : Heap} {K : Value → Heap → Prop} {α : Type} {R : Rp α} {F F2 : Nat → Prop} {ty : TypeId} {T e by_ bk : Nat} {cs : Array Bool} {xs : List α} {a : Option Addr} {n c2 : Nat} {news : List Value} (hT : ElemT P T e R by_) (hF : ∀ b, F b → b < h.size)
    (hb : h[bk]? = some (.cells #[] e (0, 0))) (hFb : ¬ F bk) (hn : n = xs.length) (hrn : Cells F2 h a news) (hel : Elems R F h news xs) (hbig : xs.length * by_ ≤ 140737488355328) (h63 : xs.length < 9223372036854775808)
    (hk : ∀ v' h' own', Grow R e F h' v' xs own' → Keep none_ h h' → (∀ b, own' = some b → b = bk ∨ h.size ≤ b) → K v' h') :
    builtinS P .append #[T, T] ty cs #[.slice (some ⟨bk, 0, none⟩) 0 0, .slice a n c2] h K := by
  obtain ⟨z, hz, hzs⟩ := hT.zero
  subst hn
  have hnl := hel.len
  refine append_cells (F := F2) hT.el hT.sz hT.by_ hz R.pos (old := []) (by simp) (.nil _ _ _) hnl hrn (by simpa using hbig) (by simpa using h63) ?_ ?_ ?_
  · intro h0 _
    have : xs = [] := List.eq_nil_of_length_eq_zero h0
    subst this
    exact hk _ _ (some bk) (.inr ⟨bk, 0, #[], [], rfl, rfl, hb, hFb, by simp, Nat.le_refl _, by decide, by simp, rfl⟩) (.refl _ _) (fun b hb => by cases hb; exact .inl rfl)
  · intro h0 hroom
    omega
  · intro hgr cap hcap hcap63
    have hnew : ¬ F h.size := fun hh => by have := hF _ hh; omega
    have e0 : 0 + xs.length = xs.length := by omega
    rw [e0] at hcap ⊢
    refine hk _ _ (some h.size) (.inr ⟨h.size, cap, _, news, rfl, rfl, push_new _ _, hnew, ?_, hcap, hcap63, ?_, ?_⟩)
      (.push _ _ _) (fun b hb => .inr (by cases hb; exact Nat.le_refl _))
    · simp only [Array.size_append, List.size_toArray, zeroCells_size, hzs, hnl, List.length_nil, Nat.zero_add]
      rw [← Nat.add_mul]
      congr 1
      omega
    · rw [← hnl]
      simp only [Array.toList_append, List.nil_append]
      exact List.take_left
    · exact hel.mono fun b hFb => ⟨hFb, push_old _ (hF b hFb)⟩
end
end Go.HC

/-
  The document's copy of a cell.
-/
namespace Go.Proofs
open Go Go.HC

theorem _root_.Go.HC.Grow.at_ {h h' : Heap} {v : Value} {xs : List Int} {e : Nat} {own : Option Nat} (g : Grow rInt e none_ h v xs own) (k : Keep none_ h h') : Grow rInt e none_ h' v xs own :=
  g.mono (fun _ h => h.elim) fun b hb => ⟨fun h => h, k.blk b (g.own_lt b hb) (fun h => h)⟩
/-- A slice without cells, at a block that is new. -/
def EmptyAt (n0 : Nat) : Value → Heap → Prop := fun v h => ∃ b, v = .slice (some ⟨b, 0, none⟩) 0 0 ∧ h[b]? = some (.cells #[] 3 (0, 0)) ∧ n0 ≤ b
/-- A new slice that holds these. -/
def NewInts (n0 : Nat) (xs : List Int) : Value → Heap → Prop := fun v h => ∃ own, Grow rInt 3 none_ h v xs own ∧ ∀ b, own = some b → n0 ≤ b
set_option maxRecDepth 10000 in
theorem newInts_app {K : Value → Heap → Prop} {ty : TypeId} {cs : Array Bool} {h0 h1 h2 : Heap} {F : Nat → Prop} {v : Value} {xs : List Int} {a : Option Addr} {c : Nat} (hv : EmptyAt h0.size v h1) (k12 : Keep none_ h1 h2) (k02 : Keep none_ h0 h2) (hx : SlRep rInt F h0 (.slice a xs.length c) xs) (hF : ∀ b, F b → b < h0.size) (hn : xs.length < 1000000000)
    (hk : ∀ v' h', Keep none_ h2 h' ∧ NewInts h0.size xs v' h' → K v' h') : builtinS Tryz.prog .append #[22, 22] ty cs #[v, .slice a xs.length c] h2 K := by
  obtain ⟨b, rfl, hb, hle⟩ := hv
  obtain ⟨a', c', cs', hv', h1', h2', h3, h4⟩ := hx
  cases hv'
  have s := k02.size
  refine clone_at (F := none_) (F2 := F) (xs := xs) intT (fun _ h => h.elim) (k12.at hb (fun h => h)) (fun h => h.elim) rfl (h3.mono fun b hb => ⟨hb, k02.blk b (hF b hb) (fun h => h)⟩) (ints_map.2 (ints_map.1 h4)) (by omega) (by omega) ?_
  intro v' h' own' hg hk' ho
  refine hk v' h' ⟨hk', own', hg, fun b hb => ?_⟩
  rcases ho b hb with rfl | h
  · exact hle
  · omega

set_option maxHeartbeats 40000000 in
set_option maxRecDepth 10000 in
theorem rcopy_th {F : Nat → Prop} {h : Heap} {cs : List Value} {c : CellM} (hr : rCell.rep F h cs c) (hF : ∀ b, F b → b < h.size) (hc : CellSmall c) :
    CallH Tryz.prog 40 #[.agg cs.toArray] h fun r h' => ∃ ds G, r = .agg ds.toArray ∧ rCell.rep G h' ds c ∧ Keep none_ h h' ∧ (∀ b, G b → h.size ≤ b ∧ b < h'.size) ∧ ∀ b, G b → Thaw h' b := by
  refine callH_by fun K hK => ?_
  refine enter [.cell 2 46] Tryz.func40 rfl rfl (by kernel_rfl) rfl ?_
  obtain ⟨kv, sv, nv, xv, rfl, r1, r2, r3, r4⟩ := hr
  obtain ⟨ka, kc, rfl, _, _⟩ := r1.val
  obtain ⟨sa, sc, rfl, _, _⟩ := r2.val
  obtain ⟨na, nc, rfl, _, _⟩ := r3.val
  obtain ⟨xa, xc, rfl, _, _⟩ := r4.val
  simp -dsimp [boxS_eq]
  generalize hB : (h.push _).push _ = h0
  have hz0 : h0.size = h.size + 2 := by rw [← hB]; simp
  have k0 : Keep none_ h h0 := by rw [← hB]; exact ((Keep.refl none_ h).pushed _).pushed _
  have hb0 : h0[h.size]? = some (.cells #[.slice ka c.key.length kc, .int .i64 c.count, .slice sa c.sum.length sc, .slice na c.mn.length nc, .slice xa c.mx.length xc] 46 (0, 0)) := by rw [← hB]; exact push_at (push_new _ _)
  have ht0 : h0[h.size + 1]? = some (.cells #[.slice none 0 0, .int .i64 0, .slice none 0 0, .slice none 0 0, .slice none 0 0] 46 (0, 0)) := by
    rw [← hB]
    have : (h.push (.cells #[.slice ka c.key.length kc, .int .i64 c.count, .slice sa c.sum.length sc, .slice na c.mn.length nc, .slice xa c.mx.length xc] 46)).size = h.size + 1 := by simp
    rw [← this]; exact push_new _ _
  have m0 : ∀ b, F b → F b ∧ h0[b]? = h[b]? := fun b hb => ⟨hb, k0.blk b (hF b hb) (fun h => h)⟩
  have hF0 : ∀ b, F b → b < h0.size := fun b hb => by have := hF b hb; omega
  have q1 := r1.mono m0
  have q2 := r2.mono m0
  have q3 := r3.mono m0
  have q4 := r4.mono m0
  refine drawn_any [([], .act (EmptyAt h0.size)), ([], .look (.pointer (some ⟨h.size, 0, none⟩))), ([1], .look (.slice ka c.key.length kc)), ([0, 2], .act (NewInts h0.size c.key)),
    ([], .look (.pointer (some ⟨h.size, 1, none⟩))), ([4], .look (.int .i64 c.count)),
    ([], .act (EmptyAt h0.size)), ([], .look (.pointer (some ⟨h.size, 2, none⟩))), ([7], .look (.slice sa c.sum.length sc)), ([6, 8], .act (NewInts h0.size c.sum)),
    ([], .act (EmptyAt h0.size)), ([], .look (.pointer (some ⟨h.size, 3, none⟩))), ([11], .look (.slice na c.mn.length nc)), ([10, 12], .act (NewInts h0.size c.mn)),
    ([], .act (EmptyAt h0.size)), ([], .look (.pointer (some ⟨h.size, 4, none⟩))), ([15], .look (.slice xa c.mx.length xc)), ([14, 16], .act (NewInts h0.size c.mx))] [0, 1, 2, 3, 4, 5, 6, 7, 8, 9, 10, 11, 12, 13, 14, 15, 16, 17] [⟨18, false, []⟩, ⟨19, false, []⟩] (by kernel_rfl) (by kernel_rfl) (by kernel_rfl) ?_ ?_
  · simp only [obl, rdS, doS]
    refine ⟨?_, ?_, ?_, ?_, ?_, ?_, ?_, ?_, ?_, ?_, ?_, ?_, ?_, ?_, ?_, ?_, ?_, ?_, trivial⟩
    all_goals intro h1 k1
    all_goals simp -dsimp [dstOf, k1.at hb0 (fun h => h)]
    · exact ⟨.push _ _ _, _, rfl, push_new _ _, k1.size⟩
    · exact fun v hj he kj => newInts_app he kj k1 q1 hF0 hc.key fun _ _ h => h
    · exact ⟨.push _ _ _, _, rfl, push_new _ _, k1.size⟩
    · exact fun v hj he kj => newInts_app he kj k1 q2 hF0 hc.sum fun _ _ h => h
    · exact ⟨.push _ _ _, _, rfl, push_new _ _, k1.size⟩
    · exact fun v hj he kj => newInts_app he kj k1 q3 hF0 hc.mn fun _ _ h => h
    · exact ⟨.push _ _ _, _, rfl, push_new _ _, k1.size⟩
    · exact fun v hj he kj => newInts_app he kj k1 q4 hF0 hc.mx fun _ _ h => h
  · intro h4 k4
    have hT4 := k4.at ht0 (fun h => h)
    have e4 := k4.size
    simp -dsimp only [List.map_cons, List.map_nil, item, dstOf, List.getElem?_cons_succ, List.getElem?_cons_zero, Option.map_some, Option.bind_some]
    simp -dsimp only [rdI, putl]
    rintro - - - - v1 j1 ⟨o1, g1, n1⟩ w1 - - - - v2 j2 ⟨o2, g2, n2⟩ w2 - - - - v3 j3 ⟨o3, g3, n3⟩ w3 - - - - v4 j4 ⟨o4, g4, n4⟩ w4
    replace g1 := g1.at_ w1
    replace g2 := g2.at_ w2
    replace g3 := g3.at_ w3
    replace g4 := g4.at_ w4
    obtain ⟨a1, c1, rfl⟩ := g1.val
    obtain ⟨a2, c2, rfl⟩ := g2.val
    obtain ⟨a3, c3, rfl⟩ := g3.val
    obtain ⟨a4, c4, rfl⟩ := g4.val
    have hset : ∀ o, (h4.setIfInBounds (h.size + 1) o)[h.size + 1]? = some o := fun o => set_same o (by omega)
    simp -dsimp [hT4, hset]
    generalize hH : h4.setIfInBounds (h.size + 1) _ = h5
    have hz5 : h5.size = h4.size := by rw [← hH]; simp
    have hold : ∀ b, b ≠ h.size + 1 → h5[b]? = h4[b]? := fun b hn => by rw [← hH, set_other _ (fun e => hn e.symm)]
    have l1 := g1.own_lt
    have l2 := g2.own_lt
    have l3 := g3.own_lt
    have l4 := g4.own_lt
    refine hK _ _ ⟨_, fun b => o1 = some b ∨ o2 = some b ∨ o3 = some b ∨ o4 = some b, rfl, ⟨_, _, _, _, rfl, ?_, ?_, ?_, ?_⟩, ⟨by omega, fun b hb _ => by rw [hold b (by omega), k4.blk b (by omega) (fun h => h), k0.blk b hb (fun h => h)]⟩, ?_, ?_⟩
    · exact g1.ints.mono fun b hb => ⟨.inl hb, by have := n1 b hb; rw [hold b (by omega)]⟩
    · exact g2.ints.mono fun b hb => ⟨.inr (.inl hb), by have := n2 b hb; rw [hold b (by omega)]⟩
    · exact g3.ints.mono fun b hb => ⟨.inr (.inr (.inl hb)), by have := n3 b hb; rw [hold b (by omega)]⟩
    · exact g4.ints.mono fun b hb => ⟨.inr (.inr (.inr hb)), by have := n4 b hb; rw [hold b (by omega)]⟩
    · rintro b (hb | hb | hb | hb)
      · have := n1 b hb; have := l1 b hb; omega
      · have := n2 b hb; have := l2 b hb; omega
      · have := n3 b hb; have := l3 b hb; omega
      · have := n4 b hb; have := l4 b hb; omega
    · rintro b (hb | hb | hb | hb)
      · exact (g1.thaw b hb).at (by have := n1 b hb; rw [hold b (by omega)])
      · exact (g2.thaw b hb).at (by have := n2 b hb; rw [hold b (by omega)])
      · exact (g3.thaw b hb).at (by have := n3 b hb; rw [hold b (by omega)])
      · exact (g4.thaw b hb).at (by have := n4 b hb; rw [hold b (by omega)])
end Go.Proofs

/-
  HC, part 24: footprints with a bound; what may be changed; a slice that grows among them; small words for the walk.
-/
namespace Go.HC
/-- The blocks from n on that are there, and are not to be changed. -/
def Ft (n : Nat) (M : Nat → Prop) (h : Heap) : Nat → Prop := fun b => Nw n h b ∧ b < h.size ∧ ¬ M b
abbrev Old (h : Heap) : Nat → Prop := Ft 0 none_ h
theorem Old.lt {h : Heap} : ∀ b, Old h b → b < h.size := fun _ h => h.2.1
theorem Ft.lt {n : Nat} {M : Nat → Prop} {h : Heap} : ∀ b, Ft n M h b → b < h.size := fun _ h => h.2.1
/-- From h to h' only blocks of M have changed; what may be changed now could be so, or is new. -/
structure Tr (M M' : Nat → Prop) (h h' : Heap) : Prop where
  keep : Keep M h h'
  new : ∀ b, M' b → M b ∨ h.size ≤ b
  lt : ∀ b, M' b → b < h'.size
section
variable {M M' M'' : Nat → Prop} {h h' h'' : Heap} {n n' : Nat}
theorem Tr.start (h : Heap) : Tr none_ none_ h h := ⟨.refl _ _, fun _ h => .inl h, fun _ h => h.elim⟩
theorem Tr.here (t : Tr M M' h h') : Tr M' M' h' h' := ⟨.refl _ _, fun _ h => .inl h, t.lt⟩
theorem Tr.size (t : Tr M M' h h') : h.size ≤ h'.size := t.keep.size
theorem Tr.trans (t : Tr M M' h h') (t' : Tr M' M'' h' h'') : Tr M M'' h h'' := by
  have s := t.keep.size
  refine ⟨⟨Nat.le_trans s t'.keep.size, fun b hb hm => ?_⟩, fun b hb => ?_, t'.lt⟩
  · have : ¬ M' b := fun hm' => (t.new b hm').elim hm (fun h => by omega)
    rw [t'.keep.blk b (by omega) this, t.keep.blk b hb hm]
  · rcases t'.new b hb with h1 | h1
    · exact t.new b h1
    · exact .inr (by omega)
theorem Tr.ft (t : Tr M M' h h') (hn : n' ≤ n) : ∀ b, Ft n M h b → Ft n' M' h' b ∧ h'[b]? = h[b]? := fun b hb =>
  ⟨⟨hb.1.at hn (t.keep.blk b hb.2.1 hb.2.2), Nat.lt_of_lt_of_le hb.2.1 t.keep.size, fun hm => (t.new b hm).elim hb.2.2 (fun h => by have := hb.2.1; omega)⟩, t.keep.blk b hb.2.1 hb.2.2⟩
/-- What is as old as h, whatever n. -/
theorem Tr.old (t : Tr none_ M h h') : ∀ b, Ft n none_ h b → Ft 0 M h' b ∧ h'[b]? = h[b]? := t.ft (Nat.zero_le _)
theorem Tr.call (t : Tr M M' h h') (k : Keep none_ h' h'') : Tr M M' h h'' :=
  t.trans ⟨⟨k.size, fun b hb _ => k.blk b hb (fun h => h)⟩, fun _ h => .inl h, fun b hb => Nat.lt_of_lt_of_le (t.lt b hb) k.size⟩
theorem Tr.push (t : Tr M M' h h') (o : Obj) : Tr M M' h (h'.push o) := t.call (.push _ _ _)
theorem Tr.pushM (t : Tr M M' h h') (o : Obj) : Tr M (fun b => M' b ∨ b = h'.size) h (h'.push o) :=
  t.trans ⟨.push _ _ _, fun b hb => hb.imp id fun e => by omega, fun b hb => by
    have : (h'.push o).size = h'.size + 1 := by simp
    rcases hb with hb | hb
    · have := t.lt b hb; omega
    · omega⟩
theorem Tr.set (t : Tr M M' h h') {b : Nat} (o : Obj) (hb : M' b) : Tr M M' h (h'.setIfInBounds b o) :=
  t.trans ⟨.set _ _ fun _ => hb, fun _ h => .inl h, fun c hc => by simpa using t.lt c hc⟩
theorem Tr.less (t : Tr M M' h h') (hm : ∀ b, M'' b → M' b) : Tr M M'' h h' := ⟨t.keep, fun b hb => t.new b (hm b hb), fun b hb => t.lt b (hm b hb)⟩
theorem Tr.forget (t : Tr M M' h h') : Tr M none_ h h' := t.less fun _ h => h.elim
theorem Tr.of (k : Keep none_ h h') : Tr none_ none_ h h' := (Tr.start h).call k
/-- Blocks that are not to be changed are as they were. -/
theorem Tr.at (t : Tr M M' h h') {b : Nat} {o : Obj} (hb : h[b]? = some o) (hm : ¬ M b) : h'[b]? = some o := t.keep.at hb hm
theorem Tr.fresh (t : Tr none_ M h h') : ∀ b, M b → h.size ≤ b := fun b hb => (t.new b hb).elim (fun h => h.elim) id
/-- What a call has laid anew is not to be changed. -/
theorem Tr.ret (t : Tr M M' h h') (hn : n ≤ h'.size) : ∀ b, Ft h'.size none_ h'' b → Ft n M' h'' b ∧ h''[b]? = h''[b]? :=
  fun b hb => ⟨⟨hb.1.less hn, hb.2.1, fun hm => by have := t.lt b hm; have := hb.1.1; omega⟩, rfl⟩
/-- The same, once nothing is changed any more. -/
theorem Ft.free (hn : n' ≤ n) : ∀ b, Ft n M h b → Ft n' none_ h b ∧ h[b]? = h[b]? := fun _ hb => ⟨⟨hb.1.less hn, hb.2.1, fun h => h⟩, rfl⟩
end
section
variable {α : Type} {R : Rp α} {M M' : Nat → Prop} {h h' : Heap} {n n' : Nat} {e : TypeId}
/-- A slice that grows: its block may be changed, its data lie in blocks that may not. -/
structure Gr (R : Rp α) (e : TypeId) (n : Nat) (M : Nat → Prop) (h : Heap) (v : Value) (xs : List α) (own : Option Nat) : Prop where
  grow : Grow R e (Ft n M h) h v xs own
  mu : ∀ b, own = some b → M b
theorem Gr.nil (R : Rp α) (e n : Nat) (M : Nat → Prop) (h : Heap) : Gr R e n M h (.slice none 0 0) [] none := ⟨.nil _ _ _ _, fun b hb => by cases hb⟩
theorem Gr.own_lt {v : Value} {xs : List α} {own : Option Nat} (g : Gr R e n M h v xs own) : ∀ b, own = some b → b < h.size := g.grow.own_lt
theorem Gr.mono {v : Value} {xs : List α} {own : Option Nat} (g : Gr R e n M h v xs own) (t : Tr M M' h h') (hn : n' ≤ n) (ho : ∀ b, own = some b → M' b ∧ h'[b]? = h[b]?) : Gr R e n' M' h' v xs own :=
  ⟨g.grow.mono (t.ft hn) fun b hb => ⟨fun hf => hf.2.2 (ho b hb).1, (ho b hb).2⟩, fun b hb => (ho b hb).1⟩
theorem Gr.call {v : Value} {xs : List α} {own : Option Nat} (g : Gr R e n M h v xs own) (k : Keep none_ h h') : Gr R e n M h' v xs own :=
  ⟨g.grow.mono (fun b hb => ⟨⟨hb.1.at (Nat.le_refl _) (k.blk b hb.2.1 (fun h => h)), Nat.lt_of_lt_of_le hb.2.1 k.size, hb.2.2⟩, k.blk b hb.2.1 (fun h => h)⟩) fun b hb => ⟨fun hf => hf.2.2 (g.mu b hb), k.blk b (g.own_lt b hb) (fun h => h)⟩, g.mu⟩
/-- Another block is written. -/
theorem Gr.set {v : Value} {xs : List α} {own : Option Nat} (g : Gr R e n M h v xs own) {b : Nat} (o : Obj) (hb : M b) (hne : own ≠ some b) : Gr R e n M (h.setIfInBounds b o) v xs own :=
  ⟨g.grow.mono (fun c hc => ⟨⟨hc.1.at (Nat.le_refl _) (set_other _ fun e => hc.2.2 (e ▸ hb)), by simpa using hc.2.1, hc.2.2⟩, set_other _ fun e => hc.2.2 (e ▸ hb)⟩) fun c hc => ⟨fun hf => hf.2.2 (g.mu c hc), set_other _ fun e => hne (by rw [hc, e])⟩, g.mu⟩
theorem Gr.val {v : Value} {xs : List α} {own : Option Nat} (g : Gr R e n M h v xs own) : ∃ a c, v = .slice a xs.length c := g.grow.val
theorem Gr.vals {v : Value} {xs : List α} {own : Option Nat} (g : Gr R e n M h v xs own) : ∃ a m c, v = .slice a m c ∧ m = xs.length := by
  obtain ⟨a, c, rfl⟩ := g.val
  exact ⟨a, _, c, rfl, rfl⟩
theorem Gr.thaw {v : Value} {xs : List α} {own : Option Nat} (g : Gr R e n M h v xs own) : ∀ b, own = some b → Thaw h b := g.grow.thaw
theorem Gr.rep {v : Value} {xs : List α} {own : Option Nat} (g : Gr R e n M h v xs own) (hn : n' ≤ n) (ho : ∀ b, own = some b → n' ≤ b) : SlRep R (Ft n' none_ h) h v xs :=
  g.grow.rep.mono fun b hb => ⟨hb.elim (fun hf => ⟨hf.1.less hn, hf.2.1, fun h => h⟩) fun hf => ⟨⟨ho b hf, fun _ => g.thaw b hf⟩, g.own_lt b hf, fun h => h⟩, rfl⟩
theorem Gr.elem {a : Option Addr} {m c : Nat} {xs : List α} {own : Option Nat} (g : Gr R e n M h (.slice a m c) xs own) (k : Nat) (hk : k < xs.length) :
    ∃ bk cs, a = some ⟨bk, 0, none⟩ ∧ own = some bk ∧ R.rep (Ft n M h) h cs xs[k] ∧ cellsIn h[bk]? (k * R.sz) R.sz = some cs := g.grow.elem k hk
/-- An element is written. -/
theorem Gr.setE {v : Value} {xs : List α} {own : Option Nat} {news : List Value} {x : α} {i : Nat} (g : Gr R e n M h v xs own) (hi : i < xs.length) (hr : R.rep (Ft n M h) h news x) :
    ∃ bk m c o, v = .slice (some ⟨bk, 0, none⟩) m c ∧ m = xs.length ∧ own = some bk ∧ writeIn h[bk]? (i * R.sz) news = some o ∧ Gr R e n M (h.setIfInBounds bk o) v (xs.set i x) own := by
  obtain ⟨bk, c, o, h1, h2, h3, h4⟩ := g.grow.setE hi hr
  refine ⟨bk, _, c, o, h1, rfl, h2, h3, ⟨h4.mono (fun b hb => ⟨⟨hb.1.at (Nat.le_refl _) (set_other _ fun e => hb.2.2 (e ▸ g.mu bk h2)), by simpa using hb.2.1, hb.2.2⟩, rfl⟩) fun b hb => ⟨fun hf => hf.2.2 (g.mu b hb), rfl⟩, g.mu⟩⟩
end
section
variable {P : Program} {h : Heap} {K : Value → Heap → Prop} {ty : TypeId} {α : Type} {R : Rp α} {M : Nat → Prop} {n : Nat}
/-- append onto a slice that grows. -/
theorem gr_append {T e by_ : Nat} {cs : Array Bool} {v : Value} {xs ys : List α} {own : Option Nat} {b : Option Addr} {m c2 : Nat} {news : List Value} {F2 : Nat → Prop}
    (hT : ElemT P T e R by_) (hg : Gr R e n M h v xs own) (hM : ∀ b, M b → b < h.size) (hm : m = ys.length) (hrn : Cells F2 h b news) (hel : Elems R (Ft n M h) h news ys)
    (hbig : (xs.length + ys.length) * by_ ≤ 140737488355328) (h63 : xs.length + ys.length < 9223372036854775808)
    (hk : ∀ v' h' own', Gr R e n (fun b => M b ∨ own' = some b) h' v' (xs ++ ys) own' → Tr M (fun b => M b ∨ own' = some b) h h' → Keep (fun b => own = some b) h h' → (∀ b, own' = some b → own = some b ∨ h.size ≤ b) → K v' h') :
    builtinS P .append #[T, T] ty cs #[v, .slice b m c2] h K := by
  refine append_grow hT hg.grow Ft.lt hm hrn hel hbig h63 ?_
  intro v' h' own' hg' hk' ho
  have hs := hk'.size
  have ht : Tr M (fun b => M b ∨ own' = some b) h h' := ⟨hk'.weaken fun b _ => hg.mu b, fun b hb => hb.elim .inl fun hb => (ho b hb).imp (hg.mu b) id, fun b hb => hb.elim (fun h => Nat.lt_of_lt_of_le (hM b h) hs) (hg'.own_lt b)⟩
  exact hk v' h' own' ⟨hg'.mono (fun b hb => ⟨(ht.ft (Nat.le_refl _) b hb).1, rfl⟩) fun b hb => ⟨fun hf => hf.2.2 (.inr hb), rfl⟩, fun b hb => .inr hb⟩ ht hk' ho
/-- A slice without cells is laid. -/
theorem gr_empty {M0 : Nat → Prop} {h0 : Heap} (R : Rp α) (e n : Nat) (t : Tr M0 M h0 h) (n0 : Nat) (hn0 : n0 = h.size) :
    Gr R e n (fun b => M b ∨ b = h.size) (h.push (.cells #[] e)) (.slice (some ⟨n0, 0, none⟩) 0 0) [] (some h.size) ∧ Tr M (fun b => M b ∨ b = h.size) h (h.push (.cells #[] e)) := by
  have t1 := t.here.pushM (.cells #[] e)
  subst hn0
  refine ⟨⟨?_, fun b hb => .inr (by cases hb; rfl)⟩, t1⟩
  exact .inr ⟨h.size, 0, #[], [], rfl, rfl, push_new _ _, fun hf => hf.2.2 (.inr rfl), by simp, Nat.le_refl _, by decide, by simp, rfl⟩
/-- A slice is opened for append. -/
theorem SlRep.open_ {F : Nat → Prop} {a : Option Addr} {m c : Nat} {xs : List α} (hs : SlRep R F h (.slice a m c) xs) : ∃ cs, m = xs.length ∧ xs.length ≤ c ∧ c < 9223372036854775808 ∧ Cells F h a cs ∧ Elems R F h cs xs := by
  obtain ⟨a', c', cs, hv, h1, h2, h3, h4⟩ := hs
  cases hv
  exact ⟨cs, rfl, h1, h2, h3, h4⟩
/-- append of one datum. -/
theorem gr_app1 {T e by_ n0 : Nat} {cs : Array Bool} {v : Value} {xs : List α} {own : Option Nat} {x : α} {c : List Value} {arr : Array Value} (hn0 : n0 = h.size)
    (hT : ElemT P T e R by_) (hg : Gr R e n M h v xs own) (hM : ∀ b, M b → b < h.size) (hr : R.rep (Ft n M h) h c x) (hc : arr.toList = c)
    (hbig : (xs.length + 1) * by_ ≤ 140737488355328) (h63 : xs.length + 1 < 9223372036854775808)
    (hk : ∀ v' h' own', Gr R e n (fun b => M b ∨ own' = some b) h' v' (xs ++ [x]) own' → Tr M (fun b => M b ∨ own' = some b) h h' → Keep (fun b => own = some b) h h' → (∀ b, own' = some b → own = some b ∨ h.size ≤ b) → K v' h') :
    builtinS P .append #[T, T] ty cs #[v, .slice (some ⟨n0, 0, none⟩) 1 1] (h.push (.cells arr e)) K := by
  subst hn0
  have hp : Tr M M h (h.push (.cells arr e)) := Tr.push ⟨.refl _ _, fun _ h => .inl h, hM⟩ _
  have hps : (h.push (.cells arr e)).size = h.size + 1 := by simp
  subst hc
  refine gr_append (F2 := fun b => b = h.size) (ys := [x]) (news := arr.toList) hT (hg.call (.push _ _ _)) hp.lt rfl ?_ (.single (R.mono hr (hp.ft (Nat.le_refl _)))) hbig h63 ?_
  · exact .inr ⟨h.size, 0, _, _, _, rfl, rfl, push_new _ _, by rw [List.drop_zero, List.take_of_length_le (Nat.le_refl _)]⟩
  · intro v' h' own' g t k ho
    have t' := hp.trans t
    refine hk v' h' own' g t' ⟨t'.size, fun b hb hn => ?_⟩ fun b hb => (ho b hb).imp id fun h => by omega
    rw [k.blk b (by omega) hn, push_old _ hb]
end
/-! ### words for the walk -/
section
variable {P : Program} {h : Heap} {K : Value → Heap → Prop} {l : L} {b : Base}
@[simp] theorem sub_nil : Sub [] l b = True := propext ⟨fun _ => trivial, fun _ => .nil _ _⟩
@[simp] theorem sub_cons (t : Nat) (v : Value) (S : L) : Sub ((t, v) :: S) l b = (look l b t = v ∧ Sub S l b) :=
  propext ⟨fun hs => ⟨hs (t, v) (List.mem_cons_self), fun p hp => hs p (List.mem_cons_of_mem _ hp)⟩, fun ⟨h1, h2⟩ => .cons h1 h2⟩
/-- A variable that is given its value at once. -/
theorem push_set {h : Heap} {o o' : Obj} {n : Nat} (hn : n = h.size) : (h.push o).setIfInBounds n o' = h.push o' := by
  subst hn
  apply Array.ext'
  simp
/-- A round of a loop has ended well; simp leaves what is said as it is written. -/
def LoopJ {σ : Type} (S : σ → L) (D : σ → List Nat) (J : σ → Heap → Prop) (μ : σ → Nat) (s : σ) (_t1 : Tag S) (_t2 : Tag J) (_t3 : Tag μ) (l : L) (b : Base) (h : Heap) : Prop := ∃ s', Sub (S s') l b ∧ b.d = D s' ∧ J s' h ∧ μ s' < μ s
theorem loopj {P : Program} {n : Nat} {ro : Option Nat} {c : Code} {κ : Kont} {l : L} {b : Base} {h : Heap} {σ : Type} (S : σ → L) (J : σ → Heap → Prop) (μ : σ → Nat) (s0 : σ) (hS : Sub (S s0) l b) (hJ : J s0 h) (hok : codeOk n c = true)
    (round : ∀ s h g, J s h → cs P n ro c { κ with nx := LoopJ S (fun _ => b.d) J μ s ⟨⟩ ⟨⟩ ⟨⟩ } (S s) ⟨g, b.d⟩ h) : gs P n ro (.loop c) κ l b h := loop S (fun _ => b.d) J μ s0 hS rfl hJ hok round
theorem elSz_eq (T : TypeId) : elSz P T = (elS P T).bind (szS P) := _root_.id rfl
theorem idxA_nat {T : TypeId} {bk off n c i : Nat} {k : IntKind} (hi : i < n) :
    indexAddrS P T (.slice (some ⟨bk, off, none⟩) n c) (.int k (i : Int)) h K = optS ((elS P T).bind (szS P)) (fun s => K (.pointer (some ⟨bk, off + i * s, none⟩)) h) := by
  rw [indexAddrS_slice _ _ _ _ _ _ (by omega) (by omega) rfl, elSz_eq]
  have e : (fun s => K (.pointer (offs (some ⟨bk, off, none⟩) ((i : Int).toNat * s))) h) = fun s => K (.pointer (some ⟨bk, off + i * s, none⟩)) h := by
    funext s; rw [offs_mk, Int.toNat_natCast]
  rw [e]
theorem idxA_zero {T : TypeId} {bk off n c : Nat} {k : IntKind} (hi : 0 < n) :
    indexAddrS P T (.slice (some ⟨bk, off, none⟩) n c) (.int k 0) h K = optS ((elS P T).bind (szS P)) (fun _ => K (.pointer (some ⟨bk, off, none⟩)) h) := by
  have := idxA_nat (P := P) (T := T) (bk := bk) (off := off) (c := c) (k := k) (h := h) (K := K) hi
  rw [Int.natCast_zero] at this
  rw [this]
  have e : (fun s => K (.pointer (some ⟨bk, off + 0 * s, none⟩)) h) = fun _ => K (.pointer (some ⟨bk, off, none⟩)) h := by
    funext s; rw [Nat.zero_mul, Nat.add_zero]
  rw [e]
theorem idxV_nat {sz : Option Nat} {ar : Option (Nat × Nat)} {bk off n c i : Nat} {k : IntKind} (hi : i < n) :
    idxV sz ar (.slice (some ⟨bk, off, none⟩) n c) (.int k (i : Int)) = sz.map fun s => .pointer (some ⟨bk, off + i * s, none⟩) := by
  rw [idxV_slice (by omega) (by omega) rfl]
  simp only [Int.toNat_natCast, offs_mk]
theorem wrap_succ {k : Nat} (hk : k < 9223372036854775807) : IntKind.i64.wrap ((k : Int) + 1) = ((k + 1 : Nat) : Int) := by
  rw [wrap_i64 (by omega) (by omega)]; rfl
end
end Go.HC

/-
  Rows of facts in memory; numbers within bounds; a row's cell; cells of rows.
-/
namespace Go.HC
structure RowM where
  key : List Int
  m : List Int
def rRow : Rp RowM where
  sz := 2
  pos := by decide
  rep F h cs r := ∃ kv mv, cs = [kv, mv] ∧ SlRep rInt F h kv r.key ∧ SlRep rInt F h mv r.m
  len := by rintro F h cs c ⟨kv, mv, rfl, _⟩; rfl
  one := by
    rintro F h cs c ⟨kv, mv, rfl, h1, h2⟩
    obtain ⟨_, _, rfl, _⟩ := h1.val
    obtain ⟨_, _, rfl, _⟩ := h2.val
    rfl
  mono := by
    rintro F F' h h' cs c ⟨kv, mv, rfl, h1, h2⟩ hm
    exact ⟨kv, mv, rfl, h1.mono hm, h2.mono hm⟩
/-- A cell's five parts. -/
theorem cell_open {F : Nat → Prop} {h : Heap} {cs : List Value} {c : CellM} (hr : rCell.rep F h cs c) : ∃ ka kc sa sc na nc xa xc,
    cs = [.slice ka c.key.length kc, .int .i64 c.count, .slice sa c.sum.length sc, .slice na c.mn.length nc, .slice xa c.mx.length xc] ∧
    SlRep rInt F h (.slice ka c.key.length kc) c.key ∧ SlRep rInt F h (.slice sa c.sum.length sc) c.sum ∧ SlRep rInt F h (.slice na c.mn.length nc) c.mn ∧ SlRep rInt F h (.slice xa c.mx.length xc) c.mx := by
  obtain ⟨kv, sv, nv, xv, rfl, r1, r2, r3, r4⟩ := hr
  obtain ⟨ka, kc, rfl, _, _⟩ := r1.val
  obtain ⟨sa, sc, rfl, _, _⟩ := r2.val
  obtain ⟨na, nc, rfl, _, _⟩ := r3.val
  obtain ⟨xa, xc, rfl, _, _⟩ := r4.val
  exact ⟨ka, kc, sa, sc, na, nc, xa, xc, rfl, r1, r2, r3, r4⟩
theorem row_open {F : Nat → Prop} {h : Heap} {cs : List Value} {r : RowM} (hr : rRow.rep F h cs r) : ∃ ka kc ma mc,
    cs = [.slice ka r.key.length kc, .slice ma r.m.length mc] ∧ SlRep rInt F h (.slice ka r.key.length kc) r.key ∧ SlRep rInt F h (.slice ma r.m.length mc) r.m := by
  obtain ⟨kv, mv, rfl, r1, r2⟩ := hr
  obtain ⟨ka, kc, rfl, _, _⟩ := r1.val
  obtain ⟨ma, mc, rfl, _, _⟩ := r2.val
  exact ⟨ka, kc, ma, mc, rfl, r1, r2⟩
/-- An element that is a number: where it lies. -/
theorem SlRep.int_at {F : Nat → Prop} {h : Heap} {a : Option Addr} {n c : Nat} {xs : List Int} (hs : SlRep rInt F h (.slice a n c) xs) (k : Nat) (hk : k < xs.length) :
    ∃ bk off, a = some ⟨bk, off, none⟩ ∧ F bk ∧ cellIn h[bk]? (off + k) = some (.int .i64 xs[k]) := by
  obtain ⟨b1, o1, v1, rfl, hf, hr, hc⟩ := hs.get1 rfl k hk
  have : v1 = .int .i64 xs[k] := by simpa [rInt] using hr
  exact ⟨b1, o1, rfl, hf, this ▸ hc⟩
/-- A number from 0 to n - 1. -/
def withinM (a n : Int) : Int := if a.tmod n < 0 then a.tmod n + n else a.tmod n
theorem withinM_bound {a n : Int} (hn : 0 < n) : 0 ≤ withinM a n ∧ withinM a n < n := by
  unfold withinM
  have h1 := tmod_bound (a := a) hn
  split <;> omega
/-- Is a dimension one of a set's? -/
def bitM (s : Int) (i : Nat) : Bool := (s.fdiv (2 ^ i)) % 2 == 1
theorem and_one (x : Int) : IntKind.i64.wrap ((BitVec.ofInt IntKind.i64.bits x &&& BitVec.ofInt IntKind.i64.bits 1).toNat) = x % 2 := by
  show IntKind.i64.wrap ((BitVec.ofInt 64 x &&& 1#64).toNat : Int) = x % 2
  rw [BitVec.toNat_and]
  have h3 : (1#64).toNat = 1 := rfl
  rw [h3, Nat.and_one_is_mod, BitVec.toNat_ofInt]
  rw [wrap_i64 (by omega) (by omega)]
  omega
@[simp high] theorem intRes_and1 (x : Int) : intRes .and .i64 x 1 = some (.int .i64 (x % 2)) := by rw [intRes_and, and_one]
theorem bit_op (s : Int) (i : Nat) : (s.fdiv (2 ^ i) % 2 == 1) = bitM s i := _root_.id rfl
theorem shr_bit {s : Int} {k : Nat} (hk : k < 64) : intRes .shr .i64 s (IntKind.u64.wrap (k : Int)) = some (.int .i64 (s.fdiv (2 ^ k))) := by
  have h1 : IntKind.u64.wrap (k : Int) = k := by simp [IntKind.wrap, IntKind.bits, IntKind.signed]; omega
  have h2 : min ((k : Int).toNat) IntKind.i64.bits = k := by
    show min ((k : Int).toNat) 64 = k
    omega
  rw [h1, intRes_shr _ _ _ (by omega), h2]
theorem pow2_le {k n : Nat} (h : k ≤ n) : (2 : Int) ^ k ≤ 2 ^ n := by
  have := Nat.pow_le_pow_right (n := 2) (by decide) h
  exact_mod_cast this
theorem pow2_pos (k : Nat) : (0 : Int) < 2 ^ k := Int.pow_pos (by decide)
theorem shl_one {k : Nat} (hk : k ≤ 62) : intRes .shl .i64 1 (IntKind.u64.wrap (k : Int)) = some (.int .i64 (2 ^ k)) := by
  have h1 : IntKind.u64.wrap (k : Int) = k := by simp [IntKind.wrap, IntKind.bits, IntKind.signed]; omega
  have h2 : min ((k : Int).toNat) IntKind.i64.bits = k := by
    show min ((k : Int).toNat) 64 = k
    omega
  have h3 : (2 : Int) ^ k ≤ 2 ^ 62 := pow2_le hk
  have h4 : (0 : Int) < 2 ^ k := Int.pow_pos (by decide)
  have h5 : (2 : Int) ^ 62 = 4611686018427387904 := by decide
  rw [h1, intRes_shl _ _ _ (by omega), h2, Int.one_mul, wrap_i64 (by omega) (by omega)]
/-- The values of a set's dimensions, from dimension i on. -/
def pickM (s : Int) : Nat → List Int → List Int
  | _, [] => []
  | i, x :: xs => if bitM s i then x :: pickM s (i + 1) xs else pickM s (i + 1) xs
theorem pickM_snoc (s : Int) (x : Int) : ∀ (xs : List Int) (i : Nat), pickM s i (xs ++ [x]) = pickM s i xs ++ (if bitM s (i + xs.length) then [x] else [])
  | [], i => by simp [pickM]
  | y :: ys, i => by
    rw [List.cons_append, pickM, pickM, pickM_snoc s x ys]
    have : i + 1 + ys.length = i + (y :: ys).length := by simp; omega
    rw [this]
    split <;> simp
theorem pickM_le (s : Int) : ∀ (xs : List Int) (i : Nat), (pickM s i xs).length ≤ xs.length
  | [], _ => Nat.le_refl _
  | x :: xs, i => by
    rw [pickM]
    have := pickM_le s xs (i + 1)
    split <;> simp <;> omega
def ofM (s : Int) (r : RowM) : CellM := ⟨pickM s 0 r.key, 1, r.m, r.m, r.m⟩
end Go.HC
namespace Go.Proofs
open Go Go.HC

set_option maxRecDepth 10000 in
theorem within1_spec (a n : Int) (hn : 0 < n) (hn' : n < 1000000000) (h : Heap) : CallH Tryz.prog 21 #[.int .i64 a, .int .i64 n] h fun r h' => r = .int .i64 (withinM a n) ∧ h' = h := by
  refine enter [.tmp 4] Tryz.func21 rfl rfl (by kernel_rfl) rfl ?_
  have h1 := tmod_bound (a := a) hn
  have hne : n ≠ 0 := by omega
  simp -dsimp [hne]
  by_cases hlt : a.tmod n < 0
  · have hw : IntKind.i64.wrap (a.tmod n + n) = a.tmod n + n := wrap_i64 (by omega) (by omega)
    simp -dsimp [hlt, hw, withinM]
  · simp -dsimp [hlt, withinM]
set_option maxRecDepth 10000 in
theorem within2_spec (a n : Int) (hn : 0 < n) (hn' : n < 1000000000) (h : Heap) : CallH Tryz.prog 22 #[.int .i64 a, .int .i64 n] h fun r h' => r = .int .i64 (withinM a n) ∧ h' = h := by
  refine enter [.tmp 4] Tryz.func22 rfl rfl (by kernel_rfl) rfl ?_
  have h1 := tmod_bound (a := a) hn
  have hne : n ≠ 0 := by omega
  simp -dsimp [hne]
  by_cases hlt : a.tmod n < 0
  · have hw : IntKind.i64.wrap (a.tmod n + n) = a.tmod n + n := wrap_i64 (by omega) (by omega)
    simp -dsimp [hlt, hw, withinM]
  · simp -dsimp [hlt, withinM]

set_option maxRecDepth 10000 in
/-- A copy of a row of numbers ('append([]int{}, x...)'). -/
theorem clone_ints {K : Value → Heap → Prop} {ty : TypeId} {cs : Array Bool} {M : Nat → Prop} {h : Heap} {n0 : Nat} (hn0 : n0 = h.size) {xs : List Int} {a : Option Addr} {m c : Nat} (hx : SlRep rInt (Ft 0 M h) h (.slice a m c) xs) (hn : xs.length < 1000000000)
    (hk : ∀ v' h', SlRep rInt (Ft h.size none_ h') h' v' xs → Keep none_ h h' → K v' h') :
    builtinS Tryz.prog .append #[22, 22] ty cs #[.slice (some ⟨n0, 0, none⟩) 0 0, .slice a m c] (h.push (.cells #[] 3)) K := by
  subst hn0
  obtain ⟨a', c', cs', hv, h1, h2, h3, h4⟩ := hx
  cases hv
  refine clone_cells (F := none_) (F2 := Ft 0 M h) intT (fun _ h => h.elim) Ft.lt rfl h3 (ints_map.2 (ints_map.1 h4)) (by omega) (by omega) ?_
  intro v' h' own g k ho _
  exact hk v' h' (g.ints.mono fun b hb => ⟨⟨⟨ho b hb, fun _ => g.thaw b hb⟩, g.own_lt b hb, fun h => h⟩, rfl⟩) k

theorem rcopy_new {h : Heap} {cs : List Value} {c : CellM} (hr : rCell.rep (Old h) h cs c) (hc : CellSmall c) :
    CallH Tryz.prog 40 #[.agg cs.toArray] h fun r h' => ∃ ds, r = .agg ds.toArray ∧ rCell.rep (Ft h.size none_ h') h' ds c ∧ Keep none_ h h' :=
  (rcopy_th hr Old.lt hc).mono fun _ _ ⟨ds, _, e, r, k, n, t⟩ => ⟨ds, e, rCell.mono r fun b hb => ⟨⟨⟨(n b hb).1, fun _ => t b hb⟩, (n b hb).2, fun h => h⟩, rfl⟩, k⟩

set_option maxHeartbeats 4000000 in
set_option maxRecDepth 10000 in
theorem of_spec {h : Heap} {cs : List Value} {r : RowM} (s : Int) (hr : rRow.rep (Old h) h cs r) (hk : r.key.length < 64) (hm : r.m.length < 1000000000) :
    CallH Tryz.prog 23 #[.agg cs.toArray, .int .i64 s] h fun v h' => ∃ ds, v = .agg ds.toArray ∧ rCell.rep (Ft h.size none_ h') h' ds (ofM s r) ∧ Keep none_ h h' := by
  refine callH_by fun K hK => ?_
  refine enter [.cell 4 46] Tryz.func23 rfl rfl (by kernel_rfl) rfl ?_
  obtain ⟨ka, kc, ma, mc, rfl, r1, r2⟩ := row_open hr
  simp -dsimp [boxS_eq]
  generalize hB : Array.push h _ = hb
  have kb : Keep none_ h hb := by rw [← hB]; exact .push _ _ _
  have hzb : hb.size = h.size + 1 := by rw [← hB]; simp
  have hR : hb[h.size]? = some (.cells #[.slice ka r.key.length kc, .slice ma r.m.length mc] 49 (0, 0)) := by rw [← hB]; exact push_new _ _
  rw [push_set (by simp; omega), ← hzb]
  have p1 := r1.mono ((Tr.of kb).ft (Nat.le_refl 0))
  have p2 := r2.mono ((Tr.of kb).ft (Nat.le_refl 0))
  refine loopj (σ := Nat × Value) (fun t => [(1, .int .i64 s), (2, .pointer (some ⟨h.size, 0, none⟩)), (4, .pointer (some ⟨hb.size, 0, none⟩)), (5, .pointer (some ⟨hb.size + 1, 0, none⟩)), (6, .int .i64 t.1)])
    (fun t h1 => ∃ M own, Tr none_ M hb h1 ∧ (M hb.size ∧ M (hb.size + 1)) ∧ (∀ b, own = some b → hb.size + 2 ≤ b) ∧ t.1 ≤ r.key.length ∧ h1[hb.size]? = some (.cells #[.slice none 0 0, .int .i64 0, .slice none 0 0, .slice none 0 0, .slice none 0 0] 46 (0, 0)) ∧
      h1[hb.size + 1]? = some (.cells #[t.2, .int .i64 1, .slice none 0 0, .slice none 0 0, .slice none 0 0] 46 (0, 0)) ∧ Gr rInt 3 hb.size M h1 t.2 (pickM s 0 (r.key.take t.1)) own)
    (fun t => r.key.length - t.1) (0, .slice none 0 0) (by simp) ?_ (by kernel_rfl) ?_
  · exact ⟨fun b => (none_ b ∨ b = hb.size) ∨ b = hb.size + 1, none, (((Tr.start _).pushM _).pushM _).less fun b hb => hb.imp id fun e => by simp [e], ⟨.inl (.inr rfl), .inr rfl⟩, (fun _ h => by cases h), Nat.zero_le _, push_at (push_new _ _), push_get (by simp), .nil _ _ _ _ _⟩
  rintro ⟨k, v⟩ h1 g ⟨M, own, t1, ⟨hM4, hM5⟩, hne, hk1, hb4, hb1, g1⟩
  simp only at hk1 hb1 g1
  have e1 := t1.size
  have hR1 := t1.at hR (fun h => h)
  have hlb := lt_of_blk hb1
  obtain ⟨va, vn, vc, rfl, hvn⟩ := g1.vals
  have wk := wrap_succ (k := k) (by omega)
  by_cases hkl : k < r.key.length
  · have q1 := p1.mono (t1.ft (Nat.le_refl 0))
    obtain ⟨b1, o1, rfl, _, hc1⟩ := q1.int_at k hkl
    simp -dsimp [hR1, hkl, shr_bit (show k < 64 by omega), bit_op]
    have hpk : pickM s 0 (r.key.take (k + 1)) = pickM s 0 (r.key.take k) ++ (if bitM s k then [r.key[k]] else []) := by
      rw [List.take_add_one, List.getElem?_eq_getElem hkl, Option.toList_some, pickM_snoc, List.length_take, Nat.min_eq_left (by omega), Nat.zero_add]
    by_cases hbit : bitM s k = true
    · have hb1p : ∀ o, (h1.push o)[hb.size + 1]? = _ := fun o => push_at hb1
      rw [if_pos hbit] at hpk
      simp -dsimp [hbit]
      refine drawn_by [⟨0, true, []⟩, ⟨1, true, []⟩, ⟨2, true, []⟩, ⟨3, true, []⟩, ⟨4, true, []⟩, ⟨5, true, []⟩, ⟨6, true, []⟩, ⟨7, false, [0, 1]⟩, ⟨8, false, []⟩, ⟨9, true, []⟩, ⟨10, false, []⟩] (by kernel_rfl) (by kernel_rfl) ?_
      simp -dsimp [hR1, hb1, hb1p, hc1, idxV_nat hkl, elSz_eq, again_cons]
      have hpl := pickM_le s (r.key.take k) 0
      rw [List.length_take] at hpl
      refine gr_app1 rfl intT g1 t1.lt rfl rfl (by omega) (by omega) ?_
      intro v' h2 own' g2 t2 k2 ho
      have hb2 := k2.at hb1 (fun e => by have := hne _ e; omega)
      have hb42 := k2.at hb4 (fun e => by have := hne _ e; omega)
      have hne' : ∀ b, own' = some b → hb.size + 2 ≤ b := fun b e => (ho _ e).elim (hne b) (by omega)
      obtain ⟨va', vn', vc', rfl, _⟩ := g2.vals
      simp -dsimp [hb2, wk]
      have hlb2 := lt_of_blk hb2
      refine ⟨(k + 1, _), by simp, rfl, ⟨_, own', (t1.trans t2).set _ (.inl hM5), ⟨.inl hM4, .inl hM5⟩, hne', by omega, (set_other _ (by omega)).trans hb42, set_same _ hlb2, ?_⟩, by simp; omega⟩
      rw [hpk]
      exact g2.set _ (.inl hM5) (fun e => by have := hne' _ e; omega)
    · rw [if_neg hbit, List.append_nil] at hpk
      simp -dsimp [hbit, wk]
      exact ⟨(k + 1, _), by simp, rfl, ⟨M, own, t1, ⟨hM4, hM5⟩, hne, by omega, hb4, hb1, by simpa [hpk] using g1⟩, by simp; omega⟩
  · have hkk : k = r.key.length := by omega
    rw [hkk, List.take_length] at g1
    have hR1p : ∀ o, (h1.push o)[h.size]? = _ := fun o => push_at hR1
    simp -dsimp [hR1, hR1p, hkl]
    refine clone_ints (M := M) rfl (p2.mono (t1.ft (Nat.le_refl 0))) hm ?_
    intro v2 h2 w2 k2
    have hb2 := k2.at hb1 (fun h => h)
    obtain ⟨a2, c2, rfl, _, _⟩ := w2.val
    simp -dsimp [hb2]
    obtain ⟨h3, e3⟩ : ∃ h3, h3 = Array.setIfInBounds h2 (hb.size + 1) (.cells #[.slice va vn vc, .int .i64 1, .slice a2 r.m.length c2, .slice none 0 0, .slice none 0 0] 46) := ⟨_, rfl⟩
    rw [← e3]
    have u3 := (t1.here.call k2).set (.cells #[.slice va vn vc, .int .i64 1, .slice a2 r.m.length c2, .slice none 0 0, .slice none 0 0] 46) hM5
    have s3 := (t1.call k2).here.set (.cells #[.slice va vn vc, .int .i64 1, .slice a2 r.m.length c2, .slice none 0 0, .slice none 0 0] 46) hM5
    rw [← e3] at u3 s3
    have hb3 : h3[hb.size + 1]? = some (.cells #[.slice va vn vc, .int .i64 1, .slice a2 r.m.length c2, .slice none 0 0, .slice none 0 0] 46 (0, 0)) := e3 ▸ set_same _ (lt_of_blk hb2)
    have g3 := e3 ▸ (g1.call k2).set _ hM5 (fun e => by have := hne _ e; omega)
    have w3 := (w2.mono (t1.ret (n := hb.size) e1)).mono (s3.ft (Nat.le_refl _))
    have t3 := t1.trans u3
    have hR3p : ∀ o, (h3.push o)[h.size]? = _ := fun o => push_at (t3.at hR (fun h => h))
    simp -dsimp [hR3p]
    refine clone_ints (M := M) (by rw [e3]; simp) (p2.mono (t3.ft (Nat.le_refl 0))) hm ?_
    intro v4 h4 w4 k4
    have hb4' := k4.at hb3 (fun h => h)
    obtain ⟨a4, c4, rfl, _, _⟩ := w4.val
    simp -dsimp [hb4']
    obtain ⟨h5, e5⟩ : ∃ h5, h5 = Array.setIfInBounds h4 (hb.size + 1) (.cells #[.slice va vn vc, .int .i64 1, .slice a2 r.m.length c2, .slice a4 r.m.length c4, .slice none 0 0] 46) := ⟨_, rfl⟩
    rw [← e5]
    have s5 := (t3.call k4).here.set (.cells #[.slice va vn vc, .int .i64 1, .slice a2 r.m.length c2, .slice a4 r.m.length c4, .slice none 0 0] 46) hM5
    rw [← e5] at s5
    have hb5 : h5[hb.size + 1]? = some (.cells #[.slice va vn vc, .int .i64 1, .slice a2 r.m.length c2, .slice a4 r.m.length c4, .slice none 0 0] 46 (0, 0)) := e5 ▸ set_same _ (lt_of_blk hb4')
    have g5 := e5 ▸ (g3.call k4).set _ hM5 (fun e => by have := hne _ e; omega)
    have u5 := (t3.here.call k4).trans s5
    have w5 := (w4.mono (t3.ret (n := hb.size) t3.size)).mono (s5.ft (Nat.le_refl _))
    have w35 := w3.mono (u5.ft (Nat.le_refl _))
    have t5 := t3.trans u5
    have hR5p : ∀ o, (h5.push o)[h.size]? = _ := fun o => push_at (t5.at hR (fun h => h))
    simp -dsimp [hR5p]
    refine clone_ints (M := M) (by rw [e5]; simp) (p2.mono (t5.ft (Nat.le_refl 0))) hm ?_
    intro v6 h6 w6 k6
    have hb6 := k6.at hb5 (fun h => h)
    obtain ⟨a6, c6, rfl, _, _⟩ := w6.val
    have hz6 : ∀ o, (Array.setIfInBounds h6 (hb.size + 1) o)[hb.size + 1]? = some o := fun o => set_same _ (lt_of_blk hb6)
    have hb46 : ∀ o, (Array.setIfInBounds h6 (hb.size + 1) o)[hb.size]? = _ := fun o => (set_other _ (by omega)).trans (k6.at ((e5 ▸ set_other _ (by omega) : h5[hb.size]? = h4[hb.size]?).trans (k4.at ((e3 ▸ set_other _ (by omega) : h3[hb.size]? = h2[hb.size]?).trans (k2.at hb4 (fun h => h))) (fun h => h))) (fun h => h))
    have hlb6 : hb.size < h6.size := by have := lt_of_blk hb6; omega
    have hz6' : ∀ o o', (Array.setIfInBounds (Array.setIfInBounds h6 (hb.size + 1) o) hb.size o')[hb.size]? = some o' := fun o o' => set_same _ (by simp; omega)
    simp -dsimp [hb6, hz6, hb46, hz6']
    have s7 := fun o o' => ((t5.call k6).here.set o hM5).set o' hM4
    have u7 := fun o o' => ((t5.here.call k6).set o hM5).set o' hM4
    have t7 := fun o o' => t5.trans (u7 o o')
    have hlh : h.size ≤ hb.size := by omega
    refine hK _ _ ⟨_, rfl, ⟨_, _, _, _, rfl, ?_, ?_, ?_, ?_⟩, kb.trans (t7 _ _).keep (fun _ _ h => h)⟩
    · exact (((g5.call k6).set _ hM5 (fun e => by have := hne _ e; omega)).set _ hM4 (fun e => by have := hne _ e; omega)).rep hlh fun b hb => by have := hne b hb; omega
    · exact (w35.mono ((u7 _ _).ft (Nat.le_refl _))).mono (Ft.free hlh)
    · exact (w5.mono ((u7 _ _).ft (Nat.le_refl _))).mono (Ft.free hlh)
    · exact ((w6.mono (t5.ret (n := hb.size) t5.size)).mono ((s7 _ _).ft (Nat.le_refl _))).mono (Ft.free hlh)
end Go.Proofs

/-
  Cells of rows; a cell among others; the facts' group-by; comparisons of rows of cells.
-/
namespace Go.HC
/-- How long a cell's rows are. -/
structure Sml (m : Nat) (c : CellM) : Prop where
  key : c.key.length ≤ 64
  sum : c.sum.length = m
  mn : c.mn.length = m
  mx : c.mx.length = m
theorem Sml.small {m : Nat} {c : CellM} (s : Sml m c) (hm : m < 1000000000) : CellSmall c := ⟨by have := s.key; omega, by have := s.sum; omega, by have := s.mn; omega, by have := s.mx; omega⟩
theorem Sml.join {m : Nat} {a b : CellM} (ha : Sml m a) (hb : Sml m b) : Sml m (joinC a b) :=
  ⟨ha.key, by simp [joinC, ha.sum, hb.sum], by simp [joinC, ha.mn, hb.mn], by simp [joinC, ha.mx, hb.mx]⟩
theorem Sml.of {s : Int} {r : RowM} (hk : r.key.length ≤ 64) : Sml r.m.length (ofM s r) := ⟨by have := pickM_le s r.key 0; simp only [ofM]; omega, rfl, rfl, rfl⟩
theorem sml_put {m : Nat} {l : List CellM} {c : CellM} (hl : ∀ d ∈ l, Sml m d) (hc : Sml m c) : ∀ d ∈ putC l c, Sml m d := by
  induction l with
  | nil => intro d hd; rw [putC, List.mem_singleton] at hd; rw [hd]; exact hc
  | cons e l ih =>
    intro d hd
    have he := hl e List.mem_cons_self
    have ih := ih fun d hd => hl d (List.mem_cons_of_mem _ hd)
    rw [putC] at hd
    split at hd
    · rcases List.mem_cons.1 hd with rfl | h
      · exact he
      · exact ih d h
    · split at hd
      · rcases List.mem_cons.1 hd with rfl | h
        · exact he.join hc
        · exact hl d (List.mem_cons_of_mem _ h)
      · rcases List.mem_cons.1 hd with rfl | h
        · exact hc
        · exact hl d h
theorem sml_group {m : Nat} {l : List CellM} (hl : ∀ d ∈ l, Sml m d) : ∀ d ∈ groupC l, Sml m d := by
  have key : ∀ (l o : List CellM), (∀ d ∈ l, Sml m d) → (∀ d ∈ o, Sml m d) → ∀ d ∈ l.foldl putC o, Sml m d := by
    intro l
    induction l with
    | nil => exact fun o _ ho => ho
    | cons c l ih => exact fun o hl ho => ih _ (fun d hd => hl d (List.mem_cons_of_mem _ hd)) (sml_put ho (hl c List.mem_cons_self))
  exact key l [] hl fun d hd => by cases hd
/-- Where a cell belongs: how many stand ahead of it. -/
def posC : List CellM → List Int → Nat
  | [], _ => 0
  | d :: l, key => if lessM d.key key < 0 then posC l key + 1 else 0
theorem posC_le : ∀ (l : List CellM) (key : List Int), posC l key ≤ l.length
  | [], _ => Nat.le_refl _
  | d :: l, key => by
    rw [posC]
    have := posC_le l key
    split <;> simp; omega
theorem posC_lt : ∀ {l : List CellM} {key : List Int} {k : Nat} (hk : k < l.length), k < posC l key → lessM l[k].key key < 0
  | [], _, k, hk, _ => by simp at hk
  | d :: l, key, k, hk, h => by
    rw [posC] at h
    split at h
    · rename_i h1
      cases k with
      | zero => exact h1
      | succ k => exact posC_lt (l := l) (by simpa using hk) (by omega)
    · omega
theorem posC_at : ∀ {l : List CellM} {key : List Int} (hk : posC l key < l.length), ¬ lessM l[posC l key].key key < 0
  | [], _, hk => by simp at hk
  | d :: l, key, hk => by
    by_cases h1 : lessM d.key key < 0
    · have e : posC (d :: l) key = posC l key + 1 := by rw [posC, if_pos h1]
      have hk' : posC l key < l.length := by rw [e] at hk; simpa using hk
      have := posC_at hk'
      simp only [e, List.getElem_cons_succ]
      exact this
    · have e : posC (d :: l) key = 0 := by rw [posC, if_neg h1]
      simp only [e, List.getElem_cons_zero]
      exact h1
theorem putC_pos : ∀ (l : List CellM) (c : CellM), putC l c = if h : posC l c.key < l.length ∧ ∃ hk : posC l c.key < l.length, lessM l[posC l c.key].key c.key = 0
    then l.set (posC l c.key) (joinC (l[posC l c.key]'h.1) c) else l.take (posC l c.key) ++ c :: l.drop (posC l c.key)
  | [], c => by simp [putC, posC]
  | d :: l, c => by
    rw [putC]
    by_cases h1 : lessM d.key c.key < 0
    · have e : posC (d :: l) c.key = posC l c.key + 1 := by rw [posC, if_pos h1]
      rw [if_pos h1, putC_pos l c]
      simp only [e, List.length_cons, Nat.add_lt_add_iff_right, List.getElem_cons_succ, List.set_cons_succ, List.take_succ_cons, List.drop_succ_cons, List.cons_append]
      split <;> rfl
    · have e : posC (d :: l) c.key = 0 := by rw [posC, if_neg h1]
      rw [if_neg h1]
      simp only [e, List.length_cons, Nat.zero_lt_succ, List.getElem_cons_zero, List.set_cons_zero, List.take_zero, List.drop_zero, List.nil_append, true_and, exists_true_left]
      split <;> simp_all
end Go.HC
namespace Go.Proofs
open Go Go.HC


set_option maxHeartbeats 4000000 in
set_option maxRecDepth 10000 in
theorem make_spec {h : Heap} {v : Value} {rows : List RowM} (s : Int) (hr : SlRep rRow (Old h) h v rows) (hn : rows.length < 1000000) (hs : ∀ r ∈ rows, r.key.length < 64 ∧ r.m.length < 1000000000) :
    CallH Tryz.prog 15 #[v, .int .i64 s] h fun r h' => SlRep rCell (Ft h.size none_ h') h' r (rows.map (ofM s)) ∧ Keep none_ h h' := by
  refine callH_by fun K hK => ?_
  refine enter [.tmp 4] Tryz.func15 rfl rfl (by kernel_rfl) rfl ?_
  obtain ⟨a0, c0, rfl, hc0, hc0'⟩ := hr.val
  simp -dsimp
  refine loopj (σ := Nat × Value) (fun t => [(0, .slice a0 rows.length c0), (1, .int .i64 s), (5, t.2), (6, .int .i64 t.1)])
    (fun t h1 => ∃ M own, Tr none_ M h h1 ∧ (∀ b, own = some b → h.size ≤ b) ∧ t.1 ≤ rows.length ∧ Gr rCell 46 h.size M h1 t.2 ((rows.map (ofM s)).take t.1) own)
    (fun t => rows.length - t.1) (0, .slice none 0 0) (by simp) ⟨none_, none, .start _, (fun _ h => by cases h), Nat.zero_le _, .nil _ _ _ _ _⟩ (by kernel_rfl) ?_
  rintro ⟨k, v⟩ h1 g ⟨M, own, t1, ho, hk1, g1⟩
  simp only at hk1 g1
  obtain ⟨va, vn, vc, rfl, hvn⟩ := g1.vals
  have wk := wrap_succ (k := k) (by omega)
  by_cases hkl : k < rows.length
  · have q1 := hr.mono t1.old
    obtain ⟨b1, o1, cs, rfl, _, hrep, hc1⟩ := q1.get k hkl
    obtain ⟨ka, kc, ma, mc, rfl, _⟩ := row_open hrep
    have hc1' : HC.cellsIn h1[b1]? (o1 + k * 2) 2 = _ := hc1
    simp -dsimp [hkl, idxA_nat hkl, hc1']
    have hrow := hs rows[k] (List.getElem_mem hkl)
    refine call_by (of_spec s (rRow.mono hrep (Ft.free (Nat.zero_le _))) hrow.1 hrow.2) ?_
    rintro _ h2 ⟨ds, rfl, r2, k2⟩
    have t2 := t1.call k2
    have hl5 := rCell.len r2
    obtain ⟨ka', kc', sa', sc', na', nc', xa', xc', rfl, _⟩ := cell_open r2
    simp -dsimp
    have hl : ((rows.map (ofM s)).take k).length ≤ rows.length := by rw [List.length_take, List.length_map]; omega
    refine gr_app1 rfl cellT (g1.call k2) t2.lt (rCell.mono r2 (t1.ret t1.size)) rfl (by omega) (by omega) ?_
    intro v' h3 own' g3 t3 k3 ho3
    obtain ⟨va', vn', vc', rfl, _⟩ := g3.vals
    simp -dsimp [wk]
    have hk2 := t2.size
    refine ⟨(k + 1, .slice va' vn' vc'), by simp, rfl, ⟨_, own', t2.trans t3, fun b hb => (ho3 b hb).elim (ho b) (by omega), by omega, ?_⟩, by simp; omega⟩
    have : (rows.map (ofM s)).take (k + 1) = (rows.map (ofM s)).take k ++ [ofM s rows[k]] := by
      rw [List.take_add_one, List.getElem?_map, List.getElem?_eq_getElem hkl]; rfl
    rw [this]; exact g3
  · have hkk : k = rows.length := by omega
    simp -dsimp [hkl]
    refine hK _ _ ⟨?_, t1.keep⟩
    rw [hkk, List.take_of_length_le (by simp)] at g1
    exact g1.rep (Nat.le_refl _) ho
end Go.Proofs

/-
  HC, part 25: several slices that grow, in blocks of their own.
-/
namespace Go.HC
/-- A slice that grows: its value, its data, its block. -/
structure GI (α : Type) where
  v : Value
  xs : List α
  o : Option Nat
/-- Slices that grow, in blocks of their own that are none of B. -/
structure Grs {α : Type} (R : Rp α) (e n : Nat) (M : Nat → Prop) (h : Heap) (B : Nat → Prop) (l : List (GI α)) : Prop where
  gr : ∀ t ∈ l, Gr R e n M h t.v t.xs t.o ∧ ∀ b, t.o = some b → ¬ B b ∧ n ≤ b
  sep : ∀ (i j : Nat) (s t : GI α), l[i]? = some s → l[j]? = some t → i ≠ j → ∀ b, s.o = some b → t.o ≠ some b
section
variable {α : Type} {R : Rp α} {e n : Nat} {M M' : Nat → Prop} {h h' : Heap} {B : Nat → Prop} {l : List (GI α)}
theorem Grs.nils (k : Nat) : Grs R e n M h B (List.replicate k ⟨.slice none 0 0, [], none⟩) := by
  refine ⟨fun t ht => ?_, fun i j s t hi hj _ b hb => ?_⟩
  · rw [(List.mem_replicate.1 ht).2]
    exact ⟨.nil _ _ _ _ _, fun b hb => by cases hb⟩
  · have := (List.mem_replicate.1 (List.mem_of_getElem? hi)).2
    rw [this] at hb; cases hb
theorem Grs.at (g : Grs R e n M h B l) {i : Nat} {t : GI α} (hi : l[i]? = some t) : Gr R e n M h t.v t.xs t.o := (g.gr t (List.mem_of_getElem? hi)).1
theorem Grs.call (g : Grs R e n M h B l) (k : Keep none_ h h') : Grs R e n M h' B l := ⟨fun t ht => ⟨(g.gr t ht).1.call k, (g.gr t ht).2⟩, g.sep⟩
/-- A block of B is written. -/
theorem Grs.wr (g : Grs R e n M h B l) {b : Nat} (o : Obj) (hb : M b) (hB : B b) : Grs R e n M (h.setIfInBounds b o) B l :=
  ⟨fun t ht => ⟨(g.gr t ht).1.set o hb fun e => ((g.gr t ht).2 b e).1 hB, (g.gr t ht).2⟩, g.sep⟩
/-- One of them has grown. -/
theorem Grs.app (g : Grs R e n M h B l) {i : Nat} {t : GI α} (hi : l[i]? = some t) {v : Value} {ys : List α} {o : Option Nat} (hg : Gr R e n M' h' v ys o) (ht : Tr M M' h h') (hk : Keep (fun b => t.o = some b) h h') (ho : ∀ b, o = some b → t.o = some b ∨ h.size ≤ b)
    (hB : ∀ b, B b → b < h.size) (hn : n ≤ h.size) (hM : ∀ b, M b → M' b) : Grs R e n M' h' B (l.set i ⟨v, ys, o⟩) := by
  have hil : i < l.length := (List.getElem?_eq_some_iff.1 hi).1
  have lt : ∀ s ∈ l, ∀ b, s.o = some b → b < h.size := fun s hs b hb => (g.gr s hs).1.own_lt b hb
  have hmt := List.mem_of_getElem? hi
  refine ⟨fun s hs => ?_, fun a c s t' ha hc hac b hb hb' => ?_⟩
  · obtain ⟨j, hj⟩ := List.mem_iff_getElem?.1 hs
    rw [List.getElem?_set] at hj
    by_cases hij : i = j
    · rw [if_pos hij, if_pos hil] at hj
      cases hj
      refine ⟨hg, fun b hb => ?_⟩
      rcases ho b hb with h1 | h1
      · exact (g.gr t hmt).2 b h1
      · exact ⟨fun h2 => by have := hB b h2; omega, by omega⟩
    · rw [if_neg hij] at hj
      have hm := List.mem_of_getElem? hj
      refine ⟨(g.gr s hm).1.mono ht (Nat.le_refl _) fun b hb => ⟨hM b ((g.gr s hm).1.mu b hb), hk.blk b (lt s hm b hb) (g.sep j i s t hj hi (fun e => hij e.symm) b hb)⟩, (g.gr s hm).2⟩
  · rw [List.getElem?_set] at ha hc
    by_cases h1 : i = a
    · have h2 : i ≠ c := fun e => hac (h1.symm.trans e)
      rw [if_pos h1, if_pos hil] at ha
      rw [if_neg h2] at hc
      cases ha
      rcases ho b hb with h3 | h3
      · exact g.sep i c t t' hi hc h2 b h3 hb'
      · have := lt t' (List.mem_of_getElem? hc) b hb'; omega
    · rw [if_neg h1] at ha
      by_cases h2 : i = c
      · rw [if_pos h2, if_pos hil] at hc
        cases hc
        rcases ho b hb' with h3 | h3
        · exact g.sep a i s t ha hi (fun e => h1 e.symm) b hb h3
        · have := lt s (List.mem_of_getElem? ha) b hb; omega
      · rw [if_neg h2] at hc
        exact g.sep a c s t' ha hc hac b hb hb'
end
end Go.HC

/-
  The document's join of two cells.
-/
namespace Go.HC
theorem zip_take {g : Int → Int → Int} {xs ys : List Int} {k : Nat} (h1 : k < xs.length) (h2 : k < ys.length) : (List.zipWith g xs ys).take (k + 1) = (List.zipWith g xs ys).take k ++ [g xs[k] ys[k]] := by
  rw [List.take_add_one, List.getElem?_eq_getElem (by rw [List.length_zipWith]; omega), List.getElem_zipWith]
  rfl
end Go.HC
namespace Go.Proofs
open Go Go.HC

theorem _root_.Go.HC.Grow.not_at {e f : Nat} {h : Heap} {v : Value} {xs : List Int} {own : Option Nat} {b : Nat} {arr : Array Value} (g : Grow rInt e none_ h v xs own) (hb : h[b]? = some (.cells arr f (0, 0))) (hef : e ≠ f) : own ≠ some b := by
  rintro rfl
  rcases g with ⟨_, _, h0⟩ | ⟨bk, c, ar, cs, _, h0, h1, _⟩
  · cases h0
  · cases h0
    rw [h1] at hb
    simp only [Option.some.injEq] at hb
    injection hb with _ h2 _
    exact hef h2
set_option maxHeartbeats 40000000 in
set_option maxRecDepth 10000 in
theorem rjoin_spec {h : Heap} {cs ds : List Value} {a b : CellM} {m : Nat} (ha : rCell.rep (Old h) h cs a) (sa : CellSmall a) (ea : Sml m a) (hb : rCell.rep (Old h) h ds b) (eb : Sml m b) :
    CallH Tryz.prog 45 #[.agg cs.toArray, .agg ds.toArray] h fun r h' => ∃ es, r = .agg es.toArray ∧ rCell.rep (Ft h.size none_ h') h' es (joinC a b) ∧ Keep none_ h h' := by
  refine callH_by fun K hK => ?_
  refine enter [.cell 4 46] Tryz.func45 rfl rfl (by kernel_rfl) rfl ?_
  obtain ⟨kv, sv, nv, xv, rfl, r1, r2, r3, r4⟩ := ha
  obtain ⟨ka, kc, rfl, _, _⟩ := r1.val
  obtain ⟨s1, sc, rfl, _, _⟩ := r2.val
  obtain ⟨na, nc, rfl, _, _⟩ := r3.val
  obtain ⟨xa, xc, rfl, _, _⟩ := r4.val
  obtain ⟨kv', sv', nv', xv', rfl, q1, q2, q3, q4⟩ := hb
  obtain ⟨ka', kc', rfl, _, _⟩ := q1.val
  obtain ⟨sa', sc', rfl, _, _⟩ := q2.val
  obtain ⟨na', nc', rfl, _, _⟩ := q3.val
  obtain ⟨xa', xc', rfl, _, _⟩ := q4.val
  simp -dsimp [boxS_eq]
  generalize hB : Array.push _ _ = h0
  have hz0 : h0.size = h.size + 3 := by rw [← hB]; simp
  have k0 : Keep none_ h h0 := by rw [← hB]; exact (((Keep.refl none_ h).pushed _).pushed _).pushed _
  have hp1 : ∀ o, (h.push o).size = h.size + 1 := fun o => by simp
  have hp2 : ∀ o o', ((h.push o).push o').size = h.size + 2 := fun o o' => by simp
  have hA0 : h0[h.size]? = some (.cells #[.slice ka a.key.length kc, .int .i64 a.count, .slice s1 a.sum.length sc, .slice na a.mn.length nc, .slice xa a.mx.length xc] 46 (0, 0)) := by rw [← hB]; exact push_at (push_at (push_new _ _))
  have hB0 : h0[h.size + 1]? = some (.cells #[.slice ka' b.key.length kc', .int .i64 b.count, .slice sa' b.sum.length sc', .slice na' b.mn.length nc', .slice xa' b.mx.length xc'] 46 (0, 0)) := by
    rw [← hB]; refine push_at ?_; rw [← hp1]; exact push_new _ _
  have hT0 : h0[h.size + 2]? = some (.cells #[.slice none 0 0, .int .i64 0, .slice none 0 0, .slice none 0 0, .slice none 0 0] 46 (0, 0)) := by
    rw [← hB, ← hp2]; exact push_new _ _
  have m1 : ∀ b, Old h b → Old h b ∧ h0[b]? = h[b]? := fun b hb => ⟨hb, k0.blk b (Old.lt b hb) (fun h => h)⟩
  have hF0 : ∀ b, Old h b → b < h0.size := fun b hb => by have := Old.lt b hb; omega
  have p1 := r1.mono m1
  refine drawn_any [([], .act (EmptyAt h0.size)), ([], .look (.pointer (some ⟨h.size, 0, none⟩))), ([1], .look (.slice ka a.key.length kc)), ([0, 2], .act (NewInts h0.size a.key)),
    ([], .look (.pointer (some ⟨h.size, 1, none⟩))), ([4], .look (.int .i64 a.count)), ([], .look (.pointer (some ⟨h.size + 1, 1, none⟩))), ([6], .look (.int .i64 b.count)), ([5, 7], .look (.int .i64 (IntKind.i64.wrap (a.count + b.count)))),
    ([3, 8], .act (fun v h' => ∃ kv, v = .agg #[kv, .int .i64 (IntKind.i64.wrap (a.count + b.count)), .slice none 0 0, .slice none 0 0, .slice none 0 0] ∧ NewInts h0.size a.key kv h')),
    ([], .act (fun v h' => ∃ b5, v = .pointer (some ⟨b5, 0, none⟩) ∧ h'[b5]? = some (.cells #[.slice none 0 0, .int .i64 0, .slice none 0 0, .slice none 0 0, .slice none 0 0] 46 (0, 0)) ∧ h0.size ≤ b5))]
    [0, 1, 2, 3, 4, 5, 6, 7, 8, 9, 10] [⟨11, false, []⟩] (by kernel_rfl) (by kernel_rfl) (by kernel_rfl) ?_ ?_
  · simp only [obl, rdS, doS]
    refine ⟨?_, ?_, ?_, ?_, ?_, ?_, ?_, ?_, ?_, ?_, ?_, trivial⟩
    all_goals intro h1 k1
    all_goals simp -dsimp [dstOf, k1.at hA0 (fun h => h), k1.at hB0 (fun h => h)]
    · exact ⟨.push _ _ _, _, rfl, push_new _ _, k1.size⟩
    · exact fun v hj he kj => newInts_app he kj k1 p1 hF0 sa.key fun _ _ h => h
    · rintro v hj ⟨own, g, n⟩ kj
      replace g := g.at_ kj
      obtain ⟨a', c', rfl⟩ := g.val
      simp -dsimp
      exact ⟨.refl _ _, own, g, n⟩
    · exact ⟨.push _ _ _, k1.size⟩
  · intro h4 k4
    have hT4 := k4.at hT0 (fun h => h)
    have e4 := k4.size
    simp -dsimp only [List.map_cons, List.map_nil, item, dstOf, List.getElem?_cons_succ, List.getElem?_cons_zero, Option.map_some, Option.bind_some]
    simp -dsimp only [rdI, putl]
    rintro - - - - - - - - vA jA ⟨kv, rfl, o1, g1, n1⟩ wA vB jB ⟨b5, rfl, hb5, l5⟩ wB
    replace g1 := g1.at_ wA
    replace hb5 := wB.at hb5 (fun h => h)
    have w1 := g1.not_at hb5 (by decide)
    obtain ⟨a1, c1, rfl⟩ := g1.val
    have hlb := lt_of_blk hb5
    have hset : ∀ o, (h4.setIfInBounds b5 o)[b5]? = some o := fun o => set_same o hlb
    simp -dsimp [hb5]
    have hs2 : h.size + 1 + 1 = h.size + 2 := rfl
    rw [hs2]
    have t4 : Tr none_ (fun b => b = h.size + 2 ∨ b = b5) h h4 := ⟨k0.trans k4 (fun _ _ h => h), fun b hb => .inr (by omega), fun b hb => by omega⟩
    generalize hH : h4.setIfInBounds b5 _ = h5
    have t5 : Tr none_ (fun b => b = h.size + 2 ∨ b = b5) h h5 := by rw [← hH]; exact t4.set _ (.inr rfl)
    have hold : ∀ b, b ≠ b5 → h5[b]? = h4[b]? := fun b hn => by rw [← hH, set_other _ (fun e => hn e.symm)]
    have hz5 : h5.size = h4.size := by rw [← hH]; simp
    have hb5' : h5[b5]? = some (.cells #[.slice a1 a.key.length c1, .int .i64 (IntKind.i64.wrap (a.count + b.count)), .slice none 0 0, .slice none 0 0, .slice none 0 0] 46 (0, 0)) := by rw [← hH]; exact set_same _ hlb
    have gk : SlRep rInt (Ft h.size (fun b => b = h.size + 2 ∨ b = b5) h5) h5 _ _ := g1.ints.mono fun b hb => by
        have := n1 b hb
        have := g1.own_lt b hb
        have hne : b ≠ b5 := fun e => w1 (by rw [← e]; exact hb)
        exact ⟨⟨⟨by omega, fun _ => (g1.thaw b hb).at (hold b hne)⟩, by omega, by omega⟩, hold b hne⟩
    have hA5 := (hold _ (by omega)).trans (k4.at hA0 (fun h => h))
    have hB5 := (hold _ (by omega)).trans (k4.at hB0 (fun h => h))
    have hT5 := (hold _ (by omega)).trans hT4
    clear hH hset
    refine loopj (σ := Nat × Value × Value × Value) (fun t => [(2, .pointer (some ⟨h.size, 0, none⟩)), (3, .pointer (some ⟨h.size + 1, 0, none⟩)), (4, .pointer (some ⟨h.size + 2, 0, none⟩)), (5, .pointer (some ⟨b5, 0, none⟩)), (6, .int .i64 t.1)])
      (fun t h1 => ∃ M o2 o3 o4, Tr (fun b => b = h.size + 2 ∨ b = b5) M h5 h1 ∧ (M (h.size + 2) ∧ M b5) ∧ t.1 ≤ a.sum.length ∧ h1[h.size + 2]? = some (.cells #[.slice none 0 0, .int .i64 0, .slice none 0 0, .slice none 0 0, .slice none 0 0] 46 (0, 0)) ∧
        h1[b5]? = some (.cells #[.slice a1 a.key.length c1, .int .i64 (IntKind.i64.wrap (a.count + b.count)), t.2.1, t.2.2.1, t.2.2.2] 46 (0, 0)) ∧
        Grs rInt 3 h.size M h1 (fun b => b = h.size + 2 ∨ b = b5) [⟨t.2.1, (joinC a b).sum.take t.1, o2⟩, ⟨t.2.2.1, (joinC a b).mn.take t.1, o3⟩, ⟨t.2.2.2, (joinC a b).mx.take t.1, o4⟩])
      (fun t => a.sum.length - t.1) (0, .slice none 0 0, .slice none 0 0, .slice none 0 0) (by simp) ⟨_, none, none, none, t5.here, ⟨.inl rfl, .inr rfl⟩, Nat.zero_le _, hT5, hb5', Grs.nils 3⟩ (by kernel_rfl) ?_
    rintro ⟨k, v2, v3, v4⟩ h1 g ⟨M, o2, o3, o4, t1, ⟨hM2, hM5⟩, hk, hT1, hb1, gg⟩
    simp only at hk hT1 hb1 gg
    have e1 := t1.size
    have hA1 := t1.at hA5 (by omega)
    have hB1 := t1.at hB5 (by omega)
    have wk := wrap_succ (k := k) (by have := sa.sum; omega)
    have hlb1 := lt_of_blk hb1
    obtain ⟨va2, vn2, vc2, rfl, _⟩ := (gg.at (i := 0) rfl).vals
    obtain ⟨va3, vn3, vc3, rfl, _⟩ := (gg.at (i := 1) rfl).vals
    obtain ⟨va4, vn4, vc4, rfl, _⟩ := (gg.at (i := 2) rfl).vals
    by_cases hkl : k < a.sum.length
    · have hb1p : ∀ o, (h1.push o)[b5]? = _ := fun o => push_at hb1
      simp -dsimp [hA1, hkl]
      have tt := t5.trans t1
      have ll : ∀ f : List Int, (f.take k).length ≤ k := fun f => by rw [List.length_take]; omega
      have hsk := sa.sum
      obtain ⟨bA0, oA0, eA0, _, cA0⟩ := (r2.mono tt.old).int_at k (by omega)
      obtain ⟨bB0, oB0, eB0, _, cB0⟩ := (q2.mono tt.old).int_at k (by rw [eb.sum, ← ea.sum]; omega)
      subst eA0 eB0
      have iA0 : k < a.sum.length := by omega
      have iB0 : k < b.sum.length := by rw [eb.sum, ← ea.sum]; omega
      refine drawn_by [⟨0, true, []⟩, ⟨1, true, []⟩, ⟨2, true, []⟩, ⟨3, true, []⟩, ⟨4, true, []⟩, ⟨5, true, []⟩, ⟨6, true, []⟩, ⟨7, true, []⟩, ⟨8, true, []⟩, ⟨9, true, []⟩, ⟨10, true, []⟩, ⟨11, true, []⟩, ⟨12, true, []⟩, ⟨13, false, [0, 1]⟩, ⟨14, false, []⟩, ⟨15, true, []⟩, ⟨16, false, []⟩] (by kernel_rfl) (by kernel_rfl) ?_
      simp -dsimp [hA1, hB1, hb1, hb1p, cA0, cB0, idxV_nat iA0, idxV_nat iB0, elSz_eq, again_cons]
      have eL0 := ll (joinC a b).sum
      refine gr_app1 (xs := (joinC a b).sum.take k) (by rfl) intT (gg.at (i := 0) rfl) t1.lt rfl rfl (by omega) (by omega) ?_
      intro w0 y0 p0 g0 u0 k0 ho0
      obtain ⟨ya0, yn0, yc0, rfl, _⟩ := g0.vals
      have hby0 := k0.at hb1 (fun e => ((gg.gr _ (List.mem_of_getElem? (i := 0) rfl)).2 _ e).1 (.inr rfl))
      have G0 := gg.app (i := 0) rfl g0 u0 k0 ho0 (fun b hb => by have := tt.size; have := lt_of_blk hb1; have := tt.lt _ hM2; omega) tt.size (fun b hb => .inl hb)
      simp -dsimp [hby0]
      obtain ⟨z0, x0⟩ : ∃ z, z = y0.setIfInBounds b5 (.cells #[.slice a1 a.key.length c1, .int .i64 (IntKind.i64.wrap (a.count + b.count)), .slice ya0 yn0 yc0, .slice va3 vn3 vc3, .slice va4 vn4 vc4] 46) := ⟨_, rfl⟩
      rw [← x0]
      obtain ⟨N0, eN0⟩ : ∃ N : Nat → Prop, N = fun b => M b ∨ p0 = some b := ⟨_, rfl⟩
      have n20 : N0 (h.size + 2) := by rw [eN0]; exact .inl hM2
      have n50 : N0 b5 := by rw [eN0]; exact .inl hM5
      rw [← eN0] at u0 G0
      replace u0 := u0.set (.cells #[.slice a1 a.key.length c1, .int .i64 (IntKind.i64.wrap (a.count + b.count)), .slice ya0 yn0 yc0, .slice va3 vn3 vc3, .slice va4 vn4 vc4] 46) n50
      replace G0 := G0.wr (.cells #[.slice a1 a.key.length c1, .int .i64 (IntKind.i64.wrap (a.count + b.count)), .slice ya0 yn0 yc0, .slice va3 vn3 vc3, .slice va4 vn4 vc4] 46) n50 (.inr rfl)
      rw [← x0] at u0 G0
      have hbz0 : z0[b5]? = some (.cells #[.slice a1 a.key.length c1, .int .i64 (IntKind.i64.wrap (a.count + b.count)), .slice ya0 yn0 yc0, .slice va3 vn3 vc3, .slice va4 vn4 vc4] 46 (0, 0)) := x0 ▸ set_same _ (lt_of_blk hby0)
      have hTz0 : z0[h.size + 2]? = _ := x0 ▸ (set_other _ (by omega)).trans (k0.at hT1 (fun e => ((gg.gr _ (List.mem_of_getElem? (i := 0) rfl)).2 _ e).1 (.inl rfl)))
      have hbzp0 : ∀ o, (z0.push o)[b5]? = _ := fun o => push_at hbz0
      have tr0 := t1.trans u0
      have tt0 := tt.trans u0
      have hA0' := tr0.at hA5 (by omega)
      have hB0' := tr0.at hB5 (by omega)
      obtain ⟨bA1, oA1, eA1, _, cA1⟩ := (r3.mono tt0.old).int_at k (by rw [ea.mn, ← ea.sum]; omega)
      obtain ⟨bB1, oB1, eB1, _, cB1⟩ := (q3.mono tt0.old).int_at k (by rw [eb.mn, ← ea.sum]; omega)
      subst eA1 eB1
      have iA1 : k < a.mn.length := by rw [ea.mn, ← ea.sum]; omega
      have iB1 : k < b.mn.length := by rw [eb.mn, ← ea.sum]; omega
      refine drawn_by [⟨0, true, []⟩, ⟨1, true, []⟩, ⟨2, true, []⟩, ⟨3, true, []⟩, ⟨4, true, []⟩, ⟨5, true, []⟩, ⟨6, true, []⟩, ⟨7, true, []⟩, ⟨8, true, []⟩, ⟨9, true, []⟩, ⟨10, true, []⟩, ⟨11, true, []⟩, ⟨12, false, [0, 1]⟩, ⟨13, false, [0, 1]⟩, ⟨14, false, []⟩, ⟨15, true, []⟩, ⟨16, false, []⟩] (by kernel_rfl) (by kernel_rfl) ?_
      simp -dsimp [hA0', hB0', hbz0, hbzp0, cA1, cB1, idxV_nat iA1, idxV_nat iB1, elSz_eq, again_cons]
      have eL1 := ll (joinC a b).mn
      refine gr_app1 (xs := (joinC a b).mn.take k) (by first | rfl | (rw [x0]; simp)) intT (G0.at (i := 1) rfl) tr0.lt rfl rfl (by omega) (by omega) ?_
      intro w1 y1 p1 g1 u1 k1 ho1
      obtain ⟨ya1, yn1, yc1, rfl, _⟩ := g1.vals
      have hby1 := k1.at hbz0 (fun e => ((G0.gr _ (List.mem_of_getElem? (i := 1) rfl)).2 _ e).1 (.inr rfl))
      have G1 := G0.app (i := 1) rfl g1 u1 k1 ho1 (fun b hb => by have := tt0.size; have := lt_of_blk hbz0; have := tt0.lt _ n20; omega) tt0.size (fun b hb => .inl hb)
      simp -dsimp [hby1]
      obtain ⟨z1, x1⟩ : ∃ z, z = y1.setIfInBounds b5 (.cells #[.slice a1 a.key.length c1, .int .i64 (IntKind.i64.wrap (a.count + b.count)), .slice ya0 yn0 yc0, .slice ya1 yn1 yc1, .slice va4 vn4 vc4] 46) := ⟨_, rfl⟩
      rw [← x1]
      obtain ⟨N1, eN1⟩ : ∃ N : Nat → Prop, N = fun b => N0 b ∨ p1 = some b := ⟨_, rfl⟩
      have n21 : N1 (h.size + 2) := by rw [eN1]; exact .inl n20
      have n51 : N1 b5 := by rw [eN1]; exact .inl n50
      rw [← eN1] at u1 G1
      replace u1 := u1.set (.cells #[.slice a1 a.key.length c1, .int .i64 (IntKind.i64.wrap (a.count + b.count)), .slice ya0 yn0 yc0, .slice ya1 yn1 yc1, .slice va4 vn4 vc4] 46) n51
      replace G1 := G1.wr (.cells #[.slice a1 a.key.length c1, .int .i64 (IntKind.i64.wrap (a.count + b.count)), .slice ya0 yn0 yc0, .slice ya1 yn1 yc1, .slice va4 vn4 vc4] 46) n51 (.inr rfl)
      rw [← x1] at u1 G1
      have hbz1 : z1[b5]? = some (.cells #[.slice a1 a.key.length c1, .int .i64 (IntKind.i64.wrap (a.count + b.count)), .slice ya0 yn0 yc0, .slice ya1 yn1 yc1, .slice va4 vn4 vc4] 46 (0, 0)) := x1 ▸ set_same _ (lt_of_blk hby1)
      have hTz1 : z1[h.size + 2]? = _ := x1 ▸ (set_other _ (by omega)).trans (k1.at hTz0 (fun e => ((G0.gr _ (List.mem_of_getElem? (i := 1) rfl)).2 _ e).1 (.inl rfl)))
      have hbzp1 : ∀ o, (z1.push o)[b5]? = _ := fun o => push_at hbz1
      have tr1 := tr0.trans u1
      have tt1 := tt0.trans u1
      have hA1' := tr1.at hA5 (by omega)
      have hB1' := tr1.at hB5 (by omega)
      obtain ⟨bA2, oA2, eA2, _, cA2⟩ := (r4.mono tt1.old).int_at k (by rw [ea.mx, ← ea.sum]; omega)
      obtain ⟨bB2, oB2, eB2, _, cB2⟩ := (q4.mono tt1.old).int_at k (by rw [eb.mx, ← ea.sum]; omega)
      subst eA2 eB2
      have iA2 : k < a.mx.length := by rw [ea.mx, ← ea.sum]; omega
      have iB2 : k < b.mx.length := by rw [eb.mx, ← ea.sum]; omega
      refine drawn_by [⟨0, true, []⟩, ⟨1, true, []⟩, ⟨2, true, []⟩, ⟨3, true, []⟩, ⟨4, true, []⟩, ⟨5, true, []⟩, ⟨6, true, []⟩, ⟨7, true, []⟩, ⟨8, true, []⟩, ⟨9, true, []⟩, ⟨10, true, []⟩, ⟨11, true, []⟩, ⟨12, false, [0, 1]⟩, ⟨13, false, [0, 1]⟩, ⟨14, false, []⟩, ⟨15, true, []⟩, ⟨16, false, []⟩] (by kernel_rfl) (by kernel_rfl) ?_
      simp -dsimp [hA1', hB1', hbz1, hbzp1, cA2, cB2, idxV_nat iA2, idxV_nat iB2, elSz_eq, again_cons]
      have eL2 := ll (joinC a b).mx
      refine gr_app1 (xs := (joinC a b).mx.take k) (by first | rfl | (rw [x1]; simp)) intT (G1.at (i := 2) rfl) tr1.lt rfl rfl (by omega) (by omega) ?_
      intro w2 y2 p2 g2 u2 k2 ho2
      obtain ⟨ya2, yn2, yc2, rfl, _⟩ := g2.vals
      have hby2 := k2.at hbz1 (fun e => ((G1.gr _ (List.mem_of_getElem? (i := 2) rfl)).2 _ e).1 (.inr rfl))
      have G2 := G1.app (i := 2) rfl g2 u2 k2 ho2 (fun b hb => by have := tt1.size; have := lt_of_blk hbz1; have := tt1.lt _ n21; omega) tt1.size (fun b hb => .inl hb)
      simp -dsimp [hby2]
      obtain ⟨z2, x2⟩ : ∃ z, z = y2.setIfInBounds b5 (.cells #[.slice a1 a.key.length c1, .int .i64 (IntKind.i64.wrap (a.count + b.count)), .slice ya0 yn0 yc0, .slice ya1 yn1 yc1, .slice ya2 yn2 yc2] 46) := ⟨_, rfl⟩
      rw [← x2]
      obtain ⟨N2, eN2⟩ : ∃ N : Nat → Prop, N = fun b => N1 b ∨ p2 = some b := ⟨_, rfl⟩
      have n22 : N2 (h.size + 2) := by rw [eN2]; exact .inl n21
      have n52 : N2 b5 := by rw [eN2]; exact .inl n51
      rw [← eN2] at u2 G2
      replace u2 := u2.set (.cells #[.slice a1 a.key.length c1, .int .i64 (IntKind.i64.wrap (a.count + b.count)), .slice ya0 yn0 yc0, .slice ya1 yn1 yc1, .slice ya2 yn2 yc2] 46) n52
      replace G2 := G2.wr (.cells #[.slice a1 a.key.length c1, .int .i64 (IntKind.i64.wrap (a.count + b.count)), .slice ya0 yn0 yc0, .slice ya1 yn1 yc1, .slice ya2 yn2 yc2] 46) n52 (.inr rfl)
      rw [← x2] at u2 G2
      have hbz2 : z2[b5]? = some (.cells #[.slice a1 a.key.length c1, .int .i64 (IntKind.i64.wrap (a.count + b.count)), .slice ya0 yn0 yc0, .slice ya1 yn1 yc1, .slice ya2 yn2 yc2] 46 (0, 0)) := x2 ▸ set_same _ (lt_of_blk hby2)
      have hTz2 : z2[h.size + 2]? = _ := x2 ▸ (set_other _ (by omega)).trans (k2.at hTz1 (fun e => ((G1.gr _ (List.mem_of_getElem? (i := 2) rfl)).2 _ e).1 (.inl rfl)))
      have hbzp2 : ∀ o, (z2.push o)[b5]? = _ := fun o => push_at hbz2
      have tr2 := tr1.trans u2
      have tt2 := tt1.trans u2
      have hA2' := tr2.at hA5 (by omega)
      have hB2' := tr2.at hB5 (by omega)
      have z0' := zip_take (g := fun x y => IntKind.i64.wrap (x + y)) iA0 iB0
      have z1' := zip_take (g := min) iA1 iB1
      have z2' := zip_take (g := max) iA2 iB2
      refine ⟨(k + 1, .slice ya0 yn0 yc0, .slice ya1 yn1 yc1, .slice ya2 yn2 yc2), by simp [wk], rfl, ⟨N2, p0, p1, p2, tr2, ⟨n22, n52⟩, by omega, hTz2, hbz2, ?_⟩, by simp; omega⟩
      show Grs _ _ _ _ _ _ [⟨_, (List.zipWith _ a.sum b.sum).take (k + 1), p0⟩, ⟨_, (List.zipWith _ a.mn b.mn).take (k + 1), p1⟩, ⟨_, (List.zipWith _ a.mx b.mx).take (k + 1), p2⟩]
      rw [z0', z1', z2']
      exact G2
    · simp -dsimp [hA1, hkl, hb1]
      have hkk : k = a.sum.length := by omega
      have hsetT : ∀ o, (h1.setIfInBounds (h.size + 2) o)[h.size + 2]? = some o := fun o => set_same _ (lt_of_blk hT1)
      simp -dsimp [hT1, hsetT]
      have hl := fun (f : Int → Int → Int) (xs ys : List Int) (e : xs.length = m) (e' : ys.length = m) => List.take_of_length_le (l := List.zipWith f xs ys) (i := k) (by rw [List.length_zipWith]; have := ea.sum; omega)
      have tt := (t5.trans t1).set (.cells #[.slice a1 a.key.length c1, .int .i64 (IntKind.i64.wrap (a.count + b.count)), .slice va2 vn2 vc2, .slice va3 vn3 vc3, .slice va4 vn4 vc4] 46) hM2
      have t1' := t1.set (.cells #[.slice a1 a.key.length c1, .int .i64 (IntKind.i64.wrap (a.count + b.count)), .slice va2 vn2 vc2, .slice va3 vn3 vc3, .slice va4 vn4 vc4] 46) hM2
      have g9 := gg.wr (.cells #[.slice a1 a.key.length c1, .int .i64 (IntKind.i64.wrap (a.count + b.count)), .slice va2 vn2 vc2, .slice va3 vn3 vc3, .slice va4 vn4 vc4] 46) hM2 (.inl rfl)
      have hr := fun i t (hi : [(⟨.slice va2 vn2 vc2, (joinC a b).sum.take k, o2⟩ : GI Int), ⟨.slice va3 vn3 vc3, (joinC a b).mn.take k, o3⟩, ⟨.slice va4 vn4 vc4, (joinC a b).mx.take k, o4⟩][i]? = some t) => (g9.at hi).rep (n' := h.size) (Nat.le_refl _) fun b hb => ((g9.gr t (List.mem_of_getElem? hi)).2 b hb).2
      refine hK _ _ ⟨_, rfl, ⟨_, _, _, _, rfl, (gk.mono (t1'.ft (Nat.le_refl _))).mono (Ft.free (Nat.le_refl _)), ?_, ?_, ?_⟩, tt.keep⟩
      · have := hr 0 _ rfl
        rwa [show (joinC a b).sum.take k = (joinC a b).sum from hl _ _ _ ea.sum eb.sum] at this
      · have := hr 1 _ rfl
        rwa [show (joinC a b).mn.take k = (joinC a b).mn from hl _ _ _ ea.mn eb.mn] at this
      · have := hr 2 _ rfl
        rwa [show (joinC a b).mx.take k = (joinC a b).mx from hl _ _ _ ea.mx eb.mx] at this
end Go.Proofs
