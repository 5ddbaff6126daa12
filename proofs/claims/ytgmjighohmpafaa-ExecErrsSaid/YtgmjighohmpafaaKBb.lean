/-
  HC, part 18: a drawn region in which two operations that both change the memory stand in no order: two orders are written out.
-/
import Derived.Test.YtgmjighohmpafaaKBa
import Derived.Test.YtgmjighohmpafaaProg
import Derived.KernelRfl

namespace Go.HC

/-- The same operations, the one with number j behind that with number i. -/
def addE (ops : Array Oper) (i j : Nat) : Array Oper := ops.modify j fun o => { o with after := o.after.push { on := i, ground := .data } }

section
variable {P : Program} {ops : Array Oper} {i j : Nat}
theorem addE_get (m : Nat) : (addE ops i j)[m]? = (ops[m]?).map fun o => if m = j then { o with after := o.after.push { on := i, ground := .data } } else o := by
  unfold addE
  rw [Array.getElem?_modify]
  by_cases h : j = m
  · subst h; simp
  · rw [if_neg h]
    cases ops[m]? with
    | none => rfl
    | some o => simp [Ne.symm h]
theorem addE_size : (addE ops i j).size = ops.size := by simp [addE]
theorem execOp_after (ρ : Operand → Value) (o : Oper) (x : Array Edge) : execOp ρ { o with after := x } = execOp ρ o := by
  obtain ⟨dst, op, type, pos, after, guard⟩ := o
  rfl
theorem addE_dst (m : Nat) : ((addE ops i j)[m]?).bind (·.dst) = (ops[m]?).bind (·.dst) := by
  rw [addE_get]
  cases ops[m]? with
  | none => rfl
  | some o => simp only [Option.map_some, Option.bind_some]; split <;> rfl
theorem addE_gval (l : L) (b : Base) (m : Nat) : gval (addE ops i j) l b m = gval ops l b m := by
  unfold gval; rw [addE_dst]
theorem addE_yielded (tmps : Array Value) : yielded (addE ops i j) tmps = yielded ops tmps := by
  funext m
  unfold yielded
  rw [addE_dst]
theorem addE_deps {s z : Nat} (h : z ∈ depsOf (addE ops i j) s) : z ∈ depsOf ops s ∨ s = j ∧ z = i := by
  unfold depsOf at h ⊢
  rw [addE_get] at h
  cases ho : ops[s]? with
  | none => rw [ho] at h; cases h
  | some o =>
    rw [ho] at h
    simp only [Option.map_some] at h
    by_cases hs : s = j
    · subst hs
      simp only [if_true, Array.toList_push, List.filter_append, List.map_append, List.mem_append] at h
      rcases h with h | h
      · exact .inl h
      · right
        refine ⟨rfl, ?_⟩
        simp [Region.binds] at h
        exact h
    · simp only [if_neg hs] at h
      exact .inl h
theorem addE_lin : ∀ {σ E : List Nat}, Lin ops E σ → (∀ A B, σ = A ++ j :: B → i ∈ A ∨ i ∈ E) → Lin (addE ops i j) E σ
  | [], _, _, _ => trivial
  | s :: σ, E, ⟨h1, h2⟩, hc => by
    refine ⟨fun z hz => ?_, addE_lin h2 fun A B hAB => ?_⟩
    · rcases addE_deps hz with h | ⟨rfl, rfl⟩
      · exact h1 z h
      · rcases hc [] σ rfl with h | h
        · cases h
        · exact h
    · rcases hc (s :: A) B (by rw [hAB]; rfl) with h | h
      · rcases List.mem_cons.1 h with h | h
        · exact .inr (h ▸ List.mem_cons_self ..)
        · exact .inl h
      · exact .inr (List.mem_cons_of_mem _ h)
theorem split_uniq {x : Nat} : ∀ {A A' B B' : List Nat}, (A ++ x :: B).Nodup → A ++ x :: B = A' ++ x :: B' → A = A'
  | [], [], _, _, _, _ => rfl
  | [], a :: A', B, B', hn, h => by
    simp only [List.nil_append, List.cons_append, List.cons.injEq] at h
    obtain ⟨rfl, rfl⟩ := h
    simp at hn
  | a :: A, [], B, B', hn, h => by
    simp only [List.nil_append, List.cons_append, List.cons.injEq] at h
    obtain ⟨rfl, rfl⟩ := h
    simp at hn
  | a :: A, a' :: A', B, B', hn, h => by
    simp only [List.cons_append, List.cons.injEq] at h
    obtain ⟨rfl, h⟩ := h
    rw [split_uniq (List.nodup_cons.1 hn).2 h]
theorem two_orders {σ : List Nat} (hn : σ.Nodup) (hi : i ∈ σ) (hj : j ∈ σ) (hij : i ≠ j) : (∀ A B, σ = A ++ j :: B → i ∈ A ∨ i ∈ ([] : List Nat)) ∨ (∀ A B, σ = A ++ i :: B → j ∈ A ∨ j ∈ ([] : List Nat)) := by
  obtain ⟨A0, B0, rfl⟩ := List.append_of_mem hj
  rcases List.mem_append.1 hi with h | h
  · exact .inl fun A B hAB => .inl (split_uniq hn hAB ▸ h)
  · rcases List.mem_cons.1 h with h | h
    · exact absurd h hij
    · right
      intro A B hAB
      obtain ⟨B1, B2, rfl⟩ := List.append_of_mem h
      have : A0 ++ j :: (B1 ++ i :: B2) = (A0 ++ j :: B1) ++ i :: B2 := by simp
      rw [this] at hAB hn
      rw [← split_uniq hn hAB]
      exact .inl (by simp)
theorem addE_arun : ∀ (σ : List Nat) {K : Act → Heap → Prop} {a : Act} {h : Heap}, arun P (addE ops i j) σ K a h → arun P ops σ K a h
  | [], _, _, _, h => h
  | s :: σ, K, a, h, hr => by
    simp only [arun] at hr ⊢
    rw [addE_get] at hr
    cases ho : ops[s]? with
    | none => simp [ho] at hr
    | some o =>
      simp only [ho, Option.map_some] at hr ⊢
      have hw : wanted (addE ops i j) (if s = j then { o with after := o.after.push { on := i, ground := .data } } else o) a = wanted ops o a := by
        unfold wanted
        rw [addE_yielded]
        split <;> rfl
      have he : execOp a.eval (if s = j then { o with after := o.after.push { on := i, ground := .data } } else o) = execOp a.eval o := by
        split
        · exact execOp_after _ _ _
        · rfl
      have hd : (if s = j then { o with after := o.after.push { on := i, ground := .data } } else o).dst = o.dst := by split <;> rfl
      rw [hw, he, hd] at hr
      split
      · rename_i hww
        rw [if_pos hww] at hr
        exact hp_mono _ hr fun x h' hx => nextK_mono (fun v h'' hh => addE_arun σ hh) x h' hx
      · rename_i hww
        rw [if_neg hww] at hr
        exact addE_arun σ hr
theorem addE_dsem : ∀ (ds : List Di) {pl : List (Nat × (Heap → Prop))} {K : L → Base → Heap → Prop} {l : L} {b : Base} {h : Heap}, dsem P ops ds pl K l b h → dsem P (addE ops i j) ds pl K l b h
  | [], _, _, _, _, _, h => h
  | d :: ds, pl, K, l, b, h, hd => by
    simp only [dsem] at hd ⊢
    rw [addE_get]
    cases ho : ops[d.i]? with
    | none => simp [ho] at hd
    | some o =>
      simp only [ho, Option.map_some] at hd ⊢
      have hw : guardB (if d.i = j then { o with after := o.after.push { on := i, ground := .data } } else o) (addE ops i j) l b = guardB o ops l b := by
        have key : ∀ o' : Oper, guardB o' (addE ops i j) l b = guardB o' ops l b := by
          intro o'
          unfold guardB
          cases o'.guard with
          | none => rfl
          | some p => simp only [addE_gval]
        rw [key]
        split <;> rfl
      have he : ∀ h K, osem P (if d.i = j then { o with after := o.after.push { on := i, ground := .data } } else o) l b h K = osem P o l b h K := by
        intro h K
        split
        · unfold osem; rw [execOp_after]
        · rfl
      have hdst : (if d.i = j then { o with after := o.after.push { on := i, ground := .data } } else o).dst = o.dst := by split <;> rfl
      simp only [hw, he, hdst]
      split
      · rename_i hg
        rw [if_pos hg] at hd
        split
        · rename_i hm
          rw [if_pos hm] at hd
          obtain ⟨v, h1, h2⟩ := hd
          exact ⟨v, h1, addE_dsem ds h2⟩
        · rename_i hm
          rw [if_neg hm] at hd
          exact hp_mono _ hd fun x h' hx => nextK_mono (fun v h'' hh => ⟨hh.1, addE_dsem ds hh.2⟩) x h' hx
      · rename_i hg
        rw [if_neg hg] at hd
        exact addE_dsem ds hd

def drawOk2 (ops : Array Oper) (i j : Nat) (ds1 ds2 : List Di) : Bool :=
  (!Region.departs ops || (upM .text ops && upM .gc ops)) && upB ops && decide (i ≠ j) && decide (i < ops.size) && decide (j < ops.size) &&
  (Region.noSelect (addE ops i j) && pairB (addE ops i j) ds1 && (ds1.map (·.i)).isPerm (List.range ops.size) && ds1.all fun d => !d.mv || (match (addE ops i j)[d.i]? with | some o => valOp o.op | none => false)) &&
  (Region.noSelect (addE ops j i) && pairB (addE ops j i) ds2 && (ds2.map (·.i)).isPerm (List.range ops.size) && ds2.all fun d => !d.mv || (match (addE ops j i)[d.i]? with | some o => valOp o.op | none => false))
theorem addE_opsOk {n : Nat} (hok : opsOk n ops = true) : opsOk n (addE ops i j) = true := by
  unfold opsOk at *
  rw [List.all_eq_true] at *
  intro o ho
  obtain ⟨m, hm⟩ := List.mem_iff_getElem?.1 ho
  rw [Array.getElem?_toList, addE_get] at hm
  cases ho' : ops[m]? with
  | none => rw [ho'] at hm; cases hm
  | some o' =>
    rw [ho'] at hm
    simp only [Option.map_some, Option.some.injEq] at hm
    have h1 := hok o' (by simpa using Array.mem_of_getElem? ho')
    have hdst : o.dst = o'.dst := by rw [← hm]; split <;> rfl
    rw [hdst]
    exact h1

theorem draw_rule2 {n : Nat} {ro : Option Nat} {id : Nat} {κ : Kont} {l : L} {b : Base} {h : Heap} (i j : Nat) (ds1 ds2 : List Di) (hd : drawOk2 ops i j ds1 ds2 = true) (hok : opsOk n ops = true)
    (hc1 : dsem P ops ds1 [] κ.nx l b h) (hc2 : dsem P ops ds2 [] κ.nx l b h) : gsem P n ro (.region id ops true) κ l b h := by
  intro a w hw hfr fr k cs hkd hro
  subst hw
  unfold drawOk2 at hd
  rw [Bool.and_eq_true, Bool.and_eq_true, Bool.and_eq_true, Bool.and_eq_true, Bool.and_eq_true, Bool.and_eq_true] at hd
  obtain ⟨⟨⟨⟨⟨⟨hdep, hup⟩, hij⟩, hi⟩, hj⟩, h1⟩, h2⟩ := hd
  rw [Bool.and_eq_true, Bool.and_eq_true, Bool.and_eq_true] at h1 h2
  obtain ⟨⟨⟨hsel1, hpair1⟩, hperm1⟩, hval1⟩ := h1
  obtain ⟨⟨⟨hsel2, hpair2⟩, hperm2⟩, hval2⟩ := h2
  have hij := of_decide_eq_true hij
  have hi := of_decide_eq_true hi
  have hj := of_decide_eq_true hj
  have hperm1 := List.isPerm_iff.1 hperm1
  have hperm2 := List.isPerm_iff.1 hperm2
  let t := w.tape w.drawn (.order fr.fn id)
  obtain ⟨hp1, hlin⟩ := sched_all (mixed := P.follows .mixedOrders) hdep hup t
  have hnd : (Region.schedule (P.follows .mixedOrders) ops t).Nodup := hp1.symm.nodup List.nodup_range
  have har : arun P ops (Region.schedule (P.follows .mixedOrders) ops t) (fun a' h' => ∃ l', IsFr n a' l' b ∧ κ.nx l' b h') a w.heap := by
    rcases two_orders hnd (hp1.symm.subset (by simpa using hi)) (hp1.symm.subset (by simpa using hj)) hij with ho | ho
    · have hcr := crun_of_dsem (P := P) (addE_opsOk hok) ds1 (pa := []) hval1 (by simp) hfr (addE_dsem (i := i) (j := j) ds1 hc1)
      refine addE_arun (i := i) (j := j) _ (arun_of_crun hsel1 _ ds1 [] [] a _ (hp1.trans hperm1.symm) hnd (fun d hd => ?_) (fun y hy => by cases hy) (addE_lin hlin ho) (fun d _ => by simp) hpair1 hcr)
      have : d.i ∈ List.range ops.size := hperm1.subset (List.mem_map.2 ⟨d, hd, rfl⟩)
      simp at this
      rw [addE_get]
      simp [this]
    · have hcr := crun_of_dsem (P := P) (addE_opsOk hok) ds2 (pa := []) hval2 (by simp) hfr (addE_dsem (i := j) (j := i) ds2 hc2)
      refine addE_arun (i := j) (j := i) _ (arun_of_crun hsel2 _ ds2 [] [] a _ (hp1.trans hperm2.symm) hnd (fun d hd => ?_) (fun y hy => by cases hy) (addE_lin hlin ho) (fun d _ => by simp) hpair2 hcr)
      have : d.i ∈ List.range ops.size := hperm2.subset (List.mem_map.2 ⟨d, hd, rfl⟩)
      simp at this
      rw [addE_get]
      simp [this]
  obtain ⟨a', w', hs, ⟨l', hfr', hk⟩, hst⟩ := steps_arun (P := P) (d := b.d) (fr := fr) (k := k) (cs := cs) hok _ (w := { w with drawn := w.drawn + 1 }) hfr.size hfr.defers har
  exact ⟨.nx, a', w', l', b, ⟨hs.os, hs.tape, hs.output, (by first | exact hs.drawn | exact Nat.le_trans (Nat.le_succ _) hs.drawn)⟩, hfr', hk, .head stepR_region_draw hst⟩

/-- Two orders that are written out. -/
theorem drawn_by2 {n : Nat} {ro : Option Nat} {id : Nat} {κ : Kont} {l : L} {b : Base} {h : Heap} {ops : List Oper} (i j : Nat) (ds1 ds2 : List Di) (hd : drawOk2 ops.toArray i j ds1 ds2 = true) (hok : opsOk n ops.toArray = true)
    (hc1 : dw P ops ds1 [] κ.nx l b h) (hc2 : dw P ops ds2 [] κ.nx l b h) : gs P n ro (.region id ops.toArray true) κ l b h :=
  draw_rule2 i j ds1 ds2 hd hok (dsem_of_dwF ds1 (by simp) hc1) (dsem_of_dwF ds2 (by simp) hc2)
end
end Go.HC

/-
  HC: the whole of it.
-/

/-
  HC, part 19: a store into an element of a slice that has a block of its own.
-/
namespace Go.HC
section
variable {α : Type} {R : Rp α} {F : Nat → Prop} {h : Heap}
theorem Elems.setF {d : Nat} {news : List Value} {x : α} (hd : d + news.length ≤ R.sz) : ∀ {xs : List α} {cs : List Value} (i : Nat) (hi : i < xs.length), Elems R F h cs xs →
    (∀ cs, R.rep F h cs xs[i] → R.rep F h (cs.take d ++ news ++ cs.drop (d + news.length)) x) →
    Elems R F h (cs.take (i * R.sz + d) ++ news ++ cs.drop (i * R.sz + d + news.length)) (xs.set i x)
  | [], _, i, hi, _, _ => by simp at hi
  | y :: xs, cs, 0, _, ⟨c1, c2, e, h1, h2⟩, hr => by
    subst e
    have hl := R.len h1
    refine ⟨_, c2, ?_, hr c1 h1, h2⟩
    rw [Nat.zero_mul, Nat.zero_add, List.take_append_of_le_length (by omega), List.drop_append_of_le_length (by omega)]
    simp
  | y :: xs, cs, i + 1, hi, ⟨c1, c2, e, h1, h2⟩, hr => by
    subst e
    have hl := R.len h1
    have ih := Elems.setF hd i (by simpa using hi) h2 (by simpa using hr)
    refine ⟨c1, _, ?_, h1, ih⟩
    have e1 : (i + 1) * R.sz + d = c1.length + (i * R.sz + d) := by rw [hl, Nat.succ_mul]; omega
    rw [e1, List.take_length_add_append, Nat.add_assoc, List.drop_length_add_append]
    simp
/-- A part of an element is written. -/
theorem Grow.setF {e : TypeId} {v : Value} {xs : List α} {own : Option Nat} {d : Nat} {news : List Value} {x : α} {i : Nat} (hg : Grow R e F h v xs own) (hi : i < xs.length) (hd : d + news.length ≤ R.sz) (hone : news.all Value.oneCell' = true)
    (hr : ∀ cs, R.rep F h cs xs[i] → R.rep F h (cs.take d ++ news ++ cs.drop (d + news.length)) x) :
    ∃ bk c o, v = .slice (some ⟨bk, 0, none⟩) xs.length c ∧ own = some bk ∧ writeIn h[bk]? (i * R.sz + d) news = some o ∧ Grow R e F (h.setIfInBounds bk o) v (xs.set i x) own := by
  rcases hg with ⟨_, rfl, _⟩ | ⟨bk, c, arr, cs, rfl, rfl, hb, hf, h1, h2, h3, h4, h5⟩
  · simp at hi
  · have hin : i * R.sz + d + news.length ≤ xs.length * R.sz := by
      have : (i + 1) * R.sz ≤ xs.length * R.sz := Nat.mul_le_mul_right _ hi
      rw [Nat.succ_mul] at this
      omega
    have hsz : i * R.sz + d + news.length ≤ arr.size := by
      have : xs.length * R.sz ≤ c * R.sz := Nat.mul_le_mul_right _ h2
      omega
    have hfr : frozenIn (0, 0) (i * R.sz + d) news.length = false := by
      unfold frozenIn; simp
    have hlt := lt_of_blk hb
    refine ⟨bk, c, .cells (writeC arr (i * R.sz + d) news) e (0, 0), rfl, rfl, ?_, ?_⟩
    · rw [hb]
      show (if _ then _ else _) = _
      rw [if_pos (by rw [hone, hfr]; simpa using hsz)]
    · refine .inr ⟨bk, c, _, _, by rw [List.length_set], rfl, set_same _ hlt, hf, by rw [size_writeC, h1], by rw [List.length_set]; exact h2, h3, rfl, ?_⟩
      have hcl := h5.len
      have := (h5.setF (x := x) hd i hi hr)
      rw [toList_writeC _ _ _ hsz, List.length_set]
      have e1 : ((arr.toList.take (i * R.sz + d) ++ news ++ arr.toList.drop (i * R.sz + d + news.length)).take (xs.length * R.sz)) = cs.take (i * R.sz + d) ++ news ++ cs.drop (i * R.sz + d + news.length) := by
        have hl1 : (arr.toList.take (i * R.sz + d) ++ news).length = i * R.sz + d + news.length := by
          rw [List.length_append, List.length_take]; simp; omega
        rw [List.take_append, List.take_of_length_le (by rw [hl1]; exact hin), hl1, ← h4, List.take_take, Nat.min_eq_left (by omega), List.drop_take]
      rw [e1]
      exact this.mono fun b hFb => ⟨hFb, set_other _ (fun (e : bk = b) => hf (e ▸ hFb))⟩
/-- An element is written. -/
theorem Grow.setE {e : TypeId} {v : Value} {xs : List α} {own : Option Nat} {news : List Value} {x : α} {i : Nat} (hg : Grow R e F h v xs own) (hi : i < xs.length) (hr : R.rep F h news x) :
    ∃ bk c o, v = .slice (some ⟨bk, 0, none⟩) xs.length c ∧ own = some bk ∧ writeIn h[bk]? (i * R.sz) news = some o ∧ Grow R e F (h.setIfInBounds bk o) v (xs.set i x) own := by
  have hl := R.len hr
  have := hg.setF (d := 0) (news := news) (x := x) hi (by omega) (R.one hr) (fun cs hc => by
    rw [List.take_zero, List.nil_append, List.drop_of_length_le (by rw [R.len hc]; omega), List.append_nil]; exact hr)
  simpa using this
end
/-- A block that nobody has set fast. -/
def Thaw (h : Heap) (b : Nat) : Prop := ∀ (c : Array Value) (e : TypeId) (fz : Nat × Nat), h[b]? = some (.cells c e fz) → fz = (0, 0)
/-- From n on; what is new is not set fast. -/
def Nw (n : Nat) (h : Heap) (b : Nat) : Prop := n ≤ b ∧ (0 < n → Thaw h b)
theorem nz {h : Heap} {b : Nat} : Nw 0 h b := ⟨Nat.zero_le _, fun h => absurd h (Nat.lt_irrefl _)⟩
theorem Thaw.at {h h' : Heap} {b : Nat} (t : Thaw h b) (e : h'[b]? = h[b]?) : Thaw h' b := fun c el fz hb => t c el fz (by rw [← e]; exact hb)
theorem Thaw.is {h : Heap} {b : Nat} {c : Array Value} {e : TypeId} (hb : h[b]? = some (.cells c e (0, 0))) : Thaw h b := fun c' e' fz hb' => by
  rw [hb] at hb'; cases hb'; rfl
theorem Nw.less {n n' : Nat} {h : Heap} {b : Nat} (x : Nw n h b) (hn : n' ≤ n) : Nw n' h b := ⟨Nat.le_trans hn x.1, fun h0 => x.2 (Nat.lt_of_lt_of_le h0 hn)⟩
theorem Nw.at {n n' : Nat} {h h' : Heap} {b : Nat} (x : Nw n h b) (hn : n' ≤ n) (e : h'[b]? = h[b]?) : Nw n' h' b := ⟨Nat.le_trans hn x.1, fun h0 => (x.2 (Nat.lt_of_lt_of_le h0 hn)).at e⟩
theorem Nw.is {n : Nat} {h : Heap} {b : Nat} {c : Array Value} {e : TypeId} (hn : n ≤ b) (hb : h[b]? = some (.cells c e (0, 0))) : Nw n h b := ⟨hn, fun _ => .is hb⟩
theorem Grow.notF {α : Type} {R : Rp α} {h : Heap} {e : TypeId} {F : Nat → Prop} {v : Value} {xs : List α} {own : Option Nat} (g : Grow R e F h v xs own) : ∀ b, own = some b → ¬ F b := by
  intro b hb
  rcases g with ⟨_, _, rfl⟩ | ⟨bk, c, arr, cs, _, rfl, _, h1, _⟩
  · cases hb
  · cases hb; exact h1
theorem Grow.thaw {α : Type} {R : Rp α} {h : Heap} {e : TypeId} {F : Nat → Prop} {v : Value} {xs : List α} {own : Option Nat} (g : Grow R e F h v xs own) : ∀ b, own = some b → Thaw h b := by
  intro b hb
  rcases g with ⟨_, _, rfl⟩ | ⟨bk, c, arr, cs, _, rfl, h1, _⟩
  · cases hb
  · cases hb; exact .is h1
end Go.HC

/-
  HC, part 20: a slice is copied ('append([]T{}, b...)').
-/
namespace Go.HC
section
variable {P : Program} {h : Heap} {K : Value → Heap → Prop} {ty : TypeId} {α : Type} {R : Rp α} {F F2 : Nat → Prop}
theorem clone_cells {T e by_ : Nat} {cs : Array Bool} {xs : List α} {a : Option Addr} {n c2 : Nat} {news : List Value} (hT : ElemT P T e R by_) (hF : ∀ b, F b → b < h.size) (hF2 : ∀ b, F2 b → b < h.size)
    (hn : n = xs.length) (hrn : Cells F2 h a news) (hel : Elems R F h news xs) (hbig : xs.length * by_ ≤ 140737488355328) (h63 : xs.length < 9223372036854775808)
    (hk : ∀ v' h' own', Grow R e F h' v' xs own' → Keep none_ h h' → (∀ b, own' = some b → h.size ≤ b) → h.size ≤ h'.size → K v' h') :
    builtinS P .append #[T, T] ty cs #[.slice (some ⟨h.size, 0, none⟩) 0 0, .slice a n c2] (h.push (.cells #[] e)) K := by
  refine append_grow (F2 := F2) hT (Grow.empty R e hF) (fun b hb => by have := hF b hb; simp; omega) hn (hrn.mono fun b hb => ⟨hb, push_old _ (hF2 b hb)⟩) (hel.mono fun b hb => ⟨hb, push_old _ (hF b hb)⟩) (by simpa using hbig) (by simpa using h63) ?_
  intro v' h' own' hg hk' ho
  have hps : (h.push (.cells #[] e)).size = h.size + 1 := by simp
  rw [hps] at ho
  have hs := hk'.size
  rw [hps] at hs
  refine hk v' h' own' (by simpa using hg) ⟨by omega, fun b hb _ => ?_⟩ (fun b hb => (ho b hb).elim (fun e => by cases e; exact Nat.le_refl _) (fun h => by omega)) (by omega)
  rw [hk'.blk b (by omega) (fun e => by cases e; omega), push_old _ hb]
theorem clone_bytes {T e : Nat} {cs : Array Bool} {xs : List UInt8} {a : Option Addr} {n c2 : Nat} (hT : ElemT P T e rByte 1) (hv : SlRep rByte F2 h (.slice a n c2) xs) (hF2 : ∀ b, F2 b → b < h.size) (hbig : xs.length ≤ 140737488355328)
    (hk : ∀ v' h' own', Grow rByte e none_ h' v' xs own' → Keep none_ h h' → (∀ b, own' = some b → h.size ≤ b) → h.size ≤ h'.size → K v' h') :
    builtinS P .append #[T, T] ty cs #[.slice (some ⟨h.size, 0, none⟩) 0 0, .slice a n c2] (h.push (.cells #[] e)) K := by
  obtain ⟨a', c', news, hv', h1, h2, h3, h4⟩ := hv
  cases hv'
  exact clone_cells (F := none_) hT (fun _ h => h.elim) hF2 rfl h3 (bytes_map.2 (bytes_map.1 h4)) (by omega) (by omega) hk
end
theorem Grow.bytes_own {e : TypeId} {F : Nat → Prop} {h : Heap} {v : Value} {xs : List UInt8} {own : Option Nat} (hg : Grow rByte e F h v xs own) : Grow rByte e none_ h v xs own := by
  rcases hg with h0 | ⟨bk, c, arr, cs, h0, h1, h2, h3, h4, h5, h6, h7, h8⟩
  · exact .inl h0
  · exact .inr ⟨bk, c, arr, cs, h0, h1, h2, (fun h => h), h4, h5, h6, h7, bytes_map.2 (bytes_map.1 h8)⟩
theorem u8_add (x y : UInt8) : (((x + y).toNat : Nat) : Int) = IntKind.u8.wrap ((x.toNat : Int) + (y.toNat : Int)) := by
  rw [UInt8.toNat_add]
  simp [IntKind.wrap, IntKind.signed, IntKind.bits]
end Go.HC

/-
  HC, part 21: a drawn region in which several operations that change the memory stand in no order: a tree of orders.
-/
namespace Go.HC
/-- Orders: one that is written out; or two trees: of those in which i stands ahead of j, and of those in which j stands ahead of i. -/
inductive DT
  | leaf (ds : List Di)
  | node (i j : Nat) (a b : DT)
section
variable {P : Program}
def leafOk (ops : Array Oper) (ds : List Di) : Bool :=
  Region.noSelect ops && pairB ops ds && (ds.map (·.i)).isPerm (List.range ops.size) && ds.all fun d => !d.mv || (match ops[d.i]? with | some o => valOp o.op | none => false)
def treeOk (ops : Array Oper) : DT → Bool
  | .leaf ds => leafOk ops ds
  | .node i j a b => decide (i ≠ j) && decide (i < ops.size) && decide (j < ops.size) && treeOk (addE ops i j) a && treeOk (addE ops j i) b
def treeS (P : Program) (ops : Array Oper) (K : L → Base → Heap → Prop) (l : L) (b : Base) (h : Heap) : DT → Prop
  | .leaf ds => dsem P ops ds [] K l b h
  | .node _ _ x y => treeS P ops K l b h x ∧ treeS P ops K l b h y
theorem treeS_add {ops : Array Oper} {K : L → Base → Heap → Prop} {l : L} {b : Base} {h : Heap} {i j : Nat} : ∀ (t : DT), treeS P ops K l b h t → treeS P (addE ops i j) K l b h t
  | .leaf ds, hd => addE_dsem (i := i) (j := j) ds hd
  | .node _ _ x y, ⟨h1, h2⟩ => ⟨treeS_add x h1, treeS_add y h2⟩
theorem tree_arun {n : Nat} {κ : L → Base → Heap → Prop} {l : L} {b : Base} {h : Heap} {a : Act} {σ : List Nat} (hnd : σ.Nodup) (hfr : IsFr n a l b) : ∀ (t : DT) {ops : Array Oper}, opsOk n ops = true → treeOk ops t = true → σ.Perm (List.range ops.size) → Lin ops [] σ →
    treeS P ops κ l b h t → arun P ops σ (fun a' h' => ∃ l', IsFr n a' l' b ∧ κ l' b h') a h
  | .leaf ds, ops, hok, ht, hp, hlin, hd => by
    unfold treeOk leafOk at ht
    rw [Bool.and_eq_true, Bool.and_eq_true, Bool.and_eq_true] at ht
    obtain ⟨⟨⟨hsel, hpair⟩, hperm⟩, hval⟩ := ht
    have hperm := List.isPerm_iff.1 hperm
    have hcr := crun_of_dsem (P := P) hok ds (pa := []) hval (by simp) hfr hd
    refine arun_of_crun hsel _ ds [] [] a _ (hp.trans hperm.symm) hnd (fun d hd => ?_) (fun y hy => by cases hy) hlin (fun d _ => by simp) hpair hcr
    have : d.i ∈ List.range ops.size := hperm.subset (List.mem_map.2 ⟨d, hd, rfl⟩)
    simp at this
    simp [this]
  | .node i j x y, ops, hok, ht, hp, hlin, hd => by
    unfold treeOk at ht
    rw [Bool.and_eq_true, Bool.and_eq_true, Bool.and_eq_true, Bool.and_eq_true] at ht
    obtain ⟨⟨⟨⟨hij, hi⟩, hj⟩, h1⟩, h2⟩ := ht
    have hij := of_decide_eq_true hij
    have hi := of_decide_eq_true hi
    have hj := of_decide_eq_true hj
    rcases two_orders hnd (hp.symm.subset (by simpa using hi)) (hp.symm.subset (by simpa using hj)) hij with ho | ho
    · exact addE_arun (i := i) (j := j) _ (tree_arun hnd hfr x (addE_opsOk hok) h1 (by rw [addE_size]; exact hp) (addE_lin hlin ho) (treeS_add x hd.1))
    · exact addE_arun (i := j) (j := i) _ (tree_arun hnd hfr y (addE_opsOk hok) h2 (by rw [addE_size]; exact hp) (addE_lin hlin ho) (treeS_add y hd.2))
def drawOkT (ops : Array Oper) (t : DT) : Bool := (!Region.departs ops || (upM .text ops && upM .gc ops)) && upB ops && treeOk ops t
theorem draw_ruleT {n : Nat} {ro : Option Nat} {id : Nat} {κ : Kont} {l : L} {b : Base} {h : Heap} {ops : Array Oper} (t : DT) (hd : drawOkT ops t = true) (hok : opsOk n ops = true)
    (hc : treeS P ops κ.nx l b h t) : gsem P n ro (.region id ops true) κ l b h := by
  intro a w hw hfr fr k cs hkd hro
  subst hw
  unfold drawOkT at hd
  rw [Bool.and_eq_true, Bool.and_eq_true] at hd
  obtain ⟨⟨hdep, hup⟩, ht⟩ := hd
  let tp := w.tape w.drawn (.order fr.fn id)
  obtain ⟨hp1, hlin⟩ := sched_all (mixed := P.follows .mixedOrders) hdep hup tp
  have har := tree_arun (P := P) (κ := κ.nx) (hp1.symm.nodup List.nodup_range) hfr t hok ht hp1 hlin hc
  obtain ⟨a', w', hs, ⟨l', hfr', hk⟩, hst⟩ := steps_arun (P := P) (d := b.d) (fr := fr) (k := k) (cs := cs) hok _ (w := { w with drawn := w.drawn + 1 }) hfr.size hfr.defers har
  exact ⟨.nx, a', w', l', b, ⟨hs.os, hs.tape, hs.output, (by first | exact hs.drawn | exact Nat.le_trans (Nat.le_succ _) hs.drawn)⟩, hfr', hk, .head stepR_region_draw hst⟩
/-- A tree of orders, for simp. -/
def treeW (P : Program) (ops : List Oper) (K : L → Base → Heap → Prop) (l : L) (b : Base) (h : Heap) : DT → Prop
  | .leaf ds => dw P ops ds [] K l b h
  | .node _ _ x y => treeW P ops K l b h x ∧ treeW P ops K l b h y
theorem treeW_leaf {ops : List Oper} {K : L → Base → Heap → Prop} {l : L} {b : Base} {h : Heap} {ds : List Di} : treeW P ops K l b h (.leaf ds) = dw P ops ds [] K l b h := _root_.id rfl
theorem treeS_of {ops : List Oper} {K : L → Base → Heap → Prop} {l : L} {b : Base} {h : Heap} : ∀ (t : DT), treeW P ops K l b h t → treeS P ops.toArray K l b h t
  | .leaf ds, hd => dsem_of_dwF ds (by simp) hd
  | .node _ _ x y, ⟨h1, h2⟩ => ⟨treeS_of x h1, treeS_of y h2⟩
theorem drawn_byT {n : Nat} {ro : Option Nat} {id : Nat} {κ : Kont} {l : L} {b : Base} {h : Heap} {ops : List Oper} (t : DT) (hd : drawOkT ops.toArray t = true) (hok : opsOk n ops.toArray = true)
    (hc : treeW P ops κ.nx l b h t) : gs P n ro (.region id ops.toArray true) κ l b h := draw_ruleT t hd hok (treeS_of t hc)
end
end Go.HC
namespace Go.HC
theorem cut_cells {α : Type} {R : Rp α} {F G : Nat → Prop} {h : Heap} {a : Option Addr} {cs : List Value} {xs : List α} {i j c : Nat} (hc : Cells G h a cs) (he : Elems R F h cs xs) (h1 : i ≤ j) (h2 : j ≤ xs.length) (h3 : xs.length ≤ c) :
    Cells G h (piece a i c R.sz) ((cs.drop (i * R.sz)).take ((j - i) * R.sz)) ∧ Elems R F h ((cs.drop (i * R.sz)).take ((j - i) * R.sz)) ((xs.drop i).take (j - i)) := by
  refine ⟨?_, (he.drop i).take (j - i)⟩
  by_cases hij : i = j
  · left; subst hij; simp
  · rcases hc with h0 | ⟨bk, off, arr, e, fz, rfl, q1, q2, q3⟩
    · left; rw [h0]; simp
    · have hp : piece (some ⟨bk, off, none⟩) i c R.sz = some ⟨bk, off + i * R.sz, none⟩ := by
        unfold HC.piece
        rw [if_neg (by omega), offs_mk]
      rw [hp]
      refine Cells.take _ (Cells.drop (i * R.sz) (.inr ⟨bk, off, arr, e, fz, rfl, q1, q2, q3⟩) ?_)
      rw [he.len]
      exact Nat.mul_le_mul_right _ (by omega)
end Go.HC

/-
  Tables of cells by their keys, plainly. No program is in sight.
-/
namespace Go.HC

structure CellM where
  key : List Int
  count : Int
  sum : List Int
  mn : List Int
  mx : List Int
def joinC (a b : CellM) : CellM :=
  ⟨a.key, IntKind.i64.wrap (a.count + b.count), List.zipWith (fun x y => IntKind.i64.wrap (x + y)) a.sum b.sum, List.zipWith min a.mn b.mn, List.zipWith max a.mx b.mx⟩
/-- A key's hash; its place among n slots. -/
def hashM (key : List Int) : Int := key.foldl (fun h v => (31 * h + v.tmod 1000003 + 1).tmod 1000003) 7
def placeM (key : List Int) (n : Nat) : Nat := (((hashM key).tmod n + n).tmod n).toNat
theorem tmod_bound {a n : Int} (hn : 0 < n) : -n < a.tmod n ∧ a.tmod n < n := by
  have h1 := Int.tmod_lt_of_pos a hn
  have h2 := Int.tmod_lt_of_pos (-a) hn
  rw [Int.neg_tmod] at h2
  omega
theorem placeM_lt (key : List Int) {n : Nat} (hn : 0 < n) : placeM key n < n := by
  unfold placeM
  have h1 := tmod_bound (a := hashM key) (n := n) (by omega)
  have h2 := tmod_bound (a := (hashM key).tmod n + n) (n := n) (by omega)
  have h3 : 0 ≤ ((hashM key).tmod n + n).tmod n := Int.tmod_nonneg _ (by omega)
  omega

abbrev Tab := List (Option CellM)
/-- The key stands here, or may. -/
def hitM (T : Tab) (key : List Int) (k : Nat) : Bool :=
  match T[k]? with
  | some (some c) => decide (c.key = key)
  | _ => true
def probe (key : List Int) (n i : Nat) : Nat := (placeM key n + i) % n
def findM (T : Tab) (key : List Int) : Option Nat := ((List.range T.length).find? fun i => hitM T key (probe key T.length i)).map (probe key T.length)
def takenM (T : Tab) : Nat := T.countP (·.isSome)
def putM (T : Tab) (c : CellM) : Option Tab :=
  match findM T c.key with
  | none => none
  | some k => some (T.set k (match T[k]? with | some (some d) => some (joinC d c) | _ => some c))
def getM (T : Tab) (key : List Int) : Option CellM :=
  match findM T key with
  | none => none
  | some k => (T[k]?).join
def cellsM (T : Tab) : List CellM := T.filterMap id
/-- A cell stands where it is found: all slots from its key's place on are taken, and by other keys. -/
def StandsAt (T : Tab) (i : Nat) (key : List Int) (k : Nat) : Prop := i < T.length ∧ probe key T.length i = k ∧ ∀ j, j < i → ∃ c : CellM, T[probe key T.length j]? = some (some c) ∧ c.key ≠ key
def TabOk (T : Tab) : Prop := ∀ (k : Nat) (c : CellM), T[k]? = some (some c) → ∃ i, StandsAt T i c.key k

theorem probe_lt (key : List Int) {n : Nat} (hn : 0 < n) (i : Nat) : probe key n i < n := Nat.mod_lt _ hn
theorem probe_onto (key : List Int) {n : Nat} (k : Nat) (hk : k < n) : ∃ i, i < n ∧ probe key n i = k := by
  have hp := placeM_lt key (n := n) (by omega)
  unfold probe
  by_cases h : placeM key n ≤ k
  · exact ⟨k - placeM key n, by omega, by rw [Nat.add_sub_cancel' h, Nat.mod_eq_of_lt hk]⟩
  · refine ⟨k + n - placeM key n, by omega, ?_⟩
    have : placeM key n + (k + n - placeM key n) = k + n := by omega
    rw [this, Nat.add_mod_right, Nat.mod_eq_of_lt hk]
theorem find_spec_some {T : Tab} {key : List Int} {k : Nat} (h : findM T key = some k) : k < T.length ∧ (T[k]? = some none ∨ ∃ c, T[k]? = some (some c) ∧ c.key = key) ∧ ∃ i, StandsAt T i key k := by
  unfold findM at h
  rw [Option.map_eq_some_iff] at h
  obtain ⟨i, hi, rfl⟩ := h
  have hmem := List.mem_of_find?_eq_some hi
  have hhit := List.find?_some hi
  rw [List.mem_range] at hmem
  have hlt := probe_lt key (n := T.length) (by omega) i
  refine ⟨hlt, ?_, i, hmem, rfl, fun j hj => ?_⟩
  · unfold hitM at hhit
    rw [List.getElem?_eq_getElem hlt] at hhit ⊢
    cases hc : T[probe key T.length i] with
    | none => exact .inl rfl
    | some c =>
      rw [hc] at hhit
      exact .inr ⟨c, rfl, of_decide_eq_true hhit⟩
  · have hno : hitM T key (probe key T.length j) = false := by
      rw [List.find?_range_eq_some] at hi
      have := hi.2.2 j hj
      simpa using this
    have hlj := probe_lt key (n := T.length) (by omega) j
    unfold hitM at hno
    rw [List.getElem?_eq_getElem hlj] at hno ⊢
    cases hc : T[probe key T.length j] with
    | none => rw [hc] at hno; cases hno
    | some c =>
      rw [hc] at hno
      exact ⟨c, rfl, of_decide_eq_false hno⟩
theorem find_spec_none {T : Tab} {key : List Int} (h : findM T key = none) : ∀ k, k < T.length → ∃ c, T[k]? = some (some c) ∧ c.key ≠ key := by
  intro k hk
  obtain ⟨i, hi, rfl⟩ := probe_onto key (n := T.length) k hk
  unfold findM at h
  rw [Option.map_eq_none_iff, List.find?_eq_none] at h
  have hno := h i (List.mem_range.2 hi)
  unfold hitM at hno
  rw [List.getElem?_eq_getElem hk] at hno ⊢
  cases hc : T[probe key T.length i] with
  | none => rw [hc] at hno; simp at hno
  | some c =>
    rw [hc] at hno
    exact ⟨c, rfl, by simpa using hno⟩
/-- What is there is found. -/
theorem find_there {T : Tab} (hT : TabOk T) {k : Nat} {c : CellM} (h : T[k]? = some (some c)) : findM T c.key = some k := by
  obtain ⟨i, hi, hp, hb⟩ := hT k c h
  unfold findM
  rw [Option.map_eq_some_iff]
  refine ⟨i, ?_, hp⟩
  rw [List.find?_range_eq_some]
  refine ⟨?_, List.mem_range.2 hi, fun j hj => ?_⟩
  · unfold hitM
    rw [hp, h]
    simp
  · obtain ⟨d, hd, hne⟩ := hb j hj
    unfold hitM
    rw [hd]
    simpa using hne
theorem taken_set_new {T : Tab} {k : Nat} {c : CellM} (h : T[k]? = some none) : takenM (T.set k (some c)) = takenM T + 1 := by
  obtain ⟨hk, hv⟩ := List.getElem?_eq_some_iff.1 h
  unfold takenM
  rw [List.countP_set hk, hv]
  simp
theorem taken_set_old {T : Tab} {k : Nat} {c d : CellM} (h : T[k]? = some (some d)) : takenM (T.set k (some c)) = takenM T := by
  obtain ⟨hk, hv⟩ := List.getElem?_eq_some_iff.1 h
  unfold takenM
  rw [List.countP_set hk, hv]
  have : 0 < T.countP (·.isSome) := List.countP_pos_iff.2 ⟨some d, hv ▸ List.getElem_mem hk, rfl⟩
  simp; omega
theorem taken_le (T : Tab) : takenM T ≤ T.length := List.countP_le_length
theorem taken_full {T : Tab} (h : ∀ k, k < T.length → ∃ c, T[k]? = some (some c)) : takenM T = T.length := by
  unfold takenM
  rw [List.countP_eq_length]
  intro x hx
  obtain ⟨k, hk, rfl⟩ := List.getElem_of_mem hx
  obtain ⟨c, hc⟩ := h k hk
  rw [List.getElem?_eq_getElem hk] at hc
  simp only [Option.some.injEq] at hc
  rw [hc]; rfl
theorem cells_len (T : Tab) : (cellsM T).length = takenM T := by
  unfold cellsM takenM
  induction T with
  | nil => rfl
  | cons x T ih =>
    cases x with
    | none => simpa using ih
    | some c => simp [ih]
/-- The keys that are there. -/
def keysM (T : Tab) : List (List Int) := (cellsM T).map (·.key)
theorem mem_keys {T : Tab} {key : List Int} : key ∈ keysM T ↔ ∃ (k : Nat) (c : CellM), T[k]? = some (some c) ∧ c.key = key := by
  unfold keysM cellsM
  simp only [List.mem_map, List.mem_filterMap, id]
  constructor
  · rintro ⟨c, ⟨x, hx, rfl⟩, rfl⟩
    obtain ⟨k, hk⟩ := List.mem_iff_getElem?.1 hx
    exact ⟨k, c, hk, rfl⟩
  · rintro ⟨k, c, h, rfl⟩
    exact ⟨c, ⟨some c, List.mem_of_getElem? h, rfl⟩, rfl⟩
/-- Whether a put goes: the key is there, or there is room. -/
theorem put_goes {T : Tab} (c : CellM) : (putM T c).isSome = true ↔ c.key ∈ keysM T ∨ takenM T < T.length := by
  unfold putM
  cases hf : findM T c.key with
  | none =>
    have hn := find_spec_none hf
    have h1 : takenM T = T.length := taken_full fun k hk => (hn k hk).imp fun c h => h.1
    simp only [Option.isSome_none, Bool.false_eq_true, false_iff, not_or]
    refine ⟨fun hm => ?_, by omega⟩
    obtain ⟨k, d, hd, he⟩ := mem_keys.1 hm
    obtain ⟨hk, _⟩ := List.getElem?_eq_some_iff.1 hd
    obtain ⟨d', hd', hne⟩ := hn k hk
    rw [hd] at hd'
    cases hd'
    exact hne he
  | some k =>
    obtain ⟨hk, hor, _⟩ := find_spec_some hf
    simp only [Option.isSome_some, true_iff]
    rcases hor with h | ⟨d, hd, he⟩
    · right
      have h1 := taken_set_new (c := c) h
      have h2 := taken_le (T.set k (some c))
      rw [List.length_set] at h2
      omega
    · exact .inl (mem_keys.2 ⟨k, d, hd, he⟩)
theorem put_len {T T' : Tab} {c : CellM} (h : putM T c = some T') : T'.length = T.length := by
  unfold putM at h
  split at h
  · cases h
  · simp only [Option.some.injEq] at h
    rw [← h, List.length_set]
/-- Behind a put: the table is right; the keys are those and this. -/
theorem put_ok {T T' : Tab} (hT : TabOk T) {c : CellM} (h : putM T c = some T') :
    TabOk T' ∧ takenM T' = (if c.key ∈ keysM T then takenM T else takenM T + 1) ∧ ∀ key, key ∈ keysM T' ↔ key = c.key ∨ key ∈ keysM T := by
  unfold putM at h
  cases hf : findM T c.key with
  | none => rw [hf] at h; cases h
  | some k =>
    rw [hf] at h
    simp only [Option.some.injEq] at h
    obtain ⟨hk, hor, i, hi, hp, hb⟩ := find_spec_some hf
    have hkey : ∃ d : CellM, T' = T.set k (some d) ∧ d.key = c.key := by
      rcases hor with h0 | ⟨d, hd, he⟩
      · rw [h0] at h; exact ⟨c, h.symm, rfl⟩
      · rw [hd] at h; exact ⟨joinC d c, h.symm, he⟩
    obtain ⟨d, rfl, hdk⟩ := hkey
    have hget : ∀ m, (T.set k (some d))[m]? = if k = m then some (some d) else T[m]? := by
      intro m
      rw [List.getElem?_set]
      by_cases e : k = m
      · subst e; simp [hk]
      · simp [e]
    have hlen : (T.set k (some d)).length = T.length := List.length_set
    -- a probe that met a taken slot of another key meets one
    have hpb : ∀ key j, (∃ e : CellM, T[probe key T.length j]? = some (some e) ∧ e.key ≠ key) → (probe key T.length j = k → c.key ≠ key) → ∃ e : CellM, (T.set k (some d))[probe key T.length j]? = some (some e) ∧ e.key ≠ key := by
      rintro key j ⟨e, he, hne⟩ hk'
      rw [hget]
      by_cases hc : k = probe key T.length j
      · rw [if_pos hc]; exact ⟨d, rfl, by rw [hdk]; exact hk' hc.symm⟩
      · rw [if_neg hc]; exact ⟨e, he, hne⟩
    refine ⟨?_, ?_, ?_⟩
    · intro m e hm
      rw [hget] at hm
      by_cases hkm : k = m
      · rw [if_pos hkm] at hm
        cases hm
        subst hkm
        refine ⟨i, by rw [hlen]; exact hi, by rw [hlen, hdk]; exact hp, fun j hj => ?_⟩
        rw [hlen, hdk]
        obtain ⟨e, he, hne⟩ := hb j hj
        refine hpb c.key j ⟨e, he, hne⟩ fun hpk => ?_
        exfalso
        rcases hor with h0 | ⟨d', hd', he'⟩
        · rw [hpk, h0] at he; cases he
        · rw [hpk, hd'] at he; cases he; exact hne he'
      · rw [if_neg hkm] at hm
        obtain ⟨i', hi', hp', hb'⟩ := hT m e hm
        refine ⟨i', by rw [hlen]; exact hi', by rw [hlen]; exact hp', fun j hj => ?_⟩
        rw [hlen]
        refine hpb e.key j (hb' j hj) fun hpk hce => ?_
        obtain ⟨e2, he2, hne2⟩ := hb' j hj
        rw [hpk] at he2
        rcases hor with h0 | ⟨d', hd', he'⟩
        · rw [h0] at he2; cases he2
        · rw [hd'] at he2; cases he2; exact hne2 (he'.trans hce)
    · rcases hor with h0 | ⟨d', hd', he'⟩
      · have hnot : ¬ c.key ∈ keysM T := by
          intro hm
          obtain ⟨k', d', hd', he'⟩ := mem_keys.1 hm
          have := find_there hT hd'
          rw [he', hf] at this
          cases this
          rw [h0] at hd'; cases hd'
        rw [if_neg hnot, taken_set_new h0]
      · rw [if_pos (mem_keys.2 ⟨k, d', hd', he'⟩), taken_set_old hd']
    · intro key
      rw [mem_keys, mem_keys]
      constructor
      · rintro ⟨m, e, hm, rfl⟩
        rw [hget] at hm
        by_cases hkm : k = m
        · rw [if_pos hkm] at hm; cases hm; exact .inl hdk
        · rw [if_neg hkm] at hm; exact .inr ⟨m, e, hm, rfl⟩
      · rintro (rfl | ⟨m, e, hm, rfl⟩)
        · exact ⟨k, d, by rw [hget, if_pos rfl], hdk⟩
        · by_cases hkm : k = m
          · subst hkm
            rcases hor with h0 | ⟨d', hd', he'⟩
            · rw [h0] at hm; cases hm
            · rw [hd'] at hm; cases hm
              exact ⟨k, d, by rw [hget, if_pos rfl], by rw [hdk, he']⟩
          · exact ⟨m, e, by rw [hget, if_neg hkm]; exact hm, rfl⟩
def newM (n : Nat) : Tab := List.replicate n none
theorem newM_ok (n : Nat) : TabOk (newM n) := by
  intro k c h
  unfold newM at h
  rw [List.getElem?_replicate] at h
  split at h <;> cases h
theorem newM_taken (n : Nat) : takenM (newM n) = 0 := by
  unfold takenM newM
  rw [List.countP_eq_zero]
  intro x hx
  rw [(List.mem_replicate.1 hx).2]; simp
end Go.HC

/-
  HC, part 22: a scope in which the run jumps back to one label.
-/
namespace Go.HC
/-- A jump back to label t, nearer the end. -/
def JumpK {σ : Type} (S : σ → L) (D : σ → List Nat) (J : σ → Heap → Prop) (μ : σ → Nat) (t m : Nat) (t' : Nat) (l : L) (b : Base) (h : Heap) : Prop :=
  t' = t ∧ ∃ s', Sub (S s') l b ∧ b.d = D s' ∧ J s' h ∧ μ s' < m
section
variable {P : Program} {n : Nat} {ro : Option Nat} {c : Code} {κ : Kont} {l : L} {b : Base} {h : Heap}
theorem stepR_scope {b : Frame} {a : Act} {k : List Item} {cs : List Frame} {w : World} {c : Code} : step P (lone (b.atR a (.code (.scope c) :: k)) cs w) = .next (lone (b.atR a (.code c :: .inScope c :: k)) cs w) :=
  step_lone_go (by simp [stepG, stepG.exec, Frame.atR])
theorem stepR_inScope {b : Frame} {a : Act} {k : List Item} {cs : List Frame} {w : World} {c : Code} : step P (lone (b.atR a (.inScope c :: k)) cs w) = .next (lone (b.atR a k) cs w) :=
  step_lone_go (by simp [stepG, stepG.exec, Frame.atR])
theorem scope_rule {σ : Type} (t : Nat) (rest : Code) (hf : findLabel c t = some rest) (S : σ → L) (D : σ → List Nat) (J : σ → Heap → Prop) (μ : σ → Nat) (m0 : Nat) (hok : codeOk n c = true) (hok2 : codeOk n rest = true)
    (first : csem P n ro c { κ with gt := JumpK S D J μ t m0 } l b h)
    (pass : ∀ s h g, J s h → csem P n ro rest { κ with gt := JumpK S D J μ t (μ s) } (S s) ⟨g, D s⟩ h) : gsem P n ro (.scope c) κ l b h := by
  intro a w hw hfr fr k cs hkd hro
  have hg : ∀ k, gotoIn t (.inScope c :: k) = some (.code rest :: .inScope c :: k) := by intro k; simp [gotoIn, hf]
  have key : ∀ m s (a : Act) (w : World) g, μ s = m → J s w.heap → IsFr n a (S s) ⟨g, D s⟩ →
      ∃ e a' w' l' b', Same w w' ∧ IsFr n a' l' b' ∧ κ.at e l' b' w'.heap ∧ ArrR P (lone (fr.atR a (.code rest :: .inScope c :: k)) cs w) fr k cs e a' w' := by
    intro m
    induction m using Nat.strongRecOn with
    | _ m ih =>
      intro s a w g hm hJ hfr
      obtain ⟨e, a', w', l', b', hs, hfr', hk, harr⟩ := csem_sound P n ro rest _ _ _ _ hok2 (pass s w.heap g hJ) a w rfl hfr fr (.inScope c :: k) cs hkd hro
      cases e with
      | nx => exact ⟨.nx, a', w', l', b', hs, hfr', hk, Steps.trans harr (.one stepR_inScope)⟩
      | rt => exact ⟨.rt, a', w', l', b', hs, hfr', hk, harr⟩
      | ex id => obtain ⟨td, x, st⟩ := harr; exact ⟨.ex id, a', w', l', b', hs, hfr', hk, td, by simpa [exitTo] using x, st⟩
      | gt tt =>
        obtain ⟨rfl, s', hsub, hd, hJ', hlt⟩ := hk
        obtain ⟨td, x, st⟩ := harr
        have hfr2 := hfr'.clean hsub
        rw [hd] at hfr2
        obtain ⟨e, a'', w'', l'', b'', hs', hfr'', hk', harr'⟩ := ih (μ s') (hm ▸ hlt) s' a' w' _ rfl hJ' hfr2
        exact ⟨e, a'', w'', l'', b'', hs.trans hs', hfr'', hk', .of_steps (st.trans (.one (stepR_goto (x.trans (hg k))))) harr'⟩
  obtain ⟨e, a', w', l', b', hs, hfr', hk, harr⟩ := csem_sound P n ro c _ _ _ _ hok first a w hw hfr fr (.inScope c :: k) cs hkd hro
  have h1 : Steps P (lone (fr.atR a (.code (.scope c) :: k)) cs w) (lone (fr.atR a (.code c :: .inScope c :: k)) cs w) := .one stepR_scope
  cases e with
  | nx => exact ⟨.nx, a', w', l', b', hs, hfr', hk, h1.trans (Steps.trans harr (.one stepR_inScope))⟩
  | rt => obtain ⟨td, st⟩ := harr; exact ⟨.rt, a', w', l', b', hs, hfr', hk, td, h1.trans st⟩
  | ex id => obtain ⟨td, x, st⟩ := harr; exact ⟨.ex id, a', w', l', b', hs, hfr', hk, td, by simpa [exitTo] using x, h1.trans st⟩
  | gt tt =>
    obtain ⟨rfl, s', hsub, hd, hJ', _⟩ := hk
    obtain ⟨td, x, st⟩ := harr
    have hfr2 := hfr'.clean hsub
    rw [hd] at hfr2
    obtain ⟨e, a'', w'', l'', b'', hs', hfr'', hk', harr'⟩ := key _ s' a' w' _ rfl hJ' hfr2
    exact ⟨e, a'', w'', l'', b'', hs.trans hs', hfr'', hk', .of_steps (h1.trans (st.trans (.one (stepR_goto (x.trans (hg k)))))) harr'⟩
/-- The same, for simp. -/
theorem scope {σ : Type} (t : Nat) (rest : Code) (hf : findLabel c t = some rest) (S : σ → L) (D : σ → List Nat) (J : σ → Heap → Prop) (μ : σ → Nat) (m0 : Nat) (hok : codeOk n c = true) (hok2 : codeOk n rest = true)
    (first : cs P n ro c { κ with gt := JumpK S D J μ t m0 } l b h)
    (pass : ∀ s h g, J s h → cs P n ro rest { κ with gt := JumpK S D J μ t (μ s) } (S s) ⟨g, D s⟩ h) : gs P n ro (.scope c) κ l b h := scope_rule t rest hf S D J μ m0 hok hok2 first pass
end
/-- A contract is proved with its end out of sight. -/
theorem callH_by {P : Program} {f : FuncId} {args : Array Value} {h : Heap} {Q : Value → Heap → Prop} (hc : ∀ K : Value → Heap → Prop, (∀ v h, Q v h → K v h) → CallH P f args h K) : CallH P f args h Q := hc Q fun _ _ h => h
/-- A round of a loop has ended well: some state that is nearer the end. -/
def LoopK {σ : Type} (S : σ → L) (D : σ → List Nat) (J : σ → Heap → Prop) (μ : σ → Nat) (s : σ) (l : L) (b : Base) (h : Heap) : Prop := ∃ s', Sub (S s') l b ∧ b.d = D s' ∧ J s' h ∧ μ s' < μ s
theorem loop' {P : Program} {n : Nat} {ro : Option Nat} {c : Code} {κ : Kont} {l : L} {b : Base} {h : Heap} {σ : Type} (S : σ → L) (D : σ → List Nat) (J : σ → Heap → Prop) (μ : σ → Nat) (s0 : σ) (hS : Sub (S s0) l b) (hD : b.d = D s0) (hJ : J s0 h) (hok : codeOk n c = true)
    (round : ∀ s h g, J s h → cs P n ro c { κ with nx := LoopK S D J μ s } (S s) ⟨g, D s⟩ h) : gs P n ro (.loop c) κ l b h := loop S D J μ s0 hS hD hJ hok round
theorem Grow.elem {α : Type} {R : Rp α} {e : TypeId} {F : Nat → Prop} {h : Heap} {a : Option Addr} {n c : Nat} {xs : List α} {own : Option Nat} (hg : Grow R e F h (.slice a n c) xs own) (k : Nat) (hk : k < xs.length) :
    ∃ bk cs, a = some ⟨bk, 0, none⟩ ∧ own = some bk ∧ R.rep F h cs xs[k] ∧ HC.cellsIn h[bk]? (k * R.sz) R.sz = some cs := by
  rcases hg with ⟨_, rfl, _⟩ | ⟨bk, c', arr, cs, hv, rfl, hb, hf, h1, h2, h3, h4, h5⟩
  · simp at hk
  · cases hv
    refine ⟨bk, _, rfl, rfl, h5.get k hk, ?_⟩
    have hlen := h5.len
    have h6 : k * R.sz + R.sz ≤ xs.length * R.sz := by rw [← Nat.succ_mul]; exact Nat.mul_le_mul_right _ hk
    have h7 : xs.length * R.sz ≤ c * R.sz := Nat.mul_le_mul_right _ h2
    rw [hb, cellsIn_some, if_pos (by omega), ← h4, List.drop_take, List.take_take, Nat.min_eq_left (by omega)]
theorem cellsIn_cell {o : Option Obj} {i n d : Nat} {cs : List Value} (h : cellsIn o i n = some cs) (hd : d < n) : cellIn o (i + d) = cs[d]? := by
  cases o with
  | none => simp [cellsIn] at h
  | some o =>
    cases o with
    | cells c e fz =>
      rw [cellsIn_some] at h
      split at h
      · simp only [Option.some.injEq] at h
        rw [cellIn_some, ← h, List.getElem?_take, if_pos hd, List.getElem?_drop]
        simp
      · cases h
    | _ => simp [cellsIn] at h
end Go.HC

/- The facts on the types and functions of this seat, printed by a program of this session (wip/tools/facts.py) off the translation; each is proved by the kernel. -/
namespace Go.Proofs
open Go Go.HC
@[simp] theorem Try.aggS0 : aggS Try.prog 0 = some false := by kernel_rfl
@[simp] theorem Try.szS0 : szS Try.prog 0 = some 1 := by kernel_rfl
@[simp] theorem Try.byS0 : byS Try.prog 0 = some 0 := by kernel_rfl
@[simp] theorem Try.zS0 : zS Try.prog 0 = some (.tuple #[]) := by kernel_rfl
@[simp] theorem Try.aggS1 : aggS Try.prog 1 = some false := by kernel_rfl
@[simp] theorem Try.szS1 : szS Try.prog 1 = some 1 := by kernel_rfl
@[simp] theorem Try.byS1 : byS Try.prog 1 = some 8 := by kernel_rfl
@[simp] theorem Try.zS1 : zS Try.prog 1 = some (.nilFunc) := by kernel_rfl
@[simp] theorem Try.aggS2 : aggS Try.prog 2 = some false := by kernel_rfl
@[simp] theorem Try.szS2 : szS Try.prog 2 = some 1 := by kernel_rfl
@[simp] theorem Try.byS2 : byS Try.prog 2 = some 8 := by kernel_rfl
@[simp] theorem Try.zS2 : zS Try.prog 2 = some (.int .i64 0) := by kernel_rfl
@[simp] theorem Try.intK2 : intK Try.prog 2 = some .i64 := by kernel_rfl
@[simp] theorem Try.aggS3 : aggS Try.prog 3 = some false := by kernel_rfl
@[simp] theorem Try.szS3 : szS Try.prog 3 = some 1 := by kernel_rfl
@[simp] theorem Try.byS3 : byS Try.prog 3 = some 8 := by kernel_rfl
@[simp] theorem Try.zS3 : zS Try.prog 3 = some (.int .i64 0) := by kernel_rfl
@[simp] theorem Try.intK3 : intK Try.prog 3 = some .i64 := by kernel_rfl
@[simp] theorem Try.aggS4 : aggS Try.prog 4 = some false := by kernel_rfl
@[simp] theorem Try.szS4 : szS Try.prog 4 = some 1 := by kernel_rfl
@[simp] theorem Try.byS4 : byS Try.prog 4 = some 1 := by kernel_rfl
@[simp] theorem Try.zS4 : zS Try.prog 4 = some (.bool false) := by kernel_rfl
@[simp] theorem Try.boolT4 : boolT Try.prog 4 = true := by kernel_rfl
@[simp] theorem Try.aggS5 : aggS Try.prog 5 = some false := by kernel_rfl
@[simp] theorem Try.szS5 : szS Try.prog 5 = some 1 := by kernel_rfl
@[simp] theorem Try.byS5 : byS Try.prog 5 = some 1 := by kernel_rfl
@[simp] theorem Try.zS5 : zS Try.prog 5 = some (.int .u8 0) := by kernel_rfl
@[simp] theorem Try.intK5 : intK Try.prog 5 = some .u8 := by kernel_rfl
@[simp] theorem Try.aggS6 : aggS Try.prog 6 = some false := by kernel_rfl
@[simp] theorem Try.szS6 : szS Try.prog 6 = some 1 := by kernel_rfl
@[simp] theorem Try.byS6 : byS Try.prog 6 = some 1 := by kernel_rfl
@[simp] theorem Try.zS6 : zS Try.prog 6 = some (.int .u8 0) := by kernel_rfl
@[simp] theorem Try.intK6 : intK Try.prog 6 = some .u8 := by kernel_rfl
@[simp] theorem Try.aggS7 : aggS Try.prog 7 = some true := by kernel_rfl
@[simp] theorem Try.szS7 : szS Try.prog 7 = some 4 := by kernel_rfl
@[simp] theorem Try.byS7 : byS Try.prog 7 = some 24 := by kernel_rfl
@[simp] theorem Try.zS7 : zS Try.prog 7 = some (.agg #[.int .i64 0, .int .i64 0, .bool false, .int .u8 0]) := by kernel_rfl
@[simp] theorem Try.strOk7 : structOk Try.prog 7 = true := by kernel_rfl
@[simp] theorem Try.fldS7_0 : fldS Try.prog 7 0 = some (0, 1, false) := by kernel_rfl
@[simp] theorem Try.fldS7_1 : fldS Try.prog 7 1 = some (1, 1, false) := by kernel_rfl
@[simp] theorem Try.fldS7_2 : fldS Try.prog 7 2 = some (2, 1, false) := by kernel_rfl
@[simp] theorem Try.fldS7_3 : fldS Try.prog 7 3 = some (3, 1, false) := by kernel_rfl
@[simp] theorem Try.aggS8 : aggS Try.prog 8 = some true := by kernel_rfl
@[simp] theorem Try.szS8 : szS Try.prog 8 = some 4 := by kernel_rfl
@[simp] theorem Try.byS8 : byS Try.prog 8 = some 24 := by kernel_rfl
@[simp] theorem Try.zS8 : zS Try.prog 8 = some (.agg #[.int .i64 0, .int .i64 0, .bool false, .int .u8 0]) := by kernel_rfl
@[simp] theorem Try.strOk8 : structOk Try.prog 8 = true := by kernel_rfl
@[simp] theorem Try.fldS8_0 : fldS Try.prog 8 0 = some (0, 1, false) := by kernel_rfl
@[simp] theorem Try.fldS8_1 : fldS Try.prog 8 1 = some (1, 1, false) := by kernel_rfl
@[simp] theorem Try.fldS8_2 : fldS Try.prog 8 2 = some (2, 1, false) := by kernel_rfl
@[simp] theorem Try.fldS8_3 : fldS Try.prog 8 3 = some (3, 1, false) := by kernel_rfl
@[simp] theorem Try.aggS9 : aggS Try.prog 9 = some false := by kernel_rfl
@[simp] theorem Try.szS9 : szS Try.prog 9 = some 1 := by kernel_rfl
@[simp] theorem Try.byS9 : byS Try.prog 9 = some 16 := by kernel_rfl
@[simp] theorem Try.zS9 : zS Try.prog 9 = some (.string ⟨#[]⟩) := by kernel_rfl
@[simp] theorem Try.strT9 : strT Try.prog 9 = true := by kernel_rfl
@[simp] theorem Try.aggS10 : aggS Try.prog 10 = some false := by kernel_rfl
@[simp] theorem Try.szS10 : szS Try.prog 10 = some 1 := by kernel_rfl
@[simp] theorem Try.byS10 : byS Try.prog 10 = some 16 := by kernel_rfl
@[simp] theorem Try.zS10 : zS Try.prog 10 = some (.string ⟨#[]⟩) := by kernel_rfl
@[simp] theorem Try.strT10 : strT Try.prog 10 = true := by kernel_rfl
@[simp] theorem Try.aggS11 : aggS Try.prog 11 = some false := by kernel_rfl
@[simp] theorem Try.szS11 : szS Try.prog 11 = some 1 := by kernel_rfl
@[simp] theorem Try.byS11 : byS Try.prog 11 = some 16 := by kernel_rfl
@[simp] theorem Try.zS11 : zS Try.prog 11 = some (.string ⟨#[]⟩) := by kernel_rfl
@[simp] theorem Try.strT11 : strT Try.prog 11 = true := by kernel_rfl
@[simp] theorem Try.aggS12 : aggS Try.prog 12 = some false := by kernel_rfl
@[simp] theorem Try.szS12 : szS Try.prog 12 = some 1 := by kernel_rfl
@[simp] theorem Try.byS12 : byS Try.prog 12 = some 8 := by kernel_rfl
@[simp] theorem Try.zS12 : zS Try.prog 12 = some (.int .u64 0) := by kernel_rfl
@[simp] theorem Try.intK12 : intK Try.prog 12 = some .u64 := by kernel_rfl
@[simp] theorem Try.aggS13 : aggS Try.prog 13 = some true := by kernel_rfl
@[simp] theorem Try.szS13 : szS Try.prog 13 = some 2 := by kernel_rfl
@[simp] theorem Try.byS13 : byS Try.prog 13 = some 24 := by kernel_rfl
@[simp] theorem Try.zS13 : zS Try.prog 13 = some (.agg #[.string ⟨#[]⟩, .int .u64 0]) := by kernel_rfl
@[simp] theorem Try.strOk13 : structOk Try.prog 13 = true := by kernel_rfl
@[simp] theorem Try.fldS13_0 : fldS Try.prog 13 0 = some (0, 1, false) := by kernel_rfl
@[simp] theorem Try.fldS13_1 : fldS Try.prog 13 1 = some (1, 1, false) := by kernel_rfl
@[simp] theorem Try.aggS14 : aggS Try.prog 14 = some true := by kernel_rfl
@[simp] theorem Try.szS14 : szS Try.prog 14 = some 2 := by kernel_rfl
@[simp] theorem Try.byS14 : byS Try.prog 14 = some 24 := by kernel_rfl
@[simp] theorem Try.zS14 : zS Try.prog 14 = some (.agg #[.string ⟨#[]⟩, .int .u64 0]) := by kernel_rfl
@[simp] theorem Try.strOk14 : structOk Try.prog 14 = true := by kernel_rfl
@[simp] theorem Try.fldS14_0 : fldS Try.prog 14 0 = some (0, 1, false) := by kernel_rfl
@[simp] theorem Try.fldS14_1 : fldS Try.prog 14 1 = some (1, 1, false) := by kernel_rfl
@[simp] theorem Try.aggS15 : aggS Try.prog 15 = some false := by kernel_rfl
@[simp] theorem Try.szS15 : szS Try.prog 15 = some 1 := by kernel_rfl
@[simp] theorem Try.byS15 : byS Try.prog 15 = some 8 := by kernel_rfl
@[simp] theorem Try.zS15 : zS Try.prog 15 = some (.pointer none) := by kernel_rfl
@[simp] theorem Try.nilKind15 : nilKind Try.prog 15 = 2 := by kernel_rfl
@[simp] theorem Try.aggS16 : aggS Try.prog 16 = some false := by kernel_rfl
@[simp] theorem Try.szS16 : szS Try.prog 16 = some 1 := by kernel_rfl
@[simp] theorem Try.byS16 : byS Try.prog 16 = some 8 := by kernel_rfl
@[simp] theorem Try.zS16 : zS Try.prog 16 = some (.pointer none) := by kernel_rfl
@[simp] theorem Try.nilKind16 : nilKind Try.prog 16 = 2 := by kernel_rfl
@[simp] theorem Try.aggS17 : aggS Try.prog 17 = some false := by kernel_rfl
@[simp] theorem Try.szS17 : szS Try.prog 17 = some 1 := by kernel_rfl
@[simp] theorem Try.byS17 : byS Try.prog 17 = some 8 := by kernel_rfl
@[simp] theorem Try.zS17 : zS Try.prog 17 = some (.pointer none) := by kernel_rfl
@[simp] theorem Try.nilKind17 : nilKind Try.prog 17 = 2 := by kernel_rfl
@[simp] theorem Try.aggS18 : aggS Try.prog 18 = some true := by kernel_rfl
@[simp] theorem Try.szS18 : szS Try.prog 18 = some 1 := by kernel_rfl
@[simp] theorem Try.byS18 : byS Try.prog 18 = some 8 := by kernel_rfl
@[simp] theorem Try.zS18 : zS Try.prog 18 = some (.agg #[.pointer none]) := by kernel_rfl
@[simp] theorem Try.strOk18 : structOk Try.prog 18 = true := by kernel_rfl
@[simp] theorem Try.fldS18_0 : fldS Try.prog 18 0 = some (0, 1, false) := by kernel_rfl
@[simp] theorem Try.aggS19 : aggS Try.prog 19 = some true := by kernel_rfl
@[simp] theorem Try.szS19 : szS Try.prog 19 = some 1 := by kernel_rfl
@[simp] theorem Try.byS19 : byS Try.prog 19 = some 8 := by kernel_rfl
@[simp] theorem Try.zS19 : zS Try.prog 19 = some (.agg #[.pointer none]) := by kernel_rfl
@[simp] theorem Try.strOk19 : structOk Try.prog 19 = true := by kernel_rfl
@[simp] theorem Try.fldS19_0 : fldS Try.prog 19 0 = some (0, 1, false) := by kernel_rfl
@[simp] theorem Try.aggS21 : aggS Try.prog 21 = some false := by kernel_rfl
@[simp] theorem Try.szS21 : szS Try.prog 21 = some 1 := by kernel_rfl
@[simp] theorem Try.byS21 : byS Try.prog 21 = some 4 := by kernel_rfl
@[simp] theorem Try.zS21 : zS Try.prog 21 = some (.int .i32 0) := by kernel_rfl
@[simp] theorem Try.intK21 : intK Try.prog 21 = some .i32 := by kernel_rfl
@[simp] theorem Try.aggS22 : aggS Try.prog 22 = some false := by kernel_rfl
@[simp] theorem Try.szS22 : szS Try.prog 22 = some 1 := by kernel_rfl
@[simp] theorem Try.byS22 : byS Try.prog 22 = some 8 := by kernel_rfl
@[simp] theorem Try.zS22 : zS Try.prog 22 = some (.nilFunc) := by kernel_rfl
@[simp] theorem Try.aggS23 : aggS Try.prog 23 = some false := by kernel_rfl
@[simp] theorem Try.szS23 : szS Try.prog 23 = some 1 := by kernel_rfl
@[simp] theorem Try.byS23 : byS Try.prog 23 = some 8 := by kernel_rfl
@[simp] theorem Try.zS23 : zS Try.prog 23 = some (.int .i64 0) := by kernel_rfl
@[simp] theorem Try.intK23 : intK Try.prog 23 = some .i64 := by kernel_rfl
@[simp] theorem Try.aggS24 : aggS Try.prog 24 = some false := by kernel_rfl
@[simp] theorem Try.szS24 : szS Try.prog 24 = some 1 := by kernel_rfl
@[simp] theorem Try.byS24 : byS Try.prog 24 = some 24 := by kernel_rfl
@[simp] theorem Try.zS24 : zS Try.prog 24 = some (.slice none 0 0) := by kernel_rfl
@[simp] theorem Try.elS24 : elS Try.prog 24 = some 31 := by kernel_rfl
@[simp] theorem Try.nilKind24 : nilKind Try.prog 24 = 1 := by kernel_rfl
@[simp] theorem Try.aggS25 : aggS Try.prog 25 = some true := by kernel_rfl
@[simp] theorem Try.szS25 : szS Try.prog 25 = some 2 := by kernel_rfl
@[simp] theorem Try.byS25 : byS Try.prog 25 = some 32 := by kernel_rfl
@[simp] theorem Try.zS25 : zS Try.prog 25 = some (.agg #[.slice none 0 0, .int .i64 0]) := by kernel_rfl
@[simp] theorem Try.strOk25 : structOk Try.prog 25 = true := by kernel_rfl
@[simp] theorem Try.fldS25_0 : fldS Try.prog 25 0 = some (0, 1, false) := by kernel_rfl
@[simp] theorem Try.fldS25_1 : fldS Try.prog 25 1 = some (1, 1, false) := by kernel_rfl
@[simp] theorem Try.aggS26 : aggS Try.prog 26 = some true := by kernel_rfl
@[simp] theorem Try.szS26 : szS Try.prog 26 = some 2 := by kernel_rfl
@[simp] theorem Try.byS26 : byS Try.prog 26 = some 32 := by kernel_rfl
@[simp] theorem Try.zS26 : zS Try.prog 26 = some (.agg #[.slice none 0 0, .int .i64 0]) := by kernel_rfl
@[simp] theorem Try.strOk26 : structOk Try.prog 26 = true := by kernel_rfl
@[simp] theorem Try.fldS26_0 : fldS Try.prog 26 0 = some (0, 1, false) := by kernel_rfl
@[simp] theorem Try.fldS26_1 : fldS Try.prog 26 1 = some (1, 1, false) := by kernel_rfl
@[simp] theorem Try.aggS28 : aggS Try.prog 28 = some false := by kernel_rfl
@[simp] theorem Try.szS28 : szS Try.prog 28 = some 1 := by kernel_rfl
@[simp] theorem Try.byS28 : byS Try.prog 28 = some 8 := by kernel_rfl
@[simp] theorem Try.zS28 : zS Try.prog 28 = some (.nilFunc) := by kernel_rfl
@[simp] theorem Try.aggS29 : aggS Try.prog 29 = some false := by kernel_rfl
@[simp] theorem Try.szS29 : szS Try.prog 29 = some 1 := by kernel_rfl
@[simp] theorem Try.byS29 : byS Try.prog 29 = some 24 := by kernel_rfl
@[simp] theorem Try.zS29 : zS Try.prog 29 = some (.slice none 0 0) := by kernel_rfl
@[simp] theorem Try.elS29 : elS Try.prog 29 = some 3 := by kernel_rfl
@[simp] theorem Try.nilKind29 : nilKind Try.prog 29 = 1 := by kernel_rfl
@[simp] theorem Try.aggS30 : aggS Try.prog 30 = some true := by kernel_rfl
@[simp] theorem Try.szS30 : szS Try.prog 30 = some 5 := by kernel_rfl
@[simp] theorem Try.byS30 : byS Try.prog 30 = some 104 := by kernel_rfl
@[simp] theorem Try.zS30 : zS Try.prog 30 = some (.agg #[.slice none 0 0, .int .i64 0, .slice none 0 0, .slice none 0 0, .slice none 0 0]) := by kernel_rfl
@[simp] theorem Try.strOk30 : structOk Try.prog 30 = true := by kernel_rfl
@[simp] theorem Try.fldS30_0 : fldS Try.prog 30 0 = some (0, 1, false) := by kernel_rfl
@[simp] theorem Try.fldS30_1 : fldS Try.prog 30 1 = some (1, 1, false) := by kernel_rfl
@[simp] theorem Try.fldS30_2 : fldS Try.prog 30 2 = some (2, 1, false) := by kernel_rfl
@[simp] theorem Try.fldS30_3 : fldS Try.prog 30 3 = some (3, 1, false) := by kernel_rfl
@[simp] theorem Try.fldS30_4 : fldS Try.prog 30 4 = some (4, 1, false) := by kernel_rfl
@[simp] theorem Try.aggS31 : aggS Try.prog 31 = some true := by kernel_rfl
@[simp] theorem Try.szS31 : szS Try.prog 31 = some 5 := by kernel_rfl
@[simp] theorem Try.byS31 : byS Try.prog 31 = some 104 := by kernel_rfl
@[simp] theorem Try.zS31 : zS Try.prog 31 = some (.agg #[.slice none 0 0, .int .i64 0, .slice none 0 0, .slice none 0 0, .slice none 0 0]) := by kernel_rfl
@[simp] theorem Try.strOk31 : structOk Try.prog 31 = true := by kernel_rfl
@[simp] theorem Try.fldS31_0 : fldS Try.prog 31 0 = some (0, 1, false) := by kernel_rfl
@[simp] theorem Try.fldS31_1 : fldS Try.prog 31 1 = some (1, 1, false) := by kernel_rfl
@[simp] theorem Try.fldS31_2 : fldS Try.prog 31 2 = some (2, 1, false) := by kernel_rfl
@[simp] theorem Try.fldS31_3 : fldS Try.prog 31 3 = some (3, 1, false) := by kernel_rfl
@[simp] theorem Try.fldS31_4 : fldS Try.prog 31 4 = some (4, 1, false) := by kernel_rfl
@[simp] theorem Try.aggS32 : aggS Try.prog 32 = some false := by kernel_rfl
@[simp] theorem Try.szS32 : szS Try.prog 32 = some 1 := by kernel_rfl
@[simp] theorem Try.byS32 : byS Try.prog 32 = some 8 := by kernel_rfl
@[simp] theorem Try.zS32 : zS Try.prog 32 = some (.nilFunc) := by kernel_rfl
@[simp] theorem Try.aggS33 : aggS Try.prog 33 = some false := by kernel_rfl
@[simp] theorem Try.szS33 : szS Try.prog 33 = some 1 := by kernel_rfl
@[simp] theorem Try.byS33 : byS Try.prog 33 = some 8 := by kernel_rfl
@[simp] theorem Try.zS33 : zS Try.prog 33 = some (.nilFunc) := by kernel_rfl
@[simp] theorem Try.aggS34 : aggS Try.prog 34 = some false := by kernel_rfl
@[simp] theorem Try.szS34 : szS Try.prog 34 = some 1 := by kernel_rfl
@[simp] theorem Try.byS34 : byS Try.prog 34 = some 8 := by kernel_rfl
@[simp] theorem Try.zS34 : zS Try.prog 34 = some (.nilFunc) := by kernel_rfl
@[simp] theorem Try.aggS35 : aggS Try.prog 35 = some false := by kernel_rfl
@[simp] theorem Try.szS35 : szS Try.prog 35 = some 1 := by kernel_rfl
@[simp] theorem Try.byS35 : byS Try.prog 35 = some 8 := by kernel_rfl
@[simp] theorem Try.zS35 : zS Try.prog 35 = some (.nilFunc) := by kernel_rfl
@[simp] theorem Try.aggS36 : aggS Try.prog 36 = some false := by kernel_rfl
@[simp] theorem Try.szS36 : szS Try.prog 36 = some 1 := by kernel_rfl
@[simp] theorem Try.byS36 : byS Try.prog 36 = some 8 := by kernel_rfl
@[simp] theorem Try.zS36 : zS Try.prog 36 = some (.nilFunc) := by kernel_rfl
@[simp] theorem Try.aggS37 : aggS Try.prog 37 = some false := by kernel_rfl
@[simp] theorem Try.szS37 : szS Try.prog 37 = some 1 := by kernel_rfl
@[simp] theorem Try.byS37 : byS Try.prog 37 = some 8 := by kernel_rfl
@[simp] theorem Try.zS37 : zS Try.prog 37 = some (.nilFunc) := by kernel_rfl
@[simp] theorem Try.aggS38 : aggS Try.prog 38 = some false := by kernel_rfl
@[simp] theorem Try.szS38 : szS Try.prog 38 = some 1 := by kernel_rfl
@[simp] theorem Try.byS38 : byS Try.prog 38 = some 8 := by kernel_rfl
@[simp] theorem Try.zS38 : zS Try.prog 38 = some (.nilFunc) := by kernel_rfl
@[simp] theorem Try.aggS39 : aggS Try.prog 39 = some false := by kernel_rfl
@[simp] theorem Try.szS39 : szS Try.prog 39 = some 1 := by kernel_rfl
@[simp] theorem Try.byS39 : byS Try.prog 39 = some 8 := by kernel_rfl
@[simp] theorem Try.zS39 : zS Try.prog 39 = some (.nilFunc) := by kernel_rfl
@[simp] theorem Try.aggS40 : aggS Try.prog 40 = some false := by kernel_rfl
@[simp] theorem Try.szS40 : szS Try.prog 40 = some 1 := by kernel_rfl
@[simp] theorem Try.byS40 : byS Try.prog 40 = some 8 := by kernel_rfl
@[simp] theorem Try.zS40 : zS Try.prog 40 = some (.nilFunc) := by kernel_rfl
@[simp] theorem Try.aggS41 : aggS Try.prog 41 = some false := by kernel_rfl
@[simp] theorem Try.szS41 : szS Try.prog 41 = some 1 := by kernel_rfl
@[simp] theorem Try.byS41 : byS Try.prog 41 = some 24 := by kernel_rfl
@[simp] theorem Try.zS41 : zS Try.prog 41 = some (.slice none 0 0) := by kernel_rfl
@[simp] theorem Try.elS41 : elS Try.prog 41 = some 24 := by kernel_rfl
@[simp] theorem Try.nilKind41 : nilKind Try.prog 41 = 1 := by kernel_rfl
@[simp] theorem Try.aggS42 : aggS Try.prog 42 = some false := by kernel_rfl
@[simp] theorem Try.szS42 : szS Try.prog 42 = some 1 := by kernel_rfl
@[simp] theorem Try.byS42 : byS Try.prog 42 = some 8 := by kernel_rfl
@[simp] theorem Try.zS42 : zS Try.prog 42 = some (.nilFunc) := by kernel_rfl
@[simp] theorem Try.aggS44 : aggS Try.prog 44 = some false := by kernel_rfl
@[simp] theorem Try.szS44 : szS Try.prog 44 = some 1 := by kernel_rfl
@[simp] theorem Try.byS44 : byS Try.prog 44 = some 8 := by kernel_rfl
@[simp] theorem Try.zS44 : zS Try.prog 44 = some (.nilFunc) := by kernel_rfl
@[simp] theorem Try.aggS45 : aggS Try.prog 45 = some false := by kernel_rfl
@[simp] theorem Try.szS45 : szS Try.prog 45 = some 1 := by kernel_rfl
@[simp] theorem Try.byS45 : byS Try.prog 45 = some 8 := by kernel_rfl
@[simp] theorem Try.zS45 : zS Try.prog 45 = some (.nilFunc) := by kernel_rfl
@[simp] theorem Try.aggS46 : aggS Try.prog 46 = some false := by kernel_rfl
@[simp] theorem Try.szS46 : szS Try.prog 46 = some 1 := by kernel_rfl
@[simp] theorem Try.byS46 : byS Try.prog 46 = some 8 := by kernel_rfl
@[simp] theorem Try.zS46 : zS Try.prog 46 = some (.nilFunc) := by kernel_rfl
@[simp] theorem Try.aggS47 : aggS Try.prog 47 = some false := by kernel_rfl
@[simp] theorem Try.szS47 : szS Try.prog 47 = some 1 := by kernel_rfl
@[simp] theorem Try.byS47 : byS Try.prog 47 = some 8 := by kernel_rfl
@[simp] theorem Try.zS47 : zS Try.prog 47 = some (.nilFunc) := by kernel_rfl
@[simp] theorem Try.aggS48 : aggS Try.prog 48 = some false := by kernel_rfl
@[simp] theorem Try.szS48 : szS Try.prog 48 = some 1 := by kernel_rfl
@[simp] theorem Try.byS48 : byS Try.prog 48 = some 8 := by kernel_rfl
@[simp] theorem Try.zS48 : zS Try.prog 48 = some (.nilFunc) := by kernel_rfl
@[simp] theorem Try.aggS49 : aggS Try.prog 49 = some false := by kernel_rfl
@[simp] theorem Try.szS49 : szS Try.prog 49 = some 1 := by kernel_rfl
@[simp] theorem Try.byS49 : byS Try.prog 49 = some 8 := by kernel_rfl
@[simp] theorem Try.zS49 : zS Try.prog 49 = some (.nilFunc) := by kernel_rfl
@[simp] theorem Try.aggS50 : aggS Try.prog 50 = some false := by kernel_rfl
@[simp] theorem Try.szS50 : szS Try.prog 50 = some 1 := by kernel_rfl
@[simp] theorem Try.byS50 : byS Try.prog 50 = some 8 := by kernel_rfl
@[simp] theorem Try.zS50 : zS Try.prog 50 = some (.nilFunc) := by kernel_rfl
@[simp] theorem Try.aggS51 : aggS Try.prog 51 = some false := by kernel_rfl
@[simp] theorem Try.szS51 : szS Try.prog 51 = some 1 := by kernel_rfl
@[simp] theorem Try.byS51 : byS Try.prog 51 = some 8 := by kernel_rfl
@[simp] theorem Try.zS51 : zS Try.prog 51 = some (.nilFunc) := by kernel_rfl
@[simp] theorem Try.aggS52 : aggS Try.prog 52 = some false := by kernel_rfl
@[simp] theorem Try.szS52 : szS Try.prog 52 = some 1 := by kernel_rfl
@[simp] theorem Try.byS52 : byS Try.prog 52 = some 8 := by kernel_rfl
@[simp] theorem Try.zS52 : zS Try.prog 52 = some (.pointer none) := by kernel_rfl
@[simp] theorem Try.nilKind52 : nilKind Try.prog 52 = 2 := by kernel_rfl
@[simp] theorem Try.aggS53 : aggS Try.prog 53 = some true := by kernel_rfl
@[simp] theorem Try.szS53 : szS Try.prog 53 = some 1 := by kernel_rfl
@[simp] theorem Try.byS53 : byS Try.prog 53 = some 24 := by kernel_rfl
@[simp] theorem Try.zS53 : zS Try.prog 53 = some (.agg #[.slice none 0 0]) := by kernel_rfl
@[simp] theorem Try.strOk53 : structOk Try.prog 53 = true := by kernel_rfl
@[simp] theorem Try.fldS53_0 : fldS Try.prog 53 0 = some (0, 1, false) := by kernel_rfl
@[simp] theorem Try.aggS54 : aggS Try.prog 54 = some true := by kernel_rfl
@[simp] theorem Try.szS54 : szS Try.prog 54 = some 1 := by kernel_rfl
@[simp] theorem Try.byS54 : byS Try.prog 54 = some 24 := by kernel_rfl
@[simp] theorem Try.zS54 : zS Try.prog 54 = some (.agg #[.slice none 0 0]) := by kernel_rfl
@[simp] theorem Try.strOk54 : structOk Try.prog 54 = true := by kernel_rfl
@[simp] theorem Try.fldS54_0 : fldS Try.prog 54 0 = some (0, 1, false) := by kernel_rfl
@[simp] theorem Try.aggS55 : aggS Try.prog 55 = some false := by kernel_rfl
@[simp] theorem Try.szS55 : szS Try.prog 55 = some 1 := by kernel_rfl
@[simp] theorem Try.byS55 : byS Try.prog 55 = some 8 := by kernel_rfl
@[simp] theorem Try.zS55 : zS Try.prog 55 = some (.nilFunc) := by kernel_rfl
@[simp] theorem Try.aggS56 : aggS Try.prog 56 = some false := by kernel_rfl
@[simp] theorem Try.szS56 : szS Try.prog 56 = some 1 := by kernel_rfl
@[simp] theorem Try.byS56 : byS Try.prog 56 = some 8 := by kernel_rfl
@[simp] theorem Try.zS56 : zS Try.prog 56 = some (.nilFunc) := by kernel_rfl
@[simp] theorem Try.aggS57 : aggS Try.prog 57 = some false := by kernel_rfl
@[simp] theorem Try.szS57 : szS Try.prog 57 = some 1 := by kernel_rfl
@[simp] theorem Try.byS57 : byS Try.prog 57 = some 8 := by kernel_rfl
@[simp] theorem Try.zS57 : zS Try.prog 57 = some (.nilFunc) := by kernel_rfl
@[simp] theorem Try.aggS58 : aggS Try.prog 58 = some false := by kernel_rfl
@[simp] theorem Try.szS58 : szS Try.prog 58 = some 1 := by kernel_rfl
@[simp] theorem Try.byS58 : byS Try.prog 58 = some 8 := by kernel_rfl
@[simp] theorem Try.zS58 : zS Try.prog 58 = some (.nilFunc) := by kernel_rfl
@[simp] theorem Try.aggS59 : aggS Try.prog 59 = some false := by kernel_rfl
@[simp] theorem Try.szS59 : szS Try.prog 59 = some 1 := by kernel_rfl
@[simp] theorem Try.byS59 : byS Try.prog 59 = some 8 := by kernel_rfl
@[simp] theorem Try.zS59 : zS Try.prog 59 = some (.nilFunc) := by kernel_rfl
@[simp] theorem Try.aggS60 : aggS Try.prog 60 = some false := by kernel_rfl
@[simp] theorem Try.szS60 : szS Try.prog 60 = some 1 := by kernel_rfl
@[simp] theorem Try.byS60 : byS Try.prog 60 = some 8 := by kernel_rfl
@[simp] theorem Try.zS60 : zS Try.prog 60 = some (.nilFunc) := by kernel_rfl
@[simp] theorem Try.aggS61 : aggS Try.prog 61 = some false := by kernel_rfl
@[simp] theorem Try.szS61 : szS Try.prog 61 = some 1 := by kernel_rfl
@[simp] theorem Try.byS61 : byS Try.prog 61 = some 8 := by kernel_rfl
@[simp] theorem Try.zS61 : zS Try.prog 61 = some (.nilFunc) := by kernel_rfl
@[simp] theorem Try.aggS62 : aggS Try.prog 62 = some false := by kernel_rfl
@[simp] theorem Try.szS62 : szS Try.prog 62 = some 1 := by kernel_rfl
@[simp] theorem Try.byS62 : byS Try.prog 62 = some 8 := by kernel_rfl
@[simp] theorem Try.zS62 : zS Try.prog 62 = some (.map none) := by kernel_rfl
@[simp] theorem Try.nilKind62 : nilKind Try.prog 62 = 3 := by kernel_rfl
@[simp] theorem Try.mapS62 : mapS Try.prog 62 = some (3, 24) := by kernel_rfl
@[simp] theorem Try.aggS63 : aggS Try.prog 63 = some false := by kernel_rfl
@[simp] theorem Try.szS63 : szS Try.prog 63 = some 1 := by kernel_rfl
@[simp] theorem Try.byS63 : byS Try.prog 63 = some 8 := by kernel_rfl
@[simp] theorem Try.zS63 : zS Try.prog 63 = some (.nilFunc) := by kernel_rfl
@[simp] theorem Try.aggS65 : aggS Try.prog 65 = some false := by kernel_rfl
@[simp] theorem Try.szS65 : szS Try.prog 65 = some 1 := by kernel_rfl
@[simp] theorem Try.byS65 : byS Try.prog 65 = some 8 := by kernel_rfl
@[simp] theorem Try.zS65 : zS Try.prog 65 = some (.nilFunc) := by kernel_rfl
@[simp] theorem Try.aggS66 : aggS Try.prog 66 = some false := by kernel_rfl
@[simp] theorem Try.szS66 : szS Try.prog 66 = some 1 := by kernel_rfl
@[simp] theorem Try.byS66 : byS Try.prog 66 = some 8 := by kernel_rfl
@[simp] theorem Try.zS66 : zS Try.prog 66 = some (.nilFunc) := by kernel_rfl
@[simp] theorem Try.aggS67 : aggS Try.prog 67 = some false := by kernel_rfl
@[simp] theorem Try.szS67 : szS Try.prog 67 = some 1 := by kernel_rfl
@[simp] theorem Try.byS67 : byS Try.prog 67 = some 8 := by kernel_rfl
@[simp] theorem Try.zS67 : zS Try.prog 67 = some (.nilFunc) := by kernel_rfl
@[simp] theorem Try.aggS68 : aggS Try.prog 68 = some false := by kernel_rfl
@[simp] theorem Try.szS68 : szS Try.prog 68 = some 1 := by kernel_rfl
@[simp] theorem Try.byS68 : byS Try.prog 68 = some 8 := by kernel_rfl
@[simp] theorem Try.zS68 : zS Try.prog 68 = some (.nilFunc) := by kernel_rfl
@[simp] theorem Try.aggS69 : aggS Try.prog 69 = some false := by kernel_rfl
@[simp] theorem Try.szS69 : szS Try.prog 69 = some 1 := by kernel_rfl
@[simp] theorem Try.byS69 : byS Try.prog 69 = some 8 := by kernel_rfl
@[simp] theorem Try.zS69 : zS Try.prog 69 = some (.nilFunc) := by kernel_rfl
@[simp] theorem Try.aggS70 : aggS Try.prog 70 = some false := by kernel_rfl
@[simp] theorem Try.szS70 : szS Try.prog 70 = some 1 := by kernel_rfl
@[simp] theorem Try.byS70 : byS Try.prog 70 = some 8 := by kernel_rfl
@[simp] theorem Try.zS70 : zS Try.prog 70 = some (.nilFunc) := by kernel_rfl
@[simp] theorem Try.aggS71 : aggS Try.prog 71 = some false := by kernel_rfl
@[simp] theorem Try.szS71 : szS Try.prog 71 = some 1 := by kernel_rfl
@[simp] theorem Try.byS71 : byS Try.prog 71 = some 8 := by kernel_rfl
@[simp] theorem Try.zS71 : zS Try.prog 71 = some (.nilFunc) := by kernel_rfl
@[simp] theorem Try.aggS72 : aggS Try.prog 72 = some false := by kernel_rfl
@[simp] theorem Try.szS72 : szS Try.prog 72 = some 1 := by kernel_rfl
@[simp] theorem Try.byS72 : byS Try.prog 72 = some 8 := by kernel_rfl
@[simp] theorem Try.zS72 : zS Try.prog 72 = some (.nilFunc) := by kernel_rfl
@[simp] theorem Try.aggS73 : aggS Try.prog 73 = some false := by kernel_rfl
@[simp] theorem Try.szS73 : szS Try.prog 73 = some 1 := by kernel_rfl
@[simp] theorem Try.byS73 : byS Try.prog 73 = some 8 := by kernel_rfl
@[simp] theorem Try.zS73 : zS Try.prog 73 = some (.nilFunc) := by kernel_rfl
@[simp] theorem Try.aggS75 : aggS Try.prog 75 = some false := by kernel_rfl
@[simp] theorem Try.szS75 : szS Try.prog 75 = some 1 := by kernel_rfl
@[simp] theorem Try.byS75 : byS Try.prog 75 = some 8 := by kernel_rfl
@[simp] theorem Try.zS75 : zS Try.prog 75 = some (.nilFunc) := by kernel_rfl
@[simp] theorem Try.aggS76 : aggS Try.prog 76 = some false := by kernel_rfl
@[simp] theorem Try.szS76 : szS Try.prog 76 = some 1 := by kernel_rfl
@[simp] theorem Try.byS76 : byS Try.prog 76 = some 8 := by kernel_rfl
@[simp] theorem Try.zS76 : zS Try.prog 76 = some (.nilFunc) := by kernel_rfl
@[simp] theorem Try.aggS77 : aggS Try.prog 77 = some false := by kernel_rfl
@[simp] theorem Try.szS77 : szS Try.prog 77 = some 1 := by kernel_rfl
@[simp] theorem Try.byS77 : byS Try.prog 77 = some 8 := by kernel_rfl
@[simp] theorem Try.zS77 : zS Try.prog 77 = some (.nilFunc) := by kernel_rfl
@[simp] theorem Try.aggS78 : aggS Try.prog 78 = some true := by kernel_rfl
@[simp] theorem Try.szS78 : szS Try.prog 78 = some 2 := by kernel_rfl
@[simp] theorem Try.byS78 : byS Try.prog 78 = some 32 := by kernel_rfl
@[simp] theorem Try.zS78 : zS Try.prog 78 = some (.agg #[.slice none 0 0, .nilFunc]) := by kernel_rfl
@[simp] theorem Try.strOk78 : structOk Try.prog 78 = true := by kernel_rfl
@[simp] theorem Try.fldS78_0 : fldS Try.prog 78 0 = some (0, 1, false) := by kernel_rfl
@[simp] theorem Try.fldS78_1 : fldS Try.prog 78 1 = some (1, 1, false) := by kernel_rfl
@[simp] theorem Try.aggS79 : aggS Try.prog 79 = some true := by kernel_rfl
@[simp] theorem Try.szS79 : szS Try.prog 79 = some 2 := by kernel_rfl
@[simp] theorem Try.byS79 : byS Try.prog 79 = some 32 := by kernel_rfl
@[simp] theorem Try.zS79 : zS Try.prog 79 = some (.agg #[.slice none 0 0, .nilFunc]) := by kernel_rfl
@[simp] theorem Try.strOk79 : structOk Try.prog 79 = true := by kernel_rfl
@[simp] theorem Try.fldS79_0 : fldS Try.prog 79 0 = some (0, 1, false) := by kernel_rfl
@[simp] theorem Try.fldS79_1 : fldS Try.prog 79 1 = some (1, 1, false) := by kernel_rfl
@[simp] theorem Try.aggS80 : aggS Try.prog 80 = some false := by kernel_rfl
@[simp] theorem Try.szS80 : szS Try.prog 80 = some 1 := by kernel_rfl
@[simp] theorem Try.byS80 : byS Try.prog 80 = some 8 := by kernel_rfl
@[simp] theorem Try.zS80 : zS Try.prog 80 = some (.nilFunc) := by kernel_rfl
@[simp] theorem Try.aggS81 : aggS Try.prog 81 = some false := by kernel_rfl
@[simp] theorem Try.szS81 : szS Try.prog 81 = some 1 := by kernel_rfl
@[simp] theorem Try.byS81 : byS Try.prog 81 = some 8 := by kernel_rfl
@[simp] theorem Try.zS81 : zS Try.prog 81 = some (.int .u64 0) := by kernel_rfl
@[simp] theorem Try.intK81 : intK Try.prog 81 = some .u64 := by kernel_rfl
@[simp] theorem Try.aggS82 : aggS Try.prog 82 = some false := by kernel_rfl
@[simp] theorem Try.szS82 : szS Try.prog 82 = some 1 := by kernel_rfl
@[simp] theorem Try.byS82 : byS Try.prog 82 = some 8 := by kernel_rfl
@[simp] theorem Try.zS82 : zS Try.prog 82 = some (.nilFunc) := by kernel_rfl
@[simp] theorem Try.aggS83 : aggS Try.prog 83 = some false := by kernel_rfl
@[simp] theorem Try.szS83 : szS Try.prog 83 = some 1 := by kernel_rfl
@[simp] theorem Try.byS83 : byS Try.prog 83 = some 8 := by kernel_rfl
@[simp] theorem Try.zS83 : zS Try.prog 83 = some (.nilFunc) := by kernel_rfl
@[simp] theorem Try.aggS84 : aggS Try.prog 84 = some false := by kernel_rfl
@[simp] theorem Try.szS84 : szS Try.prog 84 = some 1 := by kernel_rfl
@[simp] theorem Try.byS84 : byS Try.prog 84 = some 8 := by kernel_rfl
@[simp] theorem Try.zS84 : zS Try.prog 84 = some (.nilFunc) := by kernel_rfl
@[simp] theorem Try.aggS85 : aggS Try.prog 85 = some false := by kernel_rfl
@[simp] theorem Try.szS85 : szS Try.prog 85 = some 1 := by kernel_rfl
@[simp] theorem Try.byS85 : byS Try.prog 85 = some 8 := by kernel_rfl
@[simp] theorem Try.zS85 : zS Try.prog 85 = some (.nilFunc) := by kernel_rfl
@[simp] theorem Try.aggS86 : aggS Try.prog 86 = some false := by kernel_rfl
@[simp] theorem Try.szS86 : szS Try.prog 86 = some 1 := by kernel_rfl
@[simp] theorem Try.byS86 : byS Try.prog 86 = some 8 := by kernel_rfl
@[simp] theorem Try.zS86 : zS Try.prog 86 = some (.nilFunc) := by kernel_rfl
@[simp] theorem Try.aggS87 : aggS Try.prog 87 = some false := by kernel_rfl
@[simp] theorem Try.szS87 : szS Try.prog 87 = some 1 := by kernel_rfl
@[simp] theorem Try.byS87 : byS Try.prog 87 = some 8 := by kernel_rfl
@[simp] theorem Try.zS87 : zS Try.prog 87 = some (.nilFunc) := by kernel_rfl
@[simp] theorem Try.aggS88 : aggS Try.prog 88 = some false := by kernel_rfl
@[simp] theorem Try.szS88 : szS Try.prog 88 = some 1 := by kernel_rfl
@[simp] theorem Try.byS88 : byS Try.prog 88 = some 8 := by kernel_rfl
@[simp] theorem Try.zS88 : zS Try.prog 88 = some (.nilFunc) := by kernel_rfl
@[simp] theorem Try.aggS89 : aggS Try.prog 89 = some false := by kernel_rfl
@[simp] theorem Try.szS89 : szS Try.prog 89 = some 1 := by kernel_rfl
@[simp] theorem Try.byS89 : byS Try.prog 89 = some 8 := by kernel_rfl
@[simp] theorem Try.zS89 : zS Try.prog 89 = some (.pointer none) := by kernel_rfl
@[simp] theorem Try.nilKind89 : nilKind Try.prog 89 = 2 := by kernel_rfl
@[simp] theorem Try.aggS90 : aggS Try.prog 90 = some false := by kernel_rfl
@[simp] theorem Try.szS90 : szS Try.prog 90 = some 1 := by kernel_rfl
@[simp] theorem Try.byS90 : byS Try.prog 90 = some 8 := by kernel_rfl
@[simp] theorem Try.zS90 : zS Try.prog 90 = some (.nilFunc) := by kernel_rfl
@[simp] theorem Try.aggS91 : aggS Try.prog 91 = some false := by kernel_rfl
@[simp] theorem Try.szS91 : szS Try.prog 91 = some 1 := by kernel_rfl
@[simp] theorem Try.byS91 : byS Try.prog 91 = some 8 := by kernel_rfl
@[simp] theorem Try.zS91 : zS Try.prog 91 = some (.nilFunc) := by kernel_rfl
@[simp] theorem Try.aggS92 : aggS Try.prog 92 = some false := by kernel_rfl
@[simp] theorem Try.szS92 : szS Try.prog 92 = some 1 := by kernel_rfl
@[simp] theorem Try.byS92 : byS Try.prog 92 = some 8 := by kernel_rfl
@[simp] theorem Try.zS92 : zS Try.prog 92 = some (.nilFunc) := by kernel_rfl
@[simp] theorem Try.aggS93 : aggS Try.prog 93 = some false := by kernel_rfl
@[simp] theorem Try.szS93 : szS Try.prog 93 = some 1 := by kernel_rfl
@[simp] theorem Try.byS93 : byS Try.prog 93 = some 8 := by kernel_rfl
@[simp] theorem Try.zS93 : zS Try.prog 93 = some (.nilFunc) := by kernel_rfl
@[simp] theorem Try.aggS94 : aggS Try.prog 94 = some false := by kernel_rfl
@[simp] theorem Try.szS94 : szS Try.prog 94 = some 1 := by kernel_rfl
@[simp] theorem Try.byS94 : byS Try.prog 94 = some 8 := by kernel_rfl
@[simp] theorem Try.zS94 : zS Try.prog 94 = some (.pointer none) := by kernel_rfl
@[simp] theorem Try.nilKind94 : nilKind Try.prog 94 = 2 := by kernel_rfl
@[simp] theorem Try.aggS95 : aggS Try.prog 95 = some false := by kernel_rfl
@[simp] theorem Try.szS95 : szS Try.prog 95 = some 1 := by kernel_rfl
@[simp] theorem Try.byS95 : byS Try.prog 95 = some 24 := by kernel_rfl
@[simp] theorem Try.zS95 : zS Try.prog 95 = some (.slice none 0 0) := by kernel_rfl
@[simp] theorem Try.elS95 : elS Try.prog 95 = some 100 := by kernel_rfl
@[simp] theorem Try.nilKind95 : nilKind Try.prog 95 = 1 := by kernel_rfl
@[simp] theorem Try.aggS96 : aggS Try.prog 96 = some true := by kernel_rfl
@[simp] theorem Try.szS96 : szS Try.prog 96 = some 2 := by kernel_rfl
@[simp] theorem Try.byS96 : byS Try.prog 96 = some 32 := by kernel_rfl
@[simp] theorem Try.zS96 : zS Try.prog 96 = some (.agg #[.slice none 0 0, .int .i64 0]) := by kernel_rfl
@[simp] theorem Try.strOk96 : structOk Try.prog 96 = true := by kernel_rfl
@[simp] theorem Try.fldS96_0 : fldS Try.prog 96 0 = some (0, 1, false) := by kernel_rfl
@[simp] theorem Try.fldS96_1 : fldS Try.prog 96 1 = some (1, 1, false) := by kernel_rfl
@[simp] theorem Try.aggS97 : aggS Try.prog 97 = some true := by kernel_rfl
@[simp] theorem Try.szS97 : szS Try.prog 97 = some 2 := by kernel_rfl
@[simp] theorem Try.byS97 : byS Try.prog 97 = some 32 := by kernel_rfl
@[simp] theorem Try.zS97 : zS Try.prog 97 = some (.agg #[.slice none 0 0, .int .i64 0]) := by kernel_rfl
@[simp] theorem Try.strOk97 : structOk Try.prog 97 = true := by kernel_rfl
@[simp] theorem Try.fldS97_0 : fldS Try.prog 97 0 = some (0, 1, false) := by kernel_rfl
@[simp] theorem Try.fldS97_1 : fldS Try.prog 97 1 = some (1, 1, false) := by kernel_rfl
@[simp] theorem Try.aggS98 : aggS Try.prog 98 = some false := by kernel_rfl
@[simp] theorem Try.szS98 : szS Try.prog 98 = some 1 := by kernel_rfl
@[simp] theorem Try.byS98 : byS Try.prog 98 = some 8 := by kernel_rfl
@[simp] theorem Try.zS98 : zS Try.prog 98 = some (.nilFunc) := by kernel_rfl
@[simp] theorem Try.aggS99 : aggS Try.prog 99 = some true := by kernel_rfl
@[simp] theorem Try.szS99 : szS Try.prog 99 = some 6 := by kernel_rfl
@[simp] theorem Try.byS99 : byS Try.prog 99 = some 112 := by kernel_rfl
@[simp] theorem Try.zS99 : zS Try.prog 99 = some (.agg #[.slice none 0 0, .int .i64 0, .slice none 0 0, .slice none 0 0, .slice none 0 0, .bool false]) := by kernel_rfl
@[simp] theorem Try.strOk99 : structOk Try.prog 99 = true := by kernel_rfl
@[simp] theorem Try.fldS99_0 : fldS Try.prog 99 0 = some (0, 5, true) := by kernel_rfl
@[simp] theorem Try.fldS99_1 : fldS Try.prog 99 1 = some (5, 1, false) := by kernel_rfl
@[simp] theorem Try.aggS100 : aggS Try.prog 100 = some true := by kernel_rfl
@[simp] theorem Try.szS100 : szS Try.prog 100 = some 6 := by kernel_rfl
@[simp] theorem Try.byS100 : byS Try.prog 100 = some 112 := by kernel_rfl
@[simp] theorem Try.zS100 : zS Try.prog 100 = some (.agg #[.slice none 0 0, .int .i64 0, .slice none 0 0, .slice none 0 0, .slice none 0 0, .bool false]) := by kernel_rfl
@[simp] theorem Try.strOk100 : structOk Try.prog 100 = true := by kernel_rfl
@[simp] theorem Try.fldS100_0 : fldS Try.prog 100 0 = some (0, 5, true) := by kernel_rfl
@[simp] theorem Try.fldS100_1 : fldS Try.prog 100 1 = some (5, 1, false) := by kernel_rfl
@[simp] theorem Try.aggS101 : aggS Try.prog 101 = some false := by kernel_rfl
@[simp] theorem Try.szS101 : szS Try.prog 101 = some 1 := by kernel_rfl
@[simp] theorem Try.byS101 : byS Try.prog 101 = some 8 := by kernel_rfl
@[simp] theorem Try.zS101 : zS Try.prog 101 = some (.nilFunc) := by kernel_rfl
@[simp] theorem Try.aggS102 : aggS Try.prog 102 = some false := by kernel_rfl
@[simp] theorem Try.szS102 : szS Try.prog 102 = some 1 := by kernel_rfl
@[simp] theorem Try.byS102 : byS Try.prog 102 = some 8 := by kernel_rfl
@[simp] theorem Try.zS102 : zS Try.prog 102 = some (.nilFunc) := by kernel_rfl
@[simp] theorem Try.aggS103 : aggS Try.prog 103 = some false := by kernel_rfl
@[simp] theorem Try.szS103 : szS Try.prog 103 = some 1 := by kernel_rfl
@[simp] theorem Try.byS103 : byS Try.prog 103 = some 8 := by kernel_rfl
@[simp] theorem Try.zS103 : zS Try.prog 103 = some (.int .i64 0) := by kernel_rfl
@[simp] theorem Try.intK103 : intK Try.prog 103 = some .i64 := by kernel_rfl
@[simp] theorem Try.aggS105 : aggS Try.prog 105 = some false := by kernel_rfl
@[simp] theorem Try.szS105 : szS Try.prog 105 = some 1 := by kernel_rfl
@[simp] theorem Try.byS105 : byS Try.prog 105 = some 8 := by kernel_rfl
@[simp] theorem Try.zS105 : zS Try.prog 105 = some (.nilFunc) := by kernel_rfl
@[simp] theorem Try.aggS106 : aggS Try.prog 106 = some false := by kernel_rfl
@[simp] theorem Try.szS106 : szS Try.prog 106 = some 1 := by kernel_rfl
@[simp] theorem Try.byS106 : byS Try.prog 106 = some 8 := by kernel_rfl
@[simp] theorem Try.zS106 : zS Try.prog 106 = some (.nilFunc) := by kernel_rfl
@[simp] theorem Try.aggS107 : aggS Try.prog 107 = some false := by kernel_rfl
@[simp] theorem Try.szS107 : szS Try.prog 107 = some 1 := by kernel_rfl
@[simp] theorem Try.byS107 : byS Try.prog 107 = some 8 := by kernel_rfl
@[simp] theorem Try.zS107 : zS Try.prog 107 = some (.nilFunc) := by kernel_rfl
@[simp] theorem Try.aggS108 : aggS Try.prog 108 = some false := by kernel_rfl
@[simp] theorem Try.szS108 : szS Try.prog 108 = some 1 := by kernel_rfl
@[simp] theorem Try.byS108 : byS Try.prog 108 = some 8 := by kernel_rfl
@[simp] theorem Try.zS108 : zS Try.prog 108 = some (.nilFunc) := by kernel_rfl
@[simp] theorem Try.aggS109 : aggS Try.prog 109 = some false := by kernel_rfl
@[simp] theorem Try.szS109 : szS Try.prog 109 = some 1 := by kernel_rfl
@[simp] theorem Try.byS109 : byS Try.prog 109 = some 8 := by kernel_rfl
@[simp] theorem Try.zS109 : zS Try.prog 109 = some (.nilFunc) := by kernel_rfl
@[simp] theorem Try.aggS110 : aggS Try.prog 110 = some false := by kernel_rfl
@[simp] theorem Try.szS110 : szS Try.prog 110 = some 1 := by kernel_rfl
@[simp] theorem Try.byS110 : byS Try.prog 110 = some 4 := by kernel_rfl
@[simp] theorem Try.zS110 : zS Try.prog 110 = some (.int .u32 0) := by kernel_rfl
@[simp] theorem Try.intK110 : intK Try.prog 110 = some .u32 := by kernel_rfl
@[simp] theorem Try.aggS111 : aggS Try.prog 111 = some false := by kernel_rfl
@[simp] theorem Try.szS111 : szS Try.prog 111 = some 1 := by kernel_rfl
@[simp] theorem Try.byS111 : byS Try.prog 111 = some 8 := by kernel_rfl
@[simp] theorem Try.zS111 : zS Try.prog 111 = some (.nilFunc) := by kernel_rfl
@[simp] theorem Try.aggS112 : aggS Try.prog 112 = some false := by kernel_rfl
@[simp] theorem Try.szS112 : szS Try.prog 112 = some 1 := by kernel_rfl
@[simp] theorem Try.byS112 : byS Try.prog 112 = some 8 := by kernel_rfl
@[simp] theorem Try.zS112 : zS Try.prog 112 = some (.int .u64 0) := by kernel_rfl
@[simp] theorem Try.intK112 : intK Try.prog 112 = some .u64 := by kernel_rfl
@[simp] theorem Try.aggS113 : aggS Try.prog 113 = some false := by kernel_rfl
@[simp] theorem Try.szS113 : szS Try.prog 113 = some 1 := by kernel_rfl
@[simp] theorem Try.byS113 : byS Try.prog 113 = some 8 := by kernel_rfl
@[simp] theorem Try.zS113 : zS Try.prog 113 = some (.nilFunc) := by kernel_rfl
@[simp] theorem Try.aggS114 : aggS Try.prog 114 = some false := by kernel_rfl
@[simp] theorem Try.szS114 : szS Try.prog 114 = some 1 := by kernel_rfl
@[simp] theorem Try.byS114 : byS Try.prog 114 = some 8 := by kernel_rfl
@[simp] theorem Try.zS114 : zS Try.prog 114 = some (.nilFunc) := by kernel_rfl
@[simp] theorem Try.aggS115 : aggS Try.prog 115 = some false := by kernel_rfl
@[simp] theorem Try.szS115 : szS Try.prog 115 = some 1 := by kernel_rfl
@[simp] theorem Try.byS115 : byS Try.prog 115 = some 8 := by kernel_rfl
@[simp] theorem Try.zS115 : zS Try.prog 115 = some (.nilFunc) := by kernel_rfl
@[simp] theorem Try.aggS116 : aggS Try.prog 116 = some false := by kernel_rfl
@[simp] theorem Try.szS116 : szS Try.prog 116 = some 1 := by kernel_rfl
@[simp] theorem Try.byS116 : byS Try.prog 116 = some 8 := by kernel_rfl
@[simp] theorem Try.zS116 : zS Try.prog 116 = some (.nilFunc) := by kernel_rfl
@[simp] theorem Try.aggS117 : aggS Try.prog 117 = some false := by kernel_rfl
@[simp] theorem Try.szS117 : szS Try.prog 117 = some 1 := by kernel_rfl
@[simp] theorem Try.byS117 : byS Try.prog 117 = some 8 := by kernel_rfl
@[simp] theorem Try.zS117 : zS Try.prog 117 = some (.nilFunc) := by kernel_rfl
@[simp] theorem Try.aggS118 : aggS Try.prog 118 = some false := by kernel_rfl
@[simp] theorem Try.szS118 : szS Try.prog 118 = some 1 := by kernel_rfl
@[simp] theorem Try.byS118 : byS Try.prog 118 = some 8 := by kernel_rfl
@[simp] theorem Try.zS118 : zS Try.prog 118 = some (.nilFunc) := by kernel_rfl
@[simp] theorem Try.aggS119 : aggS Try.prog 119 = some false := by kernel_rfl
@[simp] theorem Try.szS119 : szS Try.prog 119 = some 1 := by kernel_rfl
@[simp] theorem Try.byS119 : byS Try.prog 119 = some 8 := by kernel_rfl
@[simp] theorem Try.zS119 : zS Try.prog 119 = some (.nilFunc) := by kernel_rfl
@[simp] theorem Try.aggS120 : aggS Try.prog 120 = some false := by kernel_rfl
@[simp] theorem Try.szS120 : szS Try.prog 120 = some 1 := by kernel_rfl
@[simp] theorem Try.byS120 : byS Try.prog 120 = some 8 := by kernel_rfl
@[simp] theorem Try.zS120 : zS Try.prog 120 = some (.int .u64 0) := by kernel_rfl
@[simp] theorem Try.intK120 : intK Try.prog 120 = some .u64 := by kernel_rfl
@[simp] theorem Try.aggS121 : aggS Try.prog 121 = some false := by kernel_rfl
@[simp] theorem Try.szS121 : szS Try.prog 121 = some 1 := by kernel_rfl
@[simp] theorem Try.byS121 : byS Try.prog 121 = some 8 := by kernel_rfl
@[simp] theorem Try.zS121 : zS Try.prog 121 = some (.nilFunc) := by kernel_rfl
@[simp] theorem Try.aggS122 : aggS Try.prog 122 = some false := by kernel_rfl
@[simp] theorem Try.szS122 : szS Try.prog 122 = some 1 := by kernel_rfl
@[simp] theorem Try.byS122 : byS Try.prog 122 = some 8 := by kernel_rfl
@[simp] theorem Try.zS122 : zS Try.prog 122 = some (.nilFunc) := by kernel_rfl
@[simp] theorem Try.aggS123 : aggS Try.prog 123 = some false := by kernel_rfl
@[simp] theorem Try.szS123 : szS Try.prog 123 = some 1 := by kernel_rfl
@[simp] theorem Try.byS123 : byS Try.prog 123 = some 8 := by kernel_rfl
@[simp] theorem Try.zS123 : zS Try.prog 123 = some (.nilFunc) := by kernel_rfl
@[simp] theorem Try.aggS124 : aggS Try.prog 124 = some false := by kernel_rfl
@[simp] theorem Try.szS124 : szS Try.prog 124 = some 1 := by kernel_rfl
@[simp] theorem Try.byS124 : byS Try.prog 124 = some 8 := by kernel_rfl
@[simp] theorem Try.zS124 : zS Try.prog 124 = some (.pointer none) := by kernel_rfl
@[simp] theorem Try.nilKind124 : nilKind Try.prog 124 = 2 := by kernel_rfl
@[simp] theorem Try.aggS125 : aggS Try.prog 125 = some false := by kernel_rfl
@[simp] theorem Try.szS125 : szS Try.prog 125 = some 1 := by kernel_rfl
@[simp] theorem Try.byS125 : byS Try.prog 125 = some 8 := by kernel_rfl
@[simp] theorem Try.zS125 : zS Try.prog 125 = some (.nilFunc) := by kernel_rfl
@[simp] theorem Try.aggS126 : aggS Try.prog 126 = some false := by kernel_rfl
@[simp] theorem Try.szS126 : szS Try.prog 126 = some 1 := by kernel_rfl
@[simp] theorem Try.byS126 : byS Try.prog 126 = some 8 := by kernel_rfl
@[simp] theorem Try.zS126 : zS Try.prog 126 = some (.nilFunc) := by kernel_rfl
@[simp] theorem Try.aggS127 : aggS Try.prog 127 = some false := by kernel_rfl
@[simp] theorem Try.szS127 : szS Try.prog 127 = some 1 := by kernel_rfl
@[simp] theorem Try.byS127 : byS Try.prog 127 = some 8 := by kernel_rfl
@[simp] theorem Try.zS127 : zS Try.prog 127 = some (.nilFunc) := by kernel_rfl
@[simp] theorem Try.aggS128 : aggS Try.prog 128 = some false := by kernel_rfl
@[simp] theorem Try.szS128 : szS Try.prog 128 = some 1 := by kernel_rfl
@[simp] theorem Try.byS128 : byS Try.prog 128 = some 8 := by kernel_rfl
@[simp] theorem Try.zS128 : zS Try.prog 128 = some (.pointer none) := by kernel_rfl
@[simp] theorem Try.nilKind128 : nilKind Try.prog 128 = 2 := by kernel_rfl
@[simp] theorem Try.aggS130 : aggS Try.prog 130 = some false := by kernel_rfl
@[simp] theorem Try.szS130 : szS Try.prog 130 = some 1 := by kernel_rfl
@[simp] theorem Try.byS130 : byS Try.prog 130 = some 8 := by kernel_rfl
@[simp] theorem Try.zS130 : zS Try.prog 130 = some (.nilFunc) := by kernel_rfl
@[simp] theorem Try.aggS131 : aggS Try.prog 131 = some false := by kernel_rfl
@[simp] theorem Try.szS131 : szS Try.prog 131 = some 1 := by kernel_rfl
@[simp] theorem Try.byS131 : byS Try.prog 131 = some 8 := by kernel_rfl
@[simp] theorem Try.zS131 : zS Try.prog 131 = some (.nilFunc) := by kernel_rfl
@[simp] theorem Try.aggS132 : aggS Try.prog 132 = some false := by kernel_rfl
@[simp] theorem Try.szS132 : szS Try.prog 132 = some 1 := by kernel_rfl
@[simp] theorem Try.byS132 : byS Try.prog 132 = some 8 := by kernel_rfl
@[simp] theorem Try.zS132 : zS Try.prog 132 = some (.nilFunc) := by kernel_rfl
@[simp] theorem Try.aggS133 : aggS Try.prog 133 = some true := by kernel_rfl
@[simp] theorem Try.szS133 : szS Try.prog 133 = some 4 := by kernel_rfl
@[simp] theorem Try.byS133 : byS Try.prog 133 = some 40 := by kernel_rfl
@[simp] theorem Try.zS133 : zS Try.prog 133 = some (.agg #[.pointer none, .pointer none, .pointer none, .string ⟨#[]⟩]) := by kernel_rfl
@[simp] theorem Try.strOk133 : structOk Try.prog 133 = true := by kernel_rfl
@[simp] theorem Try.fldS133_0 : fldS Try.prog 133 0 = some (0, 1, false) := by kernel_rfl
@[simp] theorem Try.fldS133_1 : fldS Try.prog 133 1 = some (1, 1, false) := by kernel_rfl
@[simp] theorem Try.fldS133_2 : fldS Try.prog 133 2 = some (2, 1, false) := by kernel_rfl
@[simp] theorem Try.fldS133_3 : fldS Try.prog 133 3 = some (3, 1, false) := by kernel_rfl
@[simp] theorem Try.aggS134 : aggS Try.prog 134 = some true := by kernel_rfl
@[simp] theorem Try.szS134 : szS Try.prog 134 = some 4 := by kernel_rfl
@[simp] theorem Try.byS134 : byS Try.prog 134 = some 40 := by kernel_rfl
@[simp] theorem Try.zS134 : zS Try.prog 134 = some (.agg #[.pointer none, .pointer none, .pointer none, .string ⟨#[]⟩]) := by kernel_rfl
@[simp] theorem Try.strOk134 : structOk Try.prog 134 = true := by kernel_rfl
@[simp] theorem Try.fldS134_0 : fldS Try.prog 134 0 = some (0, 1, false) := by kernel_rfl
@[simp] theorem Try.fldS134_1 : fldS Try.prog 134 1 = some (1, 1, false) := by kernel_rfl
@[simp] theorem Try.fldS134_2 : fldS Try.prog 134 2 = some (2, 1, false) := by kernel_rfl
@[simp] theorem Try.fldS134_3 : fldS Try.prog 134 3 = some (3, 1, false) := by kernel_rfl
@[simp] theorem Try.aggS135 : aggS Try.prog 135 = some true := by kernel_rfl
@[simp] theorem Try.szS135 : szS Try.prog 135 = some 0 := by kernel_rfl
@[simp] theorem Try.byS135 : byS Try.prog 135 = some 0 := by kernel_rfl
@[simp] theorem Try.zS135 : zS Try.prog 135 = some (.agg #[]) := by kernel_rfl
@[simp] theorem Try.arrS135 : arrS Try.prog 135 = some (0, 1) := by kernel_rfl
@[simp] theorem Try.aggS136 : aggS Try.prog 136 = some true := by kernel_rfl
@[simp] theorem Try.szS136 : szS Try.prog 136 = some 0 := by kernel_rfl
@[simp] theorem Try.byS136 : byS Try.prog 136 = some 0 := by kernel_rfl
@[simp] theorem Try.zS136 : zS Try.prog 136 = some (.agg #[]) := by kernel_rfl
@[simp] theorem Try.strOk136 : structOk Try.prog 136 = true := by kernel_rfl
@[simp] theorem Try.fldS136_0 : fldS Try.prog 136 0 = some (0, 0, true) := by kernel_rfl
@[simp] theorem Try.aggS137 : aggS Try.prog 137 = some true := by kernel_rfl
@[simp] theorem Try.szS137 : szS Try.prog 137 = some 0 := by kernel_rfl
@[simp] theorem Try.byS137 : byS Try.prog 137 = some 0 := by kernel_rfl
@[simp] theorem Try.zS137 : zS Try.prog 137 = some (.agg #[]) := by kernel_rfl
@[simp] theorem Try.strOk137 : structOk Try.prog 137 = true := by kernel_rfl
@[simp] theorem Try.fldS137_0 : fldS Try.prog 137 0 = some (0, 0, true) := by kernel_rfl
@[simp] theorem Try.aggS138 : aggS Try.prog 138 = some false := by kernel_rfl
@[simp] theorem Try.szS138 : szS Try.prog 138 = some 1 := by kernel_rfl
@[simp] theorem Try.byS138 : byS Try.prog 138 = some 8 := by kernel_rfl
@[simp] theorem Try.zS138 : zS Try.prog 138 = some (.nilFunc) := by kernel_rfl
@[simp] theorem Try.aggS139 : aggS Try.prog 139 = some false := by kernel_rfl
@[simp] theorem Try.szS139 : szS Try.prog 139 = some 1 := by kernel_rfl
@[simp] theorem Try.byS139 : byS Try.prog 139 = some 1 := by kernel_rfl
@[simp] theorem Try.zS139 : zS Try.prog 139 = some (.int .u8 0) := by kernel_rfl
@[simp] theorem Try.intK139 : intK Try.prog 139 = some .u8 := by kernel_rfl
@[simp] theorem Try.aggS140 : aggS Try.prog 140 = some false := by kernel_rfl
@[simp] theorem Try.szS140 : szS Try.prog 140 = some 1 := by kernel_rfl
@[simp] theorem Try.byS140 : byS Try.prog 140 = some 1 := by kernel_rfl
@[simp] theorem Try.zS140 : zS Try.prog 140 = some (.int .u8 0) := by kernel_rfl
@[simp] theorem Try.intK140 : intK Try.prog 140 = some .u8 := by kernel_rfl
@[simp] theorem Try.aggS141 : aggS Try.prog 141 = some false := by kernel_rfl
@[simp] theorem Try.szS141 : szS Try.prog 141 = some 1 := by kernel_rfl
@[simp] theorem Try.byS141 : byS Try.prog 141 = some 8 := by kernel_rfl
@[simp] theorem Try.zS141 : zS Try.prog 141 = some (.nilFunc) := by kernel_rfl
@[simp] theorem Try.aggS142 : aggS Try.prog 142 = some false := by kernel_rfl
@[simp] theorem Try.szS142 : szS Try.prog 142 = some 1 := by kernel_rfl
@[simp] theorem Try.byS142 : byS Try.prog 142 = some 8 := by kernel_rfl
@[simp] theorem Try.zS142 : zS Try.prog 142 = some (.pointer none) := by kernel_rfl
@[simp] theorem Try.nilKind142 : nilKind Try.prog 142 = 2 := by kernel_rfl
@[simp] theorem Try.aggS143 : aggS Try.prog 143 = some false := by kernel_rfl
@[simp] theorem Try.szS143 : szS Try.prog 143 = some 1 := by kernel_rfl
@[simp] theorem Try.byS143 : byS Try.prog 143 = some 4 := by kernel_rfl
@[simp] theorem Try.zS143 : zS Try.prog 143 = some (.int .i32 0) := by kernel_rfl
@[simp] theorem Try.intK143 : intK Try.prog 143 = some .i32 := by kernel_rfl
@[simp] theorem Try.aggS144 : aggS Try.prog 144 = some false := by kernel_rfl
@[simp] theorem Try.szS144 : szS Try.prog 144 = some 1 := by kernel_rfl
@[simp] theorem Try.byS144 : byS Try.prog 144 = some 4 := by kernel_rfl
@[simp] theorem Try.zS144 : zS Try.prog 144 = some (.int .i32 0) := by kernel_rfl
@[simp] theorem Try.intK144 : intK Try.prog 144 = some .i32 := by kernel_rfl
@[simp] theorem Try.aggS145 : aggS Try.prog 145 = some true := by kernel_rfl
@[simp] theorem Try.szS145 : szS Try.prog 145 = some 11 := by kernel_rfl
@[simp] theorem Try.byS145 : byS Try.prog 145 = some 48 := by kernel_rfl
@[simp] theorem Try.zS145 : zS Try.prog 145 = some (.agg #[.int .u64 0, .int .u64 0, .int .u32 0, .int .u8 0, .int .u8 0, .int .u8 0, .int .u8 0, .nilFunc, .pointer none, .int .i32 0, .int .i32 0]) := by kernel_rfl
@[simp] theorem Try.strOk145 : structOk Try.prog 145 = true := by kernel_rfl
@[simp] theorem Try.fldS145_0 : fldS Try.prog 145 0 = some (0, 1, false) := by kernel_rfl
@[simp] theorem Try.fldS145_1 : fldS Try.prog 145 1 = some (1, 1, false) := by kernel_rfl
@[simp] theorem Try.fldS145_2 : fldS Try.prog 145 2 = some (2, 1, false) := by kernel_rfl
@[simp] theorem Try.fldS145_3 : fldS Try.prog 145 3 = some (3, 1, false) := by kernel_rfl
@[simp] theorem Try.fldS145_4 : fldS Try.prog 145 4 = some (4, 1, false) := by kernel_rfl
@[simp] theorem Try.fldS145_5 : fldS Try.prog 145 5 = some (5, 1, false) := by kernel_rfl
@[simp] theorem Try.fldS145_6 : fldS Try.prog 145 6 = some (6, 1, false) := by kernel_rfl
@[simp] theorem Try.fldS145_7 : fldS Try.prog 145 7 = some (7, 1, false) := by kernel_rfl
@[simp] theorem Try.fldS145_8 : fldS Try.prog 145 8 = some (8, 1, false) := by kernel_rfl
@[simp] theorem Try.fldS145_9 : fldS Try.prog 145 9 = some (9, 1, false) := by kernel_rfl
@[simp] theorem Try.fldS145_10 : fldS Try.prog 145 10 = some (10, 1, false) := by kernel_rfl
@[simp] theorem Try.aggS146 : aggS Try.prog 146 = some true := by kernel_rfl
@[simp] theorem Try.szS146 : szS Try.prog 146 = some 11 := by kernel_rfl
@[simp] theorem Try.byS146 : byS Try.prog 146 = some 48 := by kernel_rfl
@[simp] theorem Try.zS146 : zS Try.prog 146 = some (.agg #[.int .u64 0, .int .u64 0, .int .u32 0, .int .u8 0, .int .u8 0, .int .u8 0, .int .u8 0, .nilFunc, .pointer none, .int .i32 0, .int .i32 0]) := by kernel_rfl
@[simp] theorem Try.strOk146 : structOk Try.prog 146 = true := by kernel_rfl
@[simp] theorem Try.fldS146_0 : fldS Try.prog 146 0 = some (0, 1, false) := by kernel_rfl
@[simp] theorem Try.fldS146_1 : fldS Try.prog 146 1 = some (1, 1, false) := by kernel_rfl
@[simp] theorem Try.fldS146_2 : fldS Try.prog 146 2 = some (2, 1, false) := by kernel_rfl
@[simp] theorem Try.fldS146_3 : fldS Try.prog 146 3 = some (3, 1, false) := by kernel_rfl
@[simp] theorem Try.fldS146_4 : fldS Try.prog 146 4 = some (4, 1, false) := by kernel_rfl
@[simp] theorem Try.fldS146_5 : fldS Try.prog 146 5 = some (5, 1, false) := by kernel_rfl
@[simp] theorem Try.fldS146_6 : fldS Try.prog 146 6 = some (6, 1, false) := by kernel_rfl
@[simp] theorem Try.fldS146_7 : fldS Try.prog 146 7 = some (7, 1, false) := by kernel_rfl
@[simp] theorem Try.fldS146_8 : fldS Try.prog 146 8 = some (8, 1, false) := by kernel_rfl
@[simp] theorem Try.fldS146_9 : fldS Try.prog 146 9 = some (9, 1, false) := by kernel_rfl
@[simp] theorem Try.fldS146_10 : fldS Try.prog 146 10 = some (10, 1, false) := by kernel_rfl
@[simp] theorem Try.aggS147 : aggS Try.prog 147 = some false := by kernel_rfl
@[simp] theorem Try.szS147 : szS Try.prog 147 = some 1 := by kernel_rfl
@[simp] theorem Try.byS147 : byS Try.prog 147 = some 8 := by kernel_rfl
@[simp] theorem Try.zS147 : zS Try.prog 147 = some (.pointer none) := by kernel_rfl
@[simp] theorem Try.ok2 : FnOk Try.prog 2 := ⟨Try.f2, Try.func2, by kernel_rfl, by kernel_rfl⟩
@[simp] theorem Try.ok3 : FnOk Try.prog 3 := ⟨Try.f3, Try.func3, by kernel_rfl, by kernel_rfl⟩
@[simp] theorem Try.ok4 : FnOk Try.prog 4 := ⟨Try.f4, Try.func4, by kernel_rfl, by kernel_rfl⟩
@[simp] theorem Try.ok5 : FnOk Try.prog 5 := ⟨Try.f5, Try.func5, by kernel_rfl, by kernel_rfl⟩
@[simp] theorem Try.ok6 : FnOk Try.prog 6 := ⟨Try.f6, Try.func6, by kernel_rfl, by kernel_rfl⟩
@[simp] theorem Try.ok7 : FnOk Try.prog 7 := ⟨Try.f7, Try.func7, by kernel_rfl, by kernel_rfl⟩
@[simp] theorem Try.ok8 : FnOk Try.prog 8 := ⟨Try.f8, Try.func8, by kernel_rfl, by kernel_rfl⟩
@[simp] theorem Try.ok9 : FnOk Try.prog 9 := ⟨Try.f9, Try.func9, by kernel_rfl, by kernel_rfl⟩
@[simp] theorem Try.ok10 : FnOk Try.prog 10 := ⟨Try.f10, Try.func10, by kernel_rfl, by kernel_rfl⟩
@[simp] theorem Try.ok11 : FnOk Try.prog 11 := ⟨Try.f11, Try.func11, by kernel_rfl, by kernel_rfl⟩
@[simp] theorem Try.ok12 : FnOk Try.prog 12 := ⟨Try.f12, Try.func12, by kernel_rfl, by kernel_rfl⟩
@[simp] theorem Try.ok13 : FnOk Try.prog 13 := ⟨Try.f13, Try.func13, by kernel_rfl, by kernel_rfl⟩
@[simp] theorem Try.ok14 : FnOk Try.prog 14 := ⟨Try.f14, Try.func14, by kernel_rfl, by kernel_rfl⟩
@[simp] theorem Try.ok15 : FnOk Try.prog 15 := ⟨Try.f15, Try.func15, by kernel_rfl, by kernel_rfl⟩
@[simp] theorem Try.ok16 : FnOk Try.prog 16 := ⟨Try.f16, Try.func16, by kernel_rfl, by kernel_rfl⟩
@[simp] theorem Try.ok17 : FnOk Try.prog 17 := ⟨Try.f17, Try.func17, by kernel_rfl, by kernel_rfl⟩
@[simp] theorem Try.ok18 : FnOk Try.prog 18 := ⟨Try.f18, Try.func18, by kernel_rfl, by kernel_rfl⟩
@[simp] theorem Try.ok19 : FnOk Try.prog 19 := ⟨Try.f19, Try.func19, by kernel_rfl, by kernel_rfl⟩
@[simp] theorem Try.ok20 : FnOk Try.prog 20 := ⟨Try.f20, Try.func20, by kernel_rfl, by kernel_rfl⟩
@[simp] theorem Try.ok21 : FnOk Try.prog 21 := ⟨Try.f21, Try.func21, by kernel_rfl, by kernel_rfl⟩
@[simp] theorem Try.ok22 : FnOk Try.prog 22 := ⟨Try.f22, Try.func22, by kernel_rfl, by kernel_rfl⟩
@[simp] theorem Try.ok23 : FnOk Try.prog 23 := ⟨Try.f23, Try.func23, by kernel_rfl, by kernel_rfl⟩
@[simp] theorem Try.ok24 : FnOk Try.prog 24 := ⟨Try.f24, Try.func24, by kernel_rfl, by kernel_rfl⟩
@[simp] theorem Try.ok25 : FnOk Try.prog 25 := ⟨Try.f25, Try.func25, by kernel_rfl, by kernel_rfl⟩
@[simp] theorem Try.ok26 : FnOk Try.prog 26 := ⟨Try.f26, Try.func26, by kernel_rfl, by kernel_rfl⟩
@[simp] theorem Try.ok27 : FnOk Try.prog 27 := ⟨Try.f27, Try.func27, by kernel_rfl, by kernel_rfl⟩
@[simp] theorem Try.ok28 : FnOk Try.prog 28 := ⟨Try.f28, Try.func28, by kernel_rfl, by kernel_rfl⟩
@[simp] theorem Try.ok29 : FnOk Try.prog 29 := ⟨Try.f29, Try.func29, by kernel_rfl, by kernel_rfl⟩
@[simp] theorem Try.ok30 : FnOk Try.prog 30 := ⟨Try.f30, Try.func30, by kernel_rfl, by kernel_rfl⟩
@[simp] theorem Try.ok31 : FnOk Try.prog 31 := ⟨Try.f31, Try.func31, by kernel_rfl, by kernel_rfl⟩
@[simp] theorem Try.ok32 : FnOk Try.prog 32 := ⟨Try.f32, Try.func32, by kernel_rfl, by kernel_rfl⟩
@[simp] theorem Try.ok33 : FnOk Try.prog 33 := ⟨Try.f33, Try.func33, by kernel_rfl, by kernel_rfl⟩
@[simp] theorem Try.ok34 : FnOk Try.prog 34 := ⟨Try.f34, Try.func34, by kernel_rfl, by kernel_rfl⟩
@[simp] theorem Try.ok35 : FnOk Try.prog 35 := ⟨Try.f35, Try.func35, by kernel_rfl, by kernel_rfl⟩
@[simp] theorem Try.ok36 : FnOk Try.prog 36 := ⟨Try.f36, Try.func36, by kernel_rfl, by kernel_rfl⟩
@[simp] theorem Try.ok37 : FnOk Try.prog 37 := ⟨Try.f37, Try.func37, by kernel_rfl, by kernel_rfl⟩
@[simp] theorem Try.ok38 : FnOk Try.prog 38 := ⟨Try.f38, Try.func38, by kernel_rfl, by kernel_rfl⟩
@[simp] theorem Try.ok39 : FnOk Try.prog 39 := ⟨Try.f39, Try.func39, by kernel_rfl, by kernel_rfl⟩
@[simp] theorem Try.ok40 : FnOk Try.prog 40 := ⟨Try.f40, Try.func40, by kernel_rfl, by kernel_rfl⟩
@[simp] theorem Try.ok41 : FnOk Try.prog 41 := ⟨Try.f41, Try.func41, by kernel_rfl, by kernel_rfl⟩
@[simp] theorem Try.ok42 : FnOk Try.prog 42 := ⟨Try.f42, Try.func42, by kernel_rfl, by kernel_rfl⟩
@[simp] theorem Try.ok44 : FnOk Try.prog 44 := ⟨Try.f44, Try.func44, by kernel_rfl, by kernel_rfl⟩
@[simp] theorem Try.ok45 : FnOk Try.prog 45 := ⟨Try.f45, Try.func45, by kernel_rfl, by kernel_rfl⟩
@[simp] theorem Try.ok46 : FnOk Try.prog 46 := ⟨Try.f46, Try.func46, by kernel_rfl, by kernel_rfl⟩
@[simp] theorem Try.ok47 : FnOk Try.prog 47 := ⟨Try.f47, Try.func47, by kernel_rfl, by kernel_rfl⟩
@[simp] theorem Try.ok48 : FnOk Try.prog 48 := ⟨Try.f48, Try.func48, by kernel_rfl, by kernel_rfl⟩
@[simp] theorem Try.ok49 : FnOk Try.prog 49 := ⟨Try.f49, Try.func49, by kernel_rfl, by kernel_rfl⟩
@[simp] theorem Try.ok50 : FnOk Try.prog 50 := ⟨Try.f50, Try.func50, by kernel_rfl, by kernel_rfl⟩
@[simp] theorem Try.ok51 : FnOk Try.prog 51 := ⟨Try.f51, Try.func51, by kernel_rfl, by kernel_rfl⟩
@[simp] theorem Try.ok52 : FnOk Try.prog 52 := ⟨Try.f52, Try.func52, by kernel_rfl, by kernel_rfl⟩
@[simp] theorem Try.ok53 : FnOk Try.prog 53 := ⟨Try.f53, Try.func53, by kernel_rfl, by kernel_rfl⟩
@[simp] theorem Try.ok54 : FnOk Try.prog 54 := ⟨Try.f54, Try.func54, by kernel_rfl, by kernel_rfl⟩
@[simp] theorem Try.ok55 : FnOk Try.prog 55 := ⟨Try.f55, Try.func55, by kernel_rfl, by kernel_rfl⟩
@[simp] theorem Try.ok56 : FnOk Try.prog 56 := ⟨Try.f56, Try.func56, by kernel_rfl, by kernel_rfl⟩
@[simp] theorem Try.ok57 : FnOk Try.prog 57 := ⟨Try.f57, Try.func57, by kernel_rfl, by kernel_rfl⟩
@[simp] theorem Try.ok58 : FnOk Try.prog 58 := ⟨Try.f58, Try.func58, by kernel_rfl, by kernel_rfl⟩
@[simp] theorem Try.ok59 : FnOk Try.prog 59 := ⟨Try.f59, Try.func59, by kernel_rfl, by kernel_rfl⟩
@[simp] theorem Try.ok60 : FnOk Try.prog 60 := ⟨Try.f60, Try.func60, by kernel_rfl, by kernel_rfl⟩
@[simp] theorem Try.ok61 : FnOk Try.prog 61 := ⟨Try.f61, Try.func61, by kernel_rfl, by kernel_rfl⟩
@[simp] theorem Try.ok62 : FnOk Try.prog 62 := ⟨Try.f62, Try.func62, by kernel_rfl, by kernel_rfl⟩
@[simp] theorem Try.ok63 : FnOk Try.prog 63 := ⟨Try.f63, Try.func63, by kernel_rfl, by kernel_rfl⟩
@[simp] theorem Try.ok64 : FnOk Try.prog 64 := ⟨Try.f64, Try.func64, by kernel_rfl, by kernel_rfl⟩
@[simp] theorem Try.ok65 : FnOk Try.prog 65 := ⟨Try.f65, Try.func65, by kernel_rfl, by kernel_rfl⟩
@[simp] theorem Try.ok66 : FnOk Try.prog 66 := ⟨Try.f66, Try.func66, by kernel_rfl, by kernel_rfl⟩
@[simp] theorem Try.ok67 : FnOk Try.prog 67 := ⟨Try.f67, Try.func67, by kernel_rfl, by kernel_rfl⟩
@[simp] theorem Try.ok68 : FnOk Try.prog 68 := ⟨Try.f68, Try.func68, by kernel_rfl, by kernel_rfl⟩
@[simp] theorem Try.ok69 : FnOk Try.prog 69 := ⟨Try.f69, Try.func69, by kernel_rfl, by kernel_rfl⟩
@[simp] theorem Try.ok70 : FnOk Try.prog 70 := ⟨Try.f70, Try.func70, by kernel_rfl, by kernel_rfl⟩
@[simp] theorem Try.ok71 : FnOk Try.prog 71 := ⟨Try.f71, Try.func71, by kernel_rfl, by kernel_rfl⟩
@[simp] theorem Try.ok72 : FnOk Try.prog 72 := ⟨Try.f72, Try.func72, by kernel_rfl, by kernel_rfl⟩
@[simp] theorem Try.ok73 : FnOk Try.prog 73 := ⟨Try.f73, Try.func73, by kernel_rfl, by kernel_rfl⟩
@[simp] theorem Try.ok74 : FnOk Try.prog 74 := ⟨Try.f74, Try.func74, by kernel_rfl, by kernel_rfl⟩
@[simp] theorem Try.ok75 : FnOk Try.prog 75 := ⟨Try.f75, Try.func75, by kernel_rfl, by kernel_rfl⟩
@[simp] theorem Try.ok76 : FnOk Try.prog 76 := ⟨Try.f76, Try.func76, by kernel_rfl, by kernel_rfl⟩
@[simp] theorem Try.ok77 : FnOk Try.prog 77 := ⟨Try.f77, Try.func77, by kernel_rfl, by kernel_rfl⟩
@[simp] theorem Try.ok78 : FnOk Try.prog 78 := ⟨Try.f78, Try.func78, by kernel_rfl, by kernel_rfl⟩
@[simp] theorem Try.ok79 : FnOk Try.prog 79 := ⟨Try.f79, Try.func79, by kernel_rfl, by kernel_rfl⟩
@[simp] theorem Try.ok80 : FnOk Try.prog 80 := ⟨Try.f80, Try.func80, by kernel_rfl, by kernel_rfl⟩
@[simp] theorem Try.ok81 : FnOk Try.prog 81 := ⟨Try.f81, Try.func81, by kernel_rfl, by kernel_rfl⟩
@[simp] theorem Try.ok82 : FnOk Try.prog 82 := ⟨Try.f82, Try.func82, by kernel_rfl, by kernel_rfl⟩
@[simp] theorem Try.ok83 : FnOk Try.prog 83 := ⟨Try.f83, Try.func83, by kernel_rfl, by kernel_rfl⟩
@[simp] theorem Try.ok84 : FnOk Try.prog 84 := ⟨Try.f84, Try.func84, by kernel_rfl, by kernel_rfl⟩
@[simp] theorem Try.ok85 : FnOk Try.prog 85 := ⟨Try.f85, Try.func85, by kernel_rfl, by kernel_rfl⟩
@[simp] theorem Try.ok86 : FnOk Try.prog 86 := ⟨Try.f86, Try.func86, by kernel_rfl, by kernel_rfl⟩
@[simp] theorem Try.ok87 : FnOk Try.prog 87 := ⟨Try.f87, Try.func87, by kernel_rfl, by kernel_rfl⟩
@[simp] theorem Try.ok88 : FnOk Try.prog 88 := ⟨Try.f88, Try.func88, by kernel_rfl, by kernel_rfl⟩
@[simp] theorem Try.ok89 : FnOk Try.prog 89 := ⟨Try.f89, Try.func89, by kernel_rfl, by kernel_rfl⟩
@[simp] theorem Try.ok90 : FnOk Try.prog 90 := ⟨Try.f90, Try.func90, by kernel_rfl, by kernel_rfl⟩
@[simp] theorem Try.ok91 : FnOk Try.prog 91 := ⟨Try.f91, Try.func91, by kernel_rfl, by kernel_rfl⟩
@[simp] theorem Try.ok92 : FnOk Try.prog 92 := ⟨Try.f92, Try.func92, by kernel_rfl, by kernel_rfl⟩
@[simp] theorem Try.ok93 : FnOk Try.prog 93 := ⟨Try.f93, Try.func93, by kernel_rfl, by kernel_rfl⟩
end Go.Proofs

/-
  Cells and tables of the program in memory; the contracts of small functions on them.
-/
namespace Go.HC
theorem Grow.ints {e : TypeId} {F : Nat → Prop} {h : Heap} {v : Value} {xs : List Int} {own : Option Nat} (hg : Grow rInt e F h v xs own) : SlRep rInt (fun b => own = some b) h v xs := by
  obtain ⟨a, c, rfl⟩ := hg.val
  obtain ⟨cs, _, h1, h2, h3, h4⟩ := hg.cells
  exact ⟨a, c, cs, rfl, h1, h2, h3, ints_map.2 (ints_map.1 h4)⟩
def rCell : Rp CellM where
  sz := 5
  pos := by decide
  rep F h cs c := ∃ kv sv nv xv, cs = [kv, .int .i64 c.count, sv, nv, xv] ∧ SlRep rInt F h kv c.key ∧ SlRep rInt F h sv c.sum ∧ SlRep rInt F h nv c.mn ∧ SlRep rInt F h xv c.mx
  len := by rintro F h cs c ⟨kv, sv, nv, xv, rfl, _⟩; rfl
  one := by
    rintro F h cs c ⟨kv, sv, nv, xv, rfl, h1, h2, h3, h4⟩
    obtain ⟨_, _, rfl, _⟩ := h1.val
    obtain ⟨_, _, rfl, _⟩ := h2.val
    obtain ⟨_, _, rfl, _⟩ := h3.val
    obtain ⟨_, _, rfl, _⟩ := h4.val
    rfl
  mono := by
    rintro F F' h h' cs c ⟨kv, sv, nv, xv, rfl, h1, h2, h3, h4⟩ hm
    exact ⟨kv, sv, nv, xv, rfl, h1.mono hm, h2.mono hm, h3.mono hm, h4.mono hm⟩
def rSlot : Rp (Option CellM) where
  sz := 6
  pos := by decide
  rep F h cs s := match s with
    | none => cs = [.slice none 0 0, .int .i64 0, .slice none 0 0, .slice none 0 0, .slice none 0 0, .bool false]
    | some c => ∃ ds, rCell.rep F h ds c ∧ cs = ds ++ [.bool true]
  len := by
    rintro F h cs (_ | c) hr
    · rw [show cs = _ from hr]; rfl
    · obtain ⟨ds, h1, rfl⟩ := hr
      rw [List.length_append, rCell.len h1]; rfl
  one := by
    rintro F h cs (_ | c) hr
    · rw [show cs = _ from hr]; rfl
    · obtain ⟨ds, h1, rfl⟩ := hr
      rw [List.all_append, rCell.one h1]; rfl
  mono := by
    rintro F F' h h' cs (_ | c) hr hm
    · exact hr
    · obtain ⟨ds, h1, rfl⟩ := hr
      exact ⟨ds, rCell.mono h1 hm, rfl⟩
theorem hashM_take {key : List Int} {k : Nat} (hk : k < key.length) : hashM (key.take (k + 1)) = (31 * hashM (key.take k) + key[k].tmod 1000003 + 1).tmod 1000003 := by
  unfold hashM
  rw [List.take_add_one, List.getElem?_eq_getElem hk, List.foldl_append]
  rfl
theorem hashM_bound (key : List Int) : -1000003 < hashM key ∧ hashM key < 1000003 := by
  unfold hashM
  generalize h0 : (7 : Int) = z
  have hz : -1000003 < z ∧ z < 1000003 := by omega
  clear h0
  induction key generalizing z with
  | nil => exact hz
  | cons v key ih => exact ih _ (tmod_bound (by decide))
theorem probe_next (key : List Int) (n i : Nat) : (probe key n i + 1) % n = probe key n (i + 1) := by
  unfold probe
  rw [Nat.mod_add_mod]; rfl
theorem find_hit {T : Tab} {key : List Int} {i : Nat} (hi : i < T.length) (hb : ∀ j, j < i → hitM T key (probe key T.length j) = false) (hh : hitM T key (probe key T.length i) = true) : findM T key = some (probe key T.length i) := by
  unfold findM
  rw [Option.map_eq_some_iff]
  refine ⟨i, ?_, rfl⟩
  rw [List.find?_range_eq_some]
  exact ⟨hh, List.mem_range.2 hi, fun j hj => by simpa using hb j hj⟩
theorem find_miss {T : Tab} {key : List Int} (hb : ∀ j, j < T.length → hitM T key (probe key T.length j) = false) : findM T key = none := by
  unfold findM
  rw [Option.map_eq_none_iff, List.find?_eq_none]
  intro j hj
  rw [hb j (List.mem_range.1 hj)]; simp
end Go.HC
namespace Go.Proofs
open Go Go.HC

theorem intT : ElemT Try.prog 29 3 rInt 8 := ⟨Try.elS29, Try.szS3, Try.byS3, _, Try.zS3, rfl⟩
theorem cellT : ElemT Try.prog 24 31 rCell 104 := ⟨Try.elS24, Try.szS31, Try.byS31, _, Try.zS31, rfl⟩
set_option maxRecDepth 10000 in
theorem cloneInt_spec {F : Nat → Prop} {h : Heap} {v : Value} {xs : List Int} (hv : SlRep rInt F h v xs) (hF : ∀ b, F b → b < h.size) (hn : xs.length < 1099511627776) :
    CallH Try.prog 19 #[v] h fun r h' => ∃ own, Grow rInt 3 none_ h' r xs own ∧ Keep none_ h h' ∧ ∀ b, own = some b → h.size ≤ b := by
  refine enter [.tmp 2] Try.func19 rfl rfl (by kernel_rfl) rfl ?_
  obtain ⟨a, c, cs, rfl, h1, h2, h3, h4⟩ := hv
  cases a with
  | none =>
    simp -dsimp
    have : xs = [] := by
      rcases h3 with h0 | ⟨_, _, _, _, _, hx, _⟩
      · have hl := h4.len
        rw [h0] at hl
        rcases Nat.mul_eq_zero.1 hl.symm with h | h
        · exact List.eq_nil_of_length_eq_zero h
        · exact absurd h (Nat.ne_of_gt rInt.pos)
      · cases hx
    subst this
    exact ⟨none, .nil _ _ _ _, .refl _ _, fun b hb => by cases hb⟩
  | some a =>
    simp -dsimp
    refine clone_cells (F := none_) (F2 := F) intT (fun _ h => h.elim) hF rfl h3 (ints_map.2 (ints_map.1 h4)) (by omega) (by omega) ?_
    intro v' h' own' hg hk ho hz
    obtain ⟨a', c', rfl⟩ := hg.val
    simp -dsimp
    exact ⟨own', hg, hk, ho⟩

set_option maxRecDepth 10000 in
theorem equal_spec {F G : Nat → Prop} {h : Heap} {av bv : Value} {xs ys : List Int} (ha : SlRep rInt F h av xs) (hb : SlRep rInt G h bv ys) :
    CallH Try.prog 74 #[av, bv] h fun r h' => r = .bool (decide (xs = ys)) ∧ h' = h := by
  refine callH_by fun K hK => ?_
  refine enter [.tmp 4] Try.func74 rfl rfl (by kernel_rfl) rfl ?_
  obtain ⟨a0, c0, rfl, hc0, hc0'⟩ := ha.val
  obtain ⟨a1, c1, rfl, hc1, hc1'⟩ := hb.val
  by_cases hl : xs.length = ys.length
  · have hl' : ((xs.length : Int) == (ys.length : Int)) = true := by simp; omega
    have hl2 : ((xs.length : Int) != (ys.length : Int)) = false := by simp [bne]; omega
    simp -dsimp [hl2]
    refine loop' (σ := Nat) (fun k => [(0, .slice a0 xs.length c0), (1, .slice a1 ys.length c1), (12, .int .i64 xs.length), (13, .int .i64 k)]) (fun _ => []) (fun k h' => h' = h ∧ k ≤ xs.length ∧ xs.take k = ys.take k) (fun k => xs.length - k) 0 ?_ rfl ⟨rfl, Nat.zero_le _, rfl⟩ (by kernel_rfl) ?_
    · intro p hp
      simp at hp
      rcases hp with rfl | rfl | rfl | rfl <;> simp
    · rintro k h' g ⟨rfl, hk, hpre⟩
      by_cases hkl : k < xs.length
      · obtain ⟨b1, o1, v1, rfl, _, hr1, hc1⟩ := ha.get1 rfl k hkl
        obtain ⟨b2, o2, v2, rfl, _, hr2, hc2⟩ := hb.get1 rfl k (by omega)
        have hv1 : v1 = .int .i64 xs[k] := by simpa [rInt] using hr1
        have hv2 : v2 = .int .i64 ys[k] := by simpa [rInt] using hr2
        subst hv1; subst hv2
        have hid1 : ∀ sz ar kk, idxV sz ar (.slice (some ⟨b1, o1, none⟩) xs.length c0) (.int kk (k : Int)) = sz.map fun s => .pointer (some ⟨b1, o1 + k * s, none⟩) := by
          intro sz ar kk
          rw [idxV_slice (by omega) (by omega) rfl]
          simp
        have hid2 : ∀ sz ar kk, idxV sz ar (.slice (some ⟨b2, o2, none⟩) ys.length c1) (.int kk (k : Int)) = sz.map fun s => .pointer (some ⟨b2, o2 + k * s, none⟩) := by
          intro sz ar kk
          rw [idxV_slice (by omega) (by omega) rfl]
          simp
        have wk : IntKind.i64.wrap ((k : Int) + 1) = ((k + 1 : Nat) : Int) := by rw [wrap_i64 (by omega) (by omega)]; rfl
        simp -dsimp [hkl]
        refine drawn_by [⟨0, true, []⟩, ⟨1, true, []⟩, ⟨2, true, []⟩, ⟨3, true, []⟩, ⟨4, true, []⟩, ⟨5, true, []⟩, ⟨6, true, []⟩, ⟨7, true, []⟩, ⟨8, true, []⟩] (by kernel_rfl) (by kernel_rfl) ?_
        by_cases he : xs[k] = ys[k]
        · have he2 : (ys[k] != ys[k]) = false := by simp
          simp -dsimp [hid1, hid2, hc1, hc2, elSz, he, wk]
          refine ⟨k + 1, ?_, rfl, ⟨rfl, by omega, ?_⟩, by show xs.length - (k + 1) < xs.length - k; omega⟩
          · intro p hp
            simp at hp
            rcases hp with rfl | rfl | rfl | rfl <;> simp
          · rw [List.take_add_one, List.take_add_one, hpre, List.getElem?_eq_getElem hkl, List.getElem?_eq_getElem (show k < ys.length by omega), he]
        · have he2 : (xs[k] != ys[k]) = true := by simpa [bne] using he
          have hne : decide (xs = ys) = false := decide_eq_false fun e => he (by subst e; rfl)
          simp -dsimp [hid1, hid2, hc1, hc2, elSz, he2]
          exact hK _ _ ⟨by rw [hne], rfl⟩
      · have heq : decide (xs = ys) = true := decide_eq_true (by
          rw [List.take_of_length_le (by omega), List.take_of_length_le (by omega)] at hpre
          exact hpre)
        simp -dsimp [hkl]
        exact hK _ _ ⟨by rw [heq], rfl⟩
  · have hl2 : ((xs.length : Int) != (ys.length : Int)) = true := by simp [bne]; omega
    have hne : decide (xs = ys) = false := decide_eq_false fun e => hl (by rw [e])
    simp -dsimp [hl2]
    exact hK _ _ ⟨by rw [hne], rfl⟩
end Go.Proofs

/-
  Groups of cells by their keys, plainly: what cells of one key come to, one cell of each key, rising.
-/
namespace Go.HC
/-! ### the order of keys -/
def lessM : List Int → List Int → Int
  | [], [] => 0
  | [], _ :: _ => -1
  | _ :: _, [] => 1
  | x :: xs, y :: ys => if x < y then -1 else if y < x then 1 else lessM xs ys
theorem lessM_zero : ∀ {xs ys : List Int}, lessM xs ys = 0 ↔ xs = ys
  | [], [] => by simp [lessM]
  | [], _ :: _ => by simp [lessM]
  | _ :: _, [] => by simp [lessM]
  | x :: xs, y :: ys => by
    rw [lessM]
    split
    · rename_i h
      simp only [List.cons.injEq]
      constructor
      · intro h; omega
      · rintro ⟨rfl, _⟩; omega
    · split
      · rename_i h
        simp only [List.cons.injEq]
        constructor
        · intro h; omega
        · rintro ⟨rfl, _⟩; omega
      · rename_i h1 h2
        rw [lessM_zero]
        simp only [List.cons.injEq]
        constructor
        · intro h; exact ⟨by omega, h⟩
        · rintro ⟨_, h⟩; exact h
theorem lessM_neg : ∀ (xs ys : List Int), lessM ys xs = - lessM xs ys
  | [], [] => rfl
  | [], _ :: _ => rfl
  | _ :: _, [] => rfl
  | x :: xs, y :: ys => by
    rw [lessM, lessM]
    by_cases h1 : x < y
    · have h2 : ¬ y < x := by omega
      simp only [if_pos h1, if_neg h2]; rfl
    · by_cases h2 : y < x
      · simp only [if_neg h1, if_pos h2]
      · simp only [if_neg h1, if_neg h2, lessM_neg xs ys]
theorem lessM_three : ∀ (xs ys : List Int), lessM xs ys = -1 ∨ lessM xs ys = 0 ∨ lessM xs ys = 1
  | [], [] => .inr (.inl rfl)
  | [], _ :: _ => .inl rfl
  | _ :: _, [] => .inr (.inr rfl)
  | x :: xs, y :: ys => by
    rw [lessM]
    split
    · exact .inl rfl
    · split
      · exact .inr (.inr rfl)
      · exact lessM_three xs ys
theorem lessM_trans : ∀ {xs ys zs : List Int}, lessM xs ys < 0 → lessM ys zs < 0 → lessM xs zs < 0
  | [], [], _, h, _ => by simp [lessM] at h
  | [], _ :: _, [], _, h => by simp [lessM] at h
  | [], _ :: _, _ :: _, _, _ => by simp [lessM]
  | _ :: _, [], _, h, _ => by simp [lessM] at h
  | _ :: _, _ :: _, [], _, h => by simp [lessM] at h
  | x :: xs, y :: ys, z :: zs, h1, h2 => by
    rw [lessM] at h1 h2 ⊢
    split at h1
    · split at h2
      · rw [if_pos (by omega)]; omega
      · split at h2
        · omega
        · rw [if_pos (by omega)]; omega
    · split at h1
      · omega
      · split at h2
        · rw [if_pos (by omega)]; omega
        · split at h2
          · omega
          · rw [if_neg (by omega), if_neg (by omega)]
            exact lessM_trans h1 h2
theorem lessM_self (xs : List Int) : lessM xs xs = 0 := lessM_zero.2 rfl
/-! ### cells of one key -/
def joinAll : List CellM → Option CellM
  | [] => none
  | c :: cs => some (cs.foldl joinC c)
/-- A cell, put to what is there. -/
def joinO : Option CellM → CellM → CellM
  | none, c => c
  | some d, c => joinC d c
theorem joinAll_snoc (l : List CellM) (c : CellM) : joinAll (l ++ [c]) = some (joinO (joinAll l) c) := by
  cases l with
  | nil => rfl
  | cons d l => simp [joinAll, joinO]
theorem foldl_key : ∀ (l : List CellM) (c : CellM), (l.foldl joinC c).key = c.key
  | [], _ => rfl
  | d :: l, c => by rw [List.foldl_cons, foldl_key l]; rfl
/-- What the cells of a key come to. -/
def atKey (key : List Int) (l : List CellM) : Option CellM := joinAll (l.filter fun c => decide (c.key = key))
theorem atKey_nil (key : List Int) : atKey key [] = none := rfl
theorem atKey_key {key : List Int} {l : List CellM} {c : CellM} (h : atKey key l = some c) : c.key = key := by
  unfold atKey at h
  cases hf : l.filter (fun c => decide (c.key = key)) with
  | nil => rw [hf] at h; cases h
  | cons d m =>
    rw [hf] at h
    simp only [joinAll, Option.some.injEq] at h
    rw [← h, foldl_key]
    have : d ∈ l.filter (fun c => decide (c.key = key)) := by rw [hf]; exact List.mem_cons_self
    simpa using (List.mem_filter.1 this).2
theorem atKey_snoc (key : List Int) (l : List CellM) (c : CellM) :
    atKey key (l ++ [c]) = if c.key = key then some (joinO (atKey key l) c) else atKey key l := by
  unfold atKey
  rw [List.filter_append]
  by_cases h : c.key = key
  · rw [if_pos h, ← joinAll_snoc]
    simp [h]
  · rw [if_neg h]
    simp [h]
theorem atKey_none {key : List Int} {l : List CellM} : atKey key l = none ↔ ∀ c ∈ l, c.key ≠ key := by
  unfold atKey
  cases hf : l.filter (fun c => decide (c.key = key)) with
  | nil =>
    simp only [joinAll, true_iff]
    intro c hc hk
    have : c ∈ l.filter (fun c => decide (c.key = key)) := List.mem_filter.2 ⟨hc, by simpa using hk⟩
    rw [hf] at this
    cases this
  | cons d m =>
    have : d ∈ l.filter (fun c => decide (c.key = key)) := by rw [hf]; exact List.mem_cons_self
    have := List.mem_filter.1 this
    simp only [joinAll, reduceCtorEq, false_iff]
    exact fun h => h d this.1 (by simpa using this.2)
/-! ### joining is of no order -/
theorem wrap_is (x : Int) : ∃ k : Int, IntKind.i64.wrap x = x + k * 18446744073709551616 ∧ -9223372036854775808 ≤ IntKind.i64.wrap x ∧ IntKind.i64.wrap x < 9223372036854775808 := by
  have e : (2 : Int) ^ IntKind.i64.bits = 18446744073709551616 := by decide
  have e2 : (2 : Int) ^ (IntKind.i64.bits - 1) = 9223372036854775808 := by decide
  unfold IntKind.wrap
  simp only [e, e2]
  by_cases h : x % 18446744073709551616 ≥ 9223372036854775808
  · refine ⟨- (x / 18446744073709551616) - 1, ?_⟩
    simp [IntKind.signed, h]; omega
  · refine ⟨- (x / 18446744073709551616), ?_⟩
    simp [IntKind.signed, h]; omega
theorem wrap_add_wrap (x y : Int) : IntKind.i64.wrap (IntKind.i64.wrap x + y) = IntKind.i64.wrap (x + y) := by
  obtain ⟨k1, h1, _, _⟩ := wrap_is x
  obtain ⟨k2, h2, _, _⟩ := wrap_is (IntKind.i64.wrap x + y)
  obtain ⟨k3, h3, _, _⟩ := wrap_is (x + y)
  omega
theorem wrap_add_wrap' (x y : Int) : IntKind.i64.wrap (x + IntKind.i64.wrap y) = IntKind.i64.wrap (x + y) := by
  rw [Int.add_comm, wrap_add_wrap, Int.add_comm]
theorem zip_assoc {f : Int → Int → Int} (hf : ∀ x y z, f (f x y) z = f x (f y z)) : ∀ xs ys zs : List Int, List.zipWith f (List.zipWith f xs ys) zs = List.zipWith f xs (List.zipWith f ys zs)
  | [], _, _ => by simp
  | _ :: _, [], _ => by simp
  | _ :: _, _ :: _, [] => by simp
  | x :: xs, y :: ys, z :: zs => by simp [hf, zip_assoc hf xs ys zs]
theorem zip_comm {f : Int → Int → Int} (hf : ∀ x y, f x y = f y x) : ∀ xs ys : List Int, List.zipWith f xs ys = List.zipWith f ys xs
  | [], ys => by simp
  | _ :: _, [] => by simp
  | x :: xs, y :: ys => by simp [hf x y, zip_comm hf xs ys]
theorem joinC_assoc (a b c : CellM) : joinC (joinC a b) c = joinC a (joinC b c) := by
  unfold joinC
  simp only [wrap_add_wrap, wrap_add_wrap', Int.add_assoc]
  rw [zip_assoc (fun x y z => by rw [wrap_add_wrap, wrap_add_wrap', Int.add_assoc]), zip_assoc (fun x y z => by omega), zip_assoc (fun x y z => by omega)]
theorem joinC_comm {a b : CellM} (h : a.key = b.key) : joinC a b = joinC b a := by
  unfold joinC
  rw [h, Int.add_comm, zip_comm (fun x y => by rw [Int.add_comm]) a.sum, zip_comm (fun x y => by omega) a.mn, zip_comm (fun x y => by omega) a.mx]
theorem foldl_join (l : List CellM) : ∀ (a b : CellM), l.foldl joinC (joinC a b) = joinC a (l.foldl joinC b) := by
  induction l with
  | nil => exact fun _ _ => rfl
  | cons c l ih => intro a b; rw [List.foldl_cons, List.foldl_cons, joinC_assoc, ih]
/-- Two parts' cells of a key. -/
def join2 : Option CellM → Option CellM → Option CellM
  | none, y => y
  | x, none => x
  | some x, some y => some (joinC x y)
theorem joinAll_append (l m : List CellM) : joinAll (l ++ m) = join2 (joinAll l) (joinAll m) := by
  cases l with
  | nil => cases m <;> rfl
  | cons c l =>
    cases m with
    | nil => simp [joinAll, join2]
    | cons d m => simp [joinAll, join2, foldl_join]
theorem atKey_append (key : List Int) (l m : List CellM) : atKey key (l ++ m) = join2 (atKey key l) (atKey key m) := by
  unfold atKey
  rw [List.filter_append, joinAll_append]
theorem joinAll_perm {key : List Int} {l m : List CellM} (hp : l.Perm m) : (∀ c ∈ l, c.key = key) → joinAll l = joinAll m := by
  induction hp with
  | nil => exact fun _ => rfl
  | @cons x l m hp ih =>
    intro hl
    have := ih fun c hc => hl c (List.mem_cons_of_mem _ hc)
    rw [← List.singleton_append, ← List.singleton_append (l := m), joinAll_append, joinAll_append, this]
  | swap x y l =>
    intro hl
    have h1 := hl x (by simp)
    have h2 := hl y (by simp)
    simp only [joinAll, List.foldl_cons]
    rw [joinC_comm (h2.trans h1.symm)]
  | trans hp1 hp2 ih1 ih2 => exact fun hl => (ih1 hl).trans (ih2 fun c hc => hl c (hp1.mem_iff.2 hc))
theorem atKey_perm {key : List Int} {l m : List CellM} (hp : l.Perm m) : atKey key l = atKey key m :=
  joinAll_perm (key := key) (hp.filter _) fun c hc => by simpa using (List.mem_filter.1 hc).2
/-! ### one cell of each key -/
def Srt (l : List CellM) : Prop := l.Pairwise fun a b => lessM a.key b.key < 0
/-- The group-by: rising, of each key what its cells come to. -/
structure Grp (l out : List CellM) : Prop where
  srt : Srt out
  mem : ∀ c, c ∈ out ↔ atKey c.key l = some c
theorem srt_eq : ∀ {l m : List CellM}, Srt l → Srt m → (∀ c, c ∈ l ↔ c ∈ m) → l = m
  | [], [], _, _, _ => rfl
  | [], c :: m, _, _, h => by have := (h c).2 List.mem_cons_self; cases this
  | c :: l, [], _, _, h => by have := (h c).1 List.mem_cons_self; cases this
  | a :: l, b :: m, h1, h2, h => by
    obtain ⟨h1a, h1b⟩ := List.pairwise_cons.1 h1
    obtain ⟨h2a, h2b⟩ := List.pairwise_cons.1 h2
    have hab : a = b := by
      rcases List.mem_cons.1 ((h a).1 List.mem_cons_self) with e | h3
      · exact e
      · rcases List.mem_cons.1 ((h b).2 List.mem_cons_self) with e | h4
        · exact e.symm
        · have x := lessM_trans (h2a a h3) (h1a b h4)
          rw [lessM_self] at x; omega
    subst hab
    congr 1
    refine srt_eq h1b h2b fun c => ?_
    constructor
    · intro hc
      rcases List.mem_cons.1 ((h c).1 (List.mem_cons_of_mem _ hc)) with e | h3
      · subst e; have x := h1a c hc; rw [lessM_self] at x; omega
      · exact h3
    · intro hc
      rcases List.mem_cons.1 ((h c).2 (List.mem_cons_of_mem _ hc)) with e | h3
      · subst e; have x := h2a c hc; rw [lessM_self] at x; omega
      · exact h3
theorem Grp.unique {l o o' : List CellM} (h : Grp l o) (h' : Grp l o') : o = o' := srt_eq h.srt h'.srt fun c => (h.mem c).trans (h'.mem c).symm
theorem Grp.perm {l m o : List CellM} (h : Grp l o) (hp : l.Perm m) : Grp m o := ⟨h.srt, fun c => by rw [h.mem, atKey_perm hp]⟩
theorem Grp.nil : Grp [] [] := ⟨List.Pairwise.nil, fun c => by simp [atKey_nil]⟩
/-- A cell is put to those of its key, or where it belongs. -/
def putC : List CellM → CellM → List CellM
  | [], c => [c]
  | d :: l, c => if lessM d.key c.key < 0 then d :: putC l c else if lessM d.key c.key = 0 then joinC d c :: l else c :: d :: l
theorem Srt.find {l : List CellM} (hs : Srt l) {a b : CellM} (ha : a ∈ l) (hb : b ∈ l) (h : a.key = b.key) : a = b := by
  induction l with
  | nil => cases ha
  | cons c l ih =>
    obtain ⟨h1, h2⟩ := List.pairwise_cons.1 hs
    rcases List.mem_cons.1 ha with rfl | ha' <;> rcases List.mem_cons.1 hb with rfl | hb'
    · rfl
    · have := h1 b hb'; rw [h, lessM_self] at this; omega
    · have := h1 a ha'; rw [← h, lessM_self] at this; omega
    · exact ih h2 ha' hb'
theorem mem_put {l : List CellM} (hs : Srt l) (c x : CellM) : x ∈ putC l c ↔ (x.key ≠ c.key ∧ x ∈ l) ∨ (x.key = c.key ∧ x = joinO (l.find? (fun d => decide (d.key = c.key))) c) := by
  induction l with
  | nil =>
    simp only [putC, List.mem_singleton, List.not_mem_nil, and_false, false_or, List.find?_nil]
    exact ⟨fun h => ⟨by rw [h], h⟩, fun h => h.2⟩
  | cons d l ih =>
    obtain ⟨h1, h2⟩ := List.pairwise_cons.1 hs
    rw [putC]
    split
    · rename_i hlt
      have hne : d.key ≠ c.key := fun e => by rw [e, lessM_self] at hlt; omega
      rw [List.mem_cons, ih h2, List.find?_cons_of_neg (by simpa using hne), List.mem_cons]
      constructor
      · rintro (rfl | ⟨h3, h4⟩ | h3)
        · exact .inl ⟨hne, .inl rfl⟩
        · exact .inl ⟨h3, .inr h4⟩
        · exact .inr h3
      · rintro (⟨h3, rfl | h4⟩ | h3)
        · exact .inl rfl
        · exact .inr (.inl ⟨h3, h4⟩)
        · exact .inr (.inr h3)
    · split
      · rename_i h0
        have he := lessM_zero.1 h0
        rw [List.find?_cons_of_pos (by simpa using he), List.mem_cons, List.mem_cons]
        have hlk : ∀ y ∈ l, y.key ≠ c.key := fun y hy e => by have := h1 y hy; rw [e, ← he, lessM_self] at this; omega
        constructor
        · rintro (rfl | h3)
          · exact .inr ⟨he, rfl⟩
          · exact .inl ⟨hlk x h3, .inr h3⟩
        · rintro (⟨h3, rfl | h4⟩ | ⟨_, rfl⟩)
          · exact absurd he h3
          · exact .inr h4
          · exact .inl rfl
      · rename_i h3 h0
        have hgt : lessM c.key d.key < 0 := by
          have := lessM_neg d.key c.key
          have := lessM_three d.key c.key
          omega
        have hlk : ∀ y ∈ d :: l, y.key ≠ c.key := by
          intro y hy e
          rcases List.mem_cons.1 hy with rfl | hy
          · rw [e, lessM_self] at hgt; omega
          · have := lessM_trans hgt (h1 y hy)
            rw [e, lessM_self] at this; omega
        have hn : (d :: l).find? (fun d => decide (d.key = c.key)) = none := by
          rw [List.find?_eq_none]
          intro y hy
          simpa using hlk y hy
        rw [hn, List.mem_cons]
        constructor
        · rintro (rfl | h4)
          · exact .inr ⟨rfl, rfl⟩
          · exact .inl ⟨hlk x h4, h4⟩
        · rintro (⟨_, h4⟩ | ⟨_, rfl⟩)
          · exact .inr h4
          · exact .inl rfl
theorem put_key {l : List CellM} {c x : CellM} (hx : x ∈ putC l c) : x.key = c.key ∨ x ∈ l := by
  induction l with
  | nil => rw [putC, List.mem_singleton] at hx; exact .inl (by rw [hx])
  | cons d l ih =>
    rw [putC] at hx
    split at hx
    · rcases List.mem_cons.1 hx with rfl | h
      · exact .inr List.mem_cons_self
      · exact (ih h).imp id (List.mem_cons_of_mem _)
    · split at hx
      · rename_i h0
        rcases List.mem_cons.1 hx with rfl | h
        · exact .inl (lessM_zero.1 h0)
        · exact .inr (List.mem_cons_of_mem _ h)
      · rcases List.mem_cons.1 hx with rfl | h
        · exact .inl rfl
        · exact .inr h
theorem srt_put {l : List CellM} (hs : Srt l) (c : CellM) : Srt (putC l c) := by
  induction l with
  | nil => exact List.pairwise_singleton _ _
  | cons d l ih =>
    obtain ⟨h1, h2⟩ := List.pairwise_cons.1 hs
    rw [putC]
    split
    · rename_i hlt
      refine List.pairwise_cons.2 ⟨fun y hy => ?_, ih h2⟩
      rcases put_key hy with e | h
      · rw [e]; exact hlt
      · exact h1 y h
    · split
      · refine List.pairwise_cons.2 ⟨fun y hy => h1 y hy, h2⟩
      · rename_i h3 h0
        have hgt : lessM c.key d.key < 0 := by
          have := lessM_neg d.key c.key
          have := lessM_three d.key c.key
          omega
        refine List.pairwise_cons.2 ⟨fun y hy => ?_, hs⟩
        rcases List.mem_cons.1 hy with rfl | hy
        · exact hgt
        · exact lessM_trans hgt (h1 y hy)
theorem Grp.find {l o : List CellM} (h : Grp l o) (key : List Int) : o.find? (fun d => decide (d.key = key)) = atKey key l := by
  cases hf : o.find? (fun d => decide (d.key = key)) with
  | none =>
    cases ha : atKey key l with
    | none => rfl
    | some c =>
      have hk := atKey_key ha
      have hm := (h.mem c).2 (by rw [hk, ha])
      have := List.find?_eq_none.1 hf c hm
      simp [hk] at this
  | some d =>
    have hm := (h.mem d).1 (List.mem_of_find?_eq_some hf)
    have hk := List.find?_some hf
    simp only [decide_eq_true_eq] at hk
    rw [hk] at hm
    exact hm.symm
theorem Grp.put {l o : List CellM} (h : Grp l o) (c : CellM) : Grp (l ++ [c]) (putC o c) := by
  refine ⟨srt_put h.srt c, fun x => ?_⟩
  rw [mem_put h.srt, h.find, atKey_snoc]
  by_cases hk : c.key = x.key
  · rw [if_pos hk, hk]
    simp only [ne_eq, not_true_eq_false, false_and, true_and, false_or]
    rw [Option.some.injEq]
    exact eq_comm
  · rw [if_neg hk, h.mem]
    have : x.key ≠ c.key := fun e => hk e.symm
    simp [this]
def groupC (l : List CellM) : List CellM := l.foldl putC []
theorem groupC_snoc (l : List CellM) (c : CellM) : groupC (l ++ [c]) = putC (groupC l) c := by simp [groupC]
theorem group_take {l : List CellM} {k : Nat} (hk : k < l.length) : groupC (l.take (k + 1)) = putC (groupC (l.take k)) l[k] := by
  rw [List.take_add_one, List.getElem?_eq_getElem hk, Option.toList_some, groupC_snoc]
theorem grp_aux : ∀ (l o m : List CellM), Grp m o → Grp (m ++ l) (l.foldl putC o)
  | [], o, m, h => by simpa using h
  | c :: l, o, m, h => by
    have := grp_aux l (putC o c) (m ++ [c]) (h.put c)
    simpa using this
theorem grp_group (l : List CellM) : Grp l (groupC l) := by
  have := grp_aux l [] [] .nil
  rwa [List.nil_append] at this
theorem group_perm {l m : List CellM} (hp : l.Perm m) : groupC l = groupC m := ((grp_group l).perm hp).unique (grp_group m)
theorem Grp.eq {l o : List CellM} (h : Grp l o) : o = groupC l := h.unique (grp_group l)
/-- As many as there are keys. -/
theorem putC_len {l : List CellM} (c : CellM) : (putC l c).length = l.length ∨ (putC l c).length = l.length + 1 := by
  induction l with
  | nil => exact .inr rfl
  | cons d l ih =>
    rw [putC]
    split
    · simpa using ih
    · split <;> simp
theorem putC_le (l : List CellM) (c : CellM) : (putC l c).length ≤ l.length + 1 := by rcases putC_len (l := l) c with h | h <;> omega
theorem group_le : ∀ (l o : List CellM), (l.foldl putC o).length ≤ o.length + l.length
  | [], _ => by simp
  | c :: l, o => by
    have := group_le l (putC o c)
    have := putC_le o c
    rw [List.foldl_cons, List.length_cons]; omega
theorem groupC_le (l : List CellM) : (groupC l).length ≤ l.length := by
  have := group_le l []
  rwa [List.length_nil, Nat.zero_add] at this
end Go.HC

/-
  The document's order of keys.
-/
namespace Go.Proofs
open Go Go.HC

end Go.Proofs

/-
  The document's comparisons of cells.
-/
namespace Go.HC
theorem cellM_ext {a b : CellM} (h1 : a.count = b.count) (h2 : a.key = b.key) (h3 : a.sum = b.sum) (h4 : a.mn = b.mn) (h5 : a.mx = b.mx) : a = b := by
  cases a; cases b; simp_all
end Go.HC
namespace Go.Proofs
open Go Go.HC

end Go.Proofs

/-
  The program's table in memory; where a key is found.
-/
namespace Go.Proofs
open Go Go.HC

structure TabC (h : Heap) (T : Tab) (bs : Nat) (sv : Value) (os : Option Nat) (R : Nat → Prop) : Prop where
  str : h[bs]? = some (.cells #[sv, .int .i64 (takenM T)] 97 (0, 0))
  slots : Grow rSlot 100 R h sv T os
  sep : ∀ b, R b → b < h.size ∧ b ≠ bs ∧ os ≠ some b
  o1 : os ≠ some bs
  ok : TabOk T
def tfoot (bs : Nat) (os : Option Nat) (R : Nat → Prop) : Nat → Prop := fun b => b = bs ∨ os = some b ∨ R b
theorem TabC.lt {h : Heap} {T : Tab} {bs : Nat} {sv : Value} {os : Option Nat} {R : Nat → Prop} (s : TabC h T bs sv os R) : ∀ b, tfoot bs os R b → b < h.size := by
  rintro b (rfl | ho | hr)
  · exact lt_of_blk s.str
  · exact s.slots.own_lt b ho
  · exact (s.sep b hr).1
theorem TabC.mono {h h' : Heap} {T : Tab} {bs : Nat} {sv : Value} {os : Option Nat} {R : Nat → Prop} (s : TabC h T bs sv os R) (hs : h.size ≤ h'.size) (hk : ∀ b, tfoot bs os R b → h'[b]? = h[b]?) : TabC h' T bs sv os R where
  str := (hk bs (.inl rfl)).trans s.str
  slots := s.slots.mono (fun b hb => ⟨hb, hk b (.inr (.inr hb))⟩) fun b hb => ⟨fun hR => (s.sep b hR).2.2 hb, hk b (.inr (.inl hb))⟩
  sep := fun b hb => ⟨Nat.lt_of_lt_of_le (s.sep b hb).1 hs, (s.sep b hb).2⟩
  o1 := s.o1
  ok := s.ok
def TabAt (v : Value) (F : Nat → Prop) (h : Heap) (T : Tab) : Prop := ∃ bs sv os R, v = .pointer (some ⟨bs, 0, none⟩) ∧ F = tfoot bs os R ∧ TabC h T bs sv os R
theorem TabC.at {h : Heap} {T : Tab} {bs : Nat} {sv : Value} {os : Option Nat} {R : Nat → Prop} (s : TabC h T bs sv os R) : TabAt (.pointer (some ⟨bs, 0, none⟩)) (tfoot bs os R) h T := ⟨bs, sv, os, R, rfl, rfl, s⟩
theorem TabAt.lt {v : Value} {F : Nat → Prop} {h : Heap} {T : Tab} (s : TabAt v F h T) : ∀ b, F b → b < h.size := by
  obtain ⟨bs, sv, os, R, rfl, rfl, s⟩ := s
  exact s.lt
theorem TabAt.mono {v : Value} {F : Nat → Prop} {h h' : Heap} {T : Tab} (s : TabAt v F h T) (hs : h.size ≤ h'.size) (hk : ∀ b, F b → h'[b]? = h[b]?) : TabAt v F h' T := by
  obtain ⟨bs, sv, os, R, rfl, rfl, s⟩ := s
  exact ⟨bs, sv, os, R, rfl, rfl, s.mono hs hk⟩
theorem TabAt.keep {v : Value} {F S : Nat → Prop} {h h' : Heap} {T : Tab} (s : TabAt v F h T) (k : Keep S h h') (hS : ∀ b, F b → ¬ S b) : TabAt v F h' T := s.mono k.size fun b hb => k.blk b (s.lt b hb) (hS b hb)

/-- A slot's cells, as they are loaded. -/
theorem slot_cells {R : Nat → Prop} {h : Heap} {cs : List Value} {s : Option CellM} (hr : rSlot.rep R h cs s) : ∃ kv cn sv nv xv, cs = [kv, .int .i64 cn, sv, nv, xv, .bool s.isSome] ∧ SlRep rInt R h kv ((s.map (·.key)).getD []) ∧
    kv.oneCell' = true ∧ sv.oneCell' = true ∧ nv.oneCell' = true ∧ xv.oneCell' = true := by
  cases s with
  | none => exact ⟨_, _, _, _, _, hr, .nil _ _ _, rfl, rfl, rfl, rfl⟩
  | some c =>
    obtain ⟨ds, ⟨kv, sv, nv, xv, rfl, h1, h2, h3, h4⟩, rfl⟩ := hr
    refine ⟨kv, c.count, sv, nv, xv, rfl, h1, ?_, ?_, ?_, ?_⟩
    · obtain ⟨_, _, rfl, _⟩ := h1.val; rfl
    · obtain ⟨_, _, rfl, _⟩ := h2.val; rfl
    · obtain ⟨_, _, rfl, _⟩ := h3.val; rfl
    · obtain ⟨_, _, rfl, _⟩ := h4.val; rfl

set_option maxHeartbeats 40000000 in
set_option maxRecDepth 10000 in
theorem find_spec {v : Value} {F G : Nat → Prop} {h : Heap} {T : Tab} (s : TabAt v F h T) (hT : T.length < 1000000000) {kv : Value} {key : List Int} (hk : SlRep rInt G h kv key) (hG : ∀ b, G b → b < h.size) :
    CallH Try.prog 58 #[v, kv] h fun r h' => r = .int .i64 (match findM T key with | some k => (k : Int) | none => -1) ∧ Keep none_ h h' := by
  refine callH_by fun K hK => ?_
  obtain ⟨bs, sv, os, R, rfl, rfl, s⟩ := s
  obtain ⟨ka, kc, rfl, hkc, hkc'⟩ := hk.val
  refine enter [.tmp 4] Try.func58 rfl rfl (by kernel_rfl) rfl ?_
  have hs := s.str
  have hRl : ∀ b, R b → b < h.size := fun b hb => (s.sep b hb).1
  obtain ⟨sa, sc, rfl⟩ := s.slots.val
  obtain ⟨hh0, hh1⟩ := hashM_bound key
  simp -dsimp
  refine scope 0 _ rfl (σ := Nat) (fun i => [(0, .pointer (some ⟨bs, 0, none⟩)), (1, .slice ka key.length kc), (5, .int .i64 T.length), (9, .int .i64 (probe key T.length i)), (10, .int .i64 i)]) (fun _ => [])
    (fun i h' => Keep none_ h h' ∧ i < T.length ∧ ∀ j, j < i → hitM T key (probe key T.length j) = false) (fun i => T.length - i) (T.length + 1) (by kernel_rfl) (by kernel_rfl) ?first ?pass
  case' first =>
    by_cases h0 : T.length = 0
    · have hT0 : T = [] := List.eq_nil_of_length_eq_zero h0
      subst hT0
      simp -dsimp [hs]
      exact hK _ _ ⟨rfl, .refl _ _⟩
    · have hne : ((T.length : Int) == 0) = false := beq_eq_false_iff_ne.2 (by omega)
      have hrem : ∀ x : Int, intRes .rem .i64 x (T.length : Int) = some (.int .i64 (x.tmod T.length)) := fun x => intRes_rem _ _ _ (by omega)
      simp -dsimp [hs, hne]
      refine loop' (σ := Nat) (fun k => [(0, .pointer (some ⟨bs, 0, none⟩)), (1, .slice ka key.length kc), (5, .int .i64 T.length), (6, .int .i64 (hashM (key.take k))), (19, .slice ka key.length kc), (20, .int .i64 key.length), (21, .int .i64 k)]) (fun _ => []) (fun k h' => h' = h ∧ k ≤ key.length) (fun k => key.length - k) 0 ?_ rfl ⟨rfl, Nat.zero_le _⟩ (by kernel_rfl) ?_
      · intro p hp
        simp at hp
        rcases hp with rfl | rfl | rfl | rfl | rfl | rfl | rfl <;> simp [hashM]
      · rintro k h' g ⟨hhe, hkk⟩
        have hhe' := hhe.symm
        subst hhe'
        by_cases hkl : k < key.length
        · obtain ⟨b1, o1, v1, rfl, _, hr1, hc1⟩ := hk.get1 rfl k hkl
          have hv1 : v1 = .int .i64 key[k] := by simpa [rInt] using hr1
          subst hv1
          have hidx : ∀ (K : Value → Heap → Prop) (h : Heap), indexAddrS Try.prog 29 (.slice (some ⟨b1, o1, none⟩) key.length kc) (.int .i64 (k : Int)) h K = K (.pointer (some ⟨b1, o1 + k, none⟩)) h := by
            intro K h
            rw [indexAddrS_slice _ _ _ _ _ _ (by omega) (by omega) rfl]
            simp [elSz]
          have wk : IntKind.i64.wrap ((k : Int) + 1) = ((k + 1 : Nat) : Int) := by rw [wrap_i64 (by omega) (by omega)]; rfl
          obtain ⟨q0, q1⟩ := hashM_bound (key.take k)
          have hst := hashM_take hkl
          obtain ⟨p0, p1⟩ := tmod_bound (a := key[k]) (n := 1000003) (by decide)
          have w1 : IntKind.i64.wrap (31 * hashM (key.take k)) = 31 * hashM (key.take k) := wrap_i64 (by omega) (by omega)
          have w2 : IntKind.i64.wrap (31 * hashM (key.take k) + (key[k]).tmod 1000003) = 31 * hashM (key.take k) + (key[k]).tmod 1000003 := wrap_i64 (by omega) (by omega)
          have w3 : IntKind.i64.wrap (31 * hashM (key.take k) + (key[k]).tmod 1000003 + 1) = 31 * hashM (key.take k) + (key[k]).tmod 1000003 + 1 := wrap_i64 (by omega) (by omega)
          simp -dsimp [hkl, hidx, hc1, w1, w2, w3, ← hst, wk]
          refine ⟨k + 1, ?_, rfl, ⟨rfl, by omega⟩, by show key.length - (k + 1) < key.length - k; omega⟩
          intro p hp
          simp at hp
          rcases hp with rfl | rfl | rfl | rfl | rfl | rfl | rfl <;> simp
        · have hall : key.take k = key := List.take_of_length_le (by omega)
          obtain ⟨r0, r1⟩ := tmod_bound (a := hashM key) (n := (T.length : Int)) (by omega)
          have w1 : IntKind.i64.wrap ((hashM key).tmod T.length + T.length) = (hashM key).tmod T.length + T.length := wrap_i64 (by omega) (by omega)
          have hpl := placeM_lt key (n := T.length) (by omega)
          have hp0 : ((hashM key).tmod T.length + T.length).tmod T.length = ((probe key T.length 0 : Nat) : Int) := by
            unfold probe
            rw [Nat.add_zero, Nat.mod_eq_of_lt hpl]
            unfold placeM
            rw [Int.toNat_of_nonneg (Int.tmod_nonneg _ (by omega))]
          simp -dsimp [hkl, hall, hrem, w1, hp0, hs]
          have k1 : Keep none_ h h := .refl _ _
          have hi : 0 < T.length := by omega
          have hb : ∀ j, j < 0 → hitM T key (probe key T.length j) = false := fun j hj => by omega
          have s1' := s.mono k1.size fun b hb => k1.blk b (s.lt b hb) (fun h => h)
          have hs1 := s1'.str
          have hrem : ∀ x : Int, intRes .rem .i64 x (T.length : Int) = some (.int .i64 (x.tmod T.length)) := fun x => intRes_rem _ _ _ (by omega)
          have hpl := probe_lt key (n := T.length) (by omega) 0
          have hnx := probe_next key T.length 0
          have hsat : T[probe key T.length 0]? = some T[probe key T.length 0] := List.getElem?_eq_getElem hpl
          generalize hpe : probe key T.length 0 = at_ at hpl hnx hsat ⊢
          obtain ⟨bk, cs, hsa, _, hr, hc⟩ := s1'.slots.elem at_ hpl
          subst hsa
          obtain ⟨wv, cn, sv, nv, xv, rfl, hkey, u1, u2, u3, u4⟩ := slot_cells hr
          have hcells : HC.cellsIn h[bk]? (at_ * 6) 6 = some [wv, .int .i64 cn, sv, nv, xv, .bool T[at_].isSome] := hc
          have hidx : ∀ (K : Value → Heap → Prop) (h : Heap), indexAddrS Try.prog 95 (.slice (some ⟨bk, 0, none⟩) T.length sc) (.int .i64 (at_ : Int)) h K = K (.pointer (some ⟨bk, at_ * 6, none⟩)) h := by
            intro K h
            rw [indexAddrS_slice _ _ _ _ _ _ (by omega) (by omega) rfl]
            simp [elSz]
          have w1 : IntKind.i64.wrap ((0 : Int) + 1) = ((0 + 1 : Nat) : Int) := by rw [wrap_i64 (by omega) (by omega)]; rfl
          have w2 : IntKind.i64.wrap ((at_ : Int) + 1) = (at_ : Int) + 1 := wrap_i64 (by omega) (by omega)
          have w3 : ((at_ : Int) + 1).tmod (T.length : Int) = ((probe key T.length (0 + 1) : Nat) : Int) := by
            rw [← hnx]; exact (Int.ofNat_tmod _ _).symm
          simp -dsimp [hidx, hcells, u1, u2, u3, u4]
          generalize hH : Array.setIfInBounds _ h.size _ = h2
          have hz2 : h2.size = h.size + 1 := by rw [← hH]; simp
          have k12 : Keep none_ h h2 := by rw [← hH]; exact ((Keep.refl none_ h).pushed _).setted _ (fun hh => absurd hh (by omega))
          have k2 := k1.trans k12 (fun _ _ h => h)
          have hfb : h2[h.size]? = some (.cells #[wv, .int .i64 cn, sv, nv, xv, .bool T[at_].isSome] 100 (0, 0)) := by rw [← hH]; exact set_same _ (by simp)
          have hkey2 : SlRep rInt R h2 wv ((T[at_].map (·.key)).getD []) := hkey.mono fun b hb => ⟨hb, k12.blk b (by have := hRl b hb; have := k1.size; omega) (fun h => h)⟩
          have hk2 : SlRep rInt G h2 (.slice ka key.length kc) key := hk.mono fun b hb => ⟨hb, k2.blk b (hG b hb) (fun h => h)⟩
          cases hta : T[at_] with
          | none =>
            have hit : hitM T key (probe key T.length 0) = true := by unfold hitM; rw [hpe, hsat, hta]
            have hfm := find_hit hi hb hit
            rw [hta] at hfb
            simp -dsimp
            refine hK _ _ ⟨?_, k2⟩
            rw [hfm, hpe]
          | some c =>
            rw [hta] at hfb hkey2
            simp -dsimp [hfb]
            refine call_by (equal_spec hkey2 hk2) ?_
            rintro _ h2' ⟨rfl, hh⟩
            obtain rfl := hh.symm
            have hke : ((Option.map (fun x => x.key) (some c)).getD []) = c.key := rfl
            rw [hke]
            have hhit : hitM T key (probe key T.length 0) = decide (c.key = key) := by unfold hitM; rw [hpe, hsat, hta]
            by_cases he : c.key = key
            · have hd : decide (c.key = key) = true := decide_eq_true he
              rw [hd]
              have hfm := find_hit hi hb (hhit.trans hd)
              simp -dsimp
              refine hK _ _ ⟨?_, k2⟩
              rw [hfm, hpe]
            · have hd : decide (c.key = key) = false := decide_eq_false he
              rw [hd]
              have hb' : ∀ j, j < 0 + 1 → hitM T key (probe key T.length j) = false := fun j hj => by
                by_cases hji : j < 0
                · exact hb j hji
                · have : j = 0 := by omega
                  subst this
                  exact hhit.trans hd
              by_cases hin : 0 + 1 < T.length
              · have hin' : (((0 + 1 : Nat) : Int) < (T.length : Int)) := by omega
                have v1 : IntKind.i64.wrap 1 = 1 := by decide
                have v2 : (1 : Int) < (T.length : Int) := by omega
                have v3 : 1 < T.length := by omega
                simp -dsimp [v1, v2, w2, hrem, w3]
                refine ⟨rfl, 0 + 1, ?_, rfl, ⟨k2, hin, hb'⟩, by show T.length - (0 + 1) < T.length + 1; omega⟩
                intro p hp
                simp at hp
                rcases hp with rfl | rfl | rfl | rfl | rfl <;> simp
              · have hin' : ¬ (((0 + 1 : Nat) : Int) < (T.length : Int)) := by omega
                have hfm := find_miss (T := T) (key := key) fun j hj => hb' j (by omega)
                have v1 : IntKind.i64.wrap 1 = 1 := by decide
                have v2 : ¬ (1 : Int) < (T.length : Int) := by omega
                have v3 : ¬ 1 < T.length := by omega
                simp -dsimp [v1, v2]
                refine hK _ _ ⟨?_, k2⟩
                rw [hfm]
  case' pass =>
    rintro i h1 g ⟨k1, hi, hb⟩
    have s1' := s.mono k1.size fun b hb => k1.blk b (s.lt b hb) (fun h => h)
    have hs1 := s1'.str
    have hrem : ∀ x : Int, intRes .rem .i64 x (T.length : Int) = some (.int .i64 (x.tmod T.length)) := fun x => intRes_rem _ _ _ (by omega)
    have hpl := probe_lt key (n := T.length) (by omega) i
    have hnx := probe_next key T.length i
    have hsat : T[probe key T.length i]? = some T[probe key T.length i] := List.getElem?_eq_getElem hpl
    generalize hpe : probe key T.length i = at_ at hpl hnx hsat ⊢
    obtain ⟨bk, cs, hsa, _, hr, hc⟩ := s1'.slots.elem at_ hpl
    subst hsa
    obtain ⟨wv, cn, sv, nv, xv, rfl, hkey, u1, u2, u3, u4⟩ := slot_cells hr
    have hcells : HC.cellsIn h1[bk]? (at_ * 6) 6 = some [wv, .int .i64 cn, sv, nv, xv, .bool T[at_].isSome] := hc
    have hidx : ∀ (K : Value → Heap → Prop) (h : Heap), indexAddrS Try.prog 95 (.slice (some ⟨bk, 0, none⟩) T.length sc) (.int .i64 (at_ : Int)) h K = K (.pointer (some ⟨bk, at_ * 6, none⟩)) h := by
      intro K h
      rw [indexAddrS_slice _ _ _ _ _ _ (by omega) (by omega) rfl]
      simp [elSz]
    have w1 : IntKind.i64.wrap ((i : Int) + 1) = (i : Int) + 1 := wrap_i64 (by omega) (by omega)
    have w2 : IntKind.i64.wrap ((at_ : Int) + 1) = (at_ : Int) + 1 := wrap_i64 (by omega) (by omega)
    have w3 : ((at_ : Int) + 1).tmod (T.length : Int) = ((probe key T.length (i + 1) : Nat) : Int) := by
      rw [← hnx]; exact (Int.ofNat_tmod _ _).symm
    simp -dsimp [hs1, hidx, hcells, u1, u2, u3, u4]
    generalize hH : Array.setIfInBounds _ h1.size _ = h2
    have hz2 : h2.size = h1.size + 1 := by rw [← hH]; simp
    have k12 : Keep none_ h1 h2 := by rw [← hH]; exact ((Keep.refl none_ h1).pushed _).setted _ (fun hh => absurd hh (by omega))
    have k2 := k1.trans k12 (fun _ _ h => h)
    have hfb : h2[h1.size]? = some (.cells #[wv, .int .i64 cn, sv, nv, xv, .bool T[at_].isSome] 100 (0, 0)) := by rw [← hH]; exact set_same _ (by simp)
    have hkey2 : SlRep rInt R h2 wv ((T[at_].map (·.key)).getD []) := hkey.mono fun b hb => ⟨hb, k12.blk b (by have := hRl b hb; have := k1.size; omega) (fun h => h)⟩
    have hk2 : SlRep rInt G h2 (.slice ka key.length kc) key := hk.mono fun b hb => ⟨hb, k2.blk b (hG b hb) (fun h => h)⟩
    cases hta : T[at_] with
    | none =>
      have hit : hitM T key (probe key T.length i) = true := by unfold hitM; rw [hpe, hsat, hta]
      have hfm := find_hit hi hb hit
      rw [hta] at hfb
      simp -dsimp
      refine hK _ _ ⟨?_, k2⟩
      rw [hfm, hpe]
    | some c =>
      rw [hta] at hfb hkey2
      simp -dsimp [hfb]
      refine call_by (equal_spec hkey2 hk2) ?_
      rintro _ h2' ⟨rfl, hh⟩
      obtain rfl := hh.symm
      have hke : ((Option.map (fun x => x.key) (some c)).getD []) = c.key := rfl
      rw [hke]
      have hhit : hitM T key (probe key T.length i) = decide (c.key = key) := by unfold hitM; rw [hpe, hsat, hta]
      by_cases he : c.key = key
      · have hd : decide (c.key = key) = true := decide_eq_true he
        rw [hd]
        have hfm := find_hit hi hb (hhit.trans hd)
        simp -dsimp
        refine hK _ _ ⟨?_, k2⟩
        rw [hfm, hpe]
      · have hd : decide (c.key = key) = false := decide_eq_false he
        rw [hd]
        have hb' : ∀ j, j < i + 1 → hitM T key (probe key T.length j) = false := fun j hj => by
          by_cases hji : j < i
          · exact hb j hji
          · have : j = i := by omega
            subst this
            exact hhit.trans hd
        by_cases hin : i + 1 < T.length
        · have hin' : ((i : Int) + 1 < (T.length : Int)) := by omega
          simp -dsimp [w1, hin', w2, hrem, w3]
          refine ⟨rfl, i + 1, ?_, rfl, ⟨k2, hin, hb'⟩, by show T.length - (i + 1) < T.length - i; omega⟩
          intro p hp
          simp at hp
          rcases hp with rfl | rfl | rfl | rfl | rfl <;> simp
        · have hin' : ¬ ((i : Int) + 1 < (T.length : Int)) := by omega
          have hfm := find_miss (T := T) (key := key) fun j hj => hb' j (by omega)
          simp -dsimp [w1, hin']
          refine hK _ _ ⟨?_, k2⟩
          rw [hfm]
end Go.Proofs

/-
  Cells in memory of their own.
-/
namespace Go.HC
/-- No row of a cell is too long. -/
structure CellSmall (c : CellM) : Prop where
  key : c.key.length < 1000000000
  sum : c.sum.length < 1000000000
  mn : c.mn.length < 1000000000
  mx : c.mx.length < 1000000000
end Go.HC
namespace Go.Proofs
open Go Go.HC

set_option maxHeartbeats 40000000 in
set_option maxRecDepth 10000 in
theorem cellOwn_th {F : Nat → Prop} {h : Heap} {cs : List Value} {c : CellM} (hr : rCell.rep F h cs c) (hF : ∀ b, F b → b < h.size) (hc : CellSmall c) :
    CallH Try.prog 17 #[.agg cs.toArray] h fun r h' => ∃ ds G, r = .agg ds.toArray ∧ rCell.rep G h' ds c ∧ Keep none_ h h' ∧ (∀ b, G b → h.size ≤ b ∧ b < h'.size) ∧ ∀ b, G b → Thaw h' b := by
  refine callH_by fun K hK => ?_
  refine enter [.cell 2 31] Try.func17 rfl rfl (by kernel_rfl) rfl ?_
  obtain ⟨kv, sv, nv, xv, rfl, r1, r2, r3, r4⟩ := hr
  obtain ⟨ka, kc, rfl, _, _⟩ := r1.val
  obtain ⟨sa, sc, rfl, _, _⟩ := r2.val
  obtain ⟨na, nc, rfl, _, _⟩ := r3.val
  obtain ⟨xa, xc, rfl, _, _⟩ := r4.val
  simp -dsimp [boxS_eq]
  generalize hB : (h.push _).push _ = h0
  have hz0 : h0.size = h.size + 2 := by rw [← hB]; simp
  have k0 : Keep none_ h h0 := by rw [← hB]; exact ((Keep.refl none_ h).pushed _).pushed _
  have hb0 : h0[h.size]? = some (.cells #[.slice ka c.key.length kc, .int .i64 c.count, .slice sa c.sum.length sc, .slice na c.mn.length nc, .slice xa c.mx.length xc] 31 (0, 0)) := by rw [← hB]; exact push_at (push_new _ _)
  have ht0 : h.size + 1 < h0.size := by omega
  have m1 : ∀ (h' : Heap), Keep none_ h h' → ∀ b, F b → F b ∧ h'[b]? = h[b]? := fun h' k b hb => ⟨hb, k.blk b (hF b hb) (fun h => h)⟩
  refine drawn_by [⟨0, true, []⟩, ⟨1, true, []⟩, ⟨3, true, []⟩, ⟨4, true, []⟩, ⟨5, true, []⟩, ⟨6, true, []⟩, ⟨8, true, []⟩, ⟨9, true, []⟩, ⟨11, true, []⟩, ⟨12, true, []⟩, ⟨2, false, [3, 4, 5, 6, 8, 9, 11, 12]⟩, ⟨7, false, [3, 4, 8, 9, 11, 12]⟩, ⟨10, false, [3, 4, 11, 12]⟩, ⟨13, false, [3, 4]⟩, ⟨14, false, []⟩, ⟨15, false, []⟩] (by kernel_rfl) (by kernel_rfl) ?_
  simp -dsimp [hb0]
  refine call_by (cloneInt_spec (r1.mono (m1 h0 k0)) (fun b hb => by have := hF b hb; omega) (by have := hc.key; omega)) ?_
  rintro _ h1 ⟨o1, g1, k1, n1⟩
  obtain ⟨a1, c1, rfl⟩ := g1.val
  have k01 := k0.trans k1 (fun _ _ h => h)
  have hb1 := k1.at hb0 (fun h => h)
  have e1 := k1.size
  simp -dsimp [again_cons, hb1]
  refine call_by (cloneInt_spec (r2.mono (m1 h1 k01)) (fun b hb => by have := hF b hb; omega) (by have := hc.sum; omega)) ?_
  rintro _ h2 ⟨o2, g2, k2, n2⟩
  obtain ⟨a2, c2, rfl⟩ := g2.val
  have k02 := k01.trans k2 (fun _ _ h => h)
  have hb2 := k2.at hb1 (fun h => h)
  have e2 := k2.size
  simp -dsimp [again_cons, hb2]
  refine call_by (cloneInt_spec (r3.mono (m1 h2 k02)) (fun b hb => by have := hF b hb; omega) (by have := hc.mn; omega)) ?_
  rintro _ h3 ⟨o3, g3, k3, n3⟩
  obtain ⟨a3, c3, rfl⟩ := g3.val
  have k03 := k02.trans k3 (fun _ _ h => h)
  have hb3 := k3.at hb2 (fun h => h)
  have e3 := k3.size
  simp -dsimp [again_cons, hb3]
  refine call_by (cloneInt_spec (r4.mono (m1 h3 k03)) (fun b hb => by have := hF b hb; omega) (by have := hc.mx; omega)) ?_
  rintro _ h4 ⟨o4, g4, k4, n4⟩
  obtain ⟨a4, c4, rfl⟩ := g4.val
  have k04 := k03.trans k4 (fun _ _ h => h)
  have hb4 := k4.at hb3 (fun h => h)
  have e4 := k4.size
  have ht4 : h4[h.size + 1]? = some (.cells #[.slice none 0 0, .int .i64 0, .slice none 0 0, .slice none 0 0, .slice none 0 0] 31 (0, 0)) := by
    have : h0[h.size + 1]? = some (.cells #[.slice none 0 0, .int .i64 0, .slice none 0 0, .slice none 0 0, .slice none 0 0] 31 (0, 0)) := by
      rw [← hB]
      have : (h.push (.cells #[.slice ka c.key.length kc, .int .i64 c.count, .slice sa c.sum.length sc, .slice na c.mn.length nc, .slice xa c.mx.length xc] 31)).size = h.size + 1 := by simp
      rw [← this]; exact push_new _ _
    exact k4.at (k3.at (k2.at (k1.at this (fun h => h)) (fun h => h)) (fun h => h)) (fun h => h)
  have hset : ∀ o, (h4.setIfInBounds (h.size + 1) o)[h.size + 1]? = some o := fun o => set_same o (by omega)
  simp -dsimp [again_cons, hb4, ht4, hset]
  generalize hH : h4.setIfInBounds (h.size + 1) _ = h5
  have hz5 : h5.size = h4.size := by rw [← hH]; simp
  have hold : ∀ b, b ≠ h.size + 1 → h5[b]? = h4[b]? := fun b hn => by rw [← hH, set_other _ (fun e => hn e.symm)]
  have l1 := g1.own_lt
  have l2 := g2.own_lt
  have l3 := g3.own_lt
  have l4 := g4.own_lt
  refine hK _ _ ⟨_, fun b => o1 = some b ∨ o2 = some b ∨ o3 = some b ∨ o4 = some b, rfl, ⟨_, _, _, _, rfl, ?_, ?_, ?_, ?_⟩, ⟨by omega, fun b hb _ => by rw [hold b (by omega), k04.blk b hb (fun h => h)]⟩, ?_, ?_⟩
  · exact g1.ints.mono fun b hb => ⟨.inl hb, by
      have := n1 b hb
      have := l1 b hb
      rw [hold b (by omega), k4.blk b (by omega) (fun h => h), k3.blk b (by omega) (fun h => h), k2.blk b (by omega) (fun h => h)]⟩
  · exact g2.ints.mono fun b hb => ⟨.inr (.inl hb), by
      have := n2 b hb
      have := l2 b hb
      rw [hold b (by omega), k4.blk b (by omega) (fun h => h), k3.blk b (by omega) (fun h => h)]⟩
  · exact g3.ints.mono fun b hb => ⟨.inr (.inr (.inl hb)), by
      have := n3 b hb
      have := l3 b hb
      rw [hold b (by omega), k4.blk b (by omega) (fun h => h)]⟩
  · exact g4.ints.mono fun b hb => ⟨.inr (.inr (.inr hb)), by
      have := n4 b hb
      rw [hold b (by omega)]⟩
  · rintro b (hb | hb | hb | hb)
    · have := n1 b hb; have := l1 b hb; omega
    · have := n2 b hb; have := l2 b hb; omega
    · have := n3 b hb; have := l3 b hb; omega
    · have := n4 b hb; have := l4 b hb; omega
  · rintro b (hb | hb | hb | hb)
    · refine (g1.thaw b hb).at ?_
      have := n1 b hb; have := l1 b hb
      rw [hold b (by omega), k4.blk b (by omega) (fun h => h), k3.blk b (by omega) (fun h => h), k2.blk b (by omega) (fun h => h)]
    · refine (g2.thaw b hb).at ?_
      have := n2 b hb; have := l2 b hb
      rw [hold b (by omega), k4.blk b (by omega) (fun h => h), k3.blk b (by omega) (fun h => h)]
    · refine (g3.thaw b hb).at ?_
      have := n3 b hb; have := l3 b hb
      rw [hold b (by omega), k4.blk b (by omega) (fun h => h)]
    · refine (g4.thaw b hb).at ?_
      have := n4 b hb
      rw [hold b (by omega)]
theorem cellOwn_spec {F : Nat → Prop} {h : Heap} {cs : List Value} {c : CellM} (hr : rCell.rep F h cs c) (hF : ∀ b, F b → b < h.size) (hc : CellSmall c) :
    CallH Try.prog 17 #[.agg cs.toArray] h fun r h' => ∃ ds G, r = .agg ds.toArray ∧ rCell.rep G h' ds c ∧ Keep none_ h h' ∧ ∀ b, G b → h.size ≤ b ∧ b < h'.size :=
  (cellOwn_th hr hF hc).mono fun _ _ ⟨ds, G, e, r, k, n, _⟩ => ⟨ds, G, e, r, k, n⟩

set_option maxRecDepth 10000 in
theorem add_spec (x y : Int) (h : Heap) : CallH Try.prog 40 #[.int .i64 x, .int .i64 y] h fun r h' => r = .int .i64 (IntKind.i64.wrap (x + y)) ∧ h' = h := by
  refine enter [.tmp 4] Try.func40 rfl rfl (by kernel_rfl) rfl ?_
  simp -dsimp
set_option maxRecDepth 10000 in
theorem min_spec (x y : Int) (h : Heap) : CallH Try.prog 41 #[.int .i64 x, .int .i64 y] h fun r h' => r = .int .i64 (min x y) ∧ h' = h := by
  refine enter [.tmp 4] Try.func41 rfl rfl (by kernel_rfl) rfl ?_
  simp -dsimp
  done
set_option maxRecDepth 10000 in
theorem max_spec (x y : Int) (h : Heap) : CallH Try.prog 42 #[.int .i64 x, .int .i64 y] h fun r h' => r = .int .i64 (max x y) ∧ h' = h := by
  refine enter [.tmp 4] Try.func42 rfl rfl (by kernel_rfl) rfl ?_
  simp -dsimp
  done
end Go.Proofs

/-
  HC, part 23: a drawn region in which operations stand in no order, whatever they do; each one's own promise is kept whatever else has been done ahead.
-/
namespace Go.HC
/-- What is said of an operation: it looks, and sees v; or it acts, leaves all older blocks, and promises Q. -/
inductive Sp
  | look (v : Value)
  | act (Q : Value → Heap → Prop)
abbrev Sps := List (List Nat × Sp)
def dstOf (ops : List Oper) (i : Nat) : Option Tmp := (ops[i]?).bind (·.dst)
def rdsOf (sp : Sps) (i : Nat) : List Nat := ((sp[i]?).map (·.1)).getD []
/-- What earlier operations promised, as the frame shows it. -/
def rdS (ops : List Oper) (sp : Sps) (h1 : Heap) : List Nat → L → (L → Prop) → Prop
  | [], l, C => C l
  | j :: js, l, C => match sp[j]? with
    | some (_, .look v) => rdS ops sp h1 js (putl (dstOf ops j) v l) C
    | some (_, .act Q) => ∀ v hj, Q v hj → Keep none_ hj h1 → rdS ops sp h1 js (putl (dstOf ops j) v l) C
    | none => False
/-- The same, looked up. -/
def item (ops : List Oper) (sp : Sps) (j : Nat) : Option Tmp × Option Sp := (dstOf ops j, (sp[j]?).map (·.2))
def rdI (h1 : Heap) : List (Option Tmp × Option Sp) → L → (L → Prop) → Prop
  | [], l, C => C l
  | (d, s) :: r, l, C => match s with
    | some (.look v) => rdI h1 r (putl d v l) C
    | some (.act Q) => ∀ v hj, Q v hj → Keep none_ hj h1 → rdI h1 r (putl d v l) C
    | none => False
def doS (P : Program) (o : Option Oper) (s : Sp) (l : L) (b : Base) (h1 : Heap) : Prop :=
  match o with
  | none => False
  | some o => match s with
    | .look v => vop P o.op (ev l b) h1 = some v
    | .act Q => os P o l b h1 (fun v h2 => Keep none_ h1 h2 ∧ Q v h2)
def obl (P : Program) (ops : List Oper) (sp : Sps) (l : L) (b : Base) (h : Heap) : Nat → Sps → Prop
  | _, [] => True
  | i, (rd, s) :: rest => (∀ h1, Keep none_ h h1 → rdS ops sp h1 rd l (fun l' => doS P ops[i]? s l' b h1)) ∧ obl P ops sp l b h (i + 1) rest

def anyOk (ops : List Oper) (rds : List (List Nat)) (tail : List Di) : Bool :=
  (!Region.departs ops.toArray || (upM .text ops.toArray && upM .gc ops.toArray)) && upB ops.toArray && Region.noSelect ops.toArray && decide (rds.length ≤ ops.length) &&
  ((List.range rds.length).all fun i => match ops[i]? with
    | none => false
    | some o => o.guard.isNone && o.dst.isSome && ((rds.getD i []).all fun j => decide (j < rds.length) && (depsOf ops.toArray i).contains j) &&
      o.op.operands.toList.all fun x => match x with
        | .tmp t => ((rds.getD i []).any fun j => dstOf ops j == some t) || ((List.range rds.length).all fun j => dstOf ops j != some t)
        | _ => true) &&
  ((List.range rds.length).all fun i => (List.range rds.length).all fun j => i == j || dstOf ops i != dstOf ops j) &&
  (tail.all fun d => decide (rds.length ≤ d.i) && (List.range rds.length).all fun x => anc ops.toArray ops.length x d.i) &&
  pairB ops.toArray tail && (List.range rds.length ++ tail.map (·.i)).isPerm (List.range ops.length) &&
  tail.all fun d => !d.mv || (match ops[d.i]? with | some o => valOp o.op | none => false)

def putsL (ops : List Oper) (vals : Nat → Value) : List Nat → L → L
  | [], l => l
  | j :: js, l => putsL ops vals js (putl (dstOf ops j) (vals j) l)

section
variable {P : Program} {ops : List Oper} {sp : Sps}
def Post (sp : Sps) (i : Nat) (v : Value) (h1 : Heap) : Prop :=
  match sp[i]? with
  | some (_, .look u) => v = u
  | some (_, .act Q) => ∃ hj, Q v hj ∧ Keep none_ hj h1
  | none => False
theorem Post.keep {i : Nat} {v : Value} {h1 h2 : Heap} (hp : Post sp i v h1) (k : Keep none_ h1 h2) : Post sp i v h2 := by
  unfold Post at hp ⊢
  split at hp
  · exact hp
  · obtain ⟨hj, hq, hk⟩ := hp
    exact ⟨hj, hq, hk.trans k fun _ _ h => h⟩
  · exact hp
theorem rdS_use {h1 : Heap} {vals : Nat → Value} {C : L → Prop} : ∀ (js : List Nat) {l : L}, (∀ j ∈ js, Post sp j (vals j) h1) → rdS ops sp h1 js l C → C (putsL ops vals js l)
  | [], _, _, h => h
  | j :: js, l, hp, h => by
    have hj := hp j (List.mem_cons_self ..)
    have hp' : ∀ j ∈ js, Post sp j (vals j) h1 := fun i hi => hp i (List.mem_cons_of_mem _ hi)
    unfold rdS at h
    unfold Post at hj
    split at h
    · rename_i hs
      rw [hs] at hj
      have hj : vals j = _ := hj
      rw [← hj] at h
      exact rdS_use js hp' h
    · rename_i hs
      rw [hs] at hj
      obtain ⟨hh, hq, hk⟩ := hj
      exact rdS_use js hp' (h _ _ hq hk)
    · exact h.elim
theorem rdS_mono {h1 : Heap} {C C' : L → Prop} : ∀ (js : List Nat) {l : L}, rdS ops sp h1 js l C → (∀ l, C l → C' l) → rdS ops sp h1 js l C'
  | [], _, h, hc => hc _ h
  | j :: js, l, h, hc => by
    unfold rdS at h ⊢
    split at h
    · exact rdS_mono js h hc
    · exact fun v hj hq hk => rdS_mono js (h v hj hq hk) hc
    · exact h
theorem rdS_of_rdI {h1 : Heap} {C : L → Prop} : ∀ (js : List Nat) {l : L}, rdI h1 (js.map (item ops sp)) l C → rdS ops sp h1 js l C
  | [], _, h => h
  | j :: js, l, h => by
    unfold rdS
    rw [List.map_cons] at h
    unfold item rdI at h
    split
    · rename_i hs
      rw [hs] at h
      exact rdS_of_rdI js h
    · rename_i hs
      rw [hs] at h
      exact fun v hj hq hk => rdS_of_rdI js (h v hj hq hk)
    · rename_i hs
      rw [hs] at h
      exact h
theorem look_putl_ne {d : Option Tmp} {v : Value} {l : L} {b : Base} {t : Nat} (h : d ≠ some t) : look (putl d v l) b t = look l b t := by
  cases d with
  | none => rfl
  | some d =>
    have hne : d ≠ t := fun e => h (by rw [e])
    simp [putl, hne]
theorem look_puts_ne {vals : Nat → Value} {b : Base} {t : Nat} : ∀ (js : List Nat) {l : L}, (∀ j ∈ js, dstOf ops j ≠ some t) → look (putsL ops vals js l) b t = look l b t
  | [], _, _ => rfl
  | j :: js, l, h => by
    unfold putsL
    rw [look_puts_ne js (fun i hi => h i (List.mem_cons_of_mem _ hi)), look_putl_ne (h j (List.mem_cons_self ..))]
theorem look_puts_eq {vals : Nat → Value} {b : Base} {t j : Nat} (hj : dstOf ops j = some t) : ∀ (js : List Nat) {l : L}, (∀ i ∈ js, dstOf ops i = some t → i = j) → j ∈ js → look (putsL ops vals js l) b t = vals j
  | [], _, _, h => by cases h
  | i :: js, l, hu, h => by
    unfold putsL
    by_cases hm : j ∈ js
    · exact look_puts_eq hj js (fun x hx => hu x (List.mem_cons_of_mem _ hx)) hm
    · have hij : i = j := by
        rcases List.mem_cons.1 h with h | h
        · exact h.symm
        · exact absurd h hm
      subst hij
      rw [look_puts_ne js (fun x hx he => hm (hu x (List.mem_cons_of_mem _ hx) he ▸ hx)), hj]
      simp [putl]
theorem obl_get {l : L} {b : Base} {h : Heap} : ∀ (rest : Sps) (i : Nat) {k : Nat} {rd : List Nat} {s : Sp}, obl P ops sp l b h i rest → rest[k]? = some (rd, s) →
    ∀ h1, Keep none_ h h1 → rdS ops sp h1 rd l (fun l' => doS P ops[i + k]? s l' b h1)
  | [], _, _, _, _, _, hk => by simp at hk
  | (rd', s') :: rest, i, k, rd, s, ho, hk => by
    cases k with
    | zero =>
      simp only [List.getElem?_cons_zero, Option.some.injEq, Prod.mk.injEq] at hk
      obtain ⟨rfl, rfl⟩ := hk
      exact ho.1
    | succ k =>
      rw [List.getElem?_cons_succ] at hk
      have := obl_get rest (i + 1) ho.2 hk
      rw [show i + 1 + k = i + (k + 1) by omega] at this
      exact this

/-- What holds while operations are done. -/
structure Mid (P : Program) (ops : List Oper) (sp : Sps) (n : Nat) (l : L) (b : Base) (h : Heap) (E : List Nat) (a : Act) (h1 : Heap) : Prop where
  size : a.tmps.size = n
  defers : a.defers = b.d.map markOf
  other : ∀ t, (∀ j ∈ E, dstOf ops j ≠ some t) → a.tmps.getD t undef = look l b t
  val : ∀ j ∈ E, ∃ d, dstOf ops j = some d ∧ Post sp j (a.tmps.getD d undef) h1
  keep : Keep none_ h h1
def valsOf (ops : List Oper) (a : Act) (j : Nat) : Value := match dstOf ops j with | some d => a.tmps.getD d undef | none => undef
theorem Mid.post {n : Nat} {l : L} {b : Base} {h h1 : Heap} {E : List Nat} {a : Act} (m : Mid P ops sp n l b h E a h1) : ∀ j ∈ E, Post sp j (valsOf ops a j) h1 := by
  intro j hj
  obtain ⟨d, hd, hp⟩ := m.val j hj
  unfold valsOf
  rw [hd]; exact hp
theorem Mid.look {n : Nat} {l : L} {b : Base} {h h1 : Heap} {E : List Nat} {a : Act} (m : Mid P ops sp n l b h E a h1) {js : List Nat} (hjs : ∀ j ∈ js, j ∈ E) (hu : ∀ i ∈ E, ∀ j ∈ E, dstOf ops i = dstOf ops j → i = j) {t : Nat}
    (ht : (∃ j ∈ js, dstOf ops j = some t) ∨ ∀ j ∈ E, dstOf ops j ≠ some t) : a.tmps.getD t undef = HC.look (putsL ops (valsOf ops a) js l) b t := by
  by_cases hex : ∃ j ∈ js, dstOf ops j = some t
  · obtain ⟨j, hj, hd⟩ := hex
    rw [look_puts_eq hd js (fun i hi he => hu i (hjs i hi) j (hjs j hj) (by rw [he, hd])) hj]
    unfold valsOf
    rw [hd]
  · have hE := ht.resolve_left hex
    rw [look_puts_ne js (fun j hj => hE j (hjs j hj))]
    exact m.other t hE
theorem getD_setIfInBounds (a : Array Value) (d t : Nat) (v : Value) (hd : d < a.size) : (a.setIfInBounds d v).getD t undef = if d = t then v else a.getD t undef := by
  by_cases h : d = t
  · subst h; simp [hd]
  · simp [h, Array.getElem?_setIfInBounds_ne h]
theorem Mid.step {n : Nat} {l : L} {b : Base} {h h1 h2 : Heap} {E : List Nat} {a : Act} {s d : Nat} {v : Value} (m : Mid P ops sp n l b h E a h1) (hd : dstOf ops s = some d) (hdn : d < n) (hu : ∀ j ∈ E, dstOf ops j ≠ some d) (hk : Keep none_ h1 h2) (hp : Post sp s v h2) :
    Mid P ops sp n l b h (s :: E) (a.put (some d) v) h2 := by
  have hsz : d < a.tmps.size := by rw [m.size]; exact hdn
  refine ⟨by simp [Act.put, m.size], m.defers, fun t ht => ?_, fun j hj => ?_, m.keep.trans hk fun _ _ h => h⟩
  · have hne : d ≠ t := fun e => ht s (List.mem_cons_self ..) (by rw [hd, e])
    show (a.tmps.setIfInBounds d v).getD t undef = _
    rw [getD_setIfInBounds _ _ _ _ hsz, if_neg hne]
    exact m.other t fun j hj => ht j (List.mem_cons_of_mem _ hj)
  · show ∃ d', dstOf ops j = some d' ∧ Post sp j ((a.tmps.setIfInBounds d v).getD d' undef) h2
    rcases List.mem_cons.1 hj with rfl | hj
    · refine ⟨d, hd, ?_⟩
      rw [getD_setIfInBounds _ _ _ _ hsz, if_pos rfl]
      exact hp
    · obtain ⟨d', hd', hp'⟩ := m.val j hj
      refine ⟨d', hd', ?_⟩
      rw [getD_setIfInBounds _ _ _ _ hsz, if_neg (fun e => hu j hj (by rw [hd', e]))]
      exact hp'.keep hk
theorem ev_other {l l' : L} {b : Base} {x : Operand} (h : ∀ t, x ≠ .tmp t) : ev l b x = ev l' b x := by
  cases x with
  | tmp t => exact absurd rfl (h t)
  | const v => rfl
  | global k => rfl
  | func f => rfl
theorem any_arun {n : Nat} {κ : L → Base → Heap → Prop} {l : L} {b : Base} {h : Heap} (sp : Sps) (tail : List Di) (hok : anyOk ops (sp.map (·.1)) tail = true) (hopn : opsOk n ops.toArray = true)
    (hob : obl P ops sp l b h 0 sp) (hfin : ∀ h1, Keep none_ h h1 → rdS ops sp h1 (List.range sp.length) l (fun l' => dsem P ops.toArray tail [] κ l' b h1)) :
    ∀ (σ : List Nat) (E : List Nat) (a : Act) (h1 : Heap), (E ++ σ).Perm (List.range ops.length) → (∀ j ∈ E, j < sp.length) → DownC ops.toArray E → Lin ops.toArray E σ → Mid P ops sp n l b h E a h1 →
      arun P ops.toArray σ (fun a' h' => ∃ l', IsFr n a' l' b ∧ κ l' b h') a h1 := by
  unfold anyOk at hok
  simp only [List.length_map] at hok
  rw [Bool.and_eq_true, Bool.and_eq_true, Bool.and_eq_true, Bool.and_eq_true, Bool.and_eq_true, Bool.and_eq_true, Bool.and_eq_true, Bool.and_eq_true, Bool.and_eq_true] at hok
  obtain ⟨⟨⟨⟨⟨⟨⟨⟨⟨_, _⟩, hsel⟩, hle⟩, hops⟩, hdst⟩, htl⟩, hpair⟩, hperm⟩, hval⟩ := hok
  have hle := of_decide_eq_true hle
  have hperm := List.isPerm_iff.1 hperm
  have huniq : ∀ i, i < sp.length → ∀ j, j < sp.length → dstOf ops i = dstOf ops j → i = j := by
    intro i hi j hj he
    have h1 := List.all_eq_true.1 (List.all_eq_true.1 hdst i (List.mem_range.2 hi)) j (List.mem_range.2 hj)
    rcases Bool.or_eq_true_iff.1 h1 with h1 | h1
    · simpa using h1
    · simp [he] at h1
  have hnd : ∀ {σ E : List Nat}, (E ++ σ).Perm (List.range ops.length) → (E ++ σ).Nodup := fun hp => hp.symm.nodup List.nodup_range
  have hfinish : ∀ (σ : List Nat) (E : List Nat) (a : Act) (h1 : Heap), (E ++ σ).Perm (List.range ops.length) → (∀ j ∈ E, j < sp.length) → DownC ops.toArray E → Lin ops.toArray E σ → Mid P ops sp n l b h E a h1 → (∀ i, i < sp.length → i ∈ E) →
      arun P ops.toArray σ (fun a' h' => ∃ l', IsFr n a' l' b ∧ κ l' b h') a h1 := by
    intro σ E a h1 hp hE hdc hlin m hall
    have hEp : E.Perm (List.range sp.length) := (List.perm_ext_iff_of_nodup (List.nodup_append.1 (hnd hp)).1 List.nodup_range).2 fun j => ⟨fun hj => List.mem_range.2 (hE j hj), fun hj => hall j (List.mem_range.1 hj)⟩
    have hσ : σ.Perm (tail.map (·.i)) := by
      have h1 : (E ++ σ).Perm (E ++ tail.map (·.i)) := hp.trans (hperm.symm.trans (hEp.symm.append_right _))
      exact (List.perm_append_left_iff E).1 h1
    have hfr : IsFr n a (putsL ops (valsOf ops a) (List.range sp.length) l) b := by
      refine ⟨m.size, fun t => ?_, m.defers⟩
      refine m.look (fun j hj => hall j (List.mem_range.1 hj)) (fun i hi j hj he => huniq i (hE i hi) j (hE j hj) he) ?_
      by_cases hex : ∃ j ∈ List.range sp.length, dstOf ops j = some t
      · exact .inl hex
      · exact .inr fun j hj he => hex ⟨j, List.mem_range.2 (hE j hj), he⟩
    have hd := rdS_use (ops := ops) (vals := valsOf ops a) (List.range sp.length) (fun j hj => m.post j (hall j (List.mem_range.1 hj))) (hfin h1 m.keep)
    have hval' : tail.all (fun d => !d.mv || (match ops.toArray[d.i]? with | some o => valOp o.op | none => false)) = true := by
      simpa only [List.getElem?_toArray] using hval
    have hcr := crun_of_dsem (P := P) hopn tail (pa := []) hval' (by simp) hfr hd
    refine arun_of_crun hsel σ tail E [] a h1 hσ (List.nodup_append.1 (hnd hp)).2.1 (fun d hd => ?_) hdc hlin (fun d hd he => ?_) hpair hcr
    · have h2 : d.i ∈ List.range ops.length := hperm.subset (List.mem_append_right _ (List.mem_map.2 ⟨d, hd, rfl⟩))
      have h3 := List.mem_range.1 h2
      simp [h3]
    · have h1 := List.all_eq_true.1 htl d hd
      rw [Bool.and_eq_true] at h1
      have h2 := of_decide_eq_true h1.1
      have h3 := hE _ he
      omega
  intro σ
  induction σ with
  | nil =>
    intro E a h1 hp hE hdc hlin m
    refine hfinish [] E a h1 hp hE hdc hlin m fun i hi => ?_
    have := hp.symm.subset (List.mem_range.2 (Nat.lt_of_lt_of_le hi hle))
    simpa using this
  | cons s σ ih =>
    intro E a h1 hp hE hdc hlin m
    by_cases hall : ∀ i, i < sp.length → i ∈ E
    · exact hfinish _ E a h1 hp hE hdc hlin m hall
    have hsm : s < sp.length := by
      refine Classical.byContradiction fun hns => hall fun i hi => ?_
      have hsr : s ∈ List.range sp.length ++ tail.map (·.i) := hperm.symm.subset (hp.subset (List.mem_append_right _ (List.mem_cons_self ..)))
      rcases List.mem_append.1 hsr with h2 | h2
      · exact absurd (List.mem_range.1 h2) hns
      · obtain ⟨d, hd, hds⟩ := List.mem_map.1 h2
        have h3 := List.all_eq_true.1 htl d hd
        rw [Bool.and_eq_true] at h3
        have h4 := List.all_eq_true.1 h3.2 i (List.mem_range.2 hi)
        rw [hds] at h4
        exact anc_mem hdc _ _ _ hlin.1 h4
    have hsE : s ∉ E := fun he => (List.nodup_append.1 (hnd hp)).2.2 _ he _ (List.mem_cons_self ..) rfl
    have hso := List.all_eq_true.1 hops s (List.mem_range.2 hsm)
    have hlt : s < ops.length := Nat.lt_of_lt_of_le hsm hle
    simp only [List.getElem?_eq_getElem hlt] at hso
    have hos : ops.toArray[s]? = some ops[s] := by simp [hlt]
    rw [Bool.and_eq_true, Bool.and_eq_true, Bool.and_eq_true] at hso
    obtain ⟨⟨⟨hg, hds⟩, hrd⟩, hopr⟩ := hso
    obtain ⟨rd, q, hsp⟩ : ∃ rd q, sp[s]? = some (rd, q) := ⟨_, _, List.getElem?_eq_getElem hsm⟩
    have hrde : (sp.map (·.1)).getD s [] = rd := by
      rw [List.getD_eq_getElem?_getD, List.getElem?_map, hsp]; rfl
    rw [hrde] at hrd hopr
    have hrE : ∀ j ∈ rd, j ∈ E := by
      intro j hj
      have h2 := List.all_eq_true.1 hrd j hj
      rw [Bool.and_eq_true] at h2
      exact hlin.1 j (by simpa using h2.2)
    obtain ⟨d, hd⟩ := Option.isSome_iff_exists.1 hds
    have hdst' : dstOf ops s = some d := by unfold dstOf; rw [List.getElem?_eq_getElem hlt]; exact hd
    have hdn : d < n := opsOk_spec hopn hos d hd
    have hgn : ops[s].guard = none := by simpa using hg
    have hwant : wanted ops.toArray ops[s] a = true := by unfold wanted Region.wanted; rw [hgn]
    have hgu : ∀ i ∈ E, ∀ j ∈ E, dstOf ops i = dstOf ops j → i = j := fun i hi j hj he => huniq i (hE i hi) j (hE j hj) he
    have heval : execOp a.eval ops[s] = execOp (ev (putsL ops (valsOf ops a) rd l) b) ops[s] := by
      refine execOp_congr _ (fun cs b => Region.noSelect_spec hsel _ _ cs b hos) fun x hx => ?_
      have hfr0 : IsFr n a [] ⟨fun t => a.tmps.getD t undef, b.d⟩ := ⟨m.size, fun _ => rfl, m.defers⟩
      have h2 := List.all_eq_true.1 hopr x (by simpa using hx)
      cases x with
      | tmp t =>
        refine m.look (js := rd) hrE hgu ?_
        rcases Bool.or_eq_true_iff.1 h2 with h2 | h2
        · obtain ⟨j, hj, he⟩ := List.any_eq_true.1 h2
          exact .inl ⟨j, hj, by simpa using he⟩
        · refine .inr fun j hj he => ?_
          have h3 := List.all_eq_true.1 h2 j (List.mem_range.2 (hE j hj))
          simp [he] at h3
      | const v => rfl
      | global k => rfl
      | func f => rfl
    have hdo := rdS_use (ops := ops) (vals := valsOf ops a) rd (fun j hj => m.post j (hrE j hj)) (obl_get sp 0 hob hsp h1 m.keep)
    rw [Nat.zero_add, List.getElem?_eq_getElem hlt] at hdo
    have hp' : (s :: E ++ σ).Perm (List.range ops.length) := (List.perm_middle.symm).trans hp
    have hE' : ∀ j ∈ s :: E, j < sp.length := fun j hj => by
      rcases List.mem_cons.1 hj with rfl | hj
      · exact hsm
      · exact hE j hj
    have hdc' : DownC ops.toArray (s :: E) := by
      intro y hy z hz
      rcases List.mem_cons.1 hy with rfl | hy
      · exact List.mem_cons_of_mem _ (hlin.1 z hz)
      · exact List.mem_cons_of_mem _ (hdc y hy z hz)
    have hun : ∀ j ∈ E, dstOf ops j ≠ some d := fun j hj he => hsE (huniq j (hE j hj) s hsm (by rw [he, hdst']) ▸ hj)
    simp only [arun, hos]
    rw [if_pos hwant, heval, hd]
    cases q with
    | look v =>
      have hv : vop P ops[s].op (ev (putsL ops (valsOf ops a) rd l) b) h1 = some v := hdo
      have hvs : os P ops[s] (putsL ops (valsOf ops a) rd l) b h1 (fun v' h' => v' = v ∧ h' = h1) := vop_sound hv _ ⟨rfl, rfl⟩
      refine hp_mono _ hvs fun x h' hx => nextK_mono (fun v' h'' hh => ?_) x h' hx
      obtain ⟨rfl, rfl⟩ := hh
      exact ih (s :: E) _ _ hp' hE' hdc' hlin.2 (m.step hdst' hdn hun (.refl _ _) (by unfold Post; rw [hsp]))
    | act Q =>
      have hvs : os P ops[s] (putsL ops (valsOf ops a) rd l) b h1 (fun v h2 => Keep none_ h1 h2 ∧ Q v h2) := hdo
      refine hp_mono _ hvs fun x h' hx => nextK_mono (fun v' h'' hh => ?_) x h' hx
      exact ih (s :: E) _ _ hp' hE' hdc' hlin.2 (m.step hdst' hdn hun hh.1 (by unfold Post; rw [hsp]; exact ⟨_, hh.2, .refl _ _⟩))
/-- A drawn region, in any order. -/
theorem drawn_any {n : Nat} {ro : Option Nat} {id : Nat} {κ : Kont} {l : L} {b : Base} {h : Heap} (sp : Sps) (is : List Nat) (tail : List Di) (his : List.range sp.length = is) (hok : anyOk ops (sp.map (·.1)) tail = true) (hopn : opsOk n ops.toArray = true)
    (hob : obl P ops sp l b h 0 sp) (hfin : ∀ h1, Keep none_ h h1 → rdI h1 (is.map (item ops sp)) l (fun l' => dw P ops tail [] κ.nx l' b h1)) : gs P n ro (.region id ops.toArray true) κ l b h := by
  intro a w hw hfr fr k cs hkd hro
  subst hw
  subst his
  have hd := hok
  unfold anyOk at hd
  rw [Bool.and_eq_true, Bool.and_eq_true, Bool.and_eq_true, Bool.and_eq_true, Bool.and_eq_true, Bool.and_eq_true, Bool.and_eq_true, Bool.and_eq_true, Bool.and_eq_true] at hd
  obtain ⟨⟨⟨⟨⟨⟨⟨⟨⟨hdep, hup⟩, _⟩, _⟩, _⟩, _⟩, _⟩, _⟩, _⟩, _⟩ := hd
  let tp := w.tape w.drawn (.order fr.fn id)
  obtain ⟨hp1, hlin⟩ := sched_all (mixed := P.follows .mixedOrders) hdep hup tp
  have hfin' : ∀ h1, Keep none_ w.heap h1 → rdS ops sp h1 (List.range sp.length) l (fun l' => dsem P ops.toArray tail [] κ.nx l' b h1) := fun h1 hk => rdS_mono _ (rdS_of_rdI _ (hfin h1 hk)) fun l' hl' => dsem_of_dwF tail (by simp) hl'
  have har := any_arun (P := P) (κ := κ.nx) (l := l) (b := b) (h := w.heap) sp tail hok hopn hob hfin' _ [] a w.heap (by simpa using hp1) (fun j hj => by cases hj) (fun y hy => by cases hy) hlin
    ⟨hfr.size, hfr.defers, fun t _ => hfr.slot t, (fun j hj => by cases hj), .refl _ _⟩
  obtain ⟨a', w', hs, ⟨l', hfr', hk⟩, hst⟩ := steps_arun (P := P) (d := b.d) (fr := fr) (k := k) (cs := cs) hopn _ (w := { w with drawn := w.drawn + 1 }) hfr.size hfr.defers har
  exact ⟨.nx, a', w', l', b, ⟨hs.os, hs.tape, hs.output, (by first | exact hs.drawn | exact Nat.le_trans (Nat.le_succ _) hs.drawn)⟩, hfr', hk, .head stepR_region_draw hst⟩
/-- append onto a slice of no capacity. -/
theorem clone_at {h : Heap} {K : Value → Heap → Prop} {α : Type} {R : Rp α} {F F2 : Nat → Prop} {ty : TypeId} {T e by_ bk : Nat} {cs : Array Bool} {xs : List α} {a : Option Addr} {n c2 : Nat} {news : List Value} (hT : ElemT P T e R by_) (hF : ∀ b, F b → b < h.size)
    (hb : h[bk]? = some (.cells #[] e (0, 0))) (hFb : ¬ F bk) (hn : n = xs.length) (hrn : Cells F2 h a news) (hel : Elems R F h news xs) (hbig : xs.length * by_ ≤ 140737488355328) (h63 : xs.length < 9223372036854775808)
    (hk : ∀ v' h' own', Grow R e F h' v' xs own' → Keep none_ h h' → (∀ b, own' = some b → b = bk ∨ h.size ≤ b) → K v' h') :
    builtinS P .append #[T, T] ty cs #[.slice (some ⟨bk, 0, none⟩) 0 0, .slice a n c2] h K := by
  obtain ⟨z, hz, hzs⟩ := hT.zero
  subst hn
  have hnl := hel.len
  refine append_cells (F := F2) hT.el hT.sz hT.by_ hz R.pos (old := []) (by simp) (.nil _ _ _) hnl hrn (by simpa using hbig) (by simpa using h63) ?_ ?_ ?_
  · intro h0 _
    have : xs = [] := List.eq_nil_of_length_eq_zero h0
    subst this
    exact hk _ _ (some bk) (.inr ⟨bk, 0, #[], [], rfl, rfl, hb, hFb, by simp, Nat.le_refl _, by decide, by simp, rfl⟩) (.refl _ _) (fun b hb => by cases hb; exact .inl rfl)
  · intro h0 hroom
    omega
  · intro hgr cap hcap hcap63
    have hnew : ¬ F h.size := fun hh => by have := hF _ hh; omega
    have e0 : 0 + xs.length = xs.length := by omega
    rw [e0] at hcap ⊢
    refine hk _ _ (some h.size) (.inr ⟨h.size, cap, _, news, rfl, rfl, push_new _ _, hnew, ?_, hcap, hcap63, ?_, ?_⟩)
      (.push _ _ _) (fun b hb => .inr (by cases hb; exact Nat.le_refl _))
    · simp only [Array.size_append, List.size_toArray, zeroCells_size, hzs, hnl, List.length_nil, Nat.zero_add]
      rw [← Nat.add_mul]
      congr 1
      omega
    · rw [← hnl]
      simp only [Array.toList_append, List.nil_append]
      exact List.take_left
    · exact hel.mono fun b hFb => ⟨hFb, push_old _ (hF b hFb)⟩
end
end Go.HC

/-
  The document's copy of a cell.
-/
namespace Go.Proofs
open Go Go.HC

theorem _root_.Go.HC.Grow.at_ {h h' : Heap} {v : Value} {xs : List Int} {e : Nat} {own : Option Nat} (g : Grow rInt e none_ h v xs own) (k : Keep none_ h h') : Grow rInt e none_ h' v xs own :=
  g.mono (fun _ h => h.elim) fun b hb => ⟨fun h => h, k.blk b (g.own_lt b hb) (fun h => h)⟩
/-- A slice without cells, at a block that is new. -/
def EmptyAt (n0 : Nat) : Value → Heap → Prop := fun v h => ∃ b, v = .slice (some ⟨b, 0, none⟩) 0 0 ∧ h[b]? = some (.cells #[] 3 (0, 0)) ∧ n0 ≤ b
/-- A new slice that holds these. -/
def NewInts (n0 : Nat) (xs : List Int) : Value → Heap → Prop := fun v h => ∃ own, Grow rInt 3 none_ h v xs own ∧ ∀ b, own = some b → n0 ≤ b
set_option maxRecDepth 10000 in
theorem newInts_app {K : Value → Heap → Prop} {ty : TypeId} {cs : Array Bool} {h0 h1 h2 : Heap} {F : Nat → Prop} {v : Value} {xs : List Int} {a : Option Addr} {c : Nat} (hv : EmptyAt h0.size v h1) (k12 : Keep none_ h1 h2) (k02 : Keep none_ h0 h2) (hx : SlRep rInt F h0 (.slice a xs.length c) xs) (hF : ∀ b, F b → b < h0.size) (hn : xs.length < 1000000000)
    (hk : ∀ v' h', Keep none_ h2 h' ∧ NewInts h0.size xs v' h' → K v' h') : builtinS Try.prog .append #[29, 29] ty cs #[v, .slice a xs.length c] h2 K := by
  obtain ⟨b, rfl, hb, hle⟩ := hv
  obtain ⟨a', c', cs', hv', h1', h2', h3, h4⟩ := hx
  cases hv'
  have s := k02.size
  refine clone_at (F := none_) (F2 := F) (xs := xs) intT (fun _ h => h.elim) (k12.at hb (fun h => h)) (fun h => h.elim) rfl (h3.mono fun b hb => ⟨hb, k02.blk b (hF b hb) (fun h => h)⟩) (ints_map.2 (ints_map.1 h4)) (by omega) (by omega) ?_
  intro v' h' own' hg hk' ho
  refine hk v' h' ⟨hk', own', hg, fun b hb => ?_⟩
  rcases ho b hb with rfl | h
  · exact hle
  · omega

end Go.Proofs

/-
  HC, part 24: footprints with a bound; what may be changed; a slice that grows among them; small words for the walk.
-/
namespace Go.HC
/-- The blocks from n on that are there, and are not to be changed. -/
def Ft (n : Nat) (M : Nat → Prop) (h : Heap) : Nat → Prop := fun b => Nw n h b ∧ b < h.size ∧ ¬ M b
abbrev Old (h : Heap) : Nat → Prop := Ft 0 none_ h
theorem Old.lt {h : Heap} : ∀ b, Old h b → b < h.size := fun _ h => h.2.1
theorem Ft.lt {n : Nat} {M : Nat → Prop} {h : Heap} : ∀ b, Ft n M h b → b < h.size := fun _ h => h.2.1
/-- From h to h' only blocks of M have changed; what may be changed now could be so, or is new. -/
structure Tr (M M' : Nat → Prop) (h h' : Heap) : Prop where
  keep : Keep M h h'
  new : ∀ b, M' b → M b ∨ h.size ≤ b
  lt : ∀ b, M' b → b < h'.size
section
variable {M M' M'' : Nat → Prop} {h h' h'' : Heap} {n n' : Nat}
theorem Tr.start (h : Heap) : Tr none_ none_ h h := ⟨.refl _ _, fun _ h => .inl h, fun _ h => h.elim⟩
theorem Tr.here (t : Tr M M' h h') : Tr M' M' h' h' := ⟨.refl _ _, fun _ h => .inl h, t.lt⟩
theorem Tr.size (t : Tr M M' h h') : h.size ≤ h'.size := t.keep.size
theorem Tr.trans (t : Tr M M' h h') (t' : Tr M' M'' h' h'') : Tr M M'' h h'' := by
  have s := t.keep.size
  refine ⟨⟨Nat.le_trans s t'.keep.size, fun b hb hm => ?_⟩, fun b hb => ?_, t'.lt⟩
  · have : ¬ M' b := fun hm' => (t.new b hm').elim hm (fun h => by omega)
    rw [t'.keep.blk b (by omega) this, t.keep.blk b hb hm]
  · rcases t'.new b hb with h1 | h1
    · exact t.new b h1
    · exact .inr (by omega)
theorem Tr.ft (t : Tr M M' h h') (hn : n' ≤ n) : ∀ b, Ft n M h b → Ft n' M' h' b ∧ h'[b]? = h[b]? := fun b hb =>
  ⟨⟨hb.1.at hn (t.keep.blk b hb.2.1 hb.2.2), Nat.lt_of_lt_of_le hb.2.1 t.keep.size, fun hm => (t.new b hm).elim hb.2.2 (fun h => by have := hb.2.1; omega)⟩, t.keep.blk b hb.2.1 hb.2.2⟩
/-- What is as old as h, whatever n. -/
theorem Tr.old (t : Tr none_ M h h') : ∀ b, Ft n none_ h b → Ft 0 M h' b ∧ h'[b]? = h[b]? := t.ft (Nat.zero_le _)
theorem Tr.call (t : Tr M M' h h') (k : Keep none_ h' h'') : Tr M M' h h'' :=
  t.trans ⟨⟨k.size, fun b hb _ => k.blk b hb (fun h => h)⟩, fun _ h => .inl h, fun b hb => Nat.lt_of_lt_of_le (t.lt b hb) k.size⟩
theorem Tr.push (t : Tr M M' h h') (o : Obj) : Tr M M' h (h'.push o) := t.call (.push _ _ _)
theorem Tr.pushM (t : Tr M M' h h') (o : Obj) : Tr M (fun b => M' b ∨ b = h'.size) h (h'.push o) :=
  t.trans ⟨.push _ _ _, fun b hb => hb.imp id fun e => by omega, fun b hb => by
    have : (h'.push o).size = h'.size + 1 := by simp
    rcases hb with hb | hb
    · have := t.lt b hb; omega
    · omega⟩
theorem Tr.set (t : Tr M M' h h') {b : Nat} (o : Obj) (hb : M' b) : Tr M M' h (h'.setIfInBounds b o) :=
  t.trans ⟨.set _ _ fun _ => hb, fun _ h => .inl h, fun c hc => by simpa using t.lt c hc⟩
theorem Tr.less (t : Tr M M' h h') (hm : ∀ b, M'' b → M' b) : Tr M M'' h h' := ⟨t.keep, fun b hb => t.new b (hm b hb), fun b hb => t.lt b (hm b hb)⟩
theorem Tr.forget (t : Tr M M' h h') : Tr M none_ h h' := t.less fun _ h => h.elim
theorem Tr.of (k : Keep none_ h h') : Tr none_ none_ h h' := (Tr.start h).call k
/-- Blocks that are not to be changed are as they were. -/
theorem Tr.at (t : Tr M M' h h') {b : Nat} {o : Obj} (hb : h[b]? = some o) (hm : ¬ M b) : h'[b]? = some o := t.keep.at hb hm
theorem Tr.fresh (t : Tr none_ M h h') : ∀ b, M b → h.size ≤ b := fun b hb => (t.new b hb).elim (fun h => h.elim) id
/-- What a call has laid anew is not to be changed. -/
theorem Tr.ret (t : Tr M M' h h') (hn : n ≤ h'.size) : ∀ b, Ft h'.size none_ h'' b → Ft n M' h'' b ∧ h''[b]? = h''[b]? :=
  fun b hb => ⟨⟨hb.1.less hn, hb.2.1, fun hm => by have := t.lt b hm; have := hb.1.1; omega⟩, rfl⟩
/-- The same, once nothing is changed any more. -/
theorem Ft.free (hn : n' ≤ n) : ∀ b, Ft n M h b → Ft n' none_ h b ∧ h[b]? = h[b]? := fun _ hb => ⟨⟨hb.1.less hn, hb.2.1, fun h => h⟩, rfl⟩
end
section
variable {α : Type} {R : Rp α} {M M' : Nat → Prop} {h h' : Heap} {n n' : Nat} {e : TypeId}
/-- A slice that grows: its block may be changed, its data lie in blocks that may not. -/
structure Gr (R : Rp α) (e : TypeId) (n : Nat) (M : Nat → Prop) (h : Heap) (v : Value) (xs : List α) (own : Option Nat) : Prop where
  grow : Grow R e (Ft n M h) h v xs own
  mu : ∀ b, own = some b → M b
theorem Gr.nil (R : Rp α) (e n : Nat) (M : Nat → Prop) (h : Heap) : Gr R e n M h (.slice none 0 0) [] none := ⟨.nil _ _ _ _, fun b hb => by cases hb⟩
theorem Gr.own_lt {v : Value} {xs : List α} {own : Option Nat} (g : Gr R e n M h v xs own) : ∀ b, own = some b → b < h.size := g.grow.own_lt
theorem Gr.mono {v : Value} {xs : List α} {own : Option Nat} (g : Gr R e n M h v xs own) (t : Tr M M' h h') (hn : n' ≤ n) (ho : ∀ b, own = some b → M' b ∧ h'[b]? = h[b]?) : Gr R e n' M' h' v xs own :=
  ⟨g.grow.mono (t.ft hn) fun b hb => ⟨fun hf => hf.2.2 (ho b hb).1, (ho b hb).2⟩, fun b hb => (ho b hb).1⟩
theorem Gr.call {v : Value} {xs : List α} {own : Option Nat} (g : Gr R e n M h v xs own) (k : Keep none_ h h') : Gr R e n M h' v xs own :=
  ⟨g.grow.mono (fun b hb => ⟨⟨hb.1.at (Nat.le_refl _) (k.blk b hb.2.1 (fun h => h)), Nat.lt_of_lt_of_le hb.2.1 k.size, hb.2.2⟩, k.blk b hb.2.1 (fun h => h)⟩) fun b hb => ⟨fun hf => hf.2.2 (g.mu b hb), k.blk b (g.own_lt b hb) (fun h => h)⟩, g.mu⟩
/-- Another block is written. -/
theorem Gr.set {v : Value} {xs : List α} {own : Option Nat} (g : Gr R e n M h v xs own) {b : Nat} (o : Obj) (hb : M b) (hne : own ≠ some b) : Gr R e n M (h.setIfInBounds b o) v xs own :=
  ⟨g.grow.mono (fun c hc => ⟨⟨hc.1.at (Nat.le_refl _) (set_other _ fun e => hc.2.2 (e ▸ hb)), by simpa using hc.2.1, hc.2.2⟩, set_other _ fun e => hc.2.2 (e ▸ hb)⟩) fun c hc => ⟨fun hf => hf.2.2 (g.mu c hc), set_other _ fun e => hne (by rw [hc, e])⟩, g.mu⟩
theorem Gr.val {v : Value} {xs : List α} {own : Option Nat} (g : Gr R e n M h v xs own) : ∃ a c, v = .slice a xs.length c := g.grow.val
theorem Gr.vals {v : Value} {xs : List α} {own : Option Nat} (g : Gr R e n M h v xs own) : ∃ a m c, v = .slice a m c ∧ m = xs.length := by
  obtain ⟨a, c, rfl⟩ := g.val
  exact ⟨a, _, c, rfl, rfl⟩
theorem Gr.thaw {v : Value} {xs : List α} {own : Option Nat} (g : Gr R e n M h v xs own) : ∀ b, own = some b → Thaw h b := g.grow.thaw
theorem Gr.rep {v : Value} {xs : List α} {own : Option Nat} (g : Gr R e n M h v xs own) (hn : n' ≤ n) (ho : ∀ b, own = some b → n' ≤ b) : SlRep R (Ft n' none_ h) h v xs :=
  g.grow.rep.mono fun b hb => ⟨hb.elim (fun hf => ⟨hf.1.less hn, hf.2.1, fun h => h⟩) fun hf => ⟨⟨ho b hf, fun _ => g.thaw b hf⟩, g.own_lt b hf, fun h => h⟩, rfl⟩
theorem Gr.elem {a : Option Addr} {m c : Nat} {xs : List α} {own : Option Nat} (g : Gr R e n M h (.slice a m c) xs own) (k : Nat) (hk : k < xs.length) :
    ∃ bk cs, a = some ⟨bk, 0, none⟩ ∧ own = some bk ∧ R.rep (Ft n M h) h cs xs[k] ∧ cellsIn h[bk]? (k * R.sz) R.sz = some cs := g.grow.elem k hk
/-- An element is written. -/
theorem Gr.setE {v : Value} {xs : List α} {own : Option Nat} {news : List Value} {x : α} {i : Nat} (g : Gr R e n M h v xs own) (hi : i < xs.length) (hr : R.rep (Ft n M h) h news x) :
    ∃ bk m c o, v = .slice (some ⟨bk, 0, none⟩) m c ∧ m = xs.length ∧ own = some bk ∧ writeIn h[bk]? (i * R.sz) news = some o ∧ Gr R e n M (h.setIfInBounds bk o) v (xs.set i x) own := by
  obtain ⟨bk, c, o, h1, h2, h3, h4⟩ := g.grow.setE hi hr
  refine ⟨bk, _, c, o, h1, rfl, h2, h3, ⟨h4.mono (fun b hb => ⟨⟨hb.1.at (Nat.le_refl _) (set_other _ fun e => hb.2.2 (e ▸ g.mu bk h2)), by simpa using hb.2.1, hb.2.2⟩, rfl⟩) fun b hb => ⟨fun hf => hf.2.2 (g.mu b hb), rfl⟩, g.mu⟩⟩
end
section
variable {P : Program} {h : Heap} {K : Value → Heap → Prop} {ty : TypeId} {α : Type} {R : Rp α} {M : Nat → Prop} {n : Nat}
/-- append onto a slice that grows. -/
theorem gr_append {T e by_ : Nat} {cs : Array Bool} {v : Value} {xs ys : List α} {own : Option Nat} {b : Option Addr} {m c2 : Nat} {news : List Value} {F2 : Nat → Prop}
    (hT : ElemT P T e R by_) (hg : Gr R e n M h v xs own) (hM : ∀ b, M b → b < h.size) (hm : m = ys.length) (hrn : Cells F2 h b news) (hel : Elems R (Ft n M h) h news ys)
    (hbig : (xs.length + ys.length) * by_ ≤ 140737488355328) (h63 : xs.length + ys.length < 9223372036854775808)
    (hk : ∀ v' h' own', Gr R e n (fun b => M b ∨ own' = some b) h' v' (xs ++ ys) own' → Tr M (fun b => M b ∨ own' = some b) h h' → Keep (fun b => own = some b) h h' → (∀ b, own' = some b → own = some b ∨ h.size ≤ b) → K v' h') :
    builtinS P .append #[T, T] ty cs #[v, .slice b m c2] h K := by
  refine append_grow hT hg.grow Ft.lt hm hrn hel hbig h63 ?_
  intro v' h' own' hg' hk' ho
  have hs := hk'.size
  have ht : Tr M (fun b => M b ∨ own' = some b) h h' := ⟨hk'.weaken fun b _ => hg.mu b, fun b hb => hb.elim .inl fun hb => (ho b hb).imp (hg.mu b) id, fun b hb => hb.elim (fun h => Nat.lt_of_lt_of_le (hM b h) hs) (hg'.own_lt b)⟩
  exact hk v' h' own' ⟨hg'.mono (fun b hb => ⟨(ht.ft (Nat.le_refl _) b hb).1, rfl⟩) fun b hb => ⟨fun hf => hf.2.2 (.inr hb), rfl⟩, fun b hb => .inr hb⟩ ht hk' ho
/-- A slice without cells is laid. -/
theorem gr_empty {M0 : Nat → Prop} {h0 : Heap} (R : Rp α) (e n : Nat) (t : Tr M0 M h0 h) (n0 : Nat) (hn0 : n0 = h.size) :
    Gr R e n (fun b => M b ∨ b = h.size) (h.push (.cells #[] e)) (.slice (some ⟨n0, 0, none⟩) 0 0) [] (some h.size) ∧ Tr M (fun b => M b ∨ b = h.size) h (h.push (.cells #[] e)) := by
  have t1 := t.here.pushM (.cells #[] e)
  subst hn0
  refine ⟨⟨?_, fun b hb => .inr (by cases hb; rfl)⟩, t1⟩
  exact .inr ⟨h.size, 0, #[], [], rfl, rfl, push_new _ _, fun hf => hf.2.2 (.inr rfl), by simp, Nat.le_refl _, by decide, by simp, rfl⟩
/-- A slice is opened for append. -/
theorem SlRep.open_ {F : Nat → Prop} {a : Option Addr} {m c : Nat} {xs : List α} (hs : SlRep R F h (.slice a m c) xs) : ∃ cs, m = xs.length ∧ xs.length ≤ c ∧ c < 9223372036854775808 ∧ Cells F h a cs ∧ Elems R F h cs xs := by
  obtain ⟨a', c', cs, hv, h1, h2, h3, h4⟩ := hs
  cases hv
  exact ⟨cs, rfl, h1, h2, h3, h4⟩
/-- append of one datum. -/
theorem gr_app1 {T e by_ n0 : Nat} {cs : Array Bool} {v : Value} {xs : List α} {own : Option Nat} {x : α} {c : List Value} {arr : Array Value} (hn0 : n0 = h.size)
    (hT : ElemT P T e R by_) (hg : Gr R e n M h v xs own) (hM : ∀ b, M b → b < h.size) (hr : R.rep (Ft n M h) h c x) (hc : arr.toList = c)
    (hbig : (xs.length + 1) * by_ ≤ 140737488355328) (h63 : xs.length + 1 < 9223372036854775808)
    (hk : ∀ v' h' own', Gr R e n (fun b => M b ∨ own' = some b) h' v' (xs ++ [x]) own' → Tr M (fun b => M b ∨ own' = some b) h h' → Keep (fun b => own = some b) h h' → (∀ b, own' = some b → own = some b ∨ h.size ≤ b) → K v' h') :
    builtinS P .append #[T, T] ty cs #[v, .slice (some ⟨n0, 0, none⟩) 1 1] (h.push (.cells arr e)) K := by
  subst hn0
  have hp : Tr M M h (h.push (.cells arr e)) := Tr.push ⟨.refl _ _, fun _ h => .inl h, hM⟩ _
  have hps : (h.push (.cells arr e)).size = h.size + 1 := by simp
  subst hc
  refine gr_append (F2 := fun b => b = h.size) (ys := [x]) (news := arr.toList) hT (hg.call (.push _ _ _)) hp.lt rfl ?_ (.single (R.mono hr (hp.ft (Nat.le_refl _)))) hbig h63 ?_
  · exact .inr ⟨h.size, 0, _, _, _, rfl, rfl, push_new _ _, by rw [List.drop_zero, List.take_of_length_le (Nat.le_refl _)]⟩
  · intro v' h' own' g t k ho
    have t' := hp.trans t
    refine hk v' h' own' g t' ⟨t'.size, fun b hb hn => ?_⟩ fun b hb => (ho b hb).imp id fun h => by omega
    rw [k.blk b (by omega) hn, push_old _ hb]
end
/-! ### words for the walk -/
section
variable {P : Program} {h : Heap} {K : Value → Heap → Prop} {l : L} {b : Base}
@[simp] theorem sub_nil : Sub [] l b = True := propext ⟨fun _ => trivial, fun _ => .nil _ _⟩
@[simp] theorem sub_cons (t : Nat) (v : Value) (S : L) : Sub ((t, v) :: S) l b = (look l b t = v ∧ Sub S l b) :=
  propext ⟨fun hs => ⟨hs (t, v) (List.mem_cons_self), fun p hp => hs p (List.mem_cons_of_mem _ hp)⟩, fun ⟨h1, h2⟩ => .cons h1 h2⟩
/-- A variable that is given its value at once. -/
theorem push_set {h : Heap} {o o' : Obj} {n : Nat} (hn : n = h.size) : (h.push o).setIfInBounds n o' = h.push o' := by
  subst hn
  apply Array.ext'
  simp
/-- A round of a loop has ended well; simp leaves what is said as it is written. -/
def LoopJ {σ : Type} (S : σ → L) (D : σ → List Nat) (J : σ → Heap → Prop) (μ : σ → Nat) (s : σ) (_t1 : Tag S) (_t2 : Tag J) (_t3 : Tag μ) (l : L) (b : Base) (h : Heap) : Prop := ∃ s', Sub (S s') l b ∧ b.d = D s' ∧ J s' h ∧ μ s' < μ s
theorem loopj {P : Program} {n : Nat} {ro : Option Nat} {c : Code} {κ : Kont} {l : L} {b : Base} {h : Heap} {σ : Type} (S : σ → L) (J : σ → Heap → Prop) (μ : σ → Nat) (s0 : σ) (hS : Sub (S s0) l b) (hJ : J s0 h) (hok : codeOk n c = true)
    (round : ∀ s h g, J s h → cs P n ro c { κ with nx := LoopJ S (fun _ => b.d) J μ s ⟨⟩ ⟨⟩ ⟨⟩ } (S s) ⟨g, b.d⟩ h) : gs P n ro (.loop c) κ l b h := loop S (fun _ => b.d) J μ s0 hS rfl hJ hok round
theorem elSz_eq (T : TypeId) : elSz P T = (elS P T).bind (szS P) := _root_.id rfl
theorem idxA_nat {T : TypeId} {bk off n c i : Nat} {k : IntKind} (hi : i < n) :
    indexAddrS P T (.slice (some ⟨bk, off, none⟩) n c) (.int k (i : Int)) h K = optS ((elS P T).bind (szS P)) (fun s => K (.pointer (some ⟨bk, off + i * s, none⟩)) h) := by
  rw [indexAddrS_slice _ _ _ _ _ _ (by omega) (by omega) rfl, elSz_eq]
  have e : (fun s => K (.pointer (offs (some ⟨bk, off, none⟩) ((i : Int).toNat * s))) h) = fun s => K (.pointer (some ⟨bk, off + i * s, none⟩)) h := by
    funext s; rw [offs_mk, Int.toNat_natCast]
  rw [e]
theorem idxA_zero {T : TypeId} {bk off n c : Nat} {k : IntKind} (hi : 0 < n) :
    indexAddrS P T (.slice (some ⟨bk, off, none⟩) n c) (.int k 0) h K = optS ((elS P T).bind (szS P)) (fun _ => K (.pointer (some ⟨bk, off, none⟩)) h) := by
  have := idxA_nat (P := P) (T := T) (bk := bk) (off := off) (c := c) (k := k) (h := h) (K := K) hi
  rw [Int.natCast_zero] at this
  rw [this]
  have e : (fun s => K (.pointer (some ⟨bk, off + 0 * s, none⟩)) h) = fun _ => K (.pointer (some ⟨bk, off, none⟩)) h := by
    funext s; rw [Nat.zero_mul, Nat.add_zero]
  rw [e]
theorem idxV_nat {sz : Option Nat} {ar : Option (Nat × Nat)} {bk off n c i : Nat} {k : IntKind} (hi : i < n) :
    idxV sz ar (.slice (some ⟨bk, off, none⟩) n c) (.int k (i : Int)) = sz.map fun s => .pointer (some ⟨bk, off + i * s, none⟩) := by
  rw [idxV_slice (by omega) (by omega) rfl]
  simp only [Int.toNat_natCast, offs_mk]
theorem wrap_succ {k : Nat} (hk : k < 9223372036854775807) : IntKind.i64.wrap ((k : Int) + 1) = ((k + 1 : Nat) : Int) := by
  rw [wrap_i64 (by omega) (by omega)]; rfl
end
end Go.HC

/-
  Rows of facts in memory; numbers within bounds; a row's cell; cells of rows.
-/
namespace Go.HC
structure RowM where
  key : List Int
  m : List Int
def rRow : Rp RowM where
  sz := 2
  pos := by decide
  rep F h cs r := ∃ kv mv, cs = [kv, mv] ∧ SlRep rInt F h kv r.key ∧ SlRep rInt F h mv r.m
  len := by rintro F h cs c ⟨kv, mv, rfl, _⟩; rfl
  one := by
    rintro F h cs c ⟨kv, mv, rfl, h1, h2⟩
    obtain ⟨_, _, rfl, _⟩ := h1.val
    obtain ⟨_, _, rfl, _⟩ := h2.val
    rfl
  mono := by
    rintro F F' h h' cs c ⟨kv, mv, rfl, h1, h2⟩ hm
    exact ⟨kv, mv, rfl, h1.mono hm, h2.mono hm⟩
/-- A cell's five parts. -/
theorem cell_open {F : Nat → Prop} {h : Heap} {cs : List Value} {c : CellM} (hr : rCell.rep F h cs c) : ∃ ka kc sa sc na nc xa xc,
    cs = [.slice ka c.key.length kc, .int .i64 c.count, .slice sa c.sum.length sc, .slice na c.mn.length nc, .slice xa c.mx.length xc] ∧
    SlRep rInt F h (.slice ka c.key.length kc) c.key ∧ SlRep rInt F h (.slice sa c.sum.length sc) c.sum ∧ SlRep rInt F h (.slice na c.mn.length nc) c.mn ∧ SlRep rInt F h (.slice xa c.mx.length xc) c.mx := by
  obtain ⟨kv, sv, nv, xv, rfl, r1, r2, r3, r4⟩ := hr
  obtain ⟨ka, kc, rfl, _, _⟩ := r1.val
  obtain ⟨sa, sc, rfl, _, _⟩ := r2.val
  obtain ⟨na, nc, rfl, _, _⟩ := r3.val
  obtain ⟨xa, xc, rfl, _, _⟩ := r4.val
  exact ⟨ka, kc, sa, sc, na, nc, xa, xc, rfl, r1, r2, r3, r4⟩
theorem row_open {F : Nat → Prop} {h : Heap} {cs : List Value} {r : RowM} (hr : rRow.rep F h cs r) : ∃ ka kc ma mc,
    cs = [.slice ka r.key.length kc, .slice ma r.m.length mc] ∧ SlRep rInt F h (.slice ka r.key.length kc) r.key ∧ SlRep rInt F h (.slice ma r.m.length mc) r.m := by
  obtain ⟨kv, mv, rfl, r1, r2⟩ := hr
  obtain ⟨ka, kc, rfl, _, _⟩ := r1.val
  obtain ⟨ma, mc, rfl, _, _⟩ := r2.val
  exact ⟨ka, kc, ma, mc, rfl, r1, r2⟩
/-- An element that is a number: where it lies. -/
theorem SlRep.int_at {F : Nat → Prop} {h : Heap} {a : Option Addr} {n c : Nat} {xs : List Int} (hs : SlRep rInt F h (.slice a n c) xs) (k : Nat) (hk : k < xs.length) :
    ∃ bk off, a = some ⟨bk, off, none⟩ ∧ F bk ∧ cellIn h[bk]? (off + k) = some (.int .i64 xs[k]) := by
  obtain ⟨b1, o1, v1, rfl, hf, hr, hc⟩ := hs.get1 rfl k hk
  have : v1 = .int .i64 xs[k] := by simpa [rInt] using hr
  exact ⟨b1, o1, rfl, hf, this ▸ hc⟩
/-- A number from 0 to n - 1. -/
def withinM (a n : Int) : Int := if a.tmod n < 0 then a.tmod n + n else a.tmod n
theorem withinM_bound {a n : Int} (hn : 0 < n) : 0 ≤ withinM a n ∧ withinM a n < n := by
  unfold withinM
  have h1 := tmod_bound (a := a) hn
  split <;> omega
/-- Is a dimension one of a set's? -/
def bitM (s : Int) (i : Nat) : Bool := (s.fdiv (2 ^ i)) % 2 == 1
theorem and_one (x : Int) : IntKind.i64.wrap ((BitVec.ofInt IntKind.i64.bits x &&& BitVec.ofInt IntKind.i64.bits 1).toNat) = x % 2 := by
  show IntKind.i64.wrap ((BitVec.ofInt 64 x &&& 1#64).toNat : Int) = x % 2
  rw [BitVec.toNat_and]
  have h3 : (1#64).toNat = 1 := rfl
  rw [h3, Nat.and_one_is_mod, BitVec.toNat_ofInt]
  rw [wrap_i64 (by omega) (by omega)]
  omega
@[simp high] theorem intRes_and1 (x : Int) : intRes .and .i64 x 1 = some (.int .i64 (x % 2)) := by rw [intRes_and, and_one]
theorem bit_op (s : Int) (i : Nat) : (s.fdiv (2 ^ i) % 2 == 1) = bitM s i := _root_.id rfl
theorem shr_bit {s : Int} {k : Nat} (hk : k < 64) : intRes .shr .i64 s (IntKind.u64.wrap (k : Int)) = some (.int .i64 (s.fdiv (2 ^ k))) := by
  have h1 : IntKind.u64.wrap (k : Int) = k := by simp [IntKind.wrap, IntKind.bits, IntKind.signed]; omega
  have h2 : min ((k : Int).toNat) IntKind.i64.bits = k := by
    show min ((k : Int).toNat) 64 = k
    omega
  rw [h1, intRes_shr _ _ _ (by omega), h2]
theorem pow2_le {k n : Nat} (h : k ≤ n) : (2 : Int) ^ k ≤ 2 ^ n := by
  have := Nat.pow_le_pow_right (n := 2) (by decide) h
  exact_mod_cast this
theorem pow2_pos (k : Nat) : (0 : Int) < 2 ^ k := Int.pow_pos (by decide)
theorem shl_one {k : Nat} (hk : k ≤ 62) : intRes .shl .i64 1 (IntKind.u64.wrap (k : Int)) = some (.int .i64 (2 ^ k)) := by
  have h1 : IntKind.u64.wrap (k : Int) = k := by simp [IntKind.wrap, IntKind.bits, IntKind.signed]; omega
  have h2 : min ((k : Int).toNat) IntKind.i64.bits = k := by
    show min ((k : Int).toNat) 64 = k
    omega
  have h3 : (2 : Int) ^ k ≤ 2 ^ 62 := pow2_le hk
  have h4 : (0 : Int) < 2 ^ k := Int.pow_pos (by decide)
  have h5 : (2 : Int) ^ 62 = 4611686018427387904 := by decide
  rw [h1, intRes_shl _ _ _ (by omega), h2, Int.one_mul, wrap_i64 (by omega) (by omega)]
/-- The values of a set's dimensions, from dimension i on. -/
def pickM (s : Int) : Nat → List Int → List Int
  | _, [] => []
  | i, x :: xs => if bitM s i then x :: pickM s (i + 1) xs else pickM s (i + 1) xs
theorem pickM_snoc (s : Int) (x : Int) : ∀ (xs : List Int) (i : Nat), pickM s i (xs ++ [x]) = pickM s i xs ++ (if bitM s (i + xs.length) then [x] else [])
  | [], i => by simp [pickM]
  | y :: ys, i => by
    rw [List.cons_append, pickM, pickM, pickM_snoc s x ys]
    have : i + 1 + ys.length = i + (y :: ys).length := by simp; omega
    rw [this]
    split <;> simp
theorem pickM_le (s : Int) : ∀ (xs : List Int) (i : Nat), (pickM s i xs).length ≤ xs.length
  | [], _ => Nat.le_refl _
  | x :: xs, i => by
    rw [pickM]
    have := pickM_le s xs (i + 1)
    split <;> simp <;> omega
def ofM (s : Int) (r : RowM) : CellM := ⟨pickM s 0 r.key, 1, r.m, r.m, r.m⟩
end Go.HC
namespace Go.Proofs
open Go Go.HC

set_option maxRecDepth 10000 in
/-- A copy of a row of numbers ('append([]int{}, x...)'). -/
theorem clone_ints {K : Value → Heap → Prop} {ty : TypeId} {cs : Array Bool} {M : Nat → Prop} {h : Heap} {n0 : Nat} (hn0 : n0 = h.size) {xs : List Int} {a : Option Addr} {m c : Nat} (hx : SlRep rInt (Ft 0 M h) h (.slice a m c) xs) (hn : xs.length < 1000000000)
    (hk : ∀ v' h', SlRep rInt (Ft h.size none_ h') h' v' xs → Keep none_ h h' → K v' h') :
    builtinS Try.prog .append #[29, 29] ty cs #[.slice (some ⟨n0, 0, none⟩) 0 0, .slice a m c] (h.push (.cells #[] 3)) K := by
  subst hn0
  obtain ⟨a', c', cs', hv, h1, h2, h3, h4⟩ := hx
  cases hv
  refine clone_cells (F := none_) (F2 := Ft 0 M h) intT (fun _ h => h.elim) Ft.lt rfl h3 (ints_map.2 (ints_map.1 h4)) (by omega) (by omega) ?_
  intro v' h' own g k ho _
  exact hk v' h' (g.ints.mono fun b hb => ⟨⟨⟨ho b hb, fun _ => g.thaw b hb⟩, g.own_lt b hb, fun h => h⟩, rfl⟩) k

end Go.Proofs

/-
  Cells of rows; a cell among others; the facts' group-by; comparisons of rows of cells.
-/
namespace Go.HC
/-- How long a cell's rows are. -/
structure Sml (m : Nat) (c : CellM) : Prop where
  key : c.key.length ≤ 64
  sum : c.sum.length = m
  mn : c.mn.length = m
  mx : c.mx.length = m
theorem Sml.small {m : Nat} {c : CellM} (s : Sml m c) (hm : m < 1000000000) : CellSmall c := ⟨by have := s.key; omega, by have := s.sum; omega, by have := s.mn; omega, by have := s.mx; omega⟩
theorem Sml.join {m : Nat} {a b : CellM} (ha : Sml m a) (hb : Sml m b) : Sml m (joinC a b) :=
  ⟨ha.key, by simp [joinC, ha.sum, hb.sum], by simp [joinC, ha.mn, hb.mn], by simp [joinC, ha.mx, hb.mx]⟩
theorem Sml.of {s : Int} {r : RowM} (hk : r.key.length ≤ 64) : Sml r.m.length (ofM s r) := ⟨by have := pickM_le s r.key 0; simp only [ofM]; omega, rfl, rfl, rfl⟩
theorem sml_put {m : Nat} {l : List CellM} {c : CellM} (hl : ∀ d ∈ l, Sml m d) (hc : Sml m c) : ∀ d ∈ putC l c, Sml m d := by
  induction l with
  | nil => intro d hd; rw [putC, List.mem_singleton] at hd; rw [hd]; exact hc
  | cons e l ih =>
    intro d hd
    have he := hl e List.mem_cons_self
    have ih := ih fun d hd => hl d (List.mem_cons_of_mem _ hd)
    rw [putC] at hd
    split at hd
    · rcases List.mem_cons.1 hd with rfl | h
      · exact he
      · exact ih d h
    · split at hd
      · rcases List.mem_cons.1 hd with rfl | h
        · exact he.join hc
        · exact hl d (List.mem_cons_of_mem _ h)
      · rcases List.mem_cons.1 hd with rfl | h
        · exact hc
        · exact hl d h
theorem sml_group {m : Nat} {l : List CellM} (hl : ∀ d ∈ l, Sml m d) : ∀ d ∈ groupC l, Sml m d := by
  have key : ∀ (l o : List CellM), (∀ d ∈ l, Sml m d) → (∀ d ∈ o, Sml m d) → ∀ d ∈ l.foldl putC o, Sml m d := by
    intro l
    induction l with
    | nil => exact fun o _ ho => ho
    | cons c l ih => exact fun o hl ho => ih _ (fun d hd => hl d (List.mem_cons_of_mem _ hd)) (sml_put ho (hl c List.mem_cons_self))
  exact key l [] hl fun d hd => by cases hd
/-- Where a cell belongs: how many stand ahead of it. -/
def posC : List CellM → List Int → Nat
  | [], _ => 0
  | d :: l, key => if lessM d.key key < 0 then posC l key + 1 else 0
theorem posC_le : ∀ (l : List CellM) (key : List Int), posC l key ≤ l.length
  | [], _ => Nat.le_refl _
  | d :: l, key => by
    rw [posC]
    have := posC_le l key
    split <;> simp; omega
theorem posC_lt : ∀ {l : List CellM} {key : List Int} {k : Nat} (hk : k < l.length), k < posC l key → lessM l[k].key key < 0
  | [], _, k, hk, _ => by simp at hk
  | d :: l, key, k, hk, h => by
    rw [posC] at h
    split at h
    · rename_i h1
      cases k with
      | zero => exact h1
      | succ k => exact posC_lt (l := l) (by simpa using hk) (by omega)
    · omega
theorem posC_at : ∀ {l : List CellM} {key : List Int} (hk : posC l key < l.length), ¬ lessM l[posC l key].key key < 0
  | [], _, hk => by simp at hk
  | d :: l, key, hk => by
    by_cases h1 : lessM d.key key < 0
    · have e : posC (d :: l) key = posC l key + 1 := by rw [posC, if_pos h1]
      have hk' : posC l key < l.length := by rw [e] at hk; simpa using hk
      have := posC_at hk'
      simp only [e, List.getElem_cons_succ]
      exact this
    · have e : posC (d :: l) key = 0 := by rw [posC, if_neg h1]
      simp only [e, List.getElem_cons_zero]
      exact h1
theorem putC_pos : ∀ (l : List CellM) (c : CellM), putC l c = if h : posC l c.key < l.length ∧ ∃ hk : posC l c.key < l.length, lessM l[posC l c.key].key c.key = 0
    then l.set (posC l c.key) (joinC (l[posC l c.key]'h.1) c) else l.take (posC l c.key) ++ c :: l.drop (posC l c.key)
  | [], c => by simp [putC, posC]
  | d :: l, c => by
    rw [putC]
    by_cases h1 : lessM d.key c.key < 0
    · have e : posC (d :: l) c.key = posC l c.key + 1 := by rw [posC, if_pos h1]
      rw [if_pos h1, putC_pos l c]
      simp only [e, List.length_cons, Nat.add_lt_add_iff_right, List.getElem_cons_succ, List.set_cons_succ, List.take_succ_cons, List.drop_succ_cons, List.cons_append]
      split <;> rfl
    · have e : posC (d :: l) c.key = 0 := by rw [posC, if_neg h1]
      rw [if_neg h1]
      simp only [e, List.length_cons, Nat.zero_lt_succ, List.getElem_cons_zero, List.set_cons_zero, List.take_zero, List.drop_zero, List.nil_append, true_and, exists_true_left]
      split <;> simp_all
end Go.HC
namespace Go.Proofs
open Go Go.HC


end Go.Proofs

/-
  HC, part 25: several slices that grow, in blocks of their own.
-/
namespace Go.HC
/-- A slice that grows: its value, its data, its block. -/
structure GI (α : Type) where
  v : Value
  xs : List α
  o : Option Nat
/-- Slices that grow, in blocks of their own that are none of B. -/
structure Grs {α : Type} (R : Rp α) (e n : Nat) (M : Nat → Prop) (h : Heap) (B : Nat → Prop) (l : List (GI α)) : Prop where
  gr : ∀ t ∈ l, Gr R e n M h t.v t.xs t.o ∧ ∀ b, t.o = some b → ¬ B b ∧ n ≤ b
  sep : ∀ (i j : Nat) (s t : GI α), l[i]? = some s → l[j]? = some t → i ≠ j → ∀ b, s.o = some b → t.o ≠ some b
section
variable {α : Type} {R : Rp α} {e n : Nat} {M M' : Nat → Prop} {h h' : Heap} {B : Nat → Prop} {l : List (GI α)}
theorem Grs.nils (k : Nat) : Grs R e n M h B (List.replicate k ⟨.slice none 0 0, [], none⟩) := by
  refine ⟨fun t ht => ?_, fun i j s t hi hj _ b hb => ?_⟩
  · rw [(List.mem_replicate.1 ht).2]
    exact ⟨.nil _ _ _ _ _, fun b hb => by cases hb⟩
  · have := (List.mem_replicate.1 (List.mem_of_getElem? hi)).2
    rw [this] at hb; cases hb
theorem Grs.at (g : Grs R e n M h B l) {i : Nat} {t : GI α} (hi : l[i]? = some t) : Gr R e n M h t.v t.xs t.o := (g.gr t (List.mem_of_getElem? hi)).1
theorem Grs.call (g : Grs R e n M h B l) (k : Keep none_ h h') : Grs R e n M h' B l := ⟨fun t ht => ⟨(g.gr t ht).1.call k, (g.gr t ht).2⟩, g.sep⟩
/-- A block of B is written. -/
theorem Grs.wr (g : Grs R e n M h B l) {b : Nat} (o : Obj) (hb : M b) (hB : B b) : Grs R e n M (h.setIfInBounds b o) B l :=
  ⟨fun t ht => ⟨(g.gr t ht).1.set o hb fun e => ((g.gr t ht).2 b e).1 hB, (g.gr t ht).2⟩, g.sep⟩
/-- One of them has grown. -/
theorem Grs.app (g : Grs R e n M h B l) {i : Nat} {t : GI α} (hi : l[i]? = some t) {v : Value} {ys : List α} {o : Option Nat} (hg : Gr R e n M' h' v ys o) (ht : Tr M M' h h') (hk : Keep (fun b => t.o = some b) h h') (ho : ∀ b, o = some b → t.o = some b ∨ h.size ≤ b)
    (hB : ∀ b, B b → b < h.size) (hn : n ≤ h.size) (hM : ∀ b, M b → M' b) : Grs R e n M' h' B (l.set i ⟨v, ys, o⟩) := by
  have hil : i < l.length := (List.getElem?_eq_some_iff.1 hi).1
  have lt : ∀ s ∈ l, ∀ b, s.o = some b → b < h.size := fun s hs b hb => (g.gr s hs).1.own_lt b hb
  have hmt := List.mem_of_getElem? hi
  refine ⟨fun s hs => ?_, fun a c s t' ha hc hac b hb hb' => ?_⟩
  · obtain ⟨j, hj⟩ := List.mem_iff_getElem?.1 hs
    rw [List.getElem?_set] at hj
    by_cases hij : i = j
    · rw [if_pos hij, if_pos hil] at hj
      cases hj
      refine ⟨hg, fun b hb => ?_⟩
      rcases ho b hb with h1 | h1
      · exact (g.gr t hmt).2 b h1
      · exact ⟨fun h2 => by have := hB b h2; omega, by omega⟩
    · rw [if_neg hij] at hj
      have hm := List.mem_of_getElem? hj
      refine ⟨(g.gr s hm).1.mono ht (Nat.le_refl _) fun b hb => ⟨hM b ((g.gr s hm).1.mu b hb), hk.blk b (lt s hm b hb) (g.sep j i s t hj hi (fun e => hij e.symm) b hb)⟩, (g.gr s hm).2⟩
  · rw [List.getElem?_set] at ha hc
    by_cases h1 : i = a
    · have h2 : i ≠ c := fun e => hac (h1.symm.trans e)
      rw [if_pos h1, if_pos hil] at ha
      rw [if_neg h2] at hc
      cases ha
      rcases ho b hb with h3 | h3
      · exact g.sep i c t t' hi hc h2 b h3 hb'
      · have := lt t' (List.mem_of_getElem? hc) b hb'; omega
    · rw [if_neg h1] at ha
      by_cases h2 : i = c
      · rw [if_pos h2, if_pos hil] at hc
        cases hc
        rcases ho b hb' with h3 | h3
        · exact g.sep a i s t ha hi (fun e => h1 e.symm) b hb h3
        · have := lt s (List.mem_of_getElem? ha) b hb; omega
      · rw [if_neg h2] at hc
        exact g.sep a c s t' ha hc hac b hb hb'
end
end Go.HC

/-
  The document's join of two cells.
-/
namespace Go.HC
theorem zip_take {g : Int → Int → Int} {xs ys : List Int} {k : Nat} (h1 : k < xs.length) (h2 : k < ys.length) : (List.zipWith g xs ys).take (k + 1) = (List.zipWith g xs ys).take k ++ [g xs[k] ys[k]] := by
  rw [List.take_add_one, List.getElem?_eq_getElem (by rw [List.length_zipWith]; omega), List.getElem_zipWith]
  rfl
end Go.HC
namespace Go.Proofs
open Go Go.HC

theorem _root_.Go.HC.Grow.not_at {e f : Nat} {h : Heap} {v : Value} {xs : List Int} {own : Option Nat} {b : Nat} {arr : Array Value} (g : Grow rInt e none_ h v xs own) (hb : h[b]? = some (.cells arr f (0, 0))) (hef : e ≠ f) : own ≠ some b := by
  rintro rfl
  rcases g with ⟨_, _, h0⟩ | ⟨bk, c, ar, cs, _, h0, h1, _⟩
  · cases h0
  · cases h0
    rw [h1] at hb
    simp only [Option.some.injEq] at hb
    injection hb with _ h2 _
    exact hef h2
end Go.Proofs

/-
  A cell is put among others that rise; groups of cells and of facts: the document's.
-/
namespace Go.Proofs
open Go Go.HC

end Go.Proofs

/-
  Groups of cells and of facts, the document's; rows of cells held against each other.
-/
namespace Go.Proofs
open Go Go.HC

end Go.Proofs

/-
  HC, part 26: a loop that is cut off from what comes behind it: its rounds end in a state, and what comes behind begins with that.
-/
namespace Go.HC
/-- The loop with this number is left, in a state of which this holds. -/
def ExJ {σ : Type} (idx : Nat) (S : σ → L) (d : List Nat) (J : σ → Heap → Prop) (_t1 : Tag S) (_t2 : Tag J) (j : Nat) (l : L) (b : Base) (h : Heap) : Prop := j = idx ∧ ∃ s, Sub (S s) l b ∧ b.d = d ∧ J s h
section
variable {P : Program} {n : Nat} {ro : Option Nat} {c : Code} {κ : Kont} {l : L} {b : Base} {h : Heap} {σ : Type}
theorem gsem_cut {idx : Nat} {S : σ → L} {d : List Nat} {J : σ → Heap → Prop} {R : L → Base → Heap → Prop} (hR : ∀ l b h, R l b h → κ.rt l b h)
    (hc : gsem P n ro c { nx := fun _ _ _ => False, rt := R, ex := ExJ idx S d J ⟨⟩ ⟨⟩, gt := fun _ _ _ _ => False } l b h)
    (after : ∀ s h g, J s h → κ.ex idx (S s) ⟨g, d⟩ h) : gsem P n ro c κ l b h := by
  intro a w hw hfr fr k cs hkd hro
  obtain ⟨e, a', w', l', b', hs, hfr', hk, harr⟩ := hc a w hw hfr fr k cs hkd hro
  cases e with
  | nx => exact hk.elim
  | rt => exact ⟨.rt, a', w', l', b', hs, hfr', hR _ _ _ hk, harr⟩
  | ex j =>
    obtain ⟨rfl, s, hsub, hd, hJ⟩ := hk
    have hcl := hfr'.clean hsub
    rw [hd] at hcl
    exact ⟨.ex j, a', w', S s, ⟨fun t => a'.tmps.getD t undef, d⟩, hs, hcl, after s _ _ hJ, harr⟩
  | gt t => exact hk.elim
/-- A loop: S, J: what holds ahead of each round; it is left where Q holds too; R: how its rounds may return. -/
theorem loopc (S : σ → L) (J : σ → Heap → Prop) (μ : σ → Nat) (s0 : σ) (idx : Nat) (Q : σ → Heap → Prop) (R : L → Base → Heap → Prop) (hR : ∀ l b h, R l b h → κ.rt l b h) (hS : Sub (S s0) l b) (hJ : J s0 h) (hok : codeOk n c = true)
    (round : ∀ s h g, J s h → cs P n ro c { nx := LoopJ S (fun _ => b.d) J μ s ⟨⟩ ⟨⟩ ⟨⟩, rt := R, ex := ExJ idx S b.d (fun s h => J s h ∧ Q s h) ⟨⟩ ⟨⟩, gt := fun _ _ _ _ => False } (S s) ⟨g, b.d⟩ h)
    (after : ∀ s h g, J s h → Q s h → κ.ex idx (S s) ⟨g, b.d⟩ h) : gs P n ro (.loop c) κ l b h :=
  gsem_cut hR (loop (κ := { nx := fun _ _ _ => False, rt := R, ex := ExJ idx S b.d (fun s h => J s h ∧ Q s h) ⟨⟩ ⟨⟩, gt := fun _ _ _ _ => False }) S (fun _ => b.d) J μ s0 hS rfl hJ hok round) fun s h g hj => after s h g hj.1 hj.2
/-- No round returns. -/
def noRet : L → Base → Heap → Prop := fun _ _ _ => False
theorem noRet_le {κ : Kont} : ∀ l b h, noRet l b h → κ.rt l b h := fun _ _ _ h => h.elim
end
end Go.HC

/-
  Facts of numbers: a schema, rows.
-/
namespace Go.HC
structure SchM where
  cards : List Int
  ms : Int
/-- The number of values of a dimension. -/
def cardM (cards : List Int) (i : Nat) : Int := 1 + withinM ((cards[i]?).getD ((i : Int) + 2)) 5
def cardsM (dims : Int) (cards : List Int) : List Int :=
  if withinM dims 7 = 0 then ((List.range ((withinM dims 4).toNat + 1)).map (cardM cards)).set 0 16 else (List.range ((withinM dims 4).toNat + 1)).map (cardM cards)
def div5 (k : Int) : Nat → Int
  | 0 => k
  | d + 1 => IntKind.i64.wrap ((div5 k d).tdiv 5)
def keyM (cs : List Int) (k : Int) : List Int := cs.mapIdx fun d c => withinM (div5 k d) c
def rowM (cs : List Int) (ms : Int) (k : Int) : RowM :=
  ⟨keyM cs k, (List.range ms.toNat).map fun (j : Nat) => IntKind.i64.wrap (withinM (IntKind.i64.wrap (div5 k cs.length + IntKind.i64.wrap (7 * (j : Int)))) 201 - 100)⟩
def factsM (dims : Int) (cards : List Int) (ms : Int) (ns : List Int) : SchM × List RowM :=
  (⟨cardsM dims cards, withinM ms 3⟩, (ns.take 40).map (rowM (cardsM dims cards) (withinM ms 3)))
/-- A schema, rows that may be. -/
structure FactsOk (s : SchM) (rows : List RowM) : Prop where
  dims : 1 ≤ s.cards.length ∧ s.cards.length ≤ 4
  cards : ∀ c ∈ s.cards, 1 ≤ c ∧ c ≤ 16
  ms : 0 ≤ s.ms ∧ s.ms ≤ 2
  len : rows.length ≤ 40
  key : ∀ r ∈ rows, r.key.length = s.cards.length ∧ ∀ (i : Nat) (h : i < r.key.length) (h' : i < s.cards.length), 0 ≤ r.key[i] ∧ r.key[i] < s.cards[i]
  m : ∀ r ∈ rows, r.m.length = s.ms.toNat ∧ ∀ x ∈ r.m, -100 ≤ x ∧ x ≤ 100
theorem cardM_bound (cards : List Int) (i : Nat) : 1 ≤ cardM cards i ∧ cardM cards i ≤ 5 := by
  unfold cardM
  have := withinM_bound (a := (cards[i]?).getD ((i : Int) + 2)) (n := 5) (by omega)
  omega
theorem cardsM_ok (dims : Int) (cards : List Int) : (cardsM dims cards).length = (withinM dims 4).toNat + 1 ∧ ∀ c ∈ cardsM dims cards, 1 ≤ c ∧ c ≤ 16 := by
  unfold cardsM
  split
  · refine ⟨by simp, fun c hc => ?_⟩
    rcases List.mem_or_eq_of_mem_set hc with h | rfl
    · obtain ⟨i, _, rfl⟩ := List.mem_map.1 h
      have := cardM_bound cards i; omega
    · omega
  · refine ⟨by simp, fun c hc => ?_⟩
    obtain ⟨i, _, rfl⟩ := List.mem_map.1 hc
    have := cardM_bound cards i; omega
theorem factsM_ok (dims : Int) (cards : List Int) (ms : Int) (ns : List Int) : FactsOk (factsM dims cards ms ns).1 (factsM dims cards ms ns).2 := by
  have hc := cardsM_ok dims cards
  have hd := withinM_bound (a := dims) (n := 4) (by omega)
  have hm := withinM_bound (a := ms) (n := 3) (by omega)
  refine ⟨by simp only [factsM, hc.1]; omega, hc.2, by simp only [factsM]; omega, by simp only [factsM, List.length_map, List.length_take]; omega, fun r hr => ?_, fun r hr => ?_⟩
  · simp only [factsM, List.mem_map] at hr
    obtain ⟨k, _, rfl⟩ := hr
    refine ⟨by simp [rowM, keyM, factsM], fun i h h' => ?_⟩
    simp only [rowM, keyM, List.getElem_mapIdx, factsM]
    simp only [factsM] at h'
    have := hc.2 _ (List.getElem_mem h')
    exact withinM_bound (by omega)
  · simp only [factsM, List.mem_map] at hr
    obtain ⟨k, _, rfl⟩ := hr
    refine ⟨by simp [rowM, factsM], fun x hx => ?_⟩
    simp only [rowM, List.mem_map] at hx
    obtain ⟨j, _, rfl⟩ := hx
    have := withinM_bound (a := IntKind.i64.wrap (div5 k (cardsM dims cards).length + IntKind.i64.wrap (7 * (j : Int)))) (n := 201) (by omega)
    rw [wrap_i64 (by omega) (by omega)]
    omega
end Go.HC
namespace Go.Proofs
open Go Go.HC

end Go.Proofs

/-
  HashPlaces: the plain law; the document's place of a key.
-/
namespace Go.HC
theorem newM_len (n : Nat) : (newM n).length = n := List.length_replicate
theorem newM_get {n k : Nat} (hk : k < n) : (newM n)[k]? = some none := by
  unfold newM
  rw [List.getElem?_replicate, if_pos hk]
theorem find_new {n : Nat} (hn : 0 < n) (key : List Int) : findM (newM n) key = some (placeM key n) := by
  have hp := placeM_lt key hn
  have h0 : probe key (newM n).length 0 = placeM key n := by
    unfold probe
    rw [newM_len, Nat.add_zero, Nat.mod_eq_of_lt hp]
  have := find_hit (T := newM n) (key := key) (i := 0) (by rw [newM_len]; exact hn) (fun j hj => by omega) (by
    rw [h0]; unfold hitM; rw [newM_get hp])
  rw [h0] at this
  exact this
theorem put_new1 {n : Nat} (hn : 0 < n) (c : CellM) : putM (newM n) c = some ((newM n).set (placeM c.key n) (some c)) := by
  unfold putM
  rw [find_new hn]
  simp only
  rw [newM_get (placeM_lt c.key hn)]
theorem put_again {n : Nat} (hn : 0 < n) (c d : CellM) (hd : d.key = c.key) : putM ((newM n).set (placeM c.key n) (some c)) d = some ((newM n).set (placeM c.key n) (some (joinC c d))) := by
  have hok := (put_ok (newM_ok n) (put_new1 hn c)).1
  have hp := placeM_lt c.key hn
  have hg : ((newM n).set (placeM c.key n) (some c))[placeM c.key n]? = some (some c) := by
    rw [List.getElem?_set_self (by rw [newM_len]; exact hp)]
  have hf := find_there hok hg
  unfold putM
  rw [hd, hf]
  simp only
  rw [hg]
  simp
/-- Where the other cell comes to stand. -/
def nextP (p : Nat) (n : Nat) (key : List Int) : Nat := if placeM key n = p then (p + 1) % n else placeM key n
theorem put_other {n : Nat} (hn : 2 ≤ n) (c d : CellM) (hne : c.key ≠ d.key) {p : Nat} (hp : p < n) : putM ((newM n).set p (some c)) d = some (((newM n).set p (some c)).set (nextP p n d.key) (some d)) ∧ nextP p n d.key < n ∧ nextP p n d.key ≠ p := by
  have hl : ((newM n).set p (some c)).length = n := by rw [List.length_set, newM_len]
  have hq := placeM_lt d.key (n := n) (by omega)
  have h0 : probe d.key ((newM n).set p (some c)).length 0 = placeM d.key n := by
    unfold probe
    rw [hl, Nat.add_zero, Nat.mod_eq_of_lt hq]
  have h1 : probe d.key ((newM n).set p (some c)).length 1 = (placeM d.key n + 1) % n := by
    unfold probe
    rw [hl]
  have hget : ∀ m, m < n → ((newM n).set p (some c))[m]? = if p = m then some (some c) else some none := by
    intro m hm
    rw [List.getElem?_set]
    by_cases e : p = m
    · subst e; rw [if_pos rfl, if_pos rfl, if_pos (by rw [newM_len]; exact hp)]
    · rw [if_neg e, if_neg e, newM_get hm]
  unfold nextP
  by_cases he : placeM d.key n = p
  · rw [if_pos he]
    have hlt : (p + 1) % n < n := Nat.mod_lt _ (by omega)
    have hnp : (p + 1) % n ≠ p := by
      by_cases h : p + 1 < n
      · rw [Nat.mod_eq_of_lt h]; omega
      · have : p + 1 = n := by omega
        rw [this, Nat.mod_self]; omega
    refine ⟨?_, hlt, hnp⟩
    have hf := find_hit (T := (newM n).set p (some c)) (key := d.key) (i := 1) (by rw [hl]; omega) (fun j hj => by
      have : j = 0 := by omega
      subst this
      rw [h0, he]
      unfold hitM
      rw [hget p hp, if_pos rfl]
      exact decide_eq_false hne) (by
      rw [h1, he]
      unfold hitM
      rw [hget _ hlt, if_neg (fun e => hnp e.symm)])
    rw [h1, he] at hf
    unfold putM
    rw [hf]
    simp only
    rw [hget _ hlt, if_neg (fun e => hnp e.symm)]
  · rw [if_neg he]
    refine ⟨?_, hq, he⟩
    have hf := find_hit (T := (newM n).set p (some c)) (key := d.key) (i := 0) (by rw [hl]; omega) (fun j hj => by omega) (by
      rw [h0]
      unfold hitM
      rw [hget _ hq, if_neg (fun e => he e.symm)])
    rw [h0] at hf
    unfold putM
    rw [hf]
    simp only
    rw [hget _ hq, if_neg (fun e => he e.symm)]
theorem cells_new (n : Nat) : cellsM (newM n) = [] := by
  unfold cellsM newM
  induction n with
  | zero => rfl
  | succ n _ => rw [List.replicate_succ]; simp
theorem cells_one : ∀ {n p : Nat} {c : CellM}, p < n → cellsM ((newM n).set p (some c)) = [c]
  | 0, _, _, h => by omega
  | n + 1, 0, c, _ => by
    unfold newM cellsM
    rw [List.replicate_succ]
    simp
  | n + 1, p + 1, c, h => by
    have := cells_one (n := n) (p := p) (c := c) (by omega)
    unfold newM at this ⊢
    unfold cellsM at this ⊢
    rw [List.replicate_succ]
    simpa using this
theorem cells_two : ∀ {n p q : Nat} {c d : CellM}, p < n → q < n → q ≠ p → cellsM (((newM n).set p (some c)).set q (some d)) = if p < q then [c, d] else [d, c]
  | 0, _, _, _, _, h, _, _ => by omega
  | n + 1, 0, q + 1, c, d, _, hq, _ => by
    have := cells_one (n := n) (p := q) (c := d) (by omega)
    unfold newM at this ⊢
    unfold cellsM at this ⊢
    rw [List.replicate_succ, if_pos (by omega)]
    simpa using this
  | n + 1, p + 1, 0, c, d, hp, _, _ => by
    have := cells_one (n := n) (p := p) (c := c) (by omega)
    unfold newM at this ⊢
    unfold cellsM at this ⊢
    rw [List.replicate_succ, if_neg (by omega)]
    simpa using this
  | _ + 1, 0, 0, _, _, _, _, h => by omega
  | n + 1, p + 1, q + 1, c, d, hp, hq, h => by
    have := cells_two (n := n) (p := p) (q := q) (c := c) (d := d) (by omega) (by omega) (by omega)
    unfold newM at this ⊢
    unfold cellsM at this ⊢
    rw [List.replicate_succ]
    simp only [List.set_cons_succ, List.filterMap_cons, id]
    rw [this]
    by_cases hpq : p < q
    · rw [if_pos hpq, if_pos (by omega)]
    · rw [if_neg hpq, if_neg (by omega)]
end Go.HC

/-
  HashPlaces: the document's place of a key.
-/
namespace Go.HC
def KeyOk (key : List Int) : Prop := ∀ v ∈ key, 0 ≤ v ∧ v < 1000003
theorem hashM_nonneg {key : List Int} (hk : KeyOk key) : 0 ≤ hashM key := by
  unfold hashM
  generalize h0 : (7 : Int) = z
  have hz : 0 ≤ z := by omega
  clear h0
  induction key generalizing z with
  | nil => exact hz
  | cons v key ih =>
    refine ih (fun w hw => hk w (List.mem_cons_of_mem _ hw)) _ (Int.tmod_nonneg _ ?_)
    have := hk v (List.mem_cons_self ..)
    have h2 : 0 ≤ v.tmod 1000003 := Int.tmod_nonneg _ this.1
    omega
theorem placeM_of {key : List Int} (hk : KeyOk key) {n : Nat} (hn : 0 < n) : (hashM key).tmod n = ((placeM key n : Nat) : Int) := by
  have h0 := hashM_nonneg hk
  unfold placeM
  have h1 : 0 ≤ (hashM key).tmod n := Int.tmod_nonneg _ h0
  have h2 : (hashM key).tmod n < n := Int.tmod_lt_of_pos _ (by omega)
  have h3 : ((hashM key).tmod n + n).tmod n = (hashM key).tmod n := by
    generalize (hashM key).tmod n = x at h1 h2
    rw [Int.tmod_eq_emod_of_nonneg (by omega), Int.add_emod_right, Int.emod_eq_of_lt h1 h2]
  rw [h3, Int.toNat_of_nonneg h1]
end Go.HC
namespace Go.Proofs
open Go Go.HC

end Go.Proofs

/-
  Two cells as one.
-/
namespace Go.Proofs
open Go Go.HC

set_option maxHeartbeats 4000000 in
set_option maxRecDepth 10000 in
theorem both_spec {F G : Nat → Prop} {h : Heap} {av bv : Value} {xs ys : List Int} {f : FuncId} {g : Int → Int → Int} (hfn : FnOk Try.prog f)
    (hdo : ∀ (x y : Int) (h : Heap), CallH Try.prog f #[.int .i64 x, .int .i64 y] h fun r h' => r = .int .i64 (g x y) ∧ h' = h)
    (ha : SlRep rInt F h av xs) (hF : ∀ b, F b → b < h.size) (hb : SlRep rInt G h bv ys) (hG : ∀ b, G b → b < h.size) (hl : xs.length < 1000000000) :
    CallH Try.prog 39 #[av, bv, .func (.func f) #[] #[]] h fun r h' => ∃ own, Grow rInt 3 none_ h' r (List.zipWith g xs ys) own ∧ Keep none_ h h' ∧ ∀ b, own = some b → h.size ≤ b := by
  refine callH_by fun K hK => ?_
  refine enter [.tmp 6] Try.func39 rfl rfl (by kernel_rfl) rfl ?_
  obtain ⟨a0, c0, rfl, hc0, hc0'⟩ := ha.val
  obtain ⟨a1, c1, rfl, hc1, hc1'⟩ := hb.val
  have hzl : (List.zipWith g xs ys).length = min xs.length ys.length := List.length_zipWith
  simp -dsimp
  refine loop' (σ := Nat × Value) (fun t => [(1, .slice a1 ys.length c1), (2, .func (.func f) #[] #[]), (7, t.2), (10, .slice a0 xs.length c0), (11, .int .i64 xs.length), (12, .int .i64 t.1)]) (fun _ => [])
    (fun t h1 => Keep none_ h h1 ∧ t.1 ≤ xs.length ∧ ∃ own, Grow rInt 3 none_ h1 t.2 ((List.zipWith g xs ys).take t.1) own ∧ ∀ b, own = some b → h.size ≤ b) (fun t => xs.length - t.1) (0, .slice none 0 0) ?_ rfl ⟨.refl _ _, Nat.zero_le _, none, .nil _ _ _ _, fun b hb => by cases hb⟩ (by kernel_rfl) ?_
  · intro p hp
    simp at hp
    rcases hp with rfl | rfl | rfl | rfl | rfl | rfl <;> simp
  · rintro ⟨k, tv⟩ h1 gg ⟨k1, hk, own, hg, ho⟩
    simp only at hk hg
    have e1 := k1.size
    obtain ⟨ta, tc, htv⟩ := hg.val
    obtain ⟨m, hm⟩ : ∃ m, ((List.zipWith g xs ys).take k).length = m := ⟨_, rfl⟩
    rw [hm] at htv
    subst htv
    by_cases hkl : k < xs.length
    · have ha1 := ha.mono (F' := F) (h' := h1) fun b hb => ⟨hb, k1.blk b (hF b hb) (fun h => h)⟩
      obtain ⟨b1, o1, v1, rfl, _, hr1, hcc1⟩ := ha1.get1 rfl k hkl
      have hv1 : v1 = .int .i64 xs[k] := by simpa [rInt] using hr1
      subst hv1
      have hidx1 : ∀ (K : Value → Heap → Prop) (h : Heap), indexAddrS Try.prog 29 (.slice (some ⟨b1, o1, none⟩) xs.length c0) (.int .i64 (k : Int)) h K = K (.pointer (some ⟨b1, o1 + k, none⟩)) h := by
        intro K h
        rw [indexAddrS_slice _ _ _ _ _ _ (by omega) (by omega) rfl]
        simp [elSz]
      have wk : IntKind.i64.wrap ((k : Int) + 1) = ((k + 1 : Nat) : Int) := by rw [wrap_i64 (by omega) (by omega)]; rfl
      by_cases hky : k < ys.length
      · have hb1 := hb.mono (F' := G) (h' := h1) fun b hb => ⟨hb, k1.blk b (hG b hb) (fun h => h)⟩
        obtain ⟨b2, o2, v2, rfl, _, hr2, hcc2⟩ := hb1.get1 rfl k hky
        have hv2 : v2 = .int .i64 ys[k] := by simpa [rInt] using hr2
        subst hv2
        have hidx2 : ∀ (K : Value → Heap → Prop) (h : Heap), indexAddrS Try.prog 29 (.slice (some ⟨b2, o2, none⟩) ys.length c1) (.int .i64 (k : Int)) h K = K (.pointer (some ⟨b2, o2 + k, none⟩)) h := by
          intro K h
          rw [indexAddrS_slice _ _ _ _ _ _ (by omega) (by omega) rfl]
          simp [elSz]
        have htl : ((List.zipWith g xs ys).take k).length = k := by rw [List.length_take, hzl]; omega
        have hnx : (List.zipWith g xs ys).take (k + 1) = (List.zipWith g xs ys).take k ++ [g xs[k] ys[k]] := by
          rw [List.take_add_one, List.getElem?_eq_getElem (by rw [hzl]; omega), List.getElem_zipWith]
          rfl
        simp -dsimp [hkl, hidx1, hcc1, hky, hidx2, hcc2, hfn]
        refine call_by (hdo xs[k] ys[k] h1) ?_
        rintro _ h1' ⟨rfl, hh⟩
        obtain rfl := hh.symm
        simp -dsimp
        have hps : (h1.push (.cells #[.int .i64 (g xs[k] ys[k])] 3)).size = h1.size + 1 := by simp
        have hgp := hg.push (fun _ h => h.elim) (.cells #[.int .i64 (g xs[k] ys[k])] 3)
        refine append_grow (F2 := fun b => b = h1.size) (ys := [g xs[k] ys[k]]) intT hgp (fun _ (h : none_ _) => h.elim) rfl
          (.inr ⟨h1.size, 0, _, _, _, rfl, rfl, push_new _ _, rfl⟩) (.single rfl) (by rw [htl]; simp; omega) (by rw [htl]; simp; omega) ?_
        intro tv' h2 own' hg2 kk2 ho2
        rw [hps] at ho2
        have e2 := kk2.size
        rw [hps] at e2
        rw [← hnx] at hg2
        simp -dsimp [wk]
        refine ⟨(k + 1, tv'), ?_, rfl, ⟨⟨by omega, fun b hb _ => by rw [kk2.blk b (by omega) (fun e => by have := ho b e; omega), push_old _ (by omega), k1.blk b hb (fun h => h)]⟩, by show k + 1 ≤ xs.length; omega, own', hg2, fun b hb => (ho2 b hb).elim (ho b) (fun h => by omega)⟩, by show xs.length - (k + 1) < xs.length - k; omega⟩
        intro p hp
        simp at hp
        rcases hp with rfl | rfl | rfl | rfl | rfl | rfl <;> simp
      · have hnx : (List.zipWith g xs ys).take (k + 1) = (List.zipWith g xs ys).take k := by
          rw [List.take_of_length_le (by rw [hzl]; omega), List.take_of_length_le (by rw [hzl]; omega)]
        have hg' : Grow rInt 3 none_ h1 (.slice ta m tc) ((List.zipWith g xs ys).take (k + 1)) own := by rw [hnx]; exact hg
        simp -dsimp [hkl, hidx1, hcc1, hky, wk]
        refine ⟨(k + 1, .slice ta m tc), ?_, rfl, ⟨k1, by show k + 1 ≤ xs.length; omega, own, hg', ho⟩, by show xs.length - (k + 1) < xs.length - k; omega⟩
        intro p hp
        simp at hp
        rcases hp with rfl | rfl | rfl | rfl | rfl | rfl <;> simp
    · have hall : (List.zipWith g xs ys).take k = List.zipWith g xs ys := List.take_of_length_le (by rw [hzl]; omega)
      rw [hall] at hg
      simp -dsimp [hkl]
      refine call_by (cloneInt_spec hg.ints hg.own_lt (by rw [hzl]; omega)) ?_
      rintro _ h2 ⟨own2, hg2, k2, ho2⟩
      obtain ⟨a2, c2, hv2⟩ := hg2.val
      obtain ⟨m2, hm2⟩ : ∃ m, (List.zipWith g xs ys).length = m := ⟨_, rfl⟩
      rw [hm2] at hv2
      subst hv2
      simp -dsimp
      exact hK _ _ ⟨own2, hg2, k1.trans k2 (fun _ _ h => h), fun b hb => by have := ho2 b hb; omega⟩

set_option maxHeartbeats 40000000 in
set_option maxRecDepth 10000 in
theorem join_th {F G : Nat → Prop} {h : Heap} {cs ds : List Value} {a b : CellM} (ha : rCell.rep F h cs a) (hF : ∀ b, F b → b < h.size) (sa : CellSmall a) (hb : rCell.rep G h ds b) (hG : ∀ b, G b → b < h.size) :
    CallH Try.prog 29 #[.agg cs.toArray, .agg ds.toArray] h fun r h' => ∃ es E, r = .agg es.toArray ∧ rCell.rep E h' es (joinC a b) ∧ Keep none_ h h' ∧ (∀ b, E b → h.size ≤ b ∧ b < h'.size) ∧ ∀ b, E b → Thaw h' b := by
  refine callH_by fun K hK => ?_
  refine enter [.cell 4 31] Try.func29 rfl rfl (by kernel_rfl) rfl ?_
  obtain ⟨kv, sv, nv, xv, rfl, r1, r2, r3, r4⟩ := ha
  obtain ⟨ka, kc, rfl, _, _⟩ := r1.val
  obtain ⟨s1, sc, rfl, _, _⟩ := r2.val
  obtain ⟨na, nc, rfl, _, _⟩ := r3.val
  obtain ⟨xa, xc, rfl, _, _⟩ := r4.val
  obtain ⟨kv', sv', nv', xv', rfl, q1, q2, q3, q4⟩ := hb
  obtain ⟨ka', kc', rfl, _, _⟩ := q1.val
  obtain ⟨sa', sc', rfl, _, _⟩ := q2.val
  obtain ⟨na', nc', rfl, _, _⟩ := q3.val
  obtain ⟨xa', xc', rfl, _, _⟩ := q4.val
  simp -dsimp [boxS_eq]
  generalize hB : Array.push _ _ = h0
  have hz0 : h0.size = h.size + 3 := by rw [← hB]; simp
  have k0 : Keep none_ h h0 := by rw [← hB]; exact (((Keep.refl none_ h).pushed _).pushed _).pushed _
  have hp1 : ∀ o, (h.push o).size = h.size + 1 := fun o => by simp
  have hp2 : ∀ o o', ((h.push o).push o').size = h.size + 2 := fun o o' => by simp
  have hA0 : h0[h.size]? = some (.cells #[.slice ka a.key.length kc, .int .i64 a.count, .slice s1 a.sum.length sc, .slice na a.mn.length nc, .slice xa a.mx.length xc] 31 (0, 0)) := by rw [← hB]; exact push_at (push_at (push_new _ _))
  have hB0 : h0[h.size + 1]? = some (.cells #[.slice ka' b.key.length kc', .int .i64 b.count, .slice sa' b.sum.length sc', .slice na' b.mn.length nc', .slice xa' b.mx.length xc'] 31 (0, 0)) := by
    rw [← hB]; refine push_at ?_; rw [← hp1]; exact push_new _ _
  have hT0 : h0[h.size + 2]? = some (.cells #[.slice none 0 0, .int .i64 0, .slice none 0 0, .slice none 0 0, .slice none 0 0] 31 (0, 0)) := by
    rw [← hB, ← hp2]; exact push_new _ _
  have m1 : ∀ (h' : Heap), Keep none_ h h' → ∀ b, F b → F b ∧ h'[b]? = h[b]? := fun h' k b hb => ⟨hb, k.blk b (hF b hb) (fun h => h)⟩
  have m2 : ∀ (h' : Heap), Keep none_ h h' → ∀ b, G b → G b ∧ h'[b]? = h[b]? := fun h' k b hb => ⟨hb, k.blk b (hG b hb) (fun h => h)⟩
  refine drawn_by [⟨0, true, []⟩, ⟨1, true, []⟩, ⟨3, true, []⟩, ⟨4, true, []⟩, ⟨5, true, []⟩, ⟨6, true, []⟩, ⟨7, true, []⟩, ⟨8, true, []⟩, ⟨9, true, []⟩, ⟨10, true, []⟩, ⟨11, true, []⟩, ⟨13, true, []⟩, ⟨14, true, []⟩, ⟨15, true, []⟩, ⟨16, true, []⟩, ⟨18, true, []⟩, ⟨19, true, []⟩, ⟨20, true, []⟩, ⟨21, true, []⟩, ⟨2, false, [3, 4, 5, 6, 7, 8, 9, 10, 11, 13, 14, 15, 16, 18, 19, 20, 21]⟩, ⟨12, false, [3, 4, 5, 6, 7, 13, 14, 15, 16, 18, 19, 20, 21]⟩, ⟨17, false, [3, 4, 5, 6, 7, 18, 19, 20, 21]⟩, ⟨22, false, [3, 4, 5, 6, 7]⟩, ⟨23, false, []⟩, ⟨24, false, []⟩] (by kernel_rfl) (by kernel_rfl) ?_
  simp -dsimp [hA0, hB0]
  refine call_by (cloneInt_spec (r1.mono (m1 h0 k0)) (fun b hb => by have := hF b hb; omega) (by have := sa.key; omega)) ?_
  rintro _ h1 ⟨o1, g1, k1, n1⟩
  obtain ⟨a1, c1, rfl⟩ := g1.val
  have k01 := k0.trans k1 (fun _ _ h => h)
  have hA1 := k1.at hA0 (fun h => h)
  have hB1 := k1.at hB0 (fun h => h)
  have e1 := k1.size
  simp -dsimp [again_cons, hA1, hB1]
  refine call_by (both_spec (f := 40) (by simp) add_spec (r2.mono (m1 h1 k01)) (fun b hb => by have := hF b hb; omega) (q2.mono (m2 h1 k01)) (fun b hb => by have := hG b hb; omega) sa.sum) ?_
  rintro _ h2 ⟨o2, g2, k2, n2⟩
  obtain ⟨a2, c2, hv2⟩ := g2.val
  obtain ⟨l2, hl2⟩ : ∃ m, (List.zipWith (fun x y => IntKind.i64.wrap (x + y)) a.sum b.sum).length = m := ⟨_, rfl⟩
  rw [hl2] at hv2
  subst hv2
  have k02 := k01.trans k2 (fun _ _ h => h)
  have hA2 := k2.at hA1 (fun h => h)
  have hB2 := k2.at hB1 (fun h => h)
  have e2 := k2.size
  simp -dsimp [again_cons, hA2, hB2]
  refine call_by (both_spec (f := 41) (by simp) min_spec (r3.mono (m1 h2 k02)) (fun b hb => by have := hF b hb; omega) (q3.mono (m2 h2 k02)) (fun b hb => by have := hG b hb; omega) sa.mn) ?_
  rintro _ h3 ⟨o3, g3, k3, n3⟩
  obtain ⟨a3, c3, hv3⟩ := g3.val
  obtain ⟨l3, hl3⟩ : ∃ m, (List.zipWith min a.mn b.mn).length = m := ⟨_, rfl⟩
  rw [hl3] at hv3
  subst hv3
  have k03 := k02.trans k3 (fun _ _ h => h)
  have hA3 := k3.at hA2 (fun h => h)
  have hB3 := k3.at hB2 (fun h => h)
  have e3 := k3.size
  simp -dsimp [again_cons, hA3, hB3]
  refine call_by (both_spec (f := 42) (by simp) max_spec (r4.mono (m1 h3 k03)) (fun b hb => by have := hF b hb; omega) (q4.mono (m2 h3 k03)) (fun b hb => by have := hG b hb; omega) sa.mx) ?_
  rintro _ h4 ⟨o4, g4, k4, n4⟩
  obtain ⟨a4, c4, hv4⟩ := g4.val
  obtain ⟨l4, hl4⟩ : ∃ m, (List.zipWith max a.mx b.mx).length = m := ⟨_, rfl⟩
  rw [hl4] at hv4
  subst hv4
  have k04 := k03.trans k4 (fun _ _ h => h)
  have hA4 := k4.at hA3 (fun h => h)
  have hB4 := k4.at hB3 (fun h => h)
  have hT4 := k4.at (k3.at (k2.at (k1.at hT0 (fun h => h)) (fun h => h)) (fun h => h)) (fun h => h)
  have e4 := k4.size
  have hset : ∀ o, (h4.setIfInBounds (h.size + 2) o)[h.size + 2]? = some o := fun o => set_same o (by omega)
  simp -dsimp [again_cons, hA4, hB4, hT4, hset]
  generalize hH : h4.setIfInBounds (h.size + 2) _ = h5
  have hz5 : h5.size = h4.size := by rw [← hH]; simp
  have hold : ∀ b, b ≠ h.size + 2 → h5[b]? = h4[b]? := fun b hn => by rw [← hH, set_other _ (fun e => hn e.symm)]
  have p1 := g1.own_lt
  have p2 := g2.own_lt
  have p3 := g3.own_lt
  have p4 := g4.own_lt
  refine hK _ _ ⟨_, fun b => o1 = some b ∨ o2 = some b ∨ o3 = some b ∨ o4 = some b, rfl, ⟨_, _, _, _, rfl, ?_, ?_, ?_, ?_⟩, ⟨by omega, fun b hb _ => by rw [hold b (by omega), k04.blk b hb (fun h => h)]⟩, ?_, ?_⟩
  · exact g1.ints.mono fun b hb => ⟨.inl hb, by
      have := n1 b hb
      have := p1 b hb
      rw [hold b (by omega), k4.blk b (by omega) (fun h => h), k3.blk b (by omega) (fun h => h), k2.blk b (by omega) (fun h => h)]⟩
  · exact g2.ints.mono fun b hb => ⟨.inr (.inl hb), by
      have := n2 b hb
      have := p2 b hb
      rw [hold b (by omega), k4.blk b (by omega) (fun h => h), k3.blk b (by omega) (fun h => h)]⟩
  · exact g3.ints.mono fun b hb => ⟨.inr (.inr (.inl hb)), by
      have := n3 b hb
      have := p3 b hb
      rw [hold b (by omega), k4.blk b (by omega) (fun h => h)]⟩
  · exact g4.ints.mono fun b hb => ⟨.inr (.inr (.inr hb)), by
      have := n4 b hb
      rw [hold b (by omega)]⟩
  · rintro b (hb | hb | hb | hb)
    · have := n1 b hb; have := p1 b hb; omega
    · have := n2 b hb; have := p2 b hb; omega
    · have := n3 b hb; have := p3 b hb; omega
    · have := n4 b hb; have := p4 b hb; omega
  · rintro b (hb | hb | hb | hb)
    · refine (g1.thaw b hb).at ?_
      have := n1 b hb; have := p1 b hb
      rw [hold b (by omega), k4.blk b (by omega) (fun h => h), k3.blk b (by omega) (fun h => h), k2.blk b (by omega) (fun h => h)]
    · refine (g2.thaw b hb).at ?_
      have := n2 b hb; have := p2 b hb
      rw [hold b (by omega), k4.blk b (by omega) (fun h => h), k3.blk b (by omega) (fun h => h)]
    · refine (g3.thaw b hb).at ?_
      have := n3 b hb; have := p3 b hb
      rw [hold b (by omega), k4.blk b (by omega) (fun h => h)]
    · refine (g4.thaw b hb).at ?_
      have := n4 b hb
      rw [hold b (by omega)]
theorem join_spec {F G : Nat → Prop} {h : Heap} {cs ds : List Value} {a b : CellM} (ha : rCell.rep F h cs a) (hF : ∀ b, F b → b < h.size) (sa : CellSmall a) (hb : rCell.rep G h ds b) (hG : ∀ b, G b → b < h.size) :
    CallH Try.prog 29 #[.agg cs.toArray, .agg ds.toArray] h fun r h' => ∃ es E, r = .agg es.toArray ∧ rCell.rep E h' es (joinC a b) ∧ Keep none_ h h' ∧ ∀ b, E b → h.size ≤ b ∧ b < h'.size :=
  (join_th ha hF sa hb hG).mono fun _ _ ⟨ds, G, e, r, k, n, _⟩ => ⟨ds, G, e, r, k, n⟩
end Go.Proofs

/-
  A cell in memory of its own, by way of a group of one.
-/
namespace Go.Proofs
open Go Go.HC

set_option maxRecDepth 10000 in
theorem cloneCell_spec {F : Nat → Prop} {h : Heap} {v : Value} {xs : List CellM} {own : Option Nat} (hg : Grow rCell 31 F h v xs own) (hF : ∀ b, F b → b < h.size) (hn : xs.length < 1000000000) :
    CallH Try.prog 10 #[v] h fun r h' => ∃ own', Grow rCell 31 F h' r xs own' ∧ Keep none_ h h' ∧ ∀ b, own' = some b → h.size ≤ b := by
  refine enter [.tmp 2] Try.func10 rfl rfl (by kernel_rfl) rfl ?_
  have hl := hg.own_lt
  rcases hg with ⟨rfl, rfl, rfl⟩ | ⟨bk, c, arr, cs, rfl, rfl, h1, h2, h3, h4, h5, h6, h7⟩
  · simp -dsimp
    exact ⟨none, .nil _ _ _ _, .refl _ _, fun b hb => by cases hb⟩
  · obtain ⟨cs', _, hq1, hq2, hcel, hel⟩ := (Grow.cells (R := rCell) (.inr ⟨bk, c, arr, cs, rfl, rfl, h1, h2, h3, h4, h5, h6, h7⟩) : ∃ cs, _)
    simp -dsimp
    refine clone_cells (F := F) (F2 := fun b => some bk = some b) cellT hF hl rfl hcel hel (by omega) (by omega) ?_
    intro v' h' own' hg' hk ho hz
    obtain ⟨a', c', rfl⟩ := hg'.val
    simp -dsimp
    exact ⟨own', hg', hk, ho⟩

set_option maxRecDepth 10000 in
theorem searchNil_spec {h : Heap} {cs : List Value} (hl : cs.length = 5) (ho : cs.all Value.oneCell' = true) (fv : Value) :
    CallH Try.prog 27 #[.slice none 0 0, .agg cs.toArray, fv] h fun r h' => r = .tuple #[.int .i64 0, .bool false] ∧ Keep none_ h h' := by
  refine callH_by fun K hK => ?_
  obtain ⟨v0, v1, v2, v3, v4, rfl⟩ : ∃ v0 v1 v2 v3 v4, cs = [v0, v1, v2, v3, v4] := by
    match cs, hl with
    | [a, b, c, d, e], _ => exact ⟨a, b, c, d, e, rfl⟩
  simp only [List.all_cons, List.all_nil, Bool.and_true, Bool.and_eq_true] at ho
  obtain ⟨u0, u1, u2, u3, u4⟩ := ho
  refine enter [.tmp 6, .tmp 7] Try.func27 rfl rfl (by kernel_rfl) rfl ?_
  simp -dsimp [boxS_eq]
  generalize hB : h.push _ = h0
  have k0 : Keep none_ h h0 := by rw [← hB]; exact .push _ _ _
  refine loop' (σ := Unit) (fun _ => [(8, .int .i64 0), (9, .int .i64 0), (10, .int .i64 0)]) (fun _ => []) (fun _ h' => h' = h0) (fun _ => 0) () ?_ rfl rfl (by kernel_rfl) ?_
  · intro p hp
    simp at hp
    rcases hp with rfl | rfl | rfl <;> simp
  · rintro _ h' g rfl
    simp -dsimp
    refine drawn_by [⟨0, true, []⟩, ⟨1, true, []⟩, ⟨2, true, []⟩, ⟨3, true, []⟩, ⟨4, true, []⟩, ⟨5, true, []⟩, ⟨6, true, []⟩, ⟨7, true, []⟩, ⟨8, true, []⟩, ⟨9, true, []⟩, ⟨10, true, []⟩, ⟨11, false, [0]⟩, ⟨12, true, []⟩, ⟨13, true, []⟩, ⟨14, true, []⟩, ⟨15, true, []⟩] (by kernel_rfl) (by kernel_rfl) ?_
    simp -dsimp
    exact hK _ _ ⟨rfl, k0⟩

set_option maxRecDepth 10000 in
theorem insertNil_spec {F : Nat → Prop} {h : Heap} {cs : List Value} {c : CellM} {sb : Nat} (hr : rCell.rep F h cs c) (hF : ∀ b, F b → b < h.size) (hs : h[sb]? = some (.cells cs.toArray 31 (0, 0))) :
    CallH Try.prog 30 #[.slice none 0 0, .int .i64 0, .slice (some ⟨sb, 0, none⟩) 1 1] h fun r h' => ∃ own, Grow rCell 31 F h' r [c] own ∧ Keep none_ h h' ∧ ∀ b, own = some b → h.size ≤ b := by
  refine callH_by fun K hK => ?_
  refine enter [.tmp 6] Try.func30 rfl rfl (by kernel_rfl) rfl ?_
  have hsl : ∀ (K : Value → Heap → Prop) (h : Heap), sliceS Try.prog 24 (.slice none 0 0) (some (.int .i64 0)) none none h K = K (.slice none 0 0) h := fun K h =>
    sliceS_slice (P := Try.prog) (T := 24) (a := none) (n := 0) (c := 0) (lo := some (.int .i64 ((0 : Nat) : Int))) (hi := none) (mx := none) (i := 0) (j := 0) (m := 0) Try.elS24 Try.szS31 (.inl ⟨rfl, rfl⟩) (.inl ⟨rfl, rfl⟩) (.inr ⟨_, rfl⟩) (by omega) (by omega) (by omega)
  simp -dsimp [hsl]
  have hcl := rCell.len hr
  refine append_grow (F := F) (F2 := fun b => b = sb) (ys := [c]) cellT (Grow.nil _ _ _ _) hF rfl (.inr ⟨sb, 0, _, _, _, rfl, rfl, hs, by simp⟩) (.single hr) (by simp) (by simp) ?_
  intro v' h' own' hg hk ho
  obtain ⟨a', c', rfl⟩ := hg.val
  simp -dsimp
  exact hK _ _ ⟨own', hg, ⟨hk.size, fun b hb _ => hk.blk b hb (fun e => by cases e)⟩, fun b hb => (ho b hb).elim (fun e => by cases e) id⟩

set_option maxHeartbeats 4000000 in
set_option maxRecDepth 10000 in
theorem put1_spec {F : Nat → Prop} {h : Heap} {cs : List Value} {c : CellM} {ob : Nat} {fv jv : Value} (hr : rCell.rep F h cs c) (hF : ∀ b, F b → b < h.size) (hFo : ¬ F ob) (_hfv : fv.oneCell' = true) (hs : h[ob]? = some (.cells #[.slice none 0 0, fv] 79 (0, 0))) :
    CallH Try.prog 38 #[.pointer (some ⟨ob, 0, none⟩), .agg cs.toArray, jv] h fun r h' => r = .tuple #[] ∧ ∃ v own, h'[ob]? = some (.cells #[v, fv] 79 (0, 0)) ∧ Grow rCell 31 F h' v [c] own ∧ Keep (fun b => b = ob) h h' ∧ ∀ b, own = some b → h.size ≤ b := by
  refine callH_by fun K hK => ?_
  refine enter [] Try.func38 rfl rfl (by kernel_rfl) rfl ?_
  have hlen := rCell.len hr
  have hone := rCell.one hr
  obtain ⟨v0, v1, v2, v3, v4, rfl⟩ : ∃ v0 v1 v2 v3 v4, cs = [v0, v1, v2, v3, v4] := by
    match cs, hlen with
    | [a, b, c, d, e], _ => exact ⟨a, b, c, d, e, rfl⟩
  have hone' := hone
  simp only [List.all_cons, List.all_nil, Bool.and_true, Bool.and_eq_true] at hone'
  obtain ⟨u0, u1, u2, u3, u4⟩ := hone'
  have hob := lt_of_blk hs
  simp -dsimp [boxS_eq]
  generalize hB : h.push _ = h0
  have k0 : Keep none_ h h0 := by rw [← hB]; exact .push _ _ _
  have hz0 : h0.size = h.size + 1 := by rw [← hB]; simp
  have hc0 : h0[h.size]? = some (.cells #[v0, v1, v2, v3, v4] 31 (0, 0)) := by rw [← hB]; exact push_new _ _
  have hs0 := k0.at hs (fun h => h)
  refine drawn_by [⟨0, true, []⟩, ⟨1, true, []⟩, ⟨2, true, []⟩, ⟨3, true, []⟩, ⟨4, true, []⟩, ⟨5, true, []⟩, ⟨6, true, []⟩, ⟨7, true, []⟩, ⟨8, true, []⟩, ⟨9, false, []⟩, ⟨10, true, []⟩, ⟨11, true, []⟩, ⟨12, true, []⟩, ⟨13, true, []⟩, ⟨14, true, []⟩] (by kernel_rfl) (by kernel_rfl) ?_
  simp -dsimp [hs0, hc0]
  refine call_by (searchNil_spec hlen hone fv) ?_
  rintro _ h1 ⟨rfl, k1⟩
  have k01 := k0.trans k1 (fun _ _ h => h)
  have hs1 := k1.at hs0 (fun h => h)
  have hc1 := k1.at hc0 (fun h => h)
  have e1 := k1.size
  simp -dsimp
  refine drawn_by [⟨0, true, []⟩, ⟨1, true, []⟩, ⟨2, true, []⟩, ⟨3, true, []⟩, ⟨4, true, []⟩, ⟨5, true, []⟩, ⟨6, true, []⟩, ⟨7, false, [0, 1, 2, 3, 4, 5]⟩, ⟨8, false, [0]⟩, ⟨9, true, []⟩, ⟨10, true, []⟩, ⟨11, false, []⟩] (by kernel_rfl) (by kernel_rfl) ?_
  have hs1' := push_at (o := .cells #[v0, v1, v2, v3, v4] 31) hs1
  simp -dsimp [again_cons, hs1, hc1, hs1']
  generalize hB2 : h1.push _ = h2
  have k2 : Keep none_ h1 h2 := by rw [← hB2]; exact .push _ _ _
  have hz2 : h2.size = h1.size + 1 := by rw [← hB2]; simp
  have hc2 : h2[h1.size]? = some (.cells #[v0, v1, v2, v3, v4] 31 (0, 0)) := by rw [← hB2]; exact push_new _ _
  have k02 := k01.trans k2 (fun _ _ h => h)
  have hs2 := k2.at hs1 (fun h => h)
  have hr2 := rCell.mono hr fun b hb => (⟨hb, k02.blk b (hF b hb) (fun h => h)⟩ : F b ∧ h2[b]? = h[b]?)
  refine call_by (insertNil_spec hr2 (fun b hb => by have := hF b hb; omega) hc2) ?_
  rintro _ h3 ⟨own3, hg3, k3, ho3⟩
  obtain ⟨a3, c3, rfl⟩ := hg3.val
  have hs3 := k3.at hs2 (fun h => h)
  have e3 := k3.size
  simp -dsimp [again_cons, hs3]
  generalize hH : h3.setIfInBounds ob _ = h4
  have hz4 : h4.size = h3.size := by rw [← hH]; simp
  have k03 := k02.trans k3 (fun _ _ h => h)
  have hob3 : own3 ≠ some ob := fun e => by have := ho3 ob e; omega
  refine hK _ _ ⟨rfl, _, own3, by rw [← hH]; exact set_same _ (lt_of_blk hs3), hg3.mono (fun b hb => ⟨hb, by rw [← hH]; exact set_other _ (fun e => hFo (e ▸ hb))⟩) fun b hb => ⟨fun hFb => by have := hF b hFb; have := ho3 b hb; omega, by rw [← hH]; exact set_other _ (fun e => hob3 (e ▸ hb))⟩,
      ⟨by omega, fun b hb hn => by rw [← hH, set_other _ (fun e => hn e.symm), k03.blk b hb (fun h => h)]⟩, fun b hb => by have := ho3 b hb; omega⟩

set_option maxHeartbeats 4000000 in
set_option maxRecDepth 10000 in
theorem group1_th {F : Nat → Prop} {h : Heap} {cs : List Value} {c : CellM} {sb : Nat} (hr : rCell.rep F h cs c) (hF : ∀ b, F b → b < h.size) (hc : CellSmall c) (hs : h[sb]? = some (.cells cs.toArray 31 (0, 0))) :
    CallH Try.prog 25 #[.slice (some ⟨sb, 0, none⟩) 1 1] h fun r h' => ∃ E own, Grow rCell 31 E h' r [c] own ∧ Keep none_ h h' ∧ (∀ b, E b → h.size ≤ b ∧ b < h'.size ∧ Thaw h' b) ∧ ∀ b, own = some b → h.size ≤ b := by
  refine callH_by fun K hK => ?_
  refine enter [.tmp 2] Try.func25 rfl rfl (by kernel_rfl) rfl ?_
  have hlen := rCell.len hr
  have hone := rCell.one hr
  obtain ⟨v0, v1, v2, v3, v4, rfl⟩ : ∃ v0 v1 v2 v3 v4, cs = [v0, v1, v2, v3, v4] := by
    match cs, hlen with
    | [a, b, c, d, e], _ => exact ⟨a, b, c, d, e, rfl⟩
  simp only [List.all_cons, List.all_nil, Bool.and_true, Bool.and_eq_true] at hone
  obtain ⟨u0, u1, u2, u3, u4⟩ := hone
  have hsb := lt_of_blk hs
  simp -dsimp
  generalize hB : Array.setIfInBounds _ h.size _ = h0
  have k0 : Keep none_ h h0 := by rw [← hB]; exact ((Keep.refl none_ h).pushed _).setted _ (fun hh => absurd hh (by omega))
  have hz0 : h0.size = h.size + 1 := by rw [← hB]; simp
  have ho0 : h0[h.size]? = some (.cells #[.slice none 0 0, .func (.func 36) #[] #[]] 79 (0, 0)) := by rw [← hB]; exact set_same _ (by simp)
  have hs0 := k0.at hs (fun h => h)
  have hidx : ∀ (K : Value → Heap → Prop) (h : Heap), indexAddrS Try.prog 24 (.slice (some ⟨sb, 0, none⟩) 1 1) (.int .i64 0) h K = K (.pointer (some ⟨sb, 0, none⟩)) h := by
    intro K h
    rw [indexAddrS_slice (i := 0) _ _ _ _ _ (by omega) (by omega) rfl]
    simp [elSz]
  refine loop' (σ := Bool) (fun t => [(3, .pointer (some ⟨h.size, 0, none⟩)), (7, .slice (some ⟨sb, 0, none⟩) 1 1), (8, .int .i64 1), (9, .int .i64 (if t = true then 1 else 0))]) (fun _ => [])
    (fun t h1 => (t = false ∧ h1 = h0) ∨ (t = true ∧ Keep none_ h h1 ∧ ∃ E v own, h1[h.size]? = some (.cells #[v, .func (.func 36) #[] #[]] 79 (0, 0)) ∧ Grow rCell 31 E h1 v [c] own ∧ (∀ b, E b → h.size ≤ b ∧ b < h1.size ∧ Thaw h1 b) ∧ ∀ b, own = some b → h.size ≤ b))
    (fun t => if t = true then 0 else 1) false ?_ rfl (.inl ⟨rfl, rfl⟩) (by kernel_rfl) ?_
  · intro p hp
    simp at hp
    rcases hp with rfl | rfl | rfl | rfl <;> simp
  · rintro t h1 g (⟨rfl, rfl⟩ | ⟨rfl, k1, E, v, own, ho1, hg, hE, ho⟩)
    · simp -dsimp [hidx, hs0, u0, u1, u2, u3, u4]
      generalize hB2 : Array.setIfInBounds _ h1.size _ = h2
      have k2 : Keep none_ h1 h2 := by rw [← hB2]; exact ((Keep.refl none_ h1).pushed _).setted _ (fun hh => absurd hh (by omega))
      have hz2 : h2.size = h1.size + 1 := by rw [← hB2]; simp
      have hc2 : h2[h1.size]? = some (.cells #[v0, v1, v2, v3, v4] 31 (0, 0)) := by rw [← hB2]; exact set_same _ (by simp)
      have k02 := k0.trans k2 (fun _ _ h => h)
      have hr2 := rCell.mono hr fun b hb => (⟨hb, k02.blk b (hF b hb) (fun h => h)⟩ : F b ∧ h2[b]? = h[b]?)
      have ho2 := k2.at ho0 (fun h => h)
      refine call_by (cellOwn_th hr2 (fun b hb => by have := hF b hb; omega) hc) ?_
      rintro _ h3 ⟨ds, E, rfl, hr3, k3, hE, hT⟩
      have ho3 := k3.at ho2 (fun h => h)
      have e3 := k3.size
      simp -dsimp
      refine call_by (put1_spec hr3 (fun b hb => (hE b hb).2) (fun hb => by have := (hE _ hb).1; omega) rfl ho3) ?_
      rintro _ h4 ⟨rfl, v, own, ho4, hg4, k4, ho⟩
      have e4 := k4.size
      have k03 := k02.trans k3 (fun _ _ h => h)
      simp -dsimp
      refine ⟨true, ?_, rfl, .inr ⟨rfl, ⟨by omega, fun b hb _ => by rw [k4.blk b (by omega) (by omega), k03.blk b hb (fun h => h)]⟩, E, v, ho4, own, hg4, fun b hb => by have := hE b hb; exact ⟨by omega, by omega, (hT b hb).at (k4.blk b (by omega) (by omega))⟩, fun b hb => by have := ho b hb; omega⟩, by simp⟩
      intro p hp
      simp at hp
      rcases hp with rfl | rfl | rfl | rfl <;> simp
    · obtain ⟨a, cc, rfl⟩ := hg.val
      simp -dsimp [ho1]
      refine call_by (cloneCell_spec hg (fun b hb => (hE b hb).2.1) (by simp)) ?_
      rintro _ h2 ⟨own2, hg2, k2, ho2⟩
      obtain ⟨a2, c2, rfl⟩ := hg2.val
      have e1 := k1.size
      have e2 := k2.size
      simp -dsimp
      exact hK _ _ ⟨E, own2, hg2, k1.trans k2 (fun _ _ h => h), fun b hb => by have := hE b hb; exact ⟨this.1, by omega, this.2.2.at (k2.blk b this.2.1 (fun h => h))⟩, fun b hb => by have := ho2 b hb; omega⟩

set_option maxHeartbeats 4000000 in
set_option maxRecDepth 10000 in
theorem hashOwn_th {F : Nat → Prop} {h : Heap} {cs : List Value} {c : CellM} (hr : rCell.rep F h cs c) (hF : ∀ b, F b → b < h.size) (hc : CellSmall c) :
    CallH Try.prog 59 #[.agg cs.toArray] h fun r h' => ∃ ds G, r = .agg ds.toArray ∧ rCell.rep G h' ds c ∧ Keep none_ h h' ∧ ∀ b, G b → h.size ≤ b ∧ b < h'.size ∧ Thaw h' b := by
  refine callH_by fun K hK => ?_
  refine enter [.cell 2 31] Try.func59 rfl rfl (by kernel_rfl) rfl ?_
  have hlen := rCell.len hr
  have hone := rCell.one hr
  obtain ⟨v0, v1, v2, v3, v4, rfl⟩ : ∃ v0 v1 v2 v3 v4, cs = [v0, v1, v2, v3, v4] := by
    match cs, hlen with
    | [a, b, c, d, e], _ => exact ⟨a, b, c, d, e, rfl⟩
  simp only [List.all_cons, List.all_nil, Bool.and_true, Bool.and_eq_true] at hone
  obtain ⟨u0, u1, u2, u3, u4⟩ := hone
  simp -dsimp [boxS_eq]
  generalize hB : (h.push _).push _ = h0
  have k0 : Keep none_ h h0 := by rw [← hB]; exact ((Keep.refl none_ h).pushed _).pushed _
  have hz0 : h0.size = h.size + 2 := by rw [← hB]; simp
  have hc0 : h0[h.size]? = some (.cells #[v0, v1, v2, v3, v4] 31 (0, 0)) := by rw [← hB]; exact push_at (push_new _ _)
  have ht0 : h0[h.size + 1]? = some (.cells #[.slice none 0 0, .int .i64 0, .slice none 0 0, .slice none 0 0, .slice none 0 0] 31 (0, 0)) := by
    rw [← hB]
    have : (h.push (.cells #[v0, v1, v2, v3, v4] 31)).size = h.size + 1 := by simp
    rw [← this]; exact push_new _ _
  simp -dsimp [hc0]
  generalize hB2 : h0.push _ = h1
  have k1 : Keep none_ h0 h1 := by rw [← hB2]; exact .push _ _ _
  have hz1 : h1.size = h0.size + 1 := by rw [← hB2]; simp
  have hc1 : h1[h0.size]? = some (.cells #[v0, v1, v2, v3, v4] 31 (0, 0)) := by rw [← hB2]; exact push_new _ _
  have k01 := k0.trans k1 (fun _ _ h => h)
  have ht1 := k1.at ht0 (fun h => h)
  have hr1 := rCell.mono hr fun b hb => (⟨hb, k01.blk b (hF b hb) (fun h => h)⟩ : F b ∧ h1[b]? = h[b]?)
  refine call_by (group1_th hr1 (fun b hb => by have := hF b hb; omega) hc hc1) ?_
  rintro _ h2 ⟨E, own, hg, k2, hE, ho⟩
  obtain ⟨a2, c2, rfl⟩ := hg.val
  obtain ⟨bk, es, rfl, hown, hrr, hce⟩ := hg.elem 0 (by simp)
  have hrr' : rCell.rep E h2 es c := hrr
  have ht2 := k2.at ht1 (fun h => h)
  have e2 := k2.size
  have hlen2 := rCell.len hrr'
  have hone2 := rCell.one hrr'
  obtain ⟨w0, w1, w2, w3, w4, rfl⟩ : ∃ w0 w1 w2 w3 w4, es = [w0, w1, w2, w3, w4] := by
    match es, hlen2 with
    | [a, b, c, d, e], _ => exact ⟨a, b, c, d, e, rfl⟩
  simp only [List.all_cons, List.all_nil, Bool.and_true, Bool.and_eq_true] at hone2
  obtain ⟨z0, z1, z2, z3, z4⟩ := hone2
  have hce' : HC.cellsIn h2[bk]? 0 5 = some [w0, w1, w2, w3, w4] := hce
  have hidx : ∀ (K : Value → Heap → Prop) (h : Heap), indexAddrS Try.prog 24 (.slice (some ⟨bk, 0, none⟩) 1 c2) (.int .i64 0) h K = K (.pointer (some ⟨bk, 0, none⟩)) h := by
    intro K h
    rw [indexAddrS_slice (i := 0) _ _ _ _ _ (by omega) (by omega) rfl]
    simp [elSz]
  have hset : ∀ o, (h2.setIfInBounds (h.size + 1) o)[h.size + 1]? = some o := fun o => set_same o (by omega)
  simp -dsimp [hidx, hce', ht2, hset, z0, z1, z2, z3, z4]
  generalize hH : h2.setIfInBounds (h.size + 1) _ = h3
  have hz3 : h3.size = h2.size := by rw [← hH]; simp
  have hold : ∀ b, b ≠ h.size + 1 → h3[b]? = h2[b]? := fun b hn => by rw [← hH, set_other _ (fun e => hn e.symm)]
  refine hK _ _ ⟨[w0, w1, w2, w3, w4], E, rfl, rCell.mono hrr' fun b hb => ⟨hb, hold b (by have := hE b hb; omega)⟩, ⟨by omega, fun b hb _ => by rw [hold b (by omega), k2.blk b (by omega) (fun h => h), k01.blk b hb (fun h => h)]⟩, fun b hb => by have := hE b hb; exact ⟨by omega, by omega, this.2.2.at (hold b (by omega))⟩⟩
theorem hashOwn_spec {F : Nat → Prop} {h : Heap} {cs : List Value} {c : CellM} (hr : rCell.rep F h cs c) (hF : ∀ b, F b → b < h.size) (hc : CellSmall c) :
    CallH Try.prog 59 #[.agg cs.toArray] h fun r h' => ∃ ds G, r = .agg ds.toArray ∧ rCell.rep G h' ds c ∧ Keep none_ h h' ∧ ∀ b, G b → h.size ≤ b ∧ b < h'.size :=
  (hashOwn_th hr hF hc).mono fun _ _ ⟨ds, G, e, r, k, n⟩ => ⟨ds, G, e, r, k, fun b hb => ⟨(n b hb).1, (n b hb).2.1⟩⟩
end Go.Proofs

/-
  The program's table: made; a cell is put.
-/
namespace Go.HC
theorem zeros_succ (z : Value) (n : Nat) (_hs : 0 < z.cells.size) : (zeros z (n + 1)).toList = z.cells.toList ++ (zeros z n).toList := by
  unfold zeros
  simp only [Array.toList_map, Array.toList_range]
  rw [Nat.succ_mul, Nat.add_comm, List.range_add, List.map_append, List.map_map]
  congr 1
  · apply List.ext_getElem
    · simp
    · intro i h1 h2
      have h3 : i < z.cells.size := by simpa using h2
      simp [Nat.mod_eq_of_lt h3, h3]
  · apply List.map_congr_left
    intro i _
    simp
theorem zeros_elems {α : Type} {R : Rp α} {F : Nat → Prop} {h : Heap} {z : Value} {x : α} (hr : R.rep F h z.cells.toList x) : ∀ (n : Nat), Elems R F h (zeros z n).toList (List.replicate n x)
  | 0 => by simp [zeros, Elems]
  | n + 1 => by
    have hl := R.len hr
    have hp := R.pos
    rw [zeros_succ z n (by simp at hl; omega), List.replicate_succ]
    exact ⟨_, _, rfl, hr, zeros_elems hr n⟩
/-- No row of a stored cell is too long. -/
def TabSmall (T : Tab) : Prop := ∀ (k : Nat) (c : CellM), T[k]? = some (some c) → CellSmall c
theorem joinC_small {a b : CellM} (h : CellSmall a) : CellSmall (joinC a b) :=
  ⟨h.key, by have := h.sum; simp [joinC]; omega, by have := h.mn; simp [joinC]; omega, by have := h.mx; simp [joinC]; omega⟩
theorem put_small {T T' : Tab} {c : CellM} (h : TabSmall T) (hc : CellSmall c) (hp : putM T c = some T') : TabSmall T' := by
  unfold putM at hp
  split at hp
  · cases hp
  · rename_i k hf
    simp only [Option.some.injEq] at hp
    subst hp
    intro m d hd
    rw [List.getElem?_set] at hd
    split at hd
    · split at hd
      · simp only [Option.some.injEq] at hd
        split at hd
        · rename_i e he
          cases hd
          exact joinC_small (h _ _ he)
        · cases hd; exact hc
      · cases hd
    · exact h m d hd
end Go.HC
namespace Go.Proofs
open Go Go.HC

set_option maxRecDepth 10000 in
theorem hnew_spec (n : Nat) (hn : n < 1000000000) (h : Heap) : CallH Try.prog 48 #[.int .i64 n] h fun r h' => ∃ F, TabAt r F h' (newM n) ∧ Keep none_ h h' ∧ ∀ b, F b → h.size ≤ b := by
  refine callH_by fun K hK => ?_
  refine enter [.tmp 2] Try.func48 rfl rfl (by kernel_rfl) rfl ?_
  have hmx : max (n : Int) 0 = n := by omega
  have hms : ∀ (K : Value → Heap → Prop) (h : Heap), makeSliceS Try.prog 95 (.int .i64 (n : Int)) (.int .i64 (n : Int)) h K = K (.slice (some ⟨h.size, 0, none⟩) n n) (h.push (.cells (zeros (.agg #[.slice none 0 0, .int .i64 0, .slice none 0 0, .slice none 0 0, .slice none 0 0, .bool false]) n) 100)) := by
    intro K h
    have := make_slice (P := Try.prog) (K := K) (h := h) (k := .i64) (k' := .i64) (n := (n : Int)) Try.elS95 Try.szS100 Try.byS100 Try.zS100 rfl (by omega) (by omega) (by omega)
    simpa using this
  simp -dsimp [hmx, hms, boxS_eq]
  generalize hH : (h.push _).push _ = h2
  have hp1 : ∀ o, (h.push o).size = h.size + 1 := fun o => by simp
  have hz : h2.size = h.size + 2 := by rw [← hH]; simp
  have hk : Keep none_ h h2 := by rw [← hH]; exact ((Keep.refl none_ h).pushed _).pushed _
  have hb1 : h2[h.size]? = some (.cells (zeros (.agg #[.slice none 0 0, .int .i64 0, .slice none 0 0, .slice none 0 0, .slice none 0 0, .bool false]) n) 100 (0, 0)) := by rw [← hH]; exact push_at (push_new _ _)
  have hb2 : h2[h.size + 1]? = some (.cells #[.slice (some ⟨h.size, 0, none⟩) n n, .int .i64 0] 97 (0, 0)) := by rw [← hH, ← hp1]; exact push_new _ _
  have hel : Elems rSlot none_ h2 (zeros (.agg #[.slice none 0 0, .int .i64 0, .slice none 0 0, .slice none 0 0, .slice none 0 0, .bool false]) n).toList (newM n) := zeros_elems (R := rSlot) (x := none) (show (Value.agg #[.slice none 0 0, .int .i64 0, .slice none 0 0, .slice none 0 0, .slice none 0 0, .bool false]).cells.toList = [.slice none 0 0, .int .i64 0, .slice none 0 0, .slice none 0 0, .slice none 0 0, .bool false] from rfl) n
  have hlen : (newM n).length = n := List.length_replicate
  refine hK _ _ ⟨tfoot (h.size + 1) (some h.size) none_, ⟨h.size + 1, .slice (some ⟨h.size, 0, none⟩) n n, some h.size, none_, rfl, rfl, ?_, ?_, fun b hb => hb.elim, by simp, newM_ok n⟩, hk, ?_⟩
  · rw [newM_taken]; exact hb2
  · refine .inr ⟨h.size, n, _, _, by rw [hlen], rfl, hb1, fun h => h, ?_, by rw [hlen]; exact Nat.le_refl _, by omega, rfl, ?_⟩
    · have := hel.len
      rw [hlen] at this
      simpa using this
    · have hl := hel.len
      rw [List.take_of_length_le (by rw [hl]; exact Nat.le_refl _)]
      exact hel
  · rintro b (rfl | hb | hb)
    · omega
    · cases hb; omega
    · exact hb.elim

theorem TabC.widen {h : Heap} {T : Tab} {bs : Nat} {sv : Value} {os : Option Nat} {R : Nat → Prop} (s : TabC h T bs sv os R) {G : Nat → Prop} (hG : ∀ b, G b → b < h.size ∧ b ≠ bs ∧ os ≠ some b) : TabC h T bs sv os (fun b => R b ∨ G b) where
  str := s.str
  slots := s.slots.mono (fun _ hb => ⟨.inl hb, rfl⟩) fun b hb => ⟨fun hR => hR.elim (fun h => (s.sep b h).2.2 hb) (fun h => (hG b h).2.2 hb), rfl⟩
  sep := fun _ hb => hb.elim (s.sep _) (hG _)
  o1 := s.o1
  ok := s.ok
theorem tfoot_sub {bs n : Nat} {os : Option Nat} {R R' : Nat → Prop} (h3 : ∀ b, R' b → R b ∨ n ≤ b) : ∀ b, tfoot bs os R' b → tfoot bs os R b ∨ n ≤ b := by
  rintro b (rfl | h | h)
  · exact .inl (.inl rfl)
  · exact .inl (.inr (.inl h))
  · exact (h3 b h).imp (fun h => .inr (.inr h)) id

set_option maxHeartbeats 40000000 in
set_option maxRecDepth 10000 in
theorem hput_spec {v : Value} {F G : Nat → Prop} {h : Heap} {T : Tab} (s : TabAt v F h T) (hT : T.length < 1000000000) (hsm : TabSmall T) {cs : List Value} {c : CellM} (hr : rCell.rep G h cs c) (hG : ∀ b, G b → b < h.size) (hc : CellSmall c) :
    CallH Try.prog 49 #[v, .agg cs.toArray] h fun r h' => r = .bool (putM T c).isSome ∧ ∃ F', TabAt v F' h' ((putM T c).getD T) ∧ Keep F h h' ∧ ∀ b, F' b → F b ∨ h.size ≤ b := by
  refine callH_by fun K hK => ?_
  obtain ⟨bs, sv, os, R, rfl, rfl, s⟩ := s
  refine enter [.tmp 4] Try.func49 rfl rfl (by kernel_rfl) rfl ?_
  have hr0 := hr
  obtain ⟨kv, sv1, nv, xv, rfl, r1, r2, r3, r4⟩ := hr
  obtain ⟨ka, kc, rfl, _, _⟩ := r1.val
  obtain ⟨sa, sc, rfl, _, _⟩ := r2.val
  obtain ⟨na, nc, rfl, _, _⟩ := r3.val
  obtain ⟨xa, xc, rfl, _, _⟩ := r4.val
  have hRl : ∀ b, R b → b < h.size := fun b hb => (s.sep b hb).1
  have hol := s.slots.own_lt
  have hbs := lt_of_blk s.str
  simp -dsimp [boxS_eq]
  generalize hB : h.push _ = h0
  have k0 : Keep none_ h h0 := by rw [← hB]; exact .push _ _ _
  have hz0 : h0.size = h.size + 1 := by rw [← hB]; simp
  have hc0 : h0[h.size]? = some (.cells #[.slice ka c.key.length kc, .int .i64 c.count, .slice sa c.sum.length sc, .slice na c.mn.length nc, .slice xa c.mx.length xc] 31 (0, 0)) := by rw [← hB]; exact push_new _ _
  have s0 := s.mono (h' := h0) (by omega) fun b hb => k0.blk b (s.lt b hb) (fun h => h)
  have q1 : SlRep rInt G h0 (.slice ka c.key.length kc) c.key := r1.mono fun b hb => ⟨hb, k0.blk b (hG b hb) (fun h => h)⟩
  refine call_by (find_spec s0.at hT q1 (fun b hb => by have := hG b hb; omega)) ?_
  rintro _ h1 ⟨rfl, k1⟩
  have k01 := k0.trans k1 (fun _ _ h => h)
  have e1 := k1.size
  have s1 := s0.mono (h' := h1) e1 fun b hb => k1.blk b (s0.lt b hb) (fun h => h)
  have hs1 := s1.str
  have hc1 := k1.at hc0 (fun h => h)
  cases hf : findM T c.key with
  | none =>
    have hp : putM T c = none := by unfold putM; rw [hf]
    rw [hp] at hK
    simp -dsimp
    exact hK _ _ ⟨rfl, _, s1.at, k01.none, fun b hb => .inl hb⟩
  | some k =>
    obtain ⟨hk, hor, _⟩ := find_spec_some hf
    have hneg : ¬ ((k : Int) < 0) := by omega
    obtain ⟨ta, tc, rfl⟩ := s.slots.val
    obtain ⟨bk, es, rfl, rfl, hrs, hce⟩ := s1.slots.elem k hk
    obtain ⟨w0, wn, w2, w3, w4, rfl, hkey, u0, u2, u3, u4⟩ := slot_cells hrs
    have hce' : HC.cellsIn h1[bk]? (k * 6) 6 = some [w0, .int .i64 wn, w2, w3, w4, .bool T[k].isSome] := hce
    have hidx : ∀ (K : Value → Heap → Prop) (h : Heap), indexAddrS Try.prog 95 (.slice (some ⟨bk, 0, none⟩) T.length tc) (.int .i64 (k : Int)) h K = K (.pointer (some ⟨bk, k * 6, none⟩)) h := by
      intro K h
      rw [indexAddrS_slice _ _ _ _ _ _ (by omega) (by omega) rfl]
      simp [elSz]
    have hidv : ∀ sz ar kk, idxV sz ar (.slice (some ⟨bk, 0, none⟩) T.length tc) (.int kk (k : Int)) = sz.map fun s => .pointer (some ⟨bk, k * s, none⟩) := by
      intro sz ar kk
      rw [idxV_slice (by omega) (by omega) rfl]
      simp
    simp -dsimp [hneg, hs1, hidx, hce', u0, u2, u3, u4]
    generalize hB2 : Array.setIfInBounds _ h1.size _ = h2
    have k2 : Keep none_ h1 h2 := by rw [← hB2]; exact ((Keep.refl none_ h1).pushed _).setted _ (fun hh => absurd hh (by omega))
    have hz2 : h2.size = h1.size + 1 := by rw [← hB2]; simp
    have hfb : h2[h1.size]? = some (.cells #[w0, .int .i64 wn, w2, w3, w4, .bool T[k].isSome] 100 (0, 0)) := by rw [← hB2]; exact set_same _ (by simp)
    have k02 := k01.trans k2 (fun _ _ h => h)
    have s2 := s1.mono (h' := h2) (by omega) fun b hb => k2.blk b (s1.lt b hb) (fun h => h)
    have hs2 := s2.str
    have hc2 := k2.at hc1 (fun h => h)
    have hsat : T[k]? = some T[k] := List.getElem?_eq_getElem hk
    have hr2 : rCell.rep G h2 [.slice ka c.key.length kc, .int .i64 c.count, .slice sa c.sum.length sc, .slice na c.mn.length nc, .slice xa c.mx.length xc] c := rCell.mono hr0 fun b hb => ⟨hb, k02.blk b (hG b hb) (fun h => h)⟩
    cases hta : T[k] with
    | some d =>
      have hp : putM T c = some (T.set k (some (joinC d c))) := by unfold putM; rw [hf]; simp only; rw [hsat, hta]
      rw [hta] at hfb hrs
      obtain ⟨hok', htk, _⟩ := put_ok s.ok hp
      have htk' : takenM (T.set k (some (joinC d c))) = takenM T := taken_set_old (by rw [hsat, hta])
      rw [hp] at hK
      obtain ⟨ds0, hd1, hd2⟩ := hrs
      have hdl := rCell.len hd1
      obtain rfl : ds0 = [w0, .int .i64 wn, w2, w3, w4] := by
        match ds0, hdl with
        | [a, b, c, d, e], _ =>
          simp at hd2
          obtain ⟨rfl, rfl, rfl, rfl, rfl⟩ := hd2
          rfl
      have hd2' : rCell.rep R h2 [w0, .int .i64 wn, w2, w3, w4] d := rCell.mono hd1 fun b hb => ⟨hb, k2.blk b (by have := hRl b hb; omega) (fun h => h)⟩
      have hds : CellSmall d := hsm k d (by rw [hsat, hta])
      simp -dsimp
      refine drawn_by [⟨0, true, []⟩, ⟨1, true, []⟩, ⟨2, true, []⟩, ⟨3, true, []⟩, ⟨4, true, []⟩, ⟨5, true, []⟩, ⟨6, true, []⟩, ⟨7, true, []⟩, ⟨8, false, [0, 1, 2, 3, 4]⟩, ⟨9, true, []⟩, ⟨10, true, []⟩, ⟨11, false, []⟩] (by kernel_rfl) (by kernel_rfl) ?_
      simp -dsimp [hs2, hc2, hfb]
      refine call_by (join_spec hd2' (fun b hb => by have := hRl b hb; omega) hds hr2 (fun b hb => by have := hG b hb; omega)) ?_
      rintro _ h3 ⟨ds, E, rfl, hr3, k3, hE⟩
      have e3 := k3.size
      have s3 := s2.mono (h' := h3) e3 fun b hb => k3.blk b (s2.lt b hb) (fun h => h)
      have hs3 := s3.str
      have l2 : ∀ b, tfoot bs (some bk) R b → b < h.size := fun b hb => s.lt b hb
      have s3w := s3.widen (G := E) fun b hb => ⟨(hE b hb).2, fun e => by have := (hE b hb).1; omega, fun e => by have := (hE b hb).1; have := l2 b (.inr (.inl e)); omega⟩
      have hlen3 := rCell.len hr3
      have hone3 := rCell.one hr3
      have hr3' : rCell.rep (fun b => R b ∨ E b) h3 ds (joinC d c) := rCell.mono hr3 fun b hb => ⟨.inr hb, rfl⟩
      obtain ⟨z0, z1, z2, z3, z4, rfl⟩ : ∃ z0 z1 z2 z3 z4, ds = [z0, z1, z2, z3, z4] := by
        match ds, hlen3 with
        | [a, b, c, d, e], _ => exact ⟨a, b, c, d, e, rfl⟩
      obtain ⟨bk', tc', o, hv', how, hwr, hg4⟩ := s3w.slots.setF (i := k) (d := 0) (x := some (joinC d c)) (news := [z0, z1, z2, z3, z4]) hk (show 0 + 5 ≤ 6 from by decide) hone3 (by
        rw [hta]
        rintro cs0 ⟨ds1, hq1, rfl⟩
        have hql := rCell.len hq1
        refine ⟨[z0, z1, z2, z3, z4], hr3', ?_⟩
        have h5 : ds1.length = 5 := hql
        simp [h5])
      simp only [List.all_cons, List.all_nil, Bool.and_true, Bool.and_eq_true] at hone3
      obtain ⟨y0, y1, y2, y3, y4⟩ := hone3
      have hbk' : bk = bk' := by simpa using how
      subst hbk'
      have hwr' : writeIn h3[bk]? (k * 6) [z0, z1, z2, z3, z4] = some o := hwr
      have hnb : bk ≠ bs := fun e => s.o1 (by rw [e])
      have hs4 : (h3.setIfInBounds bk o)[bs]? = some (.cells #[.slice (some ⟨bk, 0, none⟩) T.length tc, .int .i64 (takenM T)] 97 (0, 0)) := (set_other _ hnb).trans hs3
      simp -dsimp [again_cons, hs3, hidv, elSz, hwr']
      generalize hH : h3.setIfInBounds bk o = h5 at hs4 hg4 ⊢
      have hz5 : h5.size = h3.size := by rw [← hH]; simp
      have hold : ∀ b, b ≠ bk → h5[b]? = h3[b]? := fun b hn' => by rw [← hH, set_other _ (fun e => hn' e.symm)]
      have hfin : TabC h5 (T.set k (some (joinC d c))) bs (.slice (some ⟨bk, 0, none⟩) T.length tc) (some bk) (fun b => R b ∨ E b) := by
        refine ⟨by rw [htk']; exact hs4, hg4, fun b hb => ⟨by have := (s3w.sep b hb).1; omega, (s3w.sep b hb).2⟩, s.o1, hok'⟩
      refine hK _ _ ⟨rfl, _, hfin.at, ⟨by omega, fun b hb hn => ?_⟩, tfoot_sub fun b hb => hb.imp id fun h => by have := (hE b h).1; omega⟩
      rw [hold b (fun e => hn (.inr (.inl (by rw [e])))), k3.blk b (by omega) (fun h => h), k02.blk b hb (fun h => h)]
    | none =>
      have hp : putM T c = some (T.set k (some c)) := by unfold putM; rw [hf]; simp only; rw [hsat, hta]
      rw [hta] at hfb
      obtain ⟨hok', htk, _⟩ := put_ok s.ok hp
      have htk' : takenM (T.set k (some c)) = takenM T + 1 := taken_set_new (by rw [hsat, hta])
      rw [hp] at hK
      have htl := taken_le T
      have wn1 : IntKind.i64.wrap ((takenM T : Int) + 1) = ((takenM T + 1 : Nat) : Int) := by rw [wrap_i64 (by omega) (by omega)]; rfl
      simp -dsimp
      refine drawn_by [⟨0, true, []⟩, ⟨1, true, []⟩, ⟨2, true, []⟩, ⟨3, true, []⟩, ⟨4, true, []⟩, ⟨5, true, []⟩, ⟨6, false, [0, 1, 2, 3, 4]⟩, ⟨7, false, [0, 1, 2, 3, 4]⟩, ⟨8, true, []⟩, ⟨9, false, []⟩] (by kernel_rfl) (by kernel_rfl) ?_
      simp -dsimp [hs2, hc2]
      refine call_by (hashOwn_spec hr2 (fun b hb => by have := hG b hb; omega) hc) ?_
      rintro _ h3 ⟨ds, E, rfl, hr3, k3, hE⟩
      have e3 := k3.size
      have s3 := s2.mono (h' := h3) e3 fun b hb => k3.blk b (s2.lt b hb) (fun h => h)
      have hs3 := s3.str
      have l2 : ∀ b, tfoot bs (some bk) R b → b < h.size := fun b hb => s.lt b hb
      have s3w := s3.widen (G := E) fun b hb => ⟨(hE b hb).2, fun e => by have := (hE b hb).1; omega, fun e => by have := (hE b hb).1; have := l2 b (.inr (.inl e)); omega⟩
      have hlen3 := rCell.len hr3
      have hone3 := rCell.one hr3
      have hr3' : rCell.rep (fun b => R b ∨ E b) h3 ds c := rCell.mono hr3 fun b hb => ⟨.inr hb, rfl⟩
      obtain ⟨z0, z1, z2, z3, z4, rfl⟩ : ∃ z0 z1 z2 z3 z4, ds = [z0, z1, z2, z3, z4] := by
        match ds, hlen3 with
        | [a, b, c, d, e], _ => exact ⟨a, b, c, d, e, rfl⟩
      simp only [List.all_cons, List.all_nil, Bool.and_true, Bool.and_eq_true] at hone3
      obtain ⟨y0, y1, y2, y3, y4⟩ := hone3
      obtain ⟨bk', tc', o, hv', how, hwr, hg4⟩ := s3w.slots.setE (i := k) (x := some c) (news := [z0, z1, z2, z3, z4, .bool true]) hk ⟨_, hr3', rfl⟩
      have hbk' : bk = bk' := by simpa using how
      subst hbk'
      have hwr' : writeIn h3[bk]? (k * 6) [z0, z1, z2, z3, z4, .bool true] = some o := hwr
      have hnb : bk ≠ bs := fun e => s.o1 (by rw [e])
      have hs4 : (h3.setIfInBounds bk o)[bs]? = some (.cells #[.slice (some ⟨bk, 0, none⟩) T.length tc, .int .i64 (takenM T)] 97 (0, 0)) := (set_other _ hnb).trans hs3
      simp -dsimp [again_cons, hs3, hidv, elSz, hwr', hs4, wn1]
      generalize hH : (h3.setIfInBounds bk o).setIfInBounds bs _ = h5
      have hz5 : h5.size = h3.size := by rw [← hH]; simp
      have hold : ∀ b, b ≠ bs → b ≠ bk → h5[b]? = h3[b]? := fun b hn hn' => by rw [← hH, set_other _ (fun e => hn e.symm), set_other _ (fun e => hn' e.symm)]
      have hfin : TabC h5 (T.set k (some c)) bs (.slice (some ⟨bk, 0, none⟩) T.length tc) (some bk) (fun b => R b ∨ E b) := by
        refine ⟨?_, ?_, ?_, s.o1, hok'⟩
        · rw [htk', ← hH]; exact set_same _ (by have := lt_of_blk hs4; exact this)
        · exact hg4.mono (fun b hb => ⟨hb, by rw [← hH]; exact set_other _ (fun e => (s3w.sep b hb).2.1 e.symm)⟩) fun b hb => ⟨fun hRE => (s3w.sep b hRE).2.2 hb, by
            cases hb
            rw [← hH]; exact set_other _ (fun e => hnb e.symm)⟩
        · exact fun b hb => ⟨by have := (s3w.sep b hb).1; omega, (s3w.sep b hb).2⟩
      refine hK _ _ ⟨rfl, _, hfin.at, ⟨by omega, fun b hb hn => ?_⟩, tfoot_sub fun b hb => hb.imp id fun h => by have := (hE b h).1; omega⟩
      rw [hold b (fun e => hn (.inl e)) (fun e => hn (.inr (.inl (by rw [e])))), k3.blk b (by omega) (fun h => h), k02.blk b hb (fun h => h)]
end Go.Proofs

/-
  The document's table in memory: a key is found, cells are put, told.
-/
namespace Go.HC
def zeroC : CellM := ⟨[], 0, [], [], []⟩
structure RTabC (tT cT bT : Nat) (h : Heap) (T : Tab) (bt bc bi n cc ic : Nat) (D : Nat → Prop) : Prop where
  top : h[bt]? = some (.cells #[.slice (some ⟨bc, 0, none⟩) n cc, .slice (some ⟨bi, 0, none⟩) n ic, .int .i64 (takenM T)] tT (0, 0))
  len : n = T.length
  C : Grow rCell cT D h (.slice (some ⟨bc, 0, none⟩) n cc) (T.map fun s => s.getD zeroC) (some bc)
  I : Grow rBool bT none_ h (.slice (some ⟨bi, 0, none⟩) n ic) (T.map Option.isSome) (some bi)
  ne : bt ≠ bc ∧ bt ≠ bi ∧ bc ≠ bi
  D : ∀ b, D b → b < h.size ∧ b ≠ bt ∧ b ≠ bc ∧ b ≠ bi
def rfoot (bt bc bi : Nat) (D : Nat → Prop) : Nat → Prop := fun b => b = bt ∨ b = bc ∨ b = bi ∨ D b
section
variable {tT cT bT : Nat} {h h' : Heap} {T : Tab} {bt bc bi n cc ic : Nat} {D : Nat → Prop}
theorem RTabC.lt (s : RTabC tT cT bT h T bt bc bi n cc ic D) : ∀ b, rfoot bt bc bi D b → b < h.size := by
  rintro b (rfl | rfl | rfl | hb)
  · exact lt_of_blk s.top
  · exact s.C.own_lt _ rfl
  · exact s.I.own_lt _ rfl
  · exact (s.D b hb).1
theorem RTabC.mono (s : RTabC tT cT bT h T bt bc bi n cc ic D) (hs : h.size ≤ h'.size) (hk : ∀ b, rfoot bt bc bi D b → h'[b]? = h[b]?) : RTabC tT cT bT h' T bt bc bi n cc ic D where
  top := by rw [hk bt (.inl rfl)]; exact s.top
  len := s.len
  C := s.C.mono (fun b hb => ⟨hb, hk b (.inr (.inr (.inr hb)))⟩) fun b hb => ⟨fun hd => by have := (s.D b hd).2.2.1; cases hb; exact this rfl, by cases hb; exact hk _ (.inr (.inl rfl))⟩
  I := s.I.mono (fun _ h => h.elim) fun b hb => ⟨fun h => h, by cases hb; exact hk _ (.inr (.inr (.inl rfl)))⟩
  ne := s.ne
  D := fun b hb => ⟨Nat.lt_of_lt_of_le (s.D b hb).1 hs, (s.D b hb).2⟩
end
/-- A table of the document's. -/
def RTab (tT cT bT : Nat) (v : Value) (G : Nat → Prop) (h : Heap) (T : Tab) : Prop := ∃ bt bc bi n cc ic D, v = .pointer (some ⟨bt, 0, none⟩) ∧ G = rfoot bt bc bi D ∧ RTabC tT cT bT h T bt bc bi n cc ic D
section
variable {tT cT bT : Nat} {v : Value} {G S : Nat → Prop} {h h' : Heap} {T : Tab}
theorem RTab.lt (s : RTab tT cT bT v G h T) : ∀ b, G b → b < h.size := by
  obtain ⟨bt, bc, bi, n, cc, ic, D, rfl, rfl, s⟩ := s
  exact s.lt
theorem RTab.keep (s : RTab tT cT bT v G h T) (k : Keep S h h') (hS : ∀ b, G b → ¬ S b) : RTab tT cT bT v G h' T := by
  have hl := s.lt
  obtain ⟨bt, bc, bi, n, cc, ic, D, rfl, rfl, s⟩ := s
  exact ⟨bt, bc, bi, n, cc, ic, D, rfl, rfl, s.mono k.size fun b hb => k.blk b (hl b hb) (hS b hb)⟩
end
end Go.HC
namespace Go.Proofs
open Go Go.HC

end Go.Proofs

/-
  The document's table: a cell is put; a new table.
-/
namespace Go.HC
theorem isSome_set {T : Tab} {k : Nat} {c d : CellM} (h : T[k]? = some (some d)) : (T.set k (some c)).map Option.isSome = T.map Option.isSome := by
  rw [List.map_set]
  apply List.ext_getElem?
  intro i
  rw [List.getElem?_set]
  by_cases e : k = i
  · subst e
    obtain ⟨this, e⟩ := List.getElem?_eq_some_iff.1 h
    simp [this, e]
  · rw [if_neg e]
theorem find_hits {T : Tab} {key : List Int} {k : Nat} (h : findM T key = some k) : k < T.length := (find_spec_some h).1
end Go.HC
namespace Go.Proofs
open Go Go.HC

end Go.Proofs
