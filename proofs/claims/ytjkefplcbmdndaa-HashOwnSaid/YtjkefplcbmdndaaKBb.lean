/-
  HC, part 18: a drawn region in which two operations that both change the memory stand in no order: two orders are written out.
-/
import Derived.Test.YtjkefplcbmdndaaKBa
import Derived.Test.YtjkefplcbmdndaaProg
import Derived.KernelRfl

namespace Go.HC

/-- The same operations, the one with number j behind that with number i. -/
def addE (ops : Array Oper) (i j : Nat) : Array Oper := ops.modify j fun o => { o with after := o.after.push { on := i, ground := .data } }

section
variable {P : Program} {ops : Array Oper} {i j : Nat}
theorem addE_get (m : Nat) : (addE ops i j)[m]? = (ops[m]?).map fun o => if m = j then { o with after := o.after.push { on := i, ground := .data } } else o := by
  unfold addE
  rw [Array.getElem?_modify]
  by_cases h : j = m
  · subst h; simp
  · rw [if_neg h]
    cases ops[m]? with
    | none => rfl
    | some o => simp [Ne.symm h]
theorem addE_size : (addE ops i j).size = ops.size := by simp [addE]
theorem execOp_after (ρ : Operand → Value) (o : Oper) (x : Array Edge) : execOp ρ { o with after := x } = execOp ρ o := by
  obtain ⟨dst, op, type, pos, after, guard⟩ := o
  rfl
theorem addE_dst (m : Nat) : ((addE ops i j)[m]?).bind (·.dst) = (ops[m]?).bind (·.dst) := by
  rw [addE_get]
  cases ops[m]? with
  | none => rfl
  | some o => simp only [Option.map_some, Option.bind_some]; split <;> rfl
theorem addE_gval (l : L) (b : Base) (m : Nat) : gval (addE ops i j) l b m = gval ops l b m := by
  unfold gval; rw [addE_dst]
theorem addE_yielded (tmps : Array Value) : yielded (addE ops i j) tmps = yielded ops tmps := by
  funext m
  unfold yielded
  rw [addE_dst]
theorem addE_deps {s z : Nat} (h : z ∈ depsOf (addE ops i j) s) : z ∈ depsOf ops s ∨ s = j ∧ z = i := by
  unfold depsOf at h ⊢
  rw [addE_get] at h
  cases ho : ops[s]? with
  | none => rw [ho] at h; cases h
  | some o =>
    rw [ho] at h
    simp only [Option.map_some] at h
    by_cases hs : s = j
    · subst hs
      simp only [if_true, Array.toList_push, List.filter_append, List.map_append, List.mem_append] at h
      rcases h with h | h
      · exact .inl h
      · right
        refine ⟨rfl, ?_⟩
        simp [Region.binds] at h
        exact h
    · simp only [if_neg hs] at h
      exact .inl h
theorem addE_lin : ∀ {σ E : List Nat}, Lin ops E σ → (∀ A B, σ = A ++ j :: B → i ∈ A ∨ i ∈ E) → Lin (addE ops i j) E σ
  | [], _, _, _ => trivial
  | s :: σ, E, ⟨h1, h2⟩, hc => by
    refine ⟨fun z hz => ?_, addE_lin h2 fun A B hAB => ?_⟩
    · rcases addE_deps hz with h | ⟨rfl, rfl⟩
      · exact h1 z h
      · rcases hc [] σ rfl with h | h
        · cases h
        · exact h
    · rcases hc (s :: A) B (by rw [hAB]; rfl) with h | h
      · rcases List.mem_cons.1 h with h | h
        · exact .inr (h ▸ List.mem_cons_self ..)
        · exact .inl h
      · exact .inr (List.mem_cons_of_mem _ h)
theorem split_uniq {x : Nat} : ∀ {A A' B B' : List Nat}, (A ++ x :: B).Nodup → A ++ x :: B = A' ++ x :: B' → A = A'
  | [], [], _, _, _, _ => rfl
  | [], a :: A', B, B', hn, h => by
    simp only [List.nil_append, List.cons_append, List.cons.injEq] at h
    obtain ⟨rfl, rfl⟩ := h
    simp at hn
  | a :: A, [], B, B', hn, h => by
    simp only [List.nil_append, List.cons_append, List.cons.injEq] at h
    obtain ⟨rfl, rfl⟩ := h
    simp at hn
  | a :: A, a' :: A', B, B', hn, h => by
    simp only [List.cons_append, List.cons.injEq] at h
    obtain ⟨rfl, h⟩ := h
    rw [split_uniq (List.nodup_cons.1 hn).2 h]
theorem two_orders {σ : List Nat} (hn : σ.Nodup) (hi : i ∈ σ) (hj : j ∈ σ) (hij : i ≠ j) : (∀ A B, σ = A ++ j :: B → i ∈ A ∨ i ∈ ([] : List Nat)) ∨ (∀ A B, σ = A ++ i :: B → j ∈ A ∨ j ∈ ([] : List Nat)) := by
  obtain ⟨A0, B0, rfl⟩ := List.append_of_mem hj
  rcases List.mem_append.1 hi with h | h
  · exact .inl fun A B hAB => .inl (split_uniq hn hAB ▸ h)
  · rcases List.mem_cons.1 h with h | h
    · exact absurd h hij
    · right
      intro A B hAB
      obtain ⟨B1, B2, rfl⟩ := List.append_of_mem h
      have : A0 ++ j :: (B1 ++ i :: B2) = (A0 ++ j :: B1) ++ i :: B2 := by simp
      rw [this] at hAB hn
      rw [← split_uniq hn hAB]
      exact .inl (by simp)
theorem addE_arun : ∀ (σ : List Nat) {K : Act → Heap → Prop} {a : Act} {h : Heap}, arun P (addE ops i j) σ K a h → arun P ops σ K a h
  | [], _, _, _, h => h
  | s :: σ, K, a, h, hr => by
    simp only [arun] at hr ⊢
    rw [addE_get] at hr
    cases ho : ops[s]? with
    | none => simp [ho] at hr
    | some o =>
      simp only [ho, Option.map_some] at hr ⊢
      have hw : wanted (addE ops i j) (if s = j then { o with after := o.after.push { on := i, ground := .data } } else o) a = wanted ops o a := by
        unfold wanted
        rw [addE_yielded]
        split <;> rfl
      have he : execOp a.eval (if s = j then { o with after := o.after.push { on := i, ground := .data } } else o) = execOp a.eval o := by
        split
        · exact execOp_after _ _ _
        · rfl
      have hd : (if s = j then { o with after := o.after.push { on := i, ground := .data } } else o).dst = o.dst := by split <;> rfl
      rw [hw, he, hd] at hr
      split
      · rename_i hww
        rw [if_pos hww] at hr
        exact hp_mono _ hr fun x h' hx => nextK_mono (fun v h'' hh => addE_arun σ hh) x h' hx
      · rename_i hww
        rw [if_neg hww] at hr
        exact addE_arun σ hr
theorem addE_dsem : ∀ (ds : List Di) {pl : List (Nat × (Heap → Prop))} {K : L → Base → Heap → Prop} {l : L} {b : Base} {h : Heap}, dsem P ops ds pl K l b h → dsem P (addE ops i j) ds pl K l b h
  | [], _, _, _, _, _, h => h
  | d :: ds, pl, K, l, b, h, hd => by
    simp only [dsem] at hd ⊢
    rw [addE_get]
    cases ho : ops[d.i]? with
    | none => simp [ho] at hd
    | some o =>
      simp only [ho, Option.map_some] at hd ⊢
      have hw : guardB (if d.i = j then { o with after := o.after.push { on := i, ground := .data } } else o) (addE ops i j) l b = guardB o ops l b := by
        have key : ∀ o' : Oper, guardB o' (addE ops i j) l b = guardB o' ops l b := by
          intro o'
          unfold guardB
          cases o'.guard with
          | none => rfl
          | some p => simp only [addE_gval]
        rw [key]
        split <;> rfl
      have he : ∀ h K, osem P (if d.i = j then { o with after := o.after.push { on := i, ground := .data } } else o) l b h K = osem P o l b h K := by
        intro h K
        split
        · unfold osem; rw [execOp_after]
        · rfl
      have hdst : (if d.i = j then { o with after := o.after.push { on := i, ground := .data } } else o).dst = o.dst := by split <;> rfl
      simp only [hw, he, hdst]
      split
      · rename_i hg
        rw [if_pos hg] at hd
        split
        · rename_i hm
          rw [if_pos hm] at hd
          obtain ⟨v, h1, h2⟩ := hd
          exact ⟨v, h1, addE_dsem ds h2⟩
        · rename_i hm
          rw [if_neg hm] at hd
          exact hp_mono _ hd fun x h' hx => nextK_mono (fun v h'' hh => ⟨hh.1, addE_dsem ds hh.2⟩) x h' hx
      · rename_i hg
        rw [if_neg hg] at hd
        exact addE_dsem ds hd

def drawOk2 (ops : Array Oper) (i j : Nat) (ds1 ds2 : List Di) : Bool :=
  (!Region.departs ops || (upM .text ops && upM .gc ops)) && upB ops && decide (i ≠ j) && decide (i < ops.size) && decide (j < ops.size) &&
  (Region.noSelect (addE ops i j) && pairB (addE ops i j) ds1 && (ds1.map (·.i)).isPerm (List.range ops.size) && ds1.all fun d => !d.mv || (match (addE ops i j)[d.i]? with | some o => valOp o.op | none => false)) &&
  (Region.noSelect (addE ops j i) && pairB (addE ops j i) ds2 && (ds2.map (·.i)).isPerm (List.range ops.size) && ds2.all fun d => !d.mv || (match (addE ops j i)[d.i]? with | some o => valOp o.op | none => false))
theorem addE_opsOk {n : Nat} (hok : opsOk n ops = true) : opsOk n (addE ops i j) = true := by
  unfold opsOk at *
  rw [List.all_eq_true] at *
  intro o ho
  obtain ⟨m, hm⟩ := List.mem_iff_getElem?.1 ho
  rw [Array.getElem?_toList, addE_get] at hm
  cases ho' : ops[m]? with
  | none => rw [ho'] at hm; cases hm
  | some o' =>
    rw [ho'] at hm
    simp only [Option.map_some, Option.some.injEq] at hm
    have h1 := hok o' (by simpa using Array.mem_of_getElem? ho')
    have hdst : o.dst = o'.dst := by rw [← hm]; split <;> rfl
    rw [hdst]
    exact h1

theorem draw_rule2 {n : Nat} {ro : Option Nat} {id : Nat} {κ : Kont} {l : L} {b : Base} {h : Heap} (i j : Nat) (ds1 ds2 : List Di) (hd : drawOk2 ops i j ds1 ds2 = true) (hok : opsOk n ops = true)
    (hc1 : dsem P ops ds1 [] κ.nx l b h) (hc2 : dsem P ops ds2 [] κ.nx l b h) : gsem P n ro (.region id ops true) κ l b h := by
  intro a w hw hfr fr k cs hkd hro
  subst hw
  unfold drawOk2 at hd
  rw [Bool.and_eq_true, Bool.and_eq_true, Bool.and_eq_true, Bool.and_eq_true, Bool.and_eq_true, Bool.and_eq_true] at hd
  obtain ⟨⟨⟨⟨⟨⟨hdep, hup⟩, hij⟩, hi⟩, hj⟩, h1⟩, h2⟩ := hd
  rw [Bool.and_eq_true, Bool.and_eq_true, Bool.and_eq_true] at h1 h2
  obtain ⟨⟨⟨hsel1, hpair1⟩, hperm1⟩, hval1⟩ := h1
  obtain ⟨⟨⟨hsel2, hpair2⟩, hperm2⟩, hval2⟩ := h2
  have hij := of_decide_eq_true hij
  have hi := of_decide_eq_true hi
  have hj := of_decide_eq_true hj
  have hperm1 := List.isPerm_iff.1 hperm1
  have hperm2 := List.isPerm_iff.1 hperm2
  let t := w.tape w.drawn (.order fr.fn id)
  obtain ⟨hp1, hlin⟩ := sched_all (mixed := P.follows .mixedOrders) hdep hup t
  have hnd : (Region.schedule (P.follows .mixedOrders) ops t).Nodup := hp1.symm.nodup List.nodup_range
  have har : arun P ops (Region.schedule (P.follows .mixedOrders) ops t) (fun a' h' => ∃ l', IsFr n a' l' b ∧ κ.nx l' b h') a w.heap := by
    rcases two_orders hnd (hp1.symm.subset (by simpa using hi)) (hp1.symm.subset (by simpa using hj)) hij with ho | ho
    · have hcr := crun_of_dsem (P := P) (addE_opsOk hok) ds1 (pa := []) hval1 (by simp) hfr (addE_dsem (i := i) (j := j) ds1 hc1)
      refine addE_arun (i := i) (j := j) _ (arun_of_crun hsel1 _ ds1 [] [] a _ (hp1.trans hperm1.symm) hnd (fun d hd => ?_) (fun y hy => by cases hy) (addE_lin hlin ho) (fun d _ => by simp) hpair1 hcr)
      have : d.i ∈ List.range ops.size := hperm1.subset (List.mem_map.2 ⟨d, hd, rfl⟩)
      simp at this
      rw [addE_get]
      simp [this]
    · have hcr := crun_of_dsem (P := P) (addE_opsOk hok) ds2 (pa := []) hval2 (by simp) hfr (addE_dsem (i := j) (j := i) ds2 hc2)
      refine addE_arun (i := j) (j := i) _ (arun_of_crun hsel2 _ ds2 [] [] a _ (hp1.trans hperm2.symm) hnd (fun d hd => ?_) (fun y hy => by cases hy) (addE_lin hlin ho) (fun d _ => by simp) hpair2 hcr)
      have : d.i ∈ List.range ops.size := hperm2.subset (List.mem_map.2 ⟨d, hd, rfl⟩)
      simp at this
      rw [addE_get]
      simp [this]
  obtain ⟨a', w', hs, ⟨l', hfr', hk⟩, hst⟩ := steps_arun (P := P) (d := b.d) (fr := fr) (k := k) (cs := cs) hok _ (w := { w with drawn := w.drawn + 1 }) hfr.size hfr.defers har
  exact ⟨.nx, a', w', l', b, ⟨hs.os, hs.tape, hs.output, (by first | exact hs.drawn | exact Nat.le_trans (Nat.le_succ _) hs.drawn)⟩, hfr', hk, .head stepR_region_draw hst⟩

/-- Two orders that are written out. -/
theorem drawn_by2 {n : Nat} {ro : Option Nat} {id : Nat} {κ : Kont} {l : L} {b : Base} {h : Heap} {ops : List Oper} (i j : Nat) (ds1 ds2 : List Di) (hd : drawOk2 ops.toArray i j ds1 ds2 = true) (hok : opsOk n ops.toArray = true)
    (hc1 : dw P ops ds1 [] κ.nx l b h) (hc2 : dw P ops ds2 [] κ.nx l b h) : gs P n ro (.region id ops.toArray true) κ l b h :=
  draw_rule2 i j ds1 ds2 hd hok (dsem_of_dwF ds1 (by simp) hc1) (dsem_of_dwF ds2 (by simp) hc2)
end
end Go.HC

/-
  HC: the whole of it.
-/

/-
  HC, part 19: a store into an element of a slice that has a block of its own.
-/
namespace Go.HC
section
variable {α : Type} {R : Rp α} {F : Nat → Prop} {h : Heap}
theorem Elems.setF {d : Nat} {news : List Value} {x : α} (hd : d + news.length ≤ R.sz) : ∀ {xs : List α} {cs : List Value} (i : Nat) (hi : i < xs.length), Elems R F h cs xs →
    (∀ cs, R.rep F h cs xs[i] → R.rep F h (cs.take d ++ news ++ cs.drop (d + news.length)) x) →
    Elems R F h (cs.take (i * R.sz + d) ++ news ++ cs.drop (i * R.sz + d + news.length)) (xs.set i x)
  | [], _, i, hi, _, _ => by simp at hi
  | y :: xs, cs, 0, _, ⟨c1, c2, e, h1, h2⟩, hr => by
    subst e
    have hl := R.len h1
    refine ⟨_, c2, ?_, hr c1 h1, h2⟩
    rw [Nat.zero_mul, Nat.zero_add, List.take_append_of_le_length (by omega), List.drop_append_of_le_length (by omega)]
    simp
  | y :: xs, cs, i + 1, hi, ⟨c1, c2, e, h1, h2⟩, hr => by
    subst e
    have hl := R.len h1
    have ih := Elems.setF hd i (by simpa using hi) h2 (by simpa using hr)
    refine ⟨c1, _, ?_, h1, ih⟩
    have e1 : (i + 1) * R.sz + d = c1.length + (i * R.sz + d) := by rw [hl, Nat.succ_mul]; omega
    rw [e1, List.take_length_add_append, Nat.add_assoc, List.drop_length_add_append]
    simp
/-- A part of an element is written. -/
theorem Grow.setF {e : TypeId} {v : Value} {xs : List α} {own : Option Nat} {d : Nat} {news : List Value} {x : α} {i : Nat} (hg : Grow R e F h v xs own) (hi : i < xs.length) (hd : d + news.length ≤ R.sz) (hone : news.all Value.oneCell' = true)
    (hr : ∀ cs, R.rep F h cs xs[i] → R.rep F h (cs.take d ++ news ++ cs.drop (d + news.length)) x) :
    ∃ bk c o, v = .slice (some ⟨bk, 0, none⟩) xs.length c ∧ own = some bk ∧ writeIn h[bk]? (i * R.sz + d) news = some o ∧ Grow R e F (h.setIfInBounds bk o) v (xs.set i x) own := by
  rcases hg with ⟨_, rfl, _⟩ | ⟨bk, c, arr, cs, rfl, rfl, hb, hf, h1, h2, h3, h4, h5⟩
  · simp at hi
  · have hin : i * R.sz + d + news.length ≤ xs.length * R.sz := by
      have : (i + 1) * R.sz ≤ xs.length * R.sz := Nat.mul_le_mul_right _ hi
      rw [Nat.succ_mul] at this
      omega
    have hsz : i * R.sz + d + news.length ≤ arr.size := by
      have : xs.length * R.sz ≤ c * R.sz := Nat.mul_le_mul_right _ h2
      omega
    have hfr : frozenIn (0, 0) (i * R.sz + d) news.length = false := by
      unfold frozenIn; simp
    have hlt := lt_of_blk hb
    refine ⟨bk, c, .cells (writeC arr (i * R.sz + d) news) e (0, 0), rfl, rfl, ?_, ?_⟩
    · rw [hb]
      show (if _ then _ else _) = _
      rw [if_pos (by rw [hone, hfr]; simpa using hsz)]
    · refine .inr ⟨bk, c, _, _, by rw [List.length_set], rfl, set_same _ hlt, hf, by rw [size_writeC, h1], by rw [List.length_set]; exact h2, h3, rfl, ?_⟩
      have hcl := h5.len
      have := (h5.setF (x := x) hd i hi hr)
      rw [toList_writeC _ _ _ hsz, List.length_set]
      have e1 : ((arr.toList.take (i * R.sz + d) ++ news ++ arr.toList.drop (i * R.sz + d + news.length)).take (xs.length * R.sz)) = cs.take (i * R.sz + d) ++ news ++ cs.drop (i * R.sz + d + news.length) := by
        have hl1 : (arr.toList.take (i * R.sz + d) ++ news).length = i * R.sz + d + news.length := by
          rw [List.length_append, List.length_take]; simp; omega
        rw [List.take_append, List.take_of_length_le (by rw [hl1]; exact hin), hl1, ← h4, List.take_take, Nat.min_eq_left (by omega), List.drop_take]
      rw [e1]
      exact this.mono fun b hFb => ⟨hFb, set_other _ (fun (e : bk = b) => hf (e ▸ hFb))⟩
/-- An element is written. -/
theorem Grow.setE {e : TypeId} {v : Value} {xs : List α} {own : Option Nat} {news : List Value} {x : α} {i : Nat} (hg : Grow R e F h v xs own) (hi : i < xs.length) (hr : R.rep F h news x) :
    ∃ bk c o, v = .slice (some ⟨bk, 0, none⟩) xs.length c ∧ own = some bk ∧ writeIn h[bk]? (i * R.sz) news = some o ∧ Grow R e F (h.setIfInBounds bk o) v (xs.set i x) own := by
  have hl := R.len hr
  have := hg.setF (d := 0) (news := news) (x := x) hi (by omega) (R.one hr) (fun cs hc => by
    rw [List.take_zero, List.nil_append, List.drop_of_length_le (by rw [R.len hc]; omega), List.append_nil]; exact hr)
  simpa using this
end
/-- A block that nobody has set fast. -/
def Thaw (h : Heap) (b : Nat) : Prop := ∀ (c : Array Value) (e : TypeId) (fz : Nat × Nat), h[b]? = some (.cells c e fz) → fz = (0, 0)
/-- From n on; what is new is not set fast. -/
def Nw (n : Nat) (h : Heap) (b : Nat) : Prop := n ≤ b ∧ (0 < n → Thaw h b)
theorem nz {h : Heap} {b : Nat} : Nw 0 h b := ⟨Nat.zero_le _, fun h => absurd h (Nat.lt_irrefl _)⟩
theorem Thaw.at {h h' : Heap} {b : Nat} (t : Thaw h b) (e : h'[b]? = h[b]?) : Thaw h' b := fun c el fz hb => t c el fz (by rw [← e]; exact hb)
theorem Thaw.is {h : Heap} {b : Nat} {c : Array Value} {e : TypeId} (hb : h[b]? = some (.cells c e (0, 0))) : Thaw h b := fun c' e' fz hb' => by
  rw [hb] at hb'; cases hb'; rfl
theorem Nw.less {n n' : Nat} {h : Heap} {b : Nat} (x : Nw n h b) (hn : n' ≤ n) : Nw n' h b := ⟨Nat.le_trans hn x.1, fun h0 => x.2 (Nat.lt_of_lt_of_le h0 hn)⟩
theorem Nw.at {n n' : Nat} {h h' : Heap} {b : Nat} (x : Nw n h b) (hn : n' ≤ n) (e : h'[b]? = h[b]?) : Nw n' h' b := ⟨Nat.le_trans hn x.1, fun h0 => (x.2 (Nat.lt_of_lt_of_le h0 hn)).at e⟩
theorem Nw.is {n : Nat} {h : Heap} {b : Nat} {c : Array Value} {e : TypeId} (hn : n ≤ b) (hb : h[b]? = some (.cells c e (0, 0))) : Nw n h b := ⟨hn, fun _ => .is hb⟩
theorem Grow.notF {α : Type} {R : Rp α} {h : Heap} {e : TypeId} {F : Nat → Prop} {v : Value} {xs : List α} {own : Option Nat} (g : Grow R e F h v xs own) : ∀ b, own = some b → ¬ F b := by
  intro b hb
  rcases g with ⟨_, _, rfl⟩ | ⟨bk, c, arr, cs, _, rfl, _, h1, _⟩
  · cases hb
  · cases hb; exact h1
theorem Grow.thaw {α : Type} {R : Rp α} {h : Heap} {e : TypeId} {F : Nat → Prop} {v : Value} {xs : List α} {own : Option Nat} (g : Grow R e F h v xs own) : ∀ b, own = some b → Thaw h b := by
  intro b hb
  rcases g with ⟨_, _, rfl⟩ | ⟨bk, c, arr, cs, _, rfl, h1, _⟩
  · cases hb
  · cases hb; exact .is h1
end Go.HC

/-
  HC, part 20: a slice is copied ('append([]T{}, b...)').
-/
namespace Go.HC
section
variable {P : Program} {h : Heap} {K : Value → Heap → Prop} {ty : TypeId} {α : Type} {R : Rp α} {F F2 : Nat → Prop}
theorem clone_cells {T e by_ : Nat} {cs : Array Bool} {xs : List α} {a : Option Addr} {n c2 : Nat} {news : List Value} (hT : ElemT P T e R by_) (hF : ∀ b, F b → b < h.size) (hF2 : ∀ b, F2 b → b < h.size)
    (hn : n = xs.length) (hrn : Cells F2 h a news) (hel : Elems R F h news xs) (hbig : xs.length * by_ ≤ 140737488355328) (h63 : xs.length < 9223372036854775808)
    (hk : ∀ v' h' own', Grow R e F h' v' xs own' → Keep none_ h h' → (∀ b, own' = some b → h.size ≤ b) → h.size ≤ h'.size → K v' h') :
    builtinS P .append #[T, T] ty cs #[.slice (some ⟨h.size, 0, none⟩) 0 0, .slice a n c2] (h.push (.cells #[] e)) K := by
  refine append_grow (F2 := F2) hT (Grow.empty R e hF) (fun b hb => by have := hF b hb; simp; omega) hn (hrn.mono fun b hb => ⟨hb, push_old _ (hF2 b hb)⟩) (hel.mono fun b hb => ⟨hb, push_old _ (hF b hb)⟩) (by simpa using hbig) (by simpa using h63) ?_
  intro v' h' own' hg hk' ho
  have hps : (h.push (.cells #[] e)).size = h.size + 1 := by simp
  rw [hps] at ho
  have hs := hk'.size
  rw [hps] at hs
  refine hk v' h' own' (by simpa using hg) ⟨by omega, fun b hb _ => ?_⟩ (fun b hb => (ho b hb).elim (fun e => by cases e; exact Nat.le_refl _) (fun h => by omega)) (by omega)
  rw [hk'.blk b (by omega) (fun e => by cases e; omega), push_old _ hb]
theorem clone_bytes {T e : Nat} {cs : Array Bool} {xs : List UInt8} {a : Option Addr} {n c2 : Nat} (hT : ElemT P T e rByte 1) (hv : SlRep rByte F2 h (.slice a n c2) xs) (hF2 : ∀ b, F2 b → b < h.size) (hbig : xs.length ≤ 140737488355328)
    (hk : ∀ v' h' own', Grow rByte e none_ h' v' xs own' → Keep none_ h h' → (∀ b, own' = some b → h.size ≤ b) → h.size ≤ h'.size → K v' h') :
    builtinS P .append #[T, T] ty cs #[.slice (some ⟨h.size, 0, none⟩) 0 0, .slice a n c2] (h.push (.cells #[] e)) K := by
  obtain ⟨a', c', news, hv', h1, h2, h3, h4⟩ := hv
  cases hv'
  exact clone_cells (F := none_) hT (fun _ h => h.elim) hF2 rfl h3 (bytes_map.2 (bytes_map.1 h4)) (by omega) (by omega) hk
end
theorem Grow.bytes_own {e : TypeId} {F : Nat → Prop} {h : Heap} {v : Value} {xs : List UInt8} {own : Option Nat} (hg : Grow rByte e F h v xs own) : Grow rByte e none_ h v xs own := by
  rcases hg with h0 | ⟨bk, c, arr, cs, h0, h1, h2, h3, h4, h5, h6, h7, h8⟩
  · exact .inl h0
  · exact .inr ⟨bk, c, arr, cs, h0, h1, h2, (fun h => h), h4, h5, h6, h7, bytes_map.2 (bytes_map.1 h8)⟩
theorem u8_add (x y : UInt8) : (((x + y).toNat : Nat) : Int) = IntKind.u8.wrap ((x.toNat : Int) + (y.toNat : Int)) := by
  rw [UInt8.toNat_add]
  simp [IntKind.wrap, IntKind.signed, IntKind.bits]
end Go.HC

/-
  HC, part 21: a drawn region in which several operations that change the memory stand in no order: a tree of orders.
-/
namespace Go.HC
/-- Orders: one that is written out; or two trees: of those in which i stands ahead of j, and of those in which j stands ahead of i. -/
inductive DT
  | leaf (ds : List Di)
  | node (i j : Nat) (a b : DT)
section
variable {P : Program}
def leafOk (ops : Array Oper) (ds : List Di) : Bool :=
  Region.noSelect ops && pairB ops ds && (ds.map (·.i)).isPerm (List.range ops.size) && ds.all fun d => !d.mv || (match ops[d.i]? with | some o => valOp o.op | none => false)
def treeOk (ops : Array Oper) : DT → Bool
  | .leaf ds => leafOk ops ds
  | .node i j a b => decide (i ≠ j) && decide (i < ops.size) && decide (j < ops.size) && treeOk (addE ops i j) a && treeOk (addE ops j i) b
def treeS (P : Program) (ops : Array Oper) (K : L → Base → Heap → Prop) (l : L) (b : Base) (h : Heap) : DT → Prop
  | .leaf ds => dsem P ops ds [] K l b h
  | .node _ _ x y => treeS P ops K l b h x ∧ treeS P ops K l b h y
theorem treeS_add {ops : Array Oper} {K : L → Base → Heap → Prop} {l : L} {b : Base} {h : Heap} {i j : Nat} : ∀ (t : DT), treeS P ops K l b h t → treeS P (addE ops i j) K l b h t
  | .leaf ds, hd => addE_dsem (i := i) (j := j) ds hd
  | .node _ _ x y, ⟨h1, h2⟩ => ⟨treeS_add x h1, treeS_add y h2⟩
theorem tree_arun {n : Nat} {κ : L → Base → Heap → Prop} {l : L} {b : Base} {h : Heap} {a : Act} {σ : List Nat} (hnd : σ.Nodup) (hfr : IsFr n a l b) : ∀ (t : DT) {ops : Array Oper}, opsOk n ops = true → treeOk ops t = true → σ.Perm (List.range ops.size) → Lin ops [] σ →
    treeS P ops κ l b h t → arun P ops σ (fun a' h' => ∃ l', IsFr n a' l' b ∧ κ l' b h') a h
  | .leaf ds, ops, hok, ht, hp, hlin, hd => by
    unfold treeOk leafOk at ht
    rw [Bool.and_eq_true, Bool.and_eq_true, Bool.and_eq_true] at ht
    obtain ⟨⟨⟨hsel, hpair⟩, hperm⟩, hval⟩ := ht
    have hperm := List.isPerm_iff.1 hperm
    have hcr := crun_of_dsem (P := P) hok ds (pa := []) hval (by simp) hfr hd
    refine arun_of_crun hsel _ ds [] [] a _ (hp.trans hperm.symm) hnd (fun d hd => ?_) (fun y hy => by cases hy) hlin (fun d _ => by simp) hpair hcr
    have : d.i ∈ List.range ops.size := hperm.subset (List.mem_map.2 ⟨d, hd, rfl⟩)
    simp at this
    simp [this]
  | .node i j x y, ops, hok, ht, hp, hlin, hd => by
    unfold treeOk at ht
    rw [Bool.and_eq_true, Bool.and_eq_true, Bool.and_eq_true, Bool.and_eq_true] at ht
    obtain ⟨⟨⟨⟨hij, hi⟩, hj⟩, h1⟩, h2⟩ := ht
    have hij := of_decide_eq_true hij
    have hi := of_decide_eq_true hi
    have hj := of_decide_eq_true hj
    rcases two_orders hnd (hp.symm.subset (by simpa using hi)) (hp.symm.subset (by simpa using hj)) hij with ho | ho
    · exact addE_arun (i := i) (j := j) _ (tree_arun hnd hfr x (addE_opsOk hok) h1 (by rw [addE_size]; exact hp) (addE_lin hlin ho) (treeS_add x hd.1))
    · exact addE_arun (i := j) (j := i) _ (tree_arun hnd hfr y (addE_opsOk hok) h2 (by rw [addE_size]; exact hp) (addE_lin hlin ho) (treeS_add y hd.2))
def drawOkT (ops : Array Oper) (t : DT) : Bool := (!Region.departs ops || (upM .text ops && upM .gc ops)) && upB ops && treeOk ops t
theorem draw_ruleT {n : Nat} {ro : Option Nat} {id : Nat} {κ : Kont} {l : L} {b : Base} {h : Heap} {ops : Array Oper} (t : DT) (hd : drawOkT ops t = true) (hok : opsOk n ops = true)
    (hc : treeS P ops κ.nx l b h t) : gsem P n ro (.region id ops true) κ l b h := by
  intro a w hw hfr fr k cs hkd hro
  subst hw
  unfold drawOkT at hd
  rw [Bool.and_eq_true, Bool.and_eq_true] at hd
  obtain ⟨⟨hdep, hup⟩, ht⟩ := hd
  let tp := w.tape w.drawn (.order fr.fn id)
  obtain ⟨hp1, hlin⟩ := sched_all (mixed := P.follows .mixedOrders) hdep hup tp
  have har := tree_arun (P := P) (κ := κ.nx) (hp1.symm.nodup List.nodup_range) hfr t hok ht hp1 hlin hc
  obtain ⟨a', w', hs, ⟨l', hfr', hk⟩, hst⟩ := steps_arun (P := P) (d := b.d) (fr := fr) (k := k) (cs := cs) hok _ (w := { w with drawn := w.drawn + 1 }) hfr.size hfr.defers har
  exact ⟨.nx, a', w', l', b, ⟨hs.os, hs.tape, hs.output, (by first | exact hs.drawn | exact Nat.le_trans (Nat.le_succ _) hs.drawn)⟩, hfr', hk, .head stepR_region_draw hst⟩
/-- A tree of orders, for simp. -/
def treeW (P : Program) (ops : List Oper) (K : L → Base → Heap → Prop) (l : L) (b : Base) (h : Heap) : DT → Prop
  | .leaf ds => dw P ops ds [] K l b h
  | .node _ _ x y => treeW P ops K l b h x ∧ treeW P ops K l b h y
theorem treeW_leaf {ops : List Oper} {K : L → Base → Heap → Prop} {l : L} {b : Base} {h : Heap} {ds : List Di} : treeW P ops K l b h (.leaf ds) = dw P ops ds [] K l b h := _root_.id rfl
theorem treeS_of {ops : List Oper} {K : L → Base → Heap → Prop} {l : L} {b : Base} {h : Heap} : ∀ (t : DT), treeW P ops K l b h t → treeS P ops.toArray K l b h t
  | .leaf ds, hd => dsem_of_dwF ds (by simp) hd
  | .node _ _ x y, ⟨h1, h2⟩ => ⟨treeS_of x h1, treeS_of y h2⟩
theorem drawn_byT {n : Nat} {ro : Option Nat} {id : Nat} {κ : Kont} {l : L} {b : Base} {h : Heap} {ops : List Oper} (t : DT) (hd : drawOkT ops.toArray t = true) (hok : opsOk n ops.toArray = true)
    (hc : treeW P ops κ.nx l b h t) : gs P n ro (.region id ops.toArray true) κ l b h := draw_ruleT t hd hok (treeS_of t hc)
end
end Go.HC
namespace Go.HC
theorem cut_cells {α : Type} {R : Rp α} {F G : Nat → Prop} {h : Heap} {a : Option Addr} {cs : List Value} {xs : List α} {i j c : Nat} (hc : Cells G h a cs) (he : Elems R F h cs xs) (h1 : i ≤ j) (h2 : j ≤ xs.length) (h3 : xs.length ≤ c) :
    Cells G h (piece a i c R.sz) ((cs.drop (i * R.sz)).take ((j - i) * R.sz)) ∧ Elems R F h ((cs.drop (i * R.sz)).take ((j - i) * R.sz)) ((xs.drop i).take (j - i)) := by
  refine ⟨?_, (he.drop i).take (j - i)⟩
  by_cases hij : i = j
  · left; subst hij; simp
  · rcases hc with h0 | ⟨bk, off, arr, e, fz, rfl, q1, q2, q3⟩
    · left; rw [h0]; simp
    · have hp : piece (some ⟨bk, off, none⟩) i c R.sz = some ⟨bk, off + i * R.sz, none⟩ := by
        unfold HC.piece
        rw [if_neg (by omega), offs_mk]
      rw [hp]
      refine Cells.take _ (Cells.drop (i * R.sz) (.inr ⟨bk, off, arr, e, fz, rfl, q1, q2, q3⟩) ?_)
      rw [he.len]
      exact Nat.mul_le_mul_right _ (by omega)
end Go.HC

/-
  Tables of cells by their keys, plainly. No program is in sight.
-/
namespace Go.HC

structure CellM where
  key : List Int
  count : Int
  sum : List Int
  mn : List Int
  mx : List Int
def joinC (a b : CellM) : CellM :=
  ⟨a.key, IntKind.i64.wrap (a.count + b.count), List.zipWith (fun x y => IntKind.i64.wrap (x + y)) a.sum b.sum, List.zipWith min a.mn b.mn, List.zipWith max a.mx b.mx⟩
/-- A key's hash; its place among n slots. -/
def hashM (key : List Int) : Int := key.foldl (fun h v => (31 * h + v.tmod 1000003 + 1).tmod 1000003) 7
def placeM (key : List Int) (n : Nat) : Nat := (((hashM key).tmod n + n).tmod n).toNat
theorem tmod_bound {a n : Int} (hn : 0 < n) : -n < a.tmod n ∧ a.tmod n < n := by
  have h1 := Int.tmod_lt_of_pos a hn
  have h2 := Int.tmod_lt_of_pos (-a) hn
  rw [Int.neg_tmod] at h2
  omega
theorem placeM_lt (key : List Int) {n : Nat} (hn : 0 < n) : placeM key n < n := by
  unfold placeM
  have h1 := tmod_bound (a := hashM key) (n := n) (by omega)
  have h2 := tmod_bound (a := (hashM key).tmod n + n) (n := n) (by omega)
  have h3 : 0 ≤ ((hashM key).tmod n + n).tmod n := Int.tmod_nonneg _ (by omega)
  omega

abbrev Tab := List (Option CellM)
/-- The key stands here, or may. -/
def hitM (T : Tab) (key : List Int) (k : Nat) : Bool :=
  match T[k]? with
  | some (some c) => decide (c.key = key)
  | _ => true
def probe (key : List Int) (n i : Nat) : Nat := (placeM key n + i) % n
def findM (T : Tab) (key : List Int) : Option Nat := ((List.range T.length).find? fun i => hitM T key (probe key T.length i)).map (probe key T.length)
def takenM (T : Tab) : Nat := T.countP (·.isSome)
def putM (T : Tab) (c : CellM) : Option Tab :=
  match findM T c.key with
  | none => none
  | some k => some (T.set k (match T[k]? with | some (some d) => some (joinC d c) | _ => some c))
def getM (T : Tab) (key : List Int) : Option CellM :=
  match findM T key with
  | none => none
  | some k => (T[k]?).join
def cellsM (T : Tab) : List CellM := T.filterMap id
/-- A cell stands where it is found: all slots from its key's place on are taken, and by other keys. -/
def StandsAt (T : Tab) (i : Nat) (key : List Int) (k : Nat) : Prop := i < T.length ∧ probe key T.length i = k ∧ ∀ j, j < i → ∃ c : CellM, T[probe key T.length j]? = some (some c) ∧ c.key ≠ key
def TabOk (T : Tab) : Prop := ∀ (k : Nat) (c : CellM), T[k]? = some (some c) → ∃ i, StandsAt T i c.key k

theorem probe_lt (key : List Int) {n : Nat} (hn : 0 < n) (i : Nat) : probe key n i < n := Nat.mod_lt _ hn
theorem probe_onto (key : List Int) {n : Nat} (k : Nat) (hk : k < n) : ∃ i, i < n ∧ probe key n i = k := by
  have hp := placeM_lt key (n := n) (by omega)
  unfold probe
  by_cases h : placeM key n ≤ k
  · exact ⟨k - placeM key n, by omega, by rw [Nat.add_sub_cancel' h, Nat.mod_eq_of_lt hk]⟩
  · refine ⟨k + n - placeM key n, by omega, ?_⟩
    have : placeM key n + (k + n - placeM key n) = k + n := by omega
    rw [this, Nat.add_mod_right, Nat.mod_eq_of_lt hk]
theorem find_spec_some {T : Tab} {key : List Int} {k : Nat} (h : findM T key = some k) : k < T.length ∧ (T[k]? = some none ∨ ∃ c, T[k]? = some (some c) ∧ c.key = key) ∧ ∃ i, StandsAt T i key k := by
  unfold findM at h
  rw [Option.map_eq_some_iff] at h
  obtain ⟨i, hi, rfl⟩ := h
  have hmem := List.mem_of_find?_eq_some hi
  have hhit := List.find?_some hi
  rw [List.mem_range] at hmem
  have hlt := probe_lt key (n := T.length) (by omega) i
  refine ⟨hlt, ?_, i, hmem, rfl, fun j hj => ?_⟩
  · unfold hitM at hhit
    rw [List.getElem?_eq_getElem hlt] at hhit ⊢
    cases hc : T[probe key T.length i] with
    | none => exact .inl rfl
    | some c =>
      rw [hc] at hhit
      exact .inr ⟨c, rfl, of_decide_eq_true hhit⟩
  · have hno : hitM T key (probe key T.length j) = false := by
      rw [List.find?_range_eq_some] at hi
      have := hi.2.2 j hj
      simpa using this
    have hlj := probe_lt key (n := T.length) (by omega) j
    unfold hitM at hno
    rw [List.getElem?_eq_getElem hlj] at hno ⊢
    cases hc : T[probe key T.length j] with
    | none => rw [hc] at hno; cases hno
    | some c =>
      rw [hc] at hno
      exact ⟨c, rfl, of_decide_eq_false hno⟩
theorem find_spec_none {T : Tab} {key : List Int} (h : findM T key = none) : ∀ k, k < T.length → ∃ c, T[k]? = some (some c) ∧ c.key ≠ key := by
  intro k hk
  obtain ⟨i, hi, rfl⟩ := probe_onto key (n := T.length) k hk
  unfold findM at h
  rw [Option.map_eq_none_iff, List.find?_eq_none] at h
  have hno := h i (List.mem_range.2 hi)
  unfold hitM at hno
  rw [List.getElem?_eq_getElem hk] at hno ⊢
  cases hc : T[probe key T.length i] with
  | none => rw [hc] at hno; simp at hno
  | some c =>
    rw [hc] at hno
    exact ⟨c, rfl, by simpa using hno⟩
/-- What is there is found. -/
theorem find_there {T : Tab} (hT : TabOk T) {k : Nat} {c : CellM} (h : T[k]? = some (some c)) : findM T c.key = some k := by
  obtain ⟨i, hi, hp, hb⟩ := hT k c h
  unfold findM
  rw [Option.map_eq_some_iff]
  refine ⟨i, ?_, hp⟩
  rw [List.find?_range_eq_some]
  refine ⟨?_, List.mem_range.2 hi, fun j hj => ?_⟩
  · unfold hitM
    rw [hp, h]
    simp
  · obtain ⟨d, hd, hne⟩ := hb j hj
    unfold hitM
    rw [hd]
    simpa using hne
theorem taken_set_new {T : Tab} {k : Nat} {c : CellM} (h : T[k]? = some none) : takenM (T.set k (some c)) = takenM T + 1 := by
  obtain ⟨hk, hv⟩ := List.getElem?_eq_some_iff.1 h
  unfold takenM
  rw [List.countP_set hk, hv]
  simp
theorem taken_set_old {T : Tab} {k : Nat} {c d : CellM} (h : T[k]? = some (some d)) : takenM (T.set k (some c)) = takenM T := by
  obtain ⟨hk, hv⟩ := List.getElem?_eq_some_iff.1 h
  unfold takenM
  rw [List.countP_set hk, hv]
  have : 0 < T.countP (·.isSome) := List.countP_pos_iff.2 ⟨some d, hv ▸ List.getElem_mem hk, rfl⟩
  simp; omega
theorem taken_le (T : Tab) : takenM T ≤ T.length := List.countP_le_length
theorem taken_full {T : Tab} (h : ∀ k, k < T.length → ∃ c, T[k]? = some (some c)) : takenM T = T.length := by
  unfold takenM
  rw [List.countP_eq_length]
  intro x hx
  obtain ⟨k, hk, rfl⟩ := List.getElem_of_mem hx
  obtain ⟨c, hc⟩ := h k hk
  rw [List.getElem?_eq_getElem hk] at hc
  simp only [Option.some.injEq] at hc
  rw [hc]; rfl
theorem cells_len (T : Tab) : (cellsM T).length = takenM T := by
  unfold cellsM takenM
  induction T with
  | nil => rfl
  | cons x T ih =>
    cases x with
    | none => simpa using ih
    | some c => simp [ih]
/-- The keys that are there. -/
def keysM (T : Tab) : List (List Int) := (cellsM T).map (·.key)
theorem mem_keys {T : Tab} {key : List Int} : key ∈ keysM T ↔ ∃ (k : Nat) (c : CellM), T[k]? = some (some c) ∧ c.key = key := by
  unfold keysM cellsM
  simp only [List.mem_map, List.mem_filterMap, id]
  constructor
  · rintro ⟨c, ⟨x, hx, rfl⟩, rfl⟩
    obtain ⟨k, hk⟩ := List.mem_iff_getElem?.1 hx
    exact ⟨k, c, hk, rfl⟩
  · rintro ⟨k, c, h, rfl⟩
    exact ⟨c, ⟨some c, List.mem_of_getElem? h, rfl⟩, rfl⟩
/-- Whether a put goes: the key is there, or there is room. -/
theorem put_goes {T : Tab} (c : CellM) : (putM T c).isSome = true ↔ c.key ∈ keysM T ∨ takenM T < T.length := by
  unfold putM
  cases hf : findM T c.key with
  | none =>
    have hn := find_spec_none hf
    have h1 : takenM T = T.length := taken_full fun k hk => (hn k hk).imp fun c h => h.1
    simp only [Option.isSome_none, Bool.false_eq_true, false_iff, not_or]
    refine ⟨fun hm => ?_, by omega⟩
    obtain ⟨k, d, hd, he⟩ := mem_keys.1 hm
    obtain ⟨hk, _⟩ := List.getElem?_eq_some_iff.1 hd
    obtain ⟨d', hd', hne⟩ := hn k hk
    rw [hd] at hd'
    cases hd'
    exact hne he
  | some k =>
    obtain ⟨hk, hor, _⟩ := find_spec_some hf
    simp only [Option.isSome_some, true_iff]
    rcases hor with h | ⟨d, hd, he⟩
    · right
      have h1 := taken_set_new (c := c) h
      have h2 := taken_le (T.set k (some c))
      rw [List.length_set] at h2
      omega
    · exact .inl (mem_keys.2 ⟨k, d, hd, he⟩)
theorem put_len {T T' : Tab} {c : CellM} (h : putM T c = some T') : T'.length = T.length := by
  unfold putM at h
  split at h
  · cases h
  · simp only [Option.some.injEq] at h
    rw [← h, List.length_set]
/-- Behind a put: the table is right; the keys are those and this. -/
theorem put_ok {T T' : Tab} (hT : TabOk T) {c : CellM} (h : putM T c = some T') :
    TabOk T' ∧ takenM T' = (if c.key ∈ keysM T then takenM T else takenM T + 1) ∧ ∀ key, key ∈ keysM T' ↔ key = c.key ∨ key ∈ keysM T := by
  unfold putM at h
  cases hf : findM T c.key with
  | none => rw [hf] at h; cases h
  | some k =>
    rw [hf] at h
    simp only [Option.some.injEq] at h
    obtain ⟨hk, hor, i, hi, hp, hb⟩ := find_spec_some hf
    have hkey : ∃ d : CellM, T' = T.set k (some d) ∧ d.key = c.key := by
      rcases hor with h0 | ⟨d, hd, he⟩
      · rw [h0] at h; exact ⟨c, h.symm, rfl⟩
      · rw [hd] at h; exact ⟨joinC d c, h.symm, he⟩
    obtain ⟨d, rfl, hdk⟩ := hkey
    have hget : ∀ m, (T.set k (some d))[m]? = if k = m then some (some d) else T[m]? := by
      intro m
      rw [List.getElem?_set]
      by_cases e : k = m
      · subst e; simp [hk]
      · simp [e]
    have hlen : (T.set k (some d)).length = T.length := List.length_set
    -- a probe that met a taken slot of another key meets one
    have hpb : ∀ key j, (∃ e : CellM, T[probe key T.length j]? = some (some e) ∧ e.key ≠ key) → (probe key T.length j = k → c.key ≠ key) → ∃ e : CellM, (T.set k (some d))[probe key T.length j]? = some (some e) ∧ e.key ≠ key := by
      rintro key j ⟨e, he, hne⟩ hk'
      rw [hget]
      by_cases hc : k = probe key T.length j
      · rw [if_pos hc]; exact ⟨d, rfl, by rw [hdk]; exact hk' hc.symm⟩
      · rw [if_neg hc]; exact ⟨e, he, hne⟩
    refine ⟨?_, ?_, ?_⟩
    · intro m e hm
      rw [hget] at hm
      by_cases hkm : k = m
      · rw [if_pos hkm] at hm
        cases hm
        subst hkm
        refine ⟨i, by rw [hlen]; exact hi, by rw [hlen, hdk]; exact hp, fun j hj => ?_⟩
        rw [hlen, hdk]
        obtain ⟨e, he, hne⟩ := hb j hj
        refine hpb c.key j ⟨e, he, hne⟩ fun hpk => ?_
        exfalso
        rcases hor with h0 | ⟨d', hd', he'⟩
        · rw [hpk, h0] at he; cases he
        · rw [hpk, hd'] at he; cases he; exact hne he'
      · rw [if_neg hkm] at hm
        obtain ⟨i', hi', hp', hb'⟩ := hT m e hm
        refine ⟨i', by rw [hlen]; exact hi', by rw [hlen]; exact hp', fun j hj => ?_⟩
        rw [hlen]
        refine hpb e.key j (hb' j hj) fun hpk hce => ?_
        obtain ⟨e2, he2, hne2⟩ := hb' j hj
        rw [hpk] at he2
        rcases hor with h0 | ⟨d', hd', he'⟩
        · rw [h0] at he2; cases he2
        · rw [hd'] at he2; cases he2; exact hne2 (he'.trans hce)
    · rcases hor with h0 | ⟨d', hd', he'⟩
      · have hnot : ¬ c.key ∈ keysM T := by
          intro hm
          obtain ⟨k', d', hd', he'⟩ := mem_keys.1 hm
          have := find_there hT hd'
          rw [he', hf] at this
          cases this
          rw [h0] at hd'; cases hd'
        rw [if_neg hnot, taken_set_new h0]
      · rw [if_pos (mem_keys.2 ⟨k, d', hd', he'⟩), taken_set_old hd']
    · intro key
      rw [mem_keys, mem_keys]
      constructor
      · rintro ⟨m, e, hm, rfl⟩
        rw [hget] at hm
        by_cases hkm : k = m
        · rw [if_pos hkm] at hm; cases hm; exact .inl hdk
        · rw [if_neg hkm] at hm; exact .inr ⟨m, e, hm, rfl⟩
      · rintro (rfl | ⟨m, e, hm, rfl⟩)
        · exact ⟨k, d, by rw [hget, if_pos rfl], hdk⟩
        · by_cases hkm : k = m
          · subst hkm
            rcases hor with h0 | ⟨d', hd', he'⟩
            · rw [h0] at hm; cases hm
            · rw [hd'] at hm; cases hm
              exact ⟨k, d, by rw [hget, if_pos rfl], by rw [hdk, he']⟩
          · exact ⟨m, e, by rw [hget, if_neg hkm]; exact hm, rfl⟩
def newM (n : Nat) : Tab := List.replicate n none
theorem newM_ok (n : Nat) : TabOk (newM n) := by
  intro k c h
  unfold newM at h
  rw [List.getElem?_replicate] at h
  split at h <;> cases h
theorem newM_taken (n : Nat) : takenM (newM n) = 0 := by
  unfold takenM newM
  rw [List.countP_eq_zero]
  intro x hx
  rw [(List.mem_replicate.1 hx).2]; simp
end Go.HC

/-
  HC, part 22: a scope in which the run jumps back to one label.
-/
namespace Go.HC
/-- A jump back to label t, nearer the end. -/
def JumpK {σ : Type} (S : σ → L) (D : σ → List Nat) (J : σ → Heap → Prop) (μ : σ → Nat) (t m : Nat) (t' : Nat) (l : L) (b : Base) (h : Heap) : Prop :=
  t' = t ∧ ∃ s', Sub (S s') l b ∧ b.d = D s' ∧ J s' h ∧ μ s' < m
section
variable {P : Program} {n : Nat} {ro : Option Nat} {c : Code} {κ : Kont} {l : L} {b : Base} {h : Heap}
theorem stepR_scope {b : Frame} {a : Act} {k : List Item} {cs : List Frame} {w : World} {c : Code} : step P (lone (b.atR a (.code (.scope c) :: k)) cs w) = .next (lone (b.atR a (.code c :: .inScope c :: k)) cs w) :=
  step_lone_go (by simp [stepG, stepG.exec, Frame.atR])
theorem stepR_inScope {b : Frame} {a : Act} {k : List Item} {cs : List Frame} {w : World} {c : Code} : step P (lone (b.atR a (.inScope c :: k)) cs w) = .next (lone (b.atR a k) cs w) :=
  step_lone_go (by simp [stepG, stepG.exec, Frame.atR])
theorem scope_rule {σ : Type} (t : Nat) (rest : Code) (hf : findLabel c t = some rest) (S : σ → L) (D : σ → List Nat) (J : σ → Heap → Prop) (μ : σ → Nat) (m0 : Nat) (hok : codeOk n c = true) (hok2 : codeOk n rest = true)
    (first : csem P n ro c { κ with gt := JumpK S D J μ t m0 } l b h)
    (pass : ∀ s h g, J s h → csem P n ro rest { κ with gt := JumpK S D J μ t (μ s) } (S s) ⟨g, D s⟩ h) : gsem P n ro (.scope c) κ l b h := by
  intro a w hw hfr fr k cs hkd hro
  have hg : ∀ k, gotoIn t (.inScope c :: k) = some (.code rest :: .inScope c :: k) := by intro k; simp [gotoIn, hf]
  have key : ∀ m s (a : Act) (w : World) g, μ s = m → J s w.heap → IsFr n a (S s) ⟨g, D s⟩ →
      ∃ e a' w' l' b', Same w w' ∧ IsFr n a' l' b' ∧ κ.at e l' b' w'.heap ∧ ArrR P (lone (fr.atR a (.code rest :: .inScope c :: k)) cs w) fr k cs e a' w' := by
    intro m
    induction m using Nat.strongRecOn with
    | _ m ih =>
      intro s a w g hm hJ hfr
      obtain ⟨e, a', w', l', b', hs, hfr', hk, harr⟩ := csem_sound P n ro rest _ _ _ _ hok2 (pass s w.heap g hJ) a w rfl hfr fr (.inScope c :: k) cs hkd hro
      cases e with
      | nx => exact ⟨.nx, a', w', l', b', hs, hfr', hk, Steps.trans harr (.one stepR_inScope)⟩
      | rt => exact ⟨.rt, a', w', l', b', hs, hfr', hk, harr⟩
      | ex id => obtain ⟨td, x, st⟩ := harr; exact ⟨.ex id, a', w', l', b', hs, hfr', hk, td, by simpa [exitTo] using x, st⟩
      | gt tt =>
        obtain ⟨rfl, s', hsub, hd, hJ', hlt⟩ := hk
        obtain ⟨td, x, st⟩ := harr
        have hfr2 := hfr'.clean hsub
        rw [hd] at hfr2
        obtain ⟨e, a'', w'', l'', b'', hs', hfr'', hk', harr'⟩ := ih (μ s') (hm ▸ hlt) s' a' w' _ rfl hJ' hfr2
        exact ⟨e, a'', w'', l'', b'', hs.trans hs', hfr'', hk', .of_steps (st.trans (.one (stepR_goto (x.trans (hg k))))) harr'⟩
  obtain ⟨e, a', w', l', b', hs, hfr', hk, harr⟩ := csem_sound P n ro c _ _ _ _ hok first a w hw hfr fr (.inScope c :: k) cs hkd hro
  have h1 : Steps P (lone (fr.atR a (.code (.scope c) :: k)) cs w) (lone (fr.atR a (.code c :: .inScope c :: k)) cs w) := .one stepR_scope
  cases e with
  | nx => exact ⟨.nx, a', w', l', b', hs, hfr', hk, h1.trans (Steps.trans harr (.one stepR_inScope))⟩
  | rt => obtain ⟨td, st⟩ := harr; exact ⟨.rt, a', w', l', b', hs, hfr', hk, td, h1.trans st⟩
  | ex id => obtain ⟨td, x, st⟩ := harr; exact ⟨.ex id, a', w', l', b', hs, hfr', hk, td, by simpa [exitTo] using x, h1.trans st⟩
  | gt tt =>
    obtain ⟨rfl, s', hsub, hd, hJ', _⟩ := hk
    obtain ⟨td, x, st⟩ := harr
    have hfr2 := hfr'.clean hsub
    rw [hd] at hfr2
    obtain ⟨e, a'', w'', l'', b'', hs', hfr'', hk', harr'⟩ := key _ s' a' w' _ rfl hJ' hfr2
    exact ⟨e, a'', w'', l'', b'', hs.trans hs', hfr'', hk', .of_steps (h1.trans (st.trans (.one (stepR_goto (x.trans (hg k)))))) harr'⟩
/-- The same, for simp. -/
theorem scope {σ : Type} (t : Nat) (rest : Code) (hf : findLabel c t = some rest) (S : σ → L) (D : σ → List Nat) (J : σ → Heap → Prop) (μ : σ → Nat) (m0 : Nat) (hok : codeOk n c = true) (hok2 : codeOk n rest = true)
    (first : cs P n ro c { κ with gt := JumpK S D J μ t m0 } l b h)
    (pass : ∀ s h g, J s h → cs P n ro rest { κ with gt := JumpK S D J μ t (μ s) } (S s) ⟨g, D s⟩ h) : gs P n ro (.scope c) κ l b h := scope_rule t rest hf S D J μ m0 hok hok2 first pass
end
/-- A contract is proved with its end out of sight. -/
theorem callH_by {P : Program} {f : FuncId} {args : Array Value} {h : Heap} {Q : Value → Heap → Prop} (hc : ∀ K : Value → Heap → Prop, (∀ v h, Q v h → K v h) → CallH P f args h K) : CallH P f args h Q := hc Q fun _ _ h => h
/-- A round of a loop has ended well: some state that is nearer the end. -/
def LoopK {σ : Type} (S : σ → L) (D : σ → List Nat) (J : σ → Heap → Prop) (μ : σ → Nat) (s : σ) (l : L) (b : Base) (h : Heap) : Prop := ∃ s', Sub (S s') l b ∧ b.d = D s' ∧ J s' h ∧ μ s' < μ s
theorem loop' {P : Program} {n : Nat} {ro : Option Nat} {c : Code} {κ : Kont} {l : L} {b : Base} {h : Heap} {σ : Type} (S : σ → L) (D : σ → List Nat) (J : σ → Heap → Prop) (μ : σ → Nat) (s0 : σ) (hS : Sub (S s0) l b) (hD : b.d = D s0) (hJ : J s0 h) (hok : codeOk n c = true)
    (round : ∀ s h g, J s h → cs P n ro c { κ with nx := LoopK S D J μ s } (S s) ⟨g, D s⟩ h) : gs P n ro (.loop c) κ l b h := loop S D J μ s0 hS hD hJ hok round
theorem Grow.elem {α : Type} {R : Rp α} {e : TypeId} {F : Nat → Prop} {h : Heap} {a : Option Addr} {n c : Nat} {xs : List α} {own : Option Nat} (hg : Grow R e F h (.slice a n c) xs own) (k : Nat) (hk : k < xs.length) :
    ∃ bk cs, a = some ⟨bk, 0, none⟩ ∧ own = some bk ∧ R.rep F h cs xs[k] ∧ HC.cellsIn h[bk]? (k * R.sz) R.sz = some cs := by
  rcases hg with ⟨_, rfl, _⟩ | ⟨bk, c', arr, cs, hv, rfl, hb, hf, h1, h2, h3, h4, h5⟩
  · simp at hk
  · cases hv
    refine ⟨bk, _, rfl, rfl, h5.get k hk, ?_⟩
    have hlen := h5.len
    have h6 : k * R.sz + R.sz ≤ xs.length * R.sz := by rw [← Nat.succ_mul]; exact Nat.mul_le_mul_right _ hk
    have h7 : xs.length * R.sz ≤ c * R.sz := Nat.mul_le_mul_right _ h2
    rw [hb, cellsIn_some, if_pos (by omega), ← h4, List.drop_take, List.take_take, Nat.min_eq_left (by omega)]
theorem cellsIn_cell {o : Option Obj} {i n d : Nat} {cs : List Value} (h : cellsIn o i n = some cs) (hd : d < n) : cellIn o (i + d) = cs[d]? := by
  cases o with
  | none => simp [cellsIn] at h
  | some o =>
    cases o with
    | cells c e fz =>
      rw [cellsIn_some] at h
      split at h
      · simp only [Option.some.injEq] at h
        rw [cellIn_some, ← h, List.getElem?_take, if_pos hd, List.getElem?_drop]
        simp
      · cases h
    | _ => simp [cellsIn] at h
end Go.HC

/- The facts on the types and functions of this seat, printed by a program of this session (wip/tools/facts.py) off the translation; each is proved by the kernel. -/
namespace Go.Proofs
open Go Go.HC
@[simp] theorem Try.aggS0 : aggS Try.prog 0 = some false := by kernel_rfl
@[simp] theorem Try.szS0 : szS Try.prog 0 = some 1 := by kernel_rfl
@[simp] theorem Try.byS0 : byS Try.prog 0 = some 0 := by kernel_rfl
@[simp] theorem Try.zS0 : zS Try.prog 0 = some (.tuple #[]) := by kernel_rfl
@[simp] theorem Try.aggS1 : aggS Try.prog 1 = some false := by kernel_rfl
@[simp] theorem Try.szS1 : szS Try.prog 1 = some 1 := by kernel_rfl
@[simp] theorem Try.byS1 : byS Try.prog 1 = some 8 := by kernel_rfl
@[simp] theorem Try.zS1 : zS Try.prog 1 = some (.nilFunc) := by kernel_rfl
@[simp] theorem Try.aggS2 : aggS Try.prog 2 = some false := by kernel_rfl
@[simp] theorem Try.szS2 : szS Try.prog 2 = some 1 := by kernel_rfl
@[simp] theorem Try.byS2 : byS Try.prog 2 = some 8 := by kernel_rfl
@[simp] theorem Try.zS2 : zS Try.prog 2 = some (.int .i64 0) := by kernel_rfl
@[simp] theorem Try.intK2 : intK Try.prog 2 = some .i64 := by kernel_rfl
@[simp] theorem Try.aggS3 : aggS Try.prog 3 = some false := by kernel_rfl
@[simp] theorem Try.szS3 : szS Try.prog 3 = some 1 := by kernel_rfl
@[simp] theorem Try.byS3 : byS Try.prog 3 = some 8 := by kernel_rfl
@[simp] theorem Try.zS3 : zS Try.prog 3 = some (.int .i64 0) := by kernel_rfl
@[simp] theorem Try.intK3 : intK Try.prog 3 = some .i64 := by kernel_rfl
@[simp] theorem Try.aggS4 : aggS Try.prog 4 = some false := by kernel_rfl
@[simp] theorem Try.szS4 : szS Try.prog 4 = some 1 := by kernel_rfl
@[simp] theorem Try.byS4 : byS Try.prog 4 = some 1 := by kernel_rfl
@[simp] theorem Try.zS4 : zS Try.prog 4 = some (.bool false) := by kernel_rfl
@[simp] theorem Try.boolT4 : boolT Try.prog 4 = true := by kernel_rfl
@[simp] theorem Try.aggS5 : aggS Try.prog 5 = some false := by kernel_rfl
@[simp] theorem Try.szS5 : szS Try.prog 5 = some 1 := by kernel_rfl
@[simp] theorem Try.byS5 : byS Try.prog 5 = some 1 := by kernel_rfl
@[simp] theorem Try.zS5 : zS Try.prog 5 = some (.int .u8 0) := by kernel_rfl
@[simp] theorem Try.intK5 : intK Try.prog 5 = some .u8 := by kernel_rfl
@[simp] theorem Try.aggS6 : aggS Try.prog 6 = some false := by kernel_rfl
@[simp] theorem Try.szS6 : szS Try.prog 6 = some 1 := by kernel_rfl
@[simp] theorem Try.byS6 : byS Try.prog 6 = some 1 := by kernel_rfl
@[simp] theorem Try.zS6 : zS Try.prog 6 = some (.int .u8 0) := by kernel_rfl
@[simp] theorem Try.intK6 : intK Try.prog 6 = some .u8 := by kernel_rfl
@[simp] theorem Try.aggS7 : aggS Try.prog 7 = some true := by kernel_rfl
@[simp] theorem Try.szS7 : szS Try.prog 7 = some 4 := by kernel_rfl
@[simp] theorem Try.byS7 : byS Try.prog 7 = some 24 := by kernel_rfl
@[simp] theorem Try.zS7 : zS Try.prog 7 = some (.agg #[.int .i64 0, .int .i64 0, .bool false, .int .u8 0]) := by kernel_rfl
@[simp] theorem Try.strOk7 : structOk Try.prog 7 = true := by kernel_rfl
@[simp] theorem Try.fldS7_0 : fldS Try.prog 7 0 = some (0, 1, false) := by kernel_rfl
@[simp] theorem Try.fldS7_1 : fldS Try.prog 7 1 = some (1, 1, false) := by kernel_rfl
@[simp] theorem Try.fldS7_2 : fldS Try.prog 7 2 = some (2, 1, false) := by kernel_rfl
@[simp] theorem Try.fldS7_3 : fldS Try.prog 7 3 = some (3, 1, false) := by kernel_rfl
@[simp] theorem Try.aggS8 : aggS Try.prog 8 = some true := by kernel_rfl
@[simp] theorem Try.szS8 : szS Try.prog 8 = some 4 := by kernel_rfl
@[simp] theorem Try.byS8 : byS Try.prog 8 = some 24 := by kernel_rfl
@[simp] theorem Try.zS8 : zS Try.prog 8 = some (.agg #[.int .i64 0, .int .i64 0, .bool false, .int .u8 0]) := by kernel_rfl
@[simp] theorem Try.strOk8 : structOk Try.prog 8 = true := by kernel_rfl
@[simp] theorem Try.fldS8_0 : fldS Try.prog 8 0 = some (0, 1, false) := by kernel_rfl
@[simp] theorem Try.fldS8_1 : fldS Try.prog 8 1 = some (1, 1, false) := by kernel_rfl
@[simp] theorem Try.fldS8_2 : fldS Try.prog 8 2 = some (2, 1, false) := by kernel_rfl
@[simp] theorem Try.fldS8_3 : fldS Try.prog 8 3 = some (3, 1, false) := by kernel_rfl
@[simp] theorem Try.aggS9 : aggS Try.prog 9 = some false := by kernel_rfl
@[simp] theorem Try.szS9 : szS Try.prog 9 = some 1 := by kernel_rfl
@[simp] theorem Try.byS9 : byS Try.prog 9 = some 16 := by kernel_rfl
@[simp] theorem Try.zS9 : zS Try.prog 9 = some (.string ⟨#[]⟩) := by kernel_rfl
@[simp] theorem Try.strT9 : strT Try.prog 9 = true := by kernel_rfl
@[simp] theorem Try.aggS10 : aggS Try.prog 10 = some false := by kernel_rfl
@[simp] theorem Try.szS10 : szS Try.prog 10 = some 1 := by kernel_rfl
@[simp] theorem Try.byS10 : byS Try.prog 10 = some 16 := by kernel_rfl
@[simp] theorem Try.zS10 : zS Try.prog 10 = some (.string ⟨#[]⟩) := by kernel_rfl
@[simp] theorem Try.strT10 : strT Try.prog 10 = true := by kernel_rfl
@[simp] theorem Try.aggS11 : aggS Try.prog 11 = some false := by kernel_rfl
@[simp] theorem Try.szS11 : szS Try.prog 11 = some 1 := by kernel_rfl
@[simp] theorem Try.byS11 : byS Try.prog 11 = some 16 := by kernel_rfl
@[simp] theorem Try.zS11 : zS Try.prog 11 = some (.string ⟨#[]⟩) := by kernel_rfl
@[simp] theorem Try.strT11 : strT Try.prog 11 = true := by kernel_rfl
@[simp] theorem Try.aggS12 : aggS Try.prog 12 = some false := by kernel_rfl
@[simp] theorem Try.szS12 : szS Try.prog 12 = some 1 := by kernel_rfl
@[simp] theorem Try.byS12 : byS Try.prog 12 = some 8 := by kernel_rfl
@[simp] theorem Try.zS12 : zS Try.prog 12 = some (.int .u64 0) := by kernel_rfl
@[simp] theorem Try.intK12 : intK Try.prog 12 = some .u64 := by kernel_rfl
@[simp] theorem Try.aggS13 : aggS Try.prog 13 = some true := by kernel_rfl
@[simp] theorem Try.szS13 : szS Try.prog 13 = some 2 := by kernel_rfl
@[simp] theorem Try.byS13 : byS Try.prog 13 = some 24 := by kernel_rfl
@[simp] theorem Try.zS13 : zS Try.prog 13 = some (.agg #[.string ⟨#[]⟩, .int .u64 0]) := by kernel_rfl
@[simp] theorem Try.strOk13 : structOk Try.prog 13 = true := by kernel_rfl
@[simp] theorem Try.fldS13_0 : fldS Try.prog 13 0 = some (0, 1, false) := by kernel_rfl
@[simp] theorem Try.fldS13_1 : fldS Try.prog 13 1 = some (1, 1, false) := by kernel_rfl
@[simp] theorem Try.aggS14 : aggS Try.prog 14 = some true := by kernel_rfl
@[simp] theorem Try.szS14 : szS Try.prog 14 = some 2 := by kernel_rfl
@[simp] theorem Try.byS14 : byS Try.prog 14 = some 24 := by kernel_rfl
@[simp] theorem Try.zS14 : zS Try.prog 14 = some (.agg #[.string ⟨#[]⟩, .int .u64 0]) := by kernel_rfl
@[simp] theorem Try.strOk14 : structOk Try.prog 14 = true := by kernel_rfl
@[simp] theorem Try.fldS14_0 : fldS Try.prog 14 0 = some (0, 1, false) := by kernel_rfl
@[simp] theorem Try.fldS14_1 : fldS Try.prog 14 1 = some (1, 1, false) := by kernel_rfl
@[simp] theorem Try.aggS15 : aggS Try.prog 15 = some false := by kernel_rfl
@[simp] theorem Try.szS15 : szS Try.prog 15 = some 1 := by kernel_rfl
@[simp] theorem Try.byS15 : byS Try.prog 15 = some 8 := by kernel_rfl
@[simp] theorem Try.zS15 : zS Try.prog 15 = some (.pointer none) := by kernel_rfl
@[simp] theorem Try.nilKind15 : nilKind Try.prog 15 = 2 := by kernel_rfl
@[simp] theorem Try.aggS16 : aggS Try.prog 16 = some false := by kernel_rfl
@[simp] theorem Try.szS16 : szS Try.prog 16 = some 1 := by kernel_rfl
@[simp] theorem Try.byS16 : byS Try.prog 16 = some 8 := by kernel_rfl
@[simp] theorem Try.zS16 : zS Try.prog 16 = some (.pointer none) := by kernel_rfl
@[simp] theorem Try.nilKind16 : nilKind Try.prog 16 = 2 := by kernel_rfl
@[simp] theorem Try.aggS17 : aggS Try.prog 17 = some false := by kernel_rfl
@[simp] theorem Try.szS17 : szS Try.prog 17 = some 1 := by kernel_rfl
@[simp] theorem Try.byS17 : byS Try.prog 17 = some 8 := by kernel_rfl
@[simp] theorem Try.zS17 : zS Try.prog 17 = some (.pointer none) := by kernel_rfl
@[simp] theorem Try.nilKind17 : nilKind Try.prog 17 = 2 := by kernel_rfl
@[simp] theorem Try.aggS18 : aggS Try.prog 18 = some true := by kernel_rfl
@[simp] theorem Try.szS18 : szS Try.prog 18 = some 1 := by kernel_rfl
@[simp] theorem Try.byS18 : byS Try.prog 18 = some 8 := by kernel_rfl
@[simp] theorem Try.zS18 : zS Try.prog 18 = some (.agg #[.pointer none]) := by kernel_rfl
@[simp] theorem Try.strOk18 : structOk Try.prog 18 = true := by kernel_rfl
@[simp] theorem Try.fldS18_0 : fldS Try.prog 18 0 = some (0, 1, false) := by kernel_rfl
@[simp] theorem Try.aggS19 : aggS Try.prog 19 = some true := by kernel_rfl
@[simp] theorem Try.szS19 : szS Try.prog 19 = some 1 := by kernel_rfl
@[simp] theorem Try.byS19 : byS Try.prog 19 = some 8 := by kernel_rfl
@[simp] theorem Try.zS19 : zS Try.prog 19 = some (.agg #[.pointer none]) := by kernel_rfl
@[simp] theorem Try.strOk19 : structOk Try.prog 19 = true := by kernel_rfl
@[simp] theorem Try.fldS19_0 : fldS Try.prog 19 0 = some (0, 1, false) := by kernel_rfl
@[simp] theorem Try.aggS21 : aggS Try.prog 21 = some false := by kernel_rfl
@[simp] theorem Try.szS21 : szS Try.prog 21 = some 1 := by kernel_rfl
@[simp] theorem Try.byS21 : byS Try.prog 21 = some 4 := by kernel_rfl
@[simp] theorem Try.zS21 : zS Try.prog 21 = some (.int .i32 0) := by kernel_rfl
@[simp] theorem Try.intK21 : intK Try.prog 21 = some .i32 := by kernel_rfl
@[simp] theorem Try.aggS22 : aggS Try.prog 22 = some false := by kernel_rfl
@[simp] theorem Try.szS22 : szS Try.prog 22 = some 1 := by kernel_rfl
@[simp] theorem Try.byS22 : byS Try.prog 22 = some 24 := by kernel_rfl
@[simp] theorem Try.zS22 : zS Try.prog 22 = some (.slice none 0 0) := by kernel_rfl
@[simp] theorem Try.elS22 : elS Try.prog 22 = some 3 := by kernel_rfl
@[simp] theorem Try.nilKind22 : nilKind Try.prog 22 = 1 := by kernel_rfl
@[simp] theorem Try.aggS23 : aggS Try.prog 23 = some false := by kernel_rfl
@[simp] theorem Try.szS23 : szS Try.prog 23 = some 1 := by kernel_rfl
@[simp] theorem Try.byS23 : byS Try.prog 23 = some 8 := by kernel_rfl
@[simp] theorem Try.zS23 : zS Try.prog 23 = some (.nilFunc) := by kernel_rfl
@[simp] theorem Try.aggS24 : aggS Try.prog 24 = some true := by kernel_rfl
@[simp] theorem Try.szS24 : szS Try.prog 24 = some 2 := by kernel_rfl
@[simp] theorem Try.byS24 : byS Try.prog 24 = some 32 := by kernel_rfl
@[simp] theorem Try.zS24 : zS Try.prog 24 = some (.agg #[.slice none 0 0, .int .i64 0]) := by kernel_rfl
@[simp] theorem Try.strOk24 : structOk Try.prog 24 = true := by kernel_rfl
@[simp] theorem Try.fldS24_0 : fldS Try.prog 24 0 = some (0, 1, false) := by kernel_rfl
@[simp] theorem Try.fldS24_1 : fldS Try.prog 24 1 = some (1, 1, false) := by kernel_rfl
@[simp] theorem Try.aggS25 : aggS Try.prog 25 = some true := by kernel_rfl
@[simp] theorem Try.szS25 : szS Try.prog 25 = some 2 := by kernel_rfl
@[simp] theorem Try.byS25 : byS Try.prog 25 = some 32 := by kernel_rfl
@[simp] theorem Try.zS25 : zS Try.prog 25 = some (.agg #[.slice none 0 0, .int .i64 0]) := by kernel_rfl
@[simp] theorem Try.strOk25 : structOk Try.prog 25 = true := by kernel_rfl
@[simp] theorem Try.fldS25_0 : fldS Try.prog 25 0 = some (0, 1, false) := by kernel_rfl
@[simp] theorem Try.fldS25_1 : fldS Try.prog 25 1 = some (1, 1, false) := by kernel_rfl
@[simp] theorem Try.aggS26 : aggS Try.prog 26 = some false := by kernel_rfl
@[simp] theorem Try.szS26 : szS Try.prog 26 = some 1 := by kernel_rfl
@[simp] theorem Try.byS26 : byS Try.prog 26 = some 24 := by kernel_rfl
@[simp] theorem Try.zS26 : zS Try.prog 26 = some (.slice none 0 0) := by kernel_rfl
@[simp] theorem Try.elS26 : elS Try.prog 26 = some 57 := by kernel_rfl
@[simp] theorem Try.nilKind26 : nilKind Try.prog 26 = 1 := by kernel_rfl
@[simp] theorem Try.aggS28 : aggS Try.prog 28 = some false := by kernel_rfl
@[simp] theorem Try.szS28 : szS Try.prog 28 = some 1 := by kernel_rfl
@[simp] theorem Try.byS28 : byS Try.prog 28 = some 8 := by kernel_rfl
@[simp] theorem Try.zS28 : zS Try.prog 28 = some (.nilFunc) := by kernel_rfl
@[simp] theorem Try.aggS29 : aggS Try.prog 29 = some false := by kernel_rfl
@[simp] theorem Try.szS29 : szS Try.prog 29 = some 1 := by kernel_rfl
@[simp] theorem Try.byS29 : byS Try.prog 29 = some 24 := by kernel_rfl
@[simp] theorem Try.zS29 : zS Try.prog 29 = some (.slice none 0 0) := by kernel_rfl
@[simp] theorem Try.elS29 : elS Try.prog 29 = some 39 := by kernel_rfl
@[simp] theorem Try.nilKind29 : nilKind Try.prog 29 = 1 := by kernel_rfl
@[simp] theorem Try.aggS30 : aggS Try.prog 30 = some false := by kernel_rfl
@[simp] theorem Try.szS30 : szS Try.prog 30 = some 1 := by kernel_rfl
@[simp] theorem Try.byS30 : byS Try.prog 30 = some 8 := by kernel_rfl
@[simp] theorem Try.zS30 : zS Try.prog 30 = some (.nilFunc) := by kernel_rfl
@[simp] theorem Try.aggS31 : aggS Try.prog 31 = some false := by kernel_rfl
@[simp] theorem Try.szS31 : szS Try.prog 31 = some 1 := by kernel_rfl
@[simp] theorem Try.byS31 : byS Try.prog 31 = some 8 := by kernel_rfl
@[simp] theorem Try.zS31 : zS Try.prog 31 = some (.nilFunc) := by kernel_rfl
@[simp] theorem Try.aggS32 : aggS Try.prog 32 = some false := by kernel_rfl
@[simp] theorem Try.szS32 : szS Try.prog 32 = some 1 := by kernel_rfl
@[simp] theorem Try.byS32 : byS Try.prog 32 = some 8 := by kernel_rfl
@[simp] theorem Try.zS32 : zS Try.prog 32 = some (.nilFunc) := by kernel_rfl
@[simp] theorem Try.aggS33 : aggS Try.prog 33 = some false := by kernel_rfl
@[simp] theorem Try.szS33 : szS Try.prog 33 = some 1 := by kernel_rfl
@[simp] theorem Try.byS33 : byS Try.prog 33 = some 8 := by kernel_rfl
@[simp] theorem Try.zS33 : zS Try.prog 33 = some (.pointer none) := by kernel_rfl
@[simp] theorem Try.nilKind33 : nilKind Try.prog 33 = 2 := by kernel_rfl
@[simp] theorem Try.aggS34 : aggS Try.prog 34 = some false := by kernel_rfl
@[simp] theorem Try.szS34 : szS Try.prog 34 = some 1 := by kernel_rfl
@[simp] theorem Try.byS34 : byS Try.prog 34 = some 8 := by kernel_rfl
@[simp] theorem Try.zS34 : zS Try.prog 34 = some (.nilFunc) := by kernel_rfl
@[simp] theorem Try.aggS35 : aggS Try.prog 35 = some false := by kernel_rfl
@[simp] theorem Try.szS35 : szS Try.prog 35 = some 1 := by kernel_rfl
@[simp] theorem Try.byS35 : byS Try.prog 35 = some 8 := by kernel_rfl
@[simp] theorem Try.zS35 : zS Try.prog 35 = some (.pointer none) := by kernel_rfl
@[simp] theorem Try.nilKind35 : nilKind Try.prog 35 = 2 := by kernel_rfl
@[simp] theorem Try.aggS36 : aggS Try.prog 36 = some false := by kernel_rfl
@[simp] theorem Try.szS36 : szS Try.prog 36 = some 1 := by kernel_rfl
@[simp] theorem Try.byS36 : byS Try.prog 36 = some 8 := by kernel_rfl
@[simp] theorem Try.zS36 : zS Try.prog 36 = some (.nilFunc) := by kernel_rfl
@[simp] theorem Try.aggS37 : aggS Try.prog 37 = some false := by kernel_rfl
@[simp] theorem Try.szS37 : szS Try.prog 37 = some 1 := by kernel_rfl
@[simp] theorem Try.byS37 : byS Try.prog 37 = some 8 := by kernel_rfl
@[simp] theorem Try.zS37 : zS Try.prog 37 = some (.nilFunc) := by kernel_rfl
@[simp] theorem Try.aggS38 : aggS Try.prog 38 = some true := by kernel_rfl
@[simp] theorem Try.szS38 : szS Try.prog 38 = some 5 := by kernel_rfl
@[simp] theorem Try.byS38 : byS Try.prog 38 = some 104 := by kernel_rfl
@[simp] theorem Try.zS38 : zS Try.prog 38 = some (.agg #[.slice none 0 0, .int .i64 0, .slice none 0 0, .slice none 0 0, .slice none 0 0]) := by kernel_rfl
@[simp] theorem Try.strOk38 : structOk Try.prog 38 = true := by kernel_rfl
@[simp] theorem Try.fldS38_0 : fldS Try.prog 38 0 = some (0, 1, false) := by kernel_rfl
@[simp] theorem Try.fldS38_1 : fldS Try.prog 38 1 = some (1, 1, false) := by kernel_rfl
@[simp] theorem Try.fldS38_2 : fldS Try.prog 38 2 = some (2, 1, false) := by kernel_rfl
@[simp] theorem Try.fldS38_3 : fldS Try.prog 38 3 = some (3, 1, false) := by kernel_rfl
@[simp] theorem Try.fldS38_4 : fldS Try.prog 38 4 = some (4, 1, false) := by kernel_rfl
@[simp] theorem Try.aggS39 : aggS Try.prog 39 = some true := by kernel_rfl
@[simp] theorem Try.szS39 : szS Try.prog 39 = some 5 := by kernel_rfl
@[simp] theorem Try.byS39 : byS Try.prog 39 = some 104 := by kernel_rfl
@[simp] theorem Try.zS39 : zS Try.prog 39 = some (.agg #[.slice none 0 0, .int .i64 0, .slice none 0 0, .slice none 0 0, .slice none 0 0]) := by kernel_rfl
@[simp] theorem Try.strOk39 : structOk Try.prog 39 = true := by kernel_rfl
@[simp] theorem Try.fldS39_0 : fldS Try.prog 39 0 = some (0, 1, false) := by kernel_rfl
@[simp] theorem Try.fldS39_1 : fldS Try.prog 39 1 = some (1, 1, false) := by kernel_rfl
@[simp] theorem Try.fldS39_2 : fldS Try.prog 39 2 = some (2, 1, false) := by kernel_rfl
@[simp] theorem Try.fldS39_3 : fldS Try.prog 39 3 = some (3, 1, false) := by kernel_rfl
@[simp] theorem Try.fldS39_4 : fldS Try.prog 39 4 = some (4, 1, false) := by kernel_rfl
@[simp] theorem Try.aggS40 : aggS Try.prog 40 = some false := by kernel_rfl
@[simp] theorem Try.szS40 : szS Try.prog 40 = some 1 := by kernel_rfl
@[simp] theorem Try.byS40 : byS Try.prog 40 = some 8 := by kernel_rfl
@[simp] theorem Try.zS40 : zS Try.prog 40 = some (.nilFunc) := by kernel_rfl
@[simp] theorem Try.aggS42 : aggS Try.prog 42 = some false := by kernel_rfl
@[simp] theorem Try.szS42 : szS Try.prog 42 = some 1 := by kernel_rfl
@[simp] theorem Try.byS42 : byS Try.prog 42 = some 8 := by kernel_rfl
@[simp] theorem Try.zS42 : zS Try.prog 42 = some (.nilFunc) := by kernel_rfl
@[simp] theorem Try.aggS43 : aggS Try.prog 43 = some false := by kernel_rfl
@[simp] theorem Try.szS43 : szS Try.prog 43 = some 1 := by kernel_rfl
@[simp] theorem Try.byS43 : byS Try.prog 43 = some 8 := by kernel_rfl
@[simp] theorem Try.zS43 : zS Try.prog 43 = some (.nilFunc) := by kernel_rfl
@[simp] theorem Try.aggS44 : aggS Try.prog 44 = some false := by kernel_rfl
@[simp] theorem Try.szS44 : szS Try.prog 44 = some 1 := by kernel_rfl
@[simp] theorem Try.byS44 : byS Try.prog 44 = some 8 := by kernel_rfl
@[simp] theorem Try.zS44 : zS Try.prog 44 = some (.nilFunc) := by kernel_rfl
@[simp] theorem Try.aggS45 : aggS Try.prog 45 = some false := by kernel_rfl
@[simp] theorem Try.szS45 : szS Try.prog 45 = some 1 := by kernel_rfl
@[simp] theorem Try.byS45 : byS Try.prog 45 = some 8 := by kernel_rfl
@[simp] theorem Try.zS45 : zS Try.prog 45 = some (.nilFunc) := by kernel_rfl
@[simp] theorem Try.aggS46 : aggS Try.prog 46 = some false := by kernel_rfl
@[simp] theorem Try.szS46 : szS Try.prog 46 = some 1 := by kernel_rfl
@[simp] theorem Try.byS46 : byS Try.prog 46 = some 8 := by kernel_rfl
@[simp] theorem Try.zS46 : zS Try.prog 46 = some (.nilFunc) := by kernel_rfl
@[simp] theorem Try.aggS48 : aggS Try.prog 48 = some false := by kernel_rfl
@[simp] theorem Try.szS48 : szS Try.prog 48 = some 1 := by kernel_rfl
@[simp] theorem Try.byS48 : byS Try.prog 48 = some 8 := by kernel_rfl
@[simp] theorem Try.zS48 : zS Try.prog 48 = some (.nilFunc) := by kernel_rfl
@[simp] theorem Try.aggS49 : aggS Try.prog 49 = some false := by kernel_rfl
@[simp] theorem Try.szS49 : szS Try.prog 49 = some 1 := by kernel_rfl
@[simp] theorem Try.byS49 : byS Try.prog 49 = some 8 := by kernel_rfl
@[simp] theorem Try.zS49 : zS Try.prog 49 = some (.nilFunc) := by kernel_rfl
@[simp] theorem Try.aggS50 : aggS Try.prog 50 = some false := by kernel_rfl
@[simp] theorem Try.szS50 : szS Try.prog 50 = some 1 := by kernel_rfl
@[simp] theorem Try.byS50 : byS Try.prog 50 = some 24 := by kernel_rfl
@[simp] theorem Try.zS50 : zS Try.prog 50 = some (.slice none 0 0) := by kernel_rfl
@[simp] theorem Try.elS50 : elS Try.prog 50 = some 22 := by kernel_rfl
@[simp] theorem Try.nilKind50 : nilKind Try.prog 50 = 1 := by kernel_rfl
@[simp] theorem Try.aggS51 : aggS Try.prog 51 = some false := by kernel_rfl
@[simp] theorem Try.szS51 : szS Try.prog 51 = some 1 := by kernel_rfl
@[simp] theorem Try.byS51 : byS Try.prog 51 = some 8 := by kernel_rfl
@[simp] theorem Try.zS51 : zS Try.prog 51 = some (.nilFunc) := by kernel_rfl
@[simp] theorem Try.aggS52 : aggS Try.prog 52 = some false := by kernel_rfl
@[simp] theorem Try.szS52 : szS Try.prog 52 = some 1 := by kernel_rfl
@[simp] theorem Try.byS52 : byS Try.prog 52 = some 8 := by kernel_rfl
@[simp] theorem Try.zS52 : zS Try.prog 52 = some (.nilFunc) := by kernel_rfl
@[simp] theorem Try.aggS53 : aggS Try.prog 53 = some false := by kernel_rfl
@[simp] theorem Try.szS53 : szS Try.prog 53 = some 1 := by kernel_rfl
@[simp] theorem Try.byS53 : byS Try.prog 53 = some 8 := by kernel_rfl
@[simp] theorem Try.zS53 : zS Try.prog 53 = some (.nilFunc) := by kernel_rfl
@[simp] theorem Try.aggS54 : aggS Try.prog 54 = some false := by kernel_rfl
@[simp] theorem Try.szS54 : szS Try.prog 54 = some 1 := by kernel_rfl
@[simp] theorem Try.byS54 : byS Try.prog 54 = some 8 := by kernel_rfl
@[simp] theorem Try.zS54 : zS Try.prog 54 = some (.nilFunc) := by kernel_rfl
@[simp] theorem Try.aggS55 : aggS Try.prog 55 = some false := by kernel_rfl
@[simp] theorem Try.szS55 : szS Try.prog 55 = some 1 := by kernel_rfl
@[simp] theorem Try.byS55 : byS Try.prog 55 = some 8 := by kernel_rfl
@[simp] theorem Try.zS55 : zS Try.prog 55 = some (.nilFunc) := by kernel_rfl
@[simp] theorem Try.aggS56 : aggS Try.prog 56 = some true := by kernel_rfl
@[simp] theorem Try.szS56 : szS Try.prog 56 = some 2 := by kernel_rfl
@[simp] theorem Try.byS56 : byS Try.prog 56 = some 48 := by kernel_rfl
@[simp] theorem Try.zS56 : zS Try.prog 56 = some (.agg #[.slice none 0 0, .slice none 0 0]) := by kernel_rfl
@[simp] theorem Try.strOk56 : structOk Try.prog 56 = true := by kernel_rfl
@[simp] theorem Try.fldS56_0 : fldS Try.prog 56 0 = some (0, 1, false) := by kernel_rfl
@[simp] theorem Try.fldS56_1 : fldS Try.prog 56 1 = some (1, 1, false) := by kernel_rfl
@[simp] theorem Try.aggS57 : aggS Try.prog 57 = some true := by kernel_rfl
@[simp] theorem Try.szS57 : szS Try.prog 57 = some 2 := by kernel_rfl
@[simp] theorem Try.byS57 : byS Try.prog 57 = some 48 := by kernel_rfl
@[simp] theorem Try.zS57 : zS Try.prog 57 = some (.agg #[.slice none 0 0, .slice none 0 0]) := by kernel_rfl
@[simp] theorem Try.strOk57 : structOk Try.prog 57 = true := by kernel_rfl
@[simp] theorem Try.fldS57_0 : fldS Try.prog 57 0 = some (0, 1, false) := by kernel_rfl
@[simp] theorem Try.fldS57_1 : fldS Try.prog 57 1 = some (1, 1, false) := by kernel_rfl
@[simp] theorem Try.aggS58 : aggS Try.prog 58 = some false := by kernel_rfl
@[simp] theorem Try.szS58 : szS Try.prog 58 = some 1 := by kernel_rfl
@[simp] theorem Try.byS58 : byS Try.prog 58 = some 8 := by kernel_rfl
@[simp] theorem Try.zS58 : zS Try.prog 58 = some (.nilFunc) := by kernel_rfl
@[simp] theorem Try.aggS59 : aggS Try.prog 59 = some false := by kernel_rfl
@[simp] theorem Try.szS59 : szS Try.prog 59 = some 1 := by kernel_rfl
@[simp] theorem Try.byS59 : byS Try.prog 59 = some 8 := by kernel_rfl
@[simp] theorem Try.zS59 : zS Try.prog 59 = some (.int .u64 0) := by kernel_rfl
@[simp] theorem Try.intK59 : intK Try.prog 59 = some .u64 := by kernel_rfl
@[simp] theorem Try.aggS60 : aggS Try.prog 60 = some false := by kernel_rfl
@[simp] theorem Try.szS60 : szS Try.prog 60 = some 1 := by kernel_rfl
@[simp] theorem Try.byS60 : byS Try.prog 60 = some 24 := by kernel_rfl
@[simp] theorem Try.zS60 : zS Try.prog 60 = some (.slice none 0 0) := by kernel_rfl
@[simp] theorem Try.elS60 : elS Try.prog 60 = some 68 := by kernel_rfl
@[simp] theorem Try.nilKind60 : nilKind Try.prog 60 = 1 := by kernel_rfl
@[simp] theorem Try.aggS61 : aggS Try.prog 61 = some true := by kernel_rfl
@[simp] theorem Try.szS61 : szS Try.prog 61 = some 2 := by kernel_rfl
@[simp] theorem Try.byS61 : byS Try.prog 61 = some 32 := by kernel_rfl
@[simp] theorem Try.zS61 : zS Try.prog 61 = some (.agg #[.slice none 0 0, .int .i64 0]) := by kernel_rfl
@[simp] theorem Try.strOk61 : structOk Try.prog 61 = true := by kernel_rfl
@[simp] theorem Try.fldS61_0 : fldS Try.prog 61 0 = some (0, 1, false) := by kernel_rfl
@[simp] theorem Try.fldS61_1 : fldS Try.prog 61 1 = some (1, 1, false) := by kernel_rfl
@[simp] theorem Try.aggS62 : aggS Try.prog 62 = some true := by kernel_rfl
@[simp] theorem Try.szS62 : szS Try.prog 62 = some 2 := by kernel_rfl
@[simp] theorem Try.byS62 : byS Try.prog 62 = some 32 := by kernel_rfl
@[simp] theorem Try.zS62 : zS Try.prog 62 = some (.agg #[.slice none 0 0, .int .i64 0]) := by kernel_rfl
@[simp] theorem Try.strOk62 : structOk Try.prog 62 = true := by kernel_rfl
@[simp] theorem Try.fldS62_0 : fldS Try.prog 62 0 = some (0, 1, false) := by kernel_rfl
@[simp] theorem Try.fldS62_1 : fldS Try.prog 62 1 = some (1, 1, false) := by kernel_rfl
@[simp] theorem Try.aggS63 : aggS Try.prog 63 = some false := by kernel_rfl
@[simp] theorem Try.szS63 : szS Try.prog 63 = some 1 := by kernel_rfl
@[simp] theorem Try.byS63 : byS Try.prog 63 = some 24 := by kernel_rfl
@[simp] theorem Try.zS63 : zS Try.prog 63 = some (.slice none 0 0) := by kernel_rfl
@[simp] theorem Try.elS63 : elS Try.prog 63 = some 4 := by kernel_rfl
@[simp] theorem Try.nilKind63 : nilKind Try.prog 63 = 1 := by kernel_rfl
@[simp] theorem Try.aggS64 : aggS Try.prog 64 = some true := by kernel_rfl
@[simp] theorem Try.szS64 : szS Try.prog 64 = some 3 := by kernel_rfl
@[simp] theorem Try.byS64 : byS Try.prog 64 = some 56 := by kernel_rfl
@[simp] theorem Try.zS64 : zS Try.prog 64 = some (.agg #[.slice none 0 0, .slice none 0 0, .int .i64 0]) := by kernel_rfl
@[simp] theorem Try.strOk64 : structOk Try.prog 64 = true := by kernel_rfl
@[simp] theorem Try.fldS64_0 : fldS Try.prog 64 0 = some (0, 1, false) := by kernel_rfl
@[simp] theorem Try.fldS64_1 : fldS Try.prog 64 1 = some (1, 1, false) := by kernel_rfl
@[simp] theorem Try.fldS64_2 : fldS Try.prog 64 2 = some (2, 1, false) := by kernel_rfl
@[simp] theorem Try.aggS65 : aggS Try.prog 65 = some true := by kernel_rfl
@[simp] theorem Try.szS65 : szS Try.prog 65 = some 3 := by kernel_rfl
@[simp] theorem Try.byS65 : byS Try.prog 65 = some 56 := by kernel_rfl
@[simp] theorem Try.zS65 : zS Try.prog 65 = some (.agg #[.slice none 0 0, .slice none 0 0, .int .i64 0]) := by kernel_rfl
@[simp] theorem Try.strOk65 : structOk Try.prog 65 = true := by kernel_rfl
@[simp] theorem Try.fldS65_0 : fldS Try.prog 65 0 = some (0, 1, false) := by kernel_rfl
@[simp] theorem Try.fldS65_1 : fldS Try.prog 65 1 = some (1, 1, false) := by kernel_rfl
@[simp] theorem Try.fldS65_2 : fldS Try.prog 65 2 = some (2, 1, false) := by kernel_rfl
@[simp] theorem Try.aggS66 : aggS Try.prog 66 = some false := by kernel_rfl
@[simp] theorem Try.szS66 : szS Try.prog 66 = some 1 := by kernel_rfl
@[simp] theorem Try.byS66 : byS Try.prog 66 = some 8 := by kernel_rfl
@[simp] theorem Try.zS66 : zS Try.prog 66 = some (.nilFunc) := by kernel_rfl
@[simp] theorem Try.aggS67 : aggS Try.prog 67 = some true := by kernel_rfl
@[simp] theorem Try.szS67 : szS Try.prog 67 = some 6 := by kernel_rfl
@[simp] theorem Try.byS67 : byS Try.prog 67 = some 112 := by kernel_rfl
@[simp] theorem Try.zS67 : zS Try.prog 67 = some (.agg #[.slice none 0 0, .int .i64 0, .slice none 0 0, .slice none 0 0, .slice none 0 0, .bool false]) := by kernel_rfl
@[simp] theorem Try.strOk67 : structOk Try.prog 67 = true := by kernel_rfl
@[simp] theorem Try.fldS67_0 : fldS Try.prog 67 0 = some (0, 5, true) := by kernel_rfl
@[simp] theorem Try.fldS67_1 : fldS Try.prog 67 1 = some (5, 1, false) := by kernel_rfl
@[simp] theorem Try.aggS68 : aggS Try.prog 68 = some true := by kernel_rfl
@[simp] theorem Try.szS68 : szS Try.prog 68 = some 6 := by kernel_rfl
@[simp] theorem Try.byS68 : byS Try.prog 68 = some 112 := by kernel_rfl
@[simp] theorem Try.zS68 : zS Try.prog 68 = some (.agg #[.slice none 0 0, .int .i64 0, .slice none 0 0, .slice none 0 0, .slice none 0 0, .bool false]) := by kernel_rfl
@[simp] theorem Try.strOk68 : structOk Try.prog 68 = true := by kernel_rfl
@[simp] theorem Try.fldS68_0 : fldS Try.prog 68 0 = some (0, 5, true) := by kernel_rfl
@[simp] theorem Try.fldS68_1 : fldS Try.prog 68 1 = some (5, 1, false) := by kernel_rfl
@[simp] theorem Try.aggS69 : aggS Try.prog 69 = some false := by kernel_rfl
@[simp] theorem Try.szS69 : szS Try.prog 69 = some 1 := by kernel_rfl
@[simp] theorem Try.byS69 : byS Try.prog 69 = some 8 := by kernel_rfl
@[simp] theorem Try.zS69 : zS Try.prog 69 = some (.nilFunc) := by kernel_rfl
@[simp] theorem Try.aggS70 : aggS Try.prog 70 = some false := by kernel_rfl
@[simp] theorem Try.szS70 : szS Try.prog 70 = some 1 := by kernel_rfl
@[simp] theorem Try.byS70 : byS Try.prog 70 = some 8 := by kernel_rfl
@[simp] theorem Try.zS70 : zS Try.prog 70 = some (.nilFunc) := by kernel_rfl
@[simp] theorem Try.aggS71 : aggS Try.prog 71 = some false := by kernel_rfl
@[simp] theorem Try.szS71 : szS Try.prog 71 = some 1 := by kernel_rfl
@[simp] theorem Try.byS71 : byS Try.prog 71 = some 8 := by kernel_rfl
@[simp] theorem Try.zS71 : zS Try.prog 71 = some (.nilFunc) := by kernel_rfl
@[simp] theorem Try.aggS72 : aggS Try.prog 72 = some false := by kernel_rfl
@[simp] theorem Try.szS72 : szS Try.prog 72 = some 1 := by kernel_rfl
@[simp] theorem Try.byS72 : byS Try.prog 72 = some 8 := by kernel_rfl
@[simp] theorem Try.zS72 : zS Try.prog 72 = some (.nilFunc) := by kernel_rfl
@[simp] theorem Try.aggS73 : aggS Try.prog 73 = some false := by kernel_rfl
@[simp] theorem Try.szS73 : szS Try.prog 73 = some 1 := by kernel_rfl
@[simp] theorem Try.byS73 : byS Try.prog 73 = some 8 := by kernel_rfl
@[simp] theorem Try.zS73 : zS Try.prog 73 = some (.nilFunc) := by kernel_rfl
@[simp] theorem Try.aggS74 : aggS Try.prog 74 = some false := by kernel_rfl
@[simp] theorem Try.szS74 : szS Try.prog 74 = some 1 := by kernel_rfl
@[simp] theorem Try.byS74 : byS Try.prog 74 = some 24 := by kernel_rfl
@[simp] theorem Try.zS74 : zS Try.prog 74 = some (.slice none 0 0) := by kernel_rfl
@[simp] theorem Try.elS74 : elS Try.prog 74 = some 29 := by kernel_rfl
@[simp] theorem Try.nilKind74 : nilKind Try.prog 74 = 1 := by kernel_rfl
@[simp] theorem Try.aggS75 : aggS Try.prog 75 = some false := by kernel_rfl
@[simp] theorem Try.szS75 : szS Try.prog 75 = some 1 := by kernel_rfl
@[simp] theorem Try.byS75 : byS Try.prog 75 = some 8 := by kernel_rfl
@[simp] theorem Try.zS75 : zS Try.prog 75 = some (.nilFunc) := by kernel_rfl
@[simp] theorem Try.aggS76 : aggS Try.prog 76 = some false := by kernel_rfl
@[simp] theorem Try.szS76 : szS Try.prog 76 = some 1 := by kernel_rfl
@[simp] theorem Try.byS76 : byS Try.prog 76 = some 8 := by kernel_rfl
@[simp] theorem Try.zS76 : zS Try.prog 76 = some (.nilFunc) := by kernel_rfl
@[simp] theorem Try.aggS77 : aggS Try.prog 77 = some false := by kernel_rfl
@[simp] theorem Try.szS77 : szS Try.prog 77 = some 1 := by kernel_rfl
@[simp] theorem Try.byS77 : byS Try.prog 77 = some 8 := by kernel_rfl
@[simp] theorem Try.zS77 : zS Try.prog 77 = some (.nilFunc) := by kernel_rfl
@[simp] theorem Try.aggS78 : aggS Try.prog 78 = some false := by kernel_rfl
@[simp] theorem Try.szS78 : szS Try.prog 78 = some 1 := by kernel_rfl
@[simp] theorem Try.byS78 : byS Try.prog 78 = some 8 := by kernel_rfl
@[simp] theorem Try.zS78 : zS Try.prog 78 = some (.nilFunc) := by kernel_rfl
@[simp] theorem Try.aggS80 : aggS Try.prog 80 = some false := by kernel_rfl
@[simp] theorem Try.szS80 : szS Try.prog 80 = some 1 := by kernel_rfl
@[simp] theorem Try.byS80 : byS Try.prog 80 = some 8 := by kernel_rfl
@[simp] theorem Try.zS80 : zS Try.prog 80 = some (.nilFunc) := by kernel_rfl
@[simp] theorem Try.aggS81 : aggS Try.prog 81 = some false := by kernel_rfl
@[simp] theorem Try.szS81 : szS Try.prog 81 = some 1 := by kernel_rfl
@[simp] theorem Try.byS81 : byS Try.prog 81 = some 8 := by kernel_rfl
@[simp] theorem Try.zS81 : zS Try.prog 81 = some (.map none) := by kernel_rfl
@[simp] theorem Try.nilKind81 : nilKind Try.prog 81 = 3 := by kernel_rfl
@[simp] theorem Try.mapS81 : mapS Try.prog 81 = some (3, 29) := by kernel_rfl
@[simp] theorem Try.aggS82 : aggS Try.prog 82 = some false := by kernel_rfl
@[simp] theorem Try.szS82 : szS Try.prog 82 = some 1 := by kernel_rfl
@[simp] theorem Try.byS82 : byS Try.prog 82 = some 8 := by kernel_rfl
@[simp] theorem Try.zS82 : zS Try.prog 82 = some (.nilFunc) := by kernel_rfl
@[simp] theorem Try.aggS83 : aggS Try.prog 83 = some false := by kernel_rfl
@[simp] theorem Try.szS83 : szS Try.prog 83 = some 1 := by kernel_rfl
@[simp] theorem Try.byS83 : byS Try.prog 83 = some 8 := by kernel_rfl
@[simp] theorem Try.zS83 : zS Try.prog 83 = some (.nilFunc) := by kernel_rfl
@[simp] theorem Try.aggS84 : aggS Try.prog 84 = some true := by kernel_rfl
@[simp] theorem Try.szS84 : szS Try.prog 84 = some 2 := by kernel_rfl
@[simp] theorem Try.byS84 : byS Try.prog 84 = some 32 := by kernel_rfl
@[simp] theorem Try.zS84 : zS Try.prog 84 = some (.agg #[.slice none 0 0, .nilFunc]) := by kernel_rfl
@[simp] theorem Try.strOk84 : structOk Try.prog 84 = true := by kernel_rfl
@[simp] theorem Try.fldS84_0 : fldS Try.prog 84 0 = some (0, 1, false) := by kernel_rfl
@[simp] theorem Try.fldS84_1 : fldS Try.prog 84 1 = some (1, 1, false) := by kernel_rfl
@[simp] theorem Try.aggS85 : aggS Try.prog 85 = some true := by kernel_rfl
@[simp] theorem Try.szS85 : szS Try.prog 85 = some 2 := by kernel_rfl
@[simp] theorem Try.byS85 : byS Try.prog 85 = some 32 := by kernel_rfl
@[simp] theorem Try.zS85 : zS Try.prog 85 = some (.agg #[.slice none 0 0, .nilFunc]) := by kernel_rfl
@[simp] theorem Try.strOk85 : structOk Try.prog 85 = true := by kernel_rfl
@[simp] theorem Try.fldS85_0 : fldS Try.prog 85 0 = some (0, 1, false) := by kernel_rfl
@[simp] theorem Try.fldS85_1 : fldS Try.prog 85 1 = some (1, 1, false) := by kernel_rfl
@[simp] theorem Try.aggS86 : aggS Try.prog 86 = some false := by kernel_rfl
@[simp] theorem Try.szS86 : szS Try.prog 86 = some 1 := by kernel_rfl
@[simp] theorem Try.byS86 : byS Try.prog 86 = some 8 := by kernel_rfl
@[simp] theorem Try.zS86 : zS Try.prog 86 = some (.nilFunc) := by kernel_rfl
@[simp] theorem Try.aggS87 : aggS Try.prog 87 = some false := by kernel_rfl
@[simp] theorem Try.szS87 : szS Try.prog 87 = some 1 := by kernel_rfl
@[simp] theorem Try.byS87 : byS Try.prog 87 = some 8 := by kernel_rfl
@[simp] theorem Try.zS87 : zS Try.prog 87 = some (.nilFunc) := by kernel_rfl
@[simp] theorem Try.aggS88 : aggS Try.prog 88 = some false := by kernel_rfl
@[simp] theorem Try.szS88 : szS Try.prog 88 = some 1 := by kernel_rfl
@[simp] theorem Try.byS88 : byS Try.prog 88 = some 8 := by kernel_rfl
@[simp] theorem Try.zS88 : zS Try.prog 88 = some (.nilFunc) := by kernel_rfl
@[simp] theorem Try.aggS89 : aggS Try.prog 89 = some false := by kernel_rfl
@[simp] theorem Try.szS89 : szS Try.prog 89 = some 1 := by kernel_rfl
@[simp] theorem Try.byS89 : byS Try.prog 89 = some 8 := by kernel_rfl
@[simp] theorem Try.zS89 : zS Try.prog 89 = some (.nilFunc) := by kernel_rfl
@[simp] theorem Try.aggS90 : aggS Try.prog 90 = some false := by kernel_rfl
@[simp] theorem Try.szS90 : szS Try.prog 90 = some 1 := by kernel_rfl
@[simp] theorem Try.byS90 : byS Try.prog 90 = some 8 := by kernel_rfl
@[simp] theorem Try.zS90 : zS Try.prog 90 = some (.pointer none) := by kernel_rfl
@[simp] theorem Try.nilKind90 : nilKind Try.prog 90 = 2 := by kernel_rfl
@[simp] theorem Try.aggS92 : aggS Try.prog 92 = some false := by kernel_rfl
@[simp] theorem Try.szS92 : szS Try.prog 92 = some 1 := by kernel_rfl
@[simp] theorem Try.byS92 : byS Try.prog 92 = some 8 := by kernel_rfl
@[simp] theorem Try.zS92 : zS Try.prog 92 = some (.nilFunc) := by kernel_rfl
@[simp] theorem Try.aggS93 : aggS Try.prog 93 = some false := by kernel_rfl
@[simp] theorem Try.szS93 : szS Try.prog 93 = some 1 := by kernel_rfl
@[simp] theorem Try.byS93 : byS Try.prog 93 = some 8 := by kernel_rfl
@[simp] theorem Try.zS93 : zS Try.prog 93 = some (.nilFunc) := by kernel_rfl
@[simp] theorem Try.aggS94 : aggS Try.prog 94 = some false := by kernel_rfl
@[simp] theorem Try.szS94 : szS Try.prog 94 = some 1 := by kernel_rfl
@[simp] theorem Try.byS94 : byS Try.prog 94 = some 8 := by kernel_rfl
@[simp] theorem Try.zS94 : zS Try.prog 94 = some (.nilFunc) := by kernel_rfl
@[simp] theorem Try.aggS95 : aggS Try.prog 95 = some false := by kernel_rfl
@[simp] theorem Try.szS95 : szS Try.prog 95 = some 1 := by kernel_rfl
@[simp] theorem Try.byS95 : byS Try.prog 95 = some 8 := by kernel_rfl
@[simp] theorem Try.zS95 : zS Try.prog 95 = some (.nilFunc) := by kernel_rfl
@[simp] theorem Try.aggS96 : aggS Try.prog 96 = some false := by kernel_rfl
@[simp] theorem Try.szS96 : szS Try.prog 96 = some 1 := by kernel_rfl
@[simp] theorem Try.byS96 : byS Try.prog 96 = some 8 := by kernel_rfl
@[simp] theorem Try.zS96 : zS Try.prog 96 = some (.int .i64 0) := by kernel_rfl
@[simp] theorem Try.intK96 : intK Try.prog 96 = some .i64 := by kernel_rfl
@[simp] theorem Try.aggS98 : aggS Try.prog 98 = some false := by kernel_rfl
@[simp] theorem Try.szS98 : szS Try.prog 98 = some 1 := by kernel_rfl
@[simp] theorem Try.byS98 : byS Try.prog 98 = some 8 := by kernel_rfl
@[simp] theorem Try.zS98 : zS Try.prog 98 = some (.nilFunc) := by kernel_rfl
@[simp] theorem Try.aggS99 : aggS Try.prog 99 = some false := by kernel_rfl
@[simp] theorem Try.szS99 : szS Try.prog 99 = some 1 := by kernel_rfl
@[simp] theorem Try.byS99 : byS Try.prog 99 = some 8 := by kernel_rfl
@[simp] theorem Try.zS99 : zS Try.prog 99 = some (.nilFunc) := by kernel_rfl
@[simp] theorem Try.aggS100 : aggS Try.prog 100 = some false := by kernel_rfl
@[simp] theorem Try.szS100 : szS Try.prog 100 = some 1 := by kernel_rfl
@[simp] theorem Try.byS100 : byS Try.prog 100 = some 8 := by kernel_rfl
@[simp] theorem Try.zS100 : zS Try.prog 100 = some (.nilFunc) := by kernel_rfl
@[simp] theorem Try.aggS101 : aggS Try.prog 101 = some false := by kernel_rfl
@[simp] theorem Try.szS101 : szS Try.prog 101 = some 1 := by kernel_rfl
@[simp] theorem Try.byS101 : byS Try.prog 101 = some 8 := by kernel_rfl
@[simp] theorem Try.zS101 : zS Try.prog 101 = some (.nilFunc) := by kernel_rfl
@[simp] theorem Try.aggS102 : aggS Try.prog 102 = some false := by kernel_rfl
@[simp] theorem Try.szS102 : szS Try.prog 102 = some 1 := by kernel_rfl
@[simp] theorem Try.byS102 : byS Try.prog 102 = some 8 := by kernel_rfl
@[simp] theorem Try.zS102 : zS Try.prog 102 = some (.nilFunc) := by kernel_rfl
@[simp] theorem Try.aggS103 : aggS Try.prog 103 = some false := by kernel_rfl
@[simp] theorem Try.szS103 : szS Try.prog 103 = some 1 := by kernel_rfl
@[simp] theorem Try.byS103 : byS Try.prog 103 = some 8 := by kernel_rfl
@[simp] theorem Try.zS103 : zS Try.prog 103 = some (.nilFunc) := by kernel_rfl
@[simp] theorem Try.aggS104 : aggS Try.prog 104 = some false := by kernel_rfl
@[simp] theorem Try.szS104 : szS Try.prog 104 = some 1 := by kernel_rfl
@[simp] theorem Try.byS104 : byS Try.prog 104 = some 4 := by kernel_rfl
@[simp] theorem Try.zS104 : zS Try.prog 104 = some (.int .u32 0) := by kernel_rfl
@[simp] theorem Try.intK104 : intK Try.prog 104 = some .u32 := by kernel_rfl
@[simp] theorem Try.aggS105 : aggS Try.prog 105 = some false := by kernel_rfl
@[simp] theorem Try.szS105 : szS Try.prog 105 = some 1 := by kernel_rfl
@[simp] theorem Try.byS105 : byS Try.prog 105 = some 8 := by kernel_rfl
@[simp] theorem Try.zS105 : zS Try.prog 105 = some (.nilFunc) := by kernel_rfl
@[simp] theorem Try.aggS106 : aggS Try.prog 106 = some false := by kernel_rfl
@[simp] theorem Try.szS106 : szS Try.prog 106 = some 1 := by kernel_rfl
@[simp] theorem Try.byS106 : byS Try.prog 106 = some 8 := by kernel_rfl
@[simp] theorem Try.zS106 : zS Try.prog 106 = some (.int .u64 0) := by kernel_rfl
@[simp] theorem Try.intK106 : intK Try.prog 106 = some .u64 := by kernel_rfl
@[simp] theorem Try.aggS107 : aggS Try.prog 107 = some false := by kernel_rfl
@[simp] theorem Try.szS107 : szS Try.prog 107 = some 1 := by kernel_rfl
@[simp] theorem Try.byS107 : byS Try.prog 107 = some 8 := by kernel_rfl
@[simp] theorem Try.zS107 : zS Try.prog 107 = some (.nilFunc) := by kernel_rfl
@[simp] theorem Try.aggS108 : aggS Try.prog 108 = some false := by kernel_rfl
@[simp] theorem Try.szS108 : szS Try.prog 108 = some 1 := by kernel_rfl
@[simp] theorem Try.byS108 : byS Try.prog 108 = some 8 := by kernel_rfl
@[simp] theorem Try.zS108 : zS Try.prog 108 = some (.nilFunc) := by kernel_rfl
@[simp] theorem Try.aggS109 : aggS Try.prog 109 = some false := by kernel_rfl
@[simp] theorem Try.szS109 : szS Try.prog 109 = some 1 := by kernel_rfl
@[simp] theorem Try.byS109 : byS Try.prog 109 = some 8 := by kernel_rfl
@[simp] theorem Try.zS109 : zS Try.prog 109 = some (.nilFunc) := by kernel_rfl
@[simp] theorem Try.aggS110 : aggS Try.prog 110 = some false := by kernel_rfl
@[simp] theorem Try.szS110 : szS Try.prog 110 = some 1 := by kernel_rfl
@[simp] theorem Try.byS110 : byS Try.prog 110 = some 8 := by kernel_rfl
@[simp] theorem Try.zS110 : zS Try.prog 110 = some (.nilFunc) := by kernel_rfl
@[simp] theorem Try.aggS111 : aggS Try.prog 111 = some false := by kernel_rfl
@[simp] theorem Try.szS111 : szS Try.prog 111 = some 1 := by kernel_rfl
@[simp] theorem Try.byS111 : byS Try.prog 111 = some 8 := by kernel_rfl
@[simp] theorem Try.zS111 : zS Try.prog 111 = some (.nilFunc) := by kernel_rfl
@[simp] theorem Try.aggS112 : aggS Try.prog 112 = some false := by kernel_rfl
@[simp] theorem Try.szS112 : szS Try.prog 112 = some 1 := by kernel_rfl
@[simp] theorem Try.byS112 : byS Try.prog 112 = some 8 := by kernel_rfl
@[simp] theorem Try.zS112 : zS Try.prog 112 = some (.nilFunc) := by kernel_rfl
@[simp] theorem Try.aggS113 : aggS Try.prog 113 = some false := by kernel_rfl
@[simp] theorem Try.szS113 : szS Try.prog 113 = some 1 := by kernel_rfl
@[simp] theorem Try.byS113 : byS Try.prog 113 = some 8 := by kernel_rfl
@[simp] theorem Try.zS113 : zS Try.prog 113 = some (.int .u64 0) := by kernel_rfl
@[simp] theorem Try.intK113 : intK Try.prog 113 = some .u64 := by kernel_rfl
@[simp] theorem Try.aggS114 : aggS Try.prog 114 = some false := by kernel_rfl
@[simp] theorem Try.szS114 : szS Try.prog 114 = some 1 := by kernel_rfl
@[simp] theorem Try.byS114 : byS Try.prog 114 = some 8 := by kernel_rfl
@[simp] theorem Try.zS114 : zS Try.prog 114 = some (.nilFunc) := by kernel_rfl
@[simp] theorem Try.aggS115 : aggS Try.prog 115 = some false := by kernel_rfl
@[simp] theorem Try.szS115 : szS Try.prog 115 = some 1 := by kernel_rfl
@[simp] theorem Try.byS115 : byS Try.prog 115 = some 8 := by kernel_rfl
@[simp] theorem Try.zS115 : zS Try.prog 115 = some (.nilFunc) := by kernel_rfl
@[simp] theorem Try.aggS116 : aggS Try.prog 116 = some false := by kernel_rfl
@[simp] theorem Try.szS116 : szS Try.prog 116 = some 1 := by kernel_rfl
@[simp] theorem Try.byS116 : byS Try.prog 116 = some 8 := by kernel_rfl
@[simp] theorem Try.zS116 : zS Try.prog 116 = some (.nilFunc) := by kernel_rfl
@[simp] theorem Try.aggS117 : aggS Try.prog 117 = some false := by kernel_rfl
@[simp] theorem Try.szS117 : szS Try.prog 117 = some 1 := by kernel_rfl
@[simp] theorem Try.byS117 : byS Try.prog 117 = some 8 := by kernel_rfl
@[simp] theorem Try.zS117 : zS Try.prog 117 = some (.pointer none) := by kernel_rfl
@[simp] theorem Try.nilKind117 : nilKind Try.prog 117 = 2 := by kernel_rfl
@[simp] theorem Try.aggS118 : aggS Try.prog 118 = some false := by kernel_rfl
@[simp] theorem Try.szS118 : szS Try.prog 118 = some 1 := by kernel_rfl
@[simp] theorem Try.byS118 : byS Try.prog 118 = some 8 := by kernel_rfl
@[simp] theorem Try.zS118 : zS Try.prog 118 = some (.nilFunc) := by kernel_rfl
@[simp] theorem Try.aggS119 : aggS Try.prog 119 = some false := by kernel_rfl
@[simp] theorem Try.szS119 : szS Try.prog 119 = some 1 := by kernel_rfl
@[simp] theorem Try.byS119 : byS Try.prog 119 = some 8 := by kernel_rfl
@[simp] theorem Try.zS119 : zS Try.prog 119 = some (.nilFunc) := by kernel_rfl
@[simp] theorem Try.aggS120 : aggS Try.prog 120 = some false := by kernel_rfl
@[simp] theorem Try.szS120 : szS Try.prog 120 = some 1 := by kernel_rfl
@[simp] theorem Try.byS120 : byS Try.prog 120 = some 8 := by kernel_rfl
@[simp] theorem Try.zS120 : zS Try.prog 120 = some (.nilFunc) := by kernel_rfl
@[simp] theorem Try.aggS121 : aggS Try.prog 121 = some false := by kernel_rfl
@[simp] theorem Try.szS121 : szS Try.prog 121 = some 1 := by kernel_rfl
@[simp] theorem Try.byS121 : byS Try.prog 121 = some 8 := by kernel_rfl
@[simp] theorem Try.zS121 : zS Try.prog 121 = some (.nilFunc) := by kernel_rfl
@[simp] theorem Try.aggS122 : aggS Try.prog 122 = some false := by kernel_rfl
@[simp] theorem Try.szS122 : szS Try.prog 122 = some 1 := by kernel_rfl
@[simp] theorem Try.byS122 : byS Try.prog 122 = some 8 := by kernel_rfl
@[simp] theorem Try.zS122 : zS Try.prog 122 = some (.pointer none) := by kernel_rfl
@[simp] theorem Try.nilKind122 : nilKind Try.prog 122 = 2 := by kernel_rfl
@[simp] theorem Try.aggS124 : aggS Try.prog 124 = some false := by kernel_rfl
@[simp] theorem Try.szS124 : szS Try.prog 124 = some 1 := by kernel_rfl
@[simp] theorem Try.byS124 : byS Try.prog 124 = some 8 := by kernel_rfl
@[simp] theorem Try.zS124 : zS Try.prog 124 = some (.nilFunc) := by kernel_rfl
@[simp] theorem Try.aggS125 : aggS Try.prog 125 = some false := by kernel_rfl
@[simp] theorem Try.szS125 : szS Try.prog 125 = some 1 := by kernel_rfl
@[simp] theorem Try.byS125 : byS Try.prog 125 = some 8 := by kernel_rfl
@[simp] theorem Try.zS125 : zS Try.prog 125 = some (.nilFunc) := by kernel_rfl
@[simp] theorem Try.aggS126 : aggS Try.prog 126 = some false := by kernel_rfl
@[simp] theorem Try.szS126 : szS Try.prog 126 = some 1 := by kernel_rfl
@[simp] theorem Try.byS126 : byS Try.prog 126 = some 8 := by kernel_rfl
@[simp] theorem Try.zS126 : zS Try.prog 126 = some (.nilFunc) := by kernel_rfl
@[simp] theorem Try.aggS127 : aggS Try.prog 127 = some false := by kernel_rfl
@[simp] theorem Try.szS127 : szS Try.prog 127 = some 1 := by kernel_rfl
@[simp] theorem Try.byS127 : byS Try.prog 127 = some 8 := by kernel_rfl
@[simp] theorem Try.zS127 : zS Try.prog 127 = some (.nilFunc) := by kernel_rfl
@[simp] theorem Try.aggS128 : aggS Try.prog 128 = some true := by kernel_rfl
@[simp] theorem Try.szS128 : szS Try.prog 128 = some 4 := by kernel_rfl
@[simp] theorem Try.byS128 : byS Try.prog 128 = some 40 := by kernel_rfl
@[simp] theorem Try.zS128 : zS Try.prog 128 = some (.agg #[.pointer none, .pointer none, .pointer none, .string ⟨#[]⟩]) := by kernel_rfl
@[simp] theorem Try.strOk128 : structOk Try.prog 128 = true := by kernel_rfl
@[simp] theorem Try.fldS128_0 : fldS Try.prog 128 0 = some (0, 1, false) := by kernel_rfl
@[simp] theorem Try.fldS128_1 : fldS Try.prog 128 1 = some (1, 1, false) := by kernel_rfl
@[simp] theorem Try.fldS128_2 : fldS Try.prog 128 2 = some (2, 1, false) := by kernel_rfl
@[simp] theorem Try.fldS128_3 : fldS Try.prog 128 3 = some (3, 1, false) := by kernel_rfl
@[simp] theorem Try.aggS129 : aggS Try.prog 129 = some true := by kernel_rfl
@[simp] theorem Try.szS129 : szS Try.prog 129 = some 4 := by kernel_rfl
@[simp] theorem Try.byS129 : byS Try.prog 129 = some 40 := by kernel_rfl
@[simp] theorem Try.zS129 : zS Try.prog 129 = some (.agg #[.pointer none, .pointer none, .pointer none, .string ⟨#[]⟩]) := by kernel_rfl
@[simp] theorem Try.strOk129 : structOk Try.prog 129 = true := by kernel_rfl
@[simp] theorem Try.fldS129_0 : fldS Try.prog 129 0 = some (0, 1, false) := by kernel_rfl
@[simp] theorem Try.fldS129_1 : fldS Try.prog 129 1 = some (1, 1, false) := by kernel_rfl
@[simp] theorem Try.fldS129_2 : fldS Try.prog 129 2 = some (2, 1, false) := by kernel_rfl
@[simp] theorem Try.fldS129_3 : fldS Try.prog 129 3 = some (3, 1, false) := by kernel_rfl
@[simp] theorem Try.aggS130 : aggS Try.prog 130 = some true := by kernel_rfl
@[simp] theorem Try.szS130 : szS Try.prog 130 = some 0 := by kernel_rfl
@[simp] theorem Try.byS130 : byS Try.prog 130 = some 0 := by kernel_rfl
@[simp] theorem Try.zS130 : zS Try.prog 130 = some (.agg #[]) := by kernel_rfl
@[simp] theorem Try.arrS130 : arrS Try.prog 130 = some (0, 1) := by kernel_rfl
@[simp] theorem Try.aggS131 : aggS Try.prog 131 = some true := by kernel_rfl
@[simp] theorem Try.szS131 : szS Try.prog 131 = some 0 := by kernel_rfl
@[simp] theorem Try.byS131 : byS Try.prog 131 = some 0 := by kernel_rfl
@[simp] theorem Try.zS131 : zS Try.prog 131 = some (.agg #[]) := by kernel_rfl
@[simp] theorem Try.strOk131 : structOk Try.prog 131 = true := by kernel_rfl
@[simp] theorem Try.fldS131_0 : fldS Try.prog 131 0 = some (0, 0, true) := by kernel_rfl
@[simp] theorem Try.aggS132 : aggS Try.prog 132 = some true := by kernel_rfl
@[simp] theorem Try.szS132 : szS Try.prog 132 = some 0 := by kernel_rfl
@[simp] theorem Try.byS132 : byS Try.prog 132 = some 0 := by kernel_rfl
@[simp] theorem Try.zS132 : zS Try.prog 132 = some (.agg #[]) := by kernel_rfl
@[simp] theorem Try.strOk132 : structOk Try.prog 132 = true := by kernel_rfl
@[simp] theorem Try.fldS132_0 : fldS Try.prog 132 0 = some (0, 0, true) := by kernel_rfl
@[simp] theorem Try.aggS133 : aggS Try.prog 133 = some false := by kernel_rfl
@[simp] theorem Try.szS133 : szS Try.prog 133 = some 1 := by kernel_rfl
@[simp] theorem Try.byS133 : byS Try.prog 133 = some 1 := by kernel_rfl
@[simp] theorem Try.zS133 : zS Try.prog 133 = some (.int .u8 0) := by kernel_rfl
@[simp] theorem Try.intK133 : intK Try.prog 133 = some .u8 := by kernel_rfl
@[simp] theorem Try.aggS134 : aggS Try.prog 134 = some false := by kernel_rfl
@[simp] theorem Try.szS134 : szS Try.prog 134 = some 1 := by kernel_rfl
@[simp] theorem Try.byS134 : byS Try.prog 134 = some 1 := by kernel_rfl
@[simp] theorem Try.zS134 : zS Try.prog 134 = some (.int .u8 0) := by kernel_rfl
@[simp] theorem Try.intK134 : intK Try.prog 134 = some .u8 := by kernel_rfl
@[simp] theorem Try.aggS135 : aggS Try.prog 135 = some false := by kernel_rfl
@[simp] theorem Try.szS135 : szS Try.prog 135 = some 1 := by kernel_rfl
@[simp] theorem Try.byS135 : byS Try.prog 135 = some 8 := by kernel_rfl
@[simp] theorem Try.zS135 : zS Try.prog 135 = some (.nilFunc) := by kernel_rfl
@[simp] theorem Try.aggS136 : aggS Try.prog 136 = some false := by kernel_rfl
@[simp] theorem Try.szS136 : szS Try.prog 136 = some 1 := by kernel_rfl
@[simp] theorem Try.byS136 : byS Try.prog 136 = some 8 := by kernel_rfl
@[simp] theorem Try.zS136 : zS Try.prog 136 = some (.pointer none) := by kernel_rfl
@[simp] theorem Try.nilKind136 : nilKind Try.prog 136 = 2 := by kernel_rfl
@[simp] theorem Try.aggS137 : aggS Try.prog 137 = some false := by kernel_rfl
@[simp] theorem Try.szS137 : szS Try.prog 137 = some 1 := by kernel_rfl
@[simp] theorem Try.byS137 : byS Try.prog 137 = some 4 := by kernel_rfl
@[simp] theorem Try.zS137 : zS Try.prog 137 = some (.int .i32 0) := by kernel_rfl
@[simp] theorem Try.intK137 : intK Try.prog 137 = some .i32 := by kernel_rfl
@[simp] theorem Try.aggS138 : aggS Try.prog 138 = some false := by kernel_rfl
@[simp] theorem Try.szS138 : szS Try.prog 138 = some 1 := by kernel_rfl
@[simp] theorem Try.byS138 : byS Try.prog 138 = some 4 := by kernel_rfl
@[simp] theorem Try.zS138 : zS Try.prog 138 = some (.int .i32 0) := by kernel_rfl
@[simp] theorem Try.intK138 : intK Try.prog 138 = some .i32 := by kernel_rfl
@[simp] theorem Try.aggS139 : aggS Try.prog 139 = some true := by kernel_rfl
@[simp] theorem Try.szS139 : szS Try.prog 139 = some 11 := by kernel_rfl
@[simp] theorem Try.byS139 : byS Try.prog 139 = some 48 := by kernel_rfl
@[simp] theorem Try.zS139 : zS Try.prog 139 = some (.agg #[.int .u64 0, .int .u64 0, .int .u32 0, .int .u8 0, .int .u8 0, .int .u8 0, .int .u8 0, .nilFunc, .pointer none, .int .i32 0, .int .i32 0]) := by kernel_rfl
@[simp] theorem Try.strOk139 : structOk Try.prog 139 = true := by kernel_rfl
@[simp] theorem Try.fldS139_0 : fldS Try.prog 139 0 = some (0, 1, false) := by kernel_rfl
@[simp] theorem Try.fldS139_1 : fldS Try.prog 139 1 = some (1, 1, false) := by kernel_rfl
@[simp] theorem Try.fldS139_2 : fldS Try.prog 139 2 = some (2, 1, false) := by kernel_rfl
@[simp] theorem Try.fldS139_3 : fldS Try.prog 139 3 = some (3, 1, false) := by kernel_rfl
@[simp] theorem Try.fldS139_4 : fldS Try.prog 139 4 = some (4, 1, false) := by kernel_rfl
@[simp] theorem Try.fldS139_5 : fldS Try.prog 139 5 = some (5, 1, false) := by kernel_rfl
@[simp] theorem Try.fldS139_6 : fldS Try.prog 139 6 = some (6, 1, false) := by kernel_rfl
@[simp] theorem Try.fldS139_7 : fldS Try.prog 139 7 = some (7, 1, false) := by kernel_rfl
@[simp] theorem Try.fldS139_8 : fldS Try.prog 139 8 = some (8, 1, false) := by kernel_rfl
@[simp] theorem Try.fldS139_9 : fldS Try.prog 139 9 = some (9, 1, false) := by kernel_rfl
@[simp] theorem Try.fldS139_10 : fldS Try.prog 139 10 = some (10, 1, false) := by kernel_rfl
@[simp] theorem Try.aggS140 : aggS Try.prog 140 = some true := by kernel_rfl
@[simp] theorem Try.szS140 : szS Try.prog 140 = some 11 := by kernel_rfl
@[simp] theorem Try.byS140 : byS Try.prog 140 = some 48 := by kernel_rfl
@[simp] theorem Try.zS140 : zS Try.prog 140 = some (.agg #[.int .u64 0, .int .u64 0, .int .u32 0, .int .u8 0, .int .u8 0, .int .u8 0, .int .u8 0, .nilFunc, .pointer none, .int .i32 0, .int .i32 0]) := by kernel_rfl
@[simp] theorem Try.strOk140 : structOk Try.prog 140 = true := by kernel_rfl
@[simp] theorem Try.fldS140_0 : fldS Try.prog 140 0 = some (0, 1, false) := by kernel_rfl
@[simp] theorem Try.fldS140_1 : fldS Try.prog 140 1 = some (1, 1, false) := by kernel_rfl
@[simp] theorem Try.fldS140_2 : fldS Try.prog 140 2 = some (2, 1, false) := by kernel_rfl
@[simp] theorem Try.fldS140_3 : fldS Try.prog 140 3 = some (3, 1, false) := by kernel_rfl
@[simp] theorem Try.fldS140_4 : fldS Try.prog 140 4 = some (4, 1, false) := by kernel_rfl
@[simp] theorem Try.fldS140_5 : fldS Try.prog 140 5 = some (5, 1, false) := by kernel_rfl
@[simp] theorem Try.fldS140_6 : fldS Try.prog 140 6 = some (6, 1, false) := by kernel_rfl
@[simp] theorem Try.fldS140_7 : fldS Try.prog 140 7 = some (7, 1, false) := by kernel_rfl
@[simp] theorem Try.fldS140_8 : fldS Try.prog 140 8 = some (8, 1, false) := by kernel_rfl
@[simp] theorem Try.fldS140_9 : fldS Try.prog 140 9 = some (9, 1, false) := by kernel_rfl
@[simp] theorem Try.fldS140_10 : fldS Try.prog 140 10 = some (10, 1, false) := by kernel_rfl
@[simp] theorem Try.aggS141 : aggS Try.prog 141 = some false := by kernel_rfl
@[simp] theorem Try.szS141 : szS Try.prog 141 = some 1 := by kernel_rfl
@[simp] theorem Try.byS141 : byS Try.prog 141 = some 8 := by kernel_rfl
@[simp] theorem Try.zS141 : zS Try.prog 141 = some (.pointer none) := by kernel_rfl
@[simp] theorem Try.ok2 : FnOk Try.prog 2 := ⟨Try.f2, Try.func2, by kernel_rfl, by kernel_rfl⟩
@[simp] theorem Try.ok3 : FnOk Try.prog 3 := ⟨Try.f3, Try.func3, by kernel_rfl, by kernel_rfl⟩
@[simp] theorem Try.ok4 : FnOk Try.prog 4 := ⟨Try.f4, Try.func4, by kernel_rfl, by kernel_rfl⟩
@[simp] theorem Try.ok5 : FnOk Try.prog 5 := ⟨Try.f5, Try.func5, by kernel_rfl, by kernel_rfl⟩
@[simp] theorem Try.ok6 : FnOk Try.prog 6 := ⟨Try.f6, Try.func6, by kernel_rfl, by kernel_rfl⟩
@[simp] theorem Try.ok7 : FnOk Try.prog 7 := ⟨Try.f7, Try.func7, by kernel_rfl, by kernel_rfl⟩
@[simp] theorem Try.ok8 : FnOk Try.prog 8 := ⟨Try.f8, Try.func8, by kernel_rfl, by kernel_rfl⟩
@[simp] theorem Try.ok9 : FnOk Try.prog 9 := ⟨Try.f9, Try.func9, by kernel_rfl, by kernel_rfl⟩
@[simp] theorem Try.ok10 : FnOk Try.prog 10 := ⟨Try.f10, Try.func10, by kernel_rfl, by kernel_rfl⟩
@[simp] theorem Try.ok11 : FnOk Try.prog 11 := ⟨Try.f11, Try.func11, by kernel_rfl, by kernel_rfl⟩
@[simp] theorem Try.ok12 : FnOk Try.prog 12 := ⟨Try.f12, Try.func12, by kernel_rfl, by kernel_rfl⟩
@[simp] theorem Try.ok13 : FnOk Try.prog 13 := ⟨Try.f13, Try.func13, by kernel_rfl, by kernel_rfl⟩
@[simp] theorem Try.ok14 : FnOk Try.prog 14 := ⟨Try.f14, Try.func14, by kernel_rfl, by kernel_rfl⟩
@[simp] theorem Try.ok15 : FnOk Try.prog 15 := ⟨Try.f15, Try.func15, by kernel_rfl, by kernel_rfl⟩
@[simp] theorem Try.ok16 : FnOk Try.prog 16 := ⟨Try.f16, Try.func16, by kernel_rfl, by kernel_rfl⟩
@[simp] theorem Try.ok17 : FnOk Try.prog 17 := ⟨Try.f17, Try.func17, by kernel_rfl, by kernel_rfl⟩
@[simp] theorem Try.ok18 : FnOk Try.prog 18 := ⟨Try.f18, Try.func18, by kernel_rfl, by kernel_rfl⟩
@[simp] theorem Try.ok19 : FnOk Try.prog 19 := ⟨Try.f19, Try.func19, by kernel_rfl, by kernel_rfl⟩
@[simp] theorem Try.ok20 : FnOk Try.prog 20 := ⟨Try.f20, Try.func20, by kernel_rfl, by kernel_rfl⟩
@[simp] theorem Try.ok21 : FnOk Try.prog 21 := ⟨Try.f21, Try.func21, by kernel_rfl, by kernel_rfl⟩
@[simp] theorem Try.ok22 : FnOk Try.prog 22 := ⟨Try.f22, Try.func22, by kernel_rfl, by kernel_rfl⟩
@[simp] theorem Try.ok23 : FnOk Try.prog 23 := ⟨Try.f23, Try.func23, by kernel_rfl, by kernel_rfl⟩
@[simp] theorem Try.ok24 : FnOk Try.prog 24 := ⟨Try.f24, Try.func24, by kernel_rfl, by kernel_rfl⟩
@[simp] theorem Try.ok25 : FnOk Try.prog 25 := ⟨Try.f25, Try.func25, by kernel_rfl, by kernel_rfl⟩
@[simp] theorem Try.ok26 : FnOk Try.prog 26 := ⟨Try.f26, Try.func26, by kernel_rfl, by kernel_rfl⟩
@[simp] theorem Try.ok27 : FnOk Try.prog 27 := ⟨Try.f27, Try.func27, by kernel_rfl, by kernel_rfl⟩
@[simp] theorem Try.ok28 : FnOk Try.prog 28 := ⟨Try.f28, Try.func28, by kernel_rfl, by kernel_rfl⟩
@[simp] theorem Try.ok29 : FnOk Try.prog 29 := ⟨Try.f29, Try.func29, by kernel_rfl, by kernel_rfl⟩
@[simp] theorem Try.ok30 : FnOk Try.prog 30 := ⟨Try.f30, Try.func30, by kernel_rfl, by kernel_rfl⟩
@[simp] theorem Try.ok31 : FnOk Try.prog 31 := ⟨Try.f31, Try.func31, by kernel_rfl, by kernel_rfl⟩
@[simp] theorem Try.ok32 : FnOk Try.prog 32 := ⟨Try.f32, Try.func32, by kernel_rfl, by kernel_rfl⟩
@[simp] theorem Try.ok33 : FnOk Try.prog 33 := ⟨Try.f33, Try.func33, by kernel_rfl, by kernel_rfl⟩
@[simp] theorem Try.ok34 : FnOk Try.prog 34 := ⟨Try.f34, Try.func34, by kernel_rfl, by kernel_rfl⟩
@[simp] theorem Try.ok35 : FnOk Try.prog 35 := ⟨Try.f35, Try.func35, by kernel_rfl, by kernel_rfl⟩
@[simp] theorem Try.ok36 : FnOk Try.prog 36 := ⟨Try.f36, Try.func36, by kernel_rfl, by kernel_rfl⟩
@[simp] theorem Try.ok37 : FnOk Try.prog 37 := ⟨Try.f37, Try.func37, by kernel_rfl, by kernel_rfl⟩
@[simp] theorem Try.ok38 : FnOk Try.prog 38 := ⟨Try.f38, Try.func38, by kernel_rfl, by kernel_rfl⟩
@[simp] theorem Try.ok39 : FnOk Try.prog 39 := ⟨Try.f39, Try.func39, by kernel_rfl, by kernel_rfl⟩
@[simp] theorem Try.ok40 : FnOk Try.prog 40 := ⟨Try.f40, Try.func40, by kernel_rfl, by kernel_rfl⟩
@[simp] theorem Try.ok41 : FnOk Try.prog 41 := ⟨Try.f41, Try.func41, by kernel_rfl, by kernel_rfl⟩
@[simp] theorem Try.ok42 : FnOk Try.prog 42 := ⟨Try.f42, Try.func42, by kernel_rfl, by kernel_rfl⟩
@[simp] theorem Try.ok43 : FnOk Try.prog 43 := ⟨Try.f43, Try.func43, by kernel_rfl, by kernel_rfl⟩
@[simp] theorem Try.ok44 : FnOk Try.prog 44 := ⟨Try.f44, Try.func44, by kernel_rfl, by kernel_rfl⟩
@[simp] theorem Try.ok45 : FnOk Try.prog 45 := ⟨Try.f45, Try.func45, by kernel_rfl, by kernel_rfl⟩
@[simp] theorem Try.ok46 : FnOk Try.prog 46 := ⟨Try.f46, Try.func46, by kernel_rfl, by kernel_rfl⟩
@[simp] theorem Try.ok47 : FnOk Try.prog 47 := ⟨Try.f47, Try.func47, by kernel_rfl, by kernel_rfl⟩
@[simp] theorem Try.ok48 : FnOk Try.prog 48 := ⟨Try.f48, Try.func48, by kernel_rfl, by kernel_rfl⟩
@[simp] theorem Try.ok49 : FnOk Try.prog 49 := ⟨Try.f49, Try.func49, by kernel_rfl, by kernel_rfl⟩
@[simp] theorem Try.ok50 : FnOk Try.prog 50 := ⟨Try.f50, Try.func50, by kernel_rfl, by kernel_rfl⟩
@[simp] theorem Try.ok51 : FnOk Try.prog 51 := ⟨Try.f51, Try.func51, by kernel_rfl, by kernel_rfl⟩
@[simp] theorem Try.ok52 : FnOk Try.prog 52 := ⟨Try.f52, Try.func52, by kernel_rfl, by kernel_rfl⟩
@[simp] theorem Try.ok53 : FnOk Try.prog 53 := ⟨Try.f53, Try.func53, by kernel_rfl, by kernel_rfl⟩
@[simp] theorem Try.ok54 : FnOk Try.prog 54 := ⟨Try.f54, Try.func54, by kernel_rfl, by kernel_rfl⟩
@[simp] theorem Try.ok55 : FnOk Try.prog 55 := ⟨Try.f55, Try.func55, by kernel_rfl, by kernel_rfl⟩
@[simp] theorem Try.ok56 : FnOk Try.prog 56 := ⟨Try.f56, Try.func56, by kernel_rfl, by kernel_rfl⟩
@[simp] theorem Try.ok57 : FnOk Try.prog 57 := ⟨Try.f57, Try.func57, by kernel_rfl, by kernel_rfl⟩
@[simp] theorem Try.ok58 : FnOk Try.prog 58 := ⟨Try.f58, Try.func58, by kernel_rfl, by kernel_rfl⟩
@[simp] theorem Try.ok59 : FnOk Try.prog 59 := ⟨Try.f59, Try.func59, by kernel_rfl, by kernel_rfl⟩
@[simp] theorem Try.ok60 : FnOk Try.prog 60 := ⟨Try.f60, Try.func60, by kernel_rfl, by kernel_rfl⟩
@[simp] theorem Try.ok61 : FnOk Try.prog 61 := ⟨Try.f61, Try.func61, by kernel_rfl, by kernel_rfl⟩
@[simp] theorem Try.ok62 : FnOk Try.prog 62 := ⟨Try.f62, Try.func62, by kernel_rfl, by kernel_rfl⟩
@[simp] theorem Try.ok63 : FnOk Try.prog 63 := ⟨Try.f63, Try.func63, by kernel_rfl, by kernel_rfl⟩
@[simp] theorem Try.ok64 : FnOk Try.prog 64 := ⟨Try.f64, Try.func64, by kernel_rfl, by kernel_rfl⟩
@[simp] theorem Try.ok65 : FnOk Try.prog 65 := ⟨Try.f65, Try.func65, by kernel_rfl, by kernel_rfl⟩
@[simp] theorem Try.ok66 : FnOk Try.prog 66 := ⟨Try.f66, Try.func66, by kernel_rfl, by kernel_rfl⟩
@[simp] theorem Try.ok67 : FnOk Try.prog 67 := ⟨Try.f67, Try.func67, by kernel_rfl, by kernel_rfl⟩
@[simp] theorem Try.ok68 : FnOk Try.prog 68 := ⟨Try.f68, Try.func68, by kernel_rfl, by kernel_rfl⟩
@[simp] theorem Try.ok69 : FnOk Try.prog 69 := ⟨Try.f69, Try.func69, by kernel_rfl, by kernel_rfl⟩
@[simp] theorem Try.ok70 : FnOk Try.prog 70 := ⟨Try.f70, Try.func70, by kernel_rfl, by kernel_rfl⟩
@[simp] theorem Try.ok71 : FnOk Try.prog 71 := ⟨Try.f71, Try.func71, by kernel_rfl, by kernel_rfl⟩
@[simp] theorem Try.ok72 : FnOk Try.prog 72 := ⟨Try.f72, Try.func72, by kernel_rfl, by kernel_rfl⟩
@[simp] theorem Try.ok73 : FnOk Try.prog 73 := ⟨Try.f73, Try.func73, by kernel_rfl, by kernel_rfl⟩
@[simp] theorem Try.ok74 : FnOk Try.prog 74 := ⟨Try.f74, Try.func74, by kernel_rfl, by kernel_rfl⟩
@[simp] theorem Try.ok75 : FnOk Try.prog 75 := ⟨Try.f75, Try.func75, by kernel_rfl, by kernel_rfl⟩
@[simp] theorem Try.ok76 : FnOk Try.prog 76 := ⟨Try.f76, Try.func76, by kernel_rfl, by kernel_rfl⟩
@[simp] theorem Try.ok77 : FnOk Try.prog 77 := ⟨Try.f77, Try.func77, by kernel_rfl, by kernel_rfl⟩
@[simp] theorem Try.ok78 : FnOk Try.prog 78 := ⟨Try.f78, Try.func78, by kernel_rfl, by kernel_rfl⟩
@[simp] theorem Try.ok79 : FnOk Try.prog 79 := ⟨Try.f79, Try.func79, by kernel_rfl, by kernel_rfl⟩
@[simp] theorem Try.ok80 : FnOk Try.prog 80 := ⟨Try.f80, Try.func80, by kernel_rfl, by kernel_rfl⟩
@[simp] theorem Try.ok82 : FnOk Try.prog 82 := ⟨Try.f82, Try.func82, by kernel_rfl, by kernel_rfl⟩
@[simp] theorem Try.ok83 : FnOk Try.prog 83 := ⟨Try.f83, Try.func83, by kernel_rfl, by kernel_rfl⟩
@[simp] theorem Try.ok84 : FnOk Try.prog 84 := ⟨Try.f84, Try.func84, by kernel_rfl, by kernel_rfl⟩
@[simp] theorem Try.ok85 : FnOk Try.prog 85 := ⟨Try.f85, Try.func85, by kernel_rfl, by kernel_rfl⟩
@[simp] theorem Try.ok86 : FnOk Try.prog 86 := ⟨Try.f86, Try.func86, by kernel_rfl, by kernel_rfl⟩
@[simp] theorem Try.ok87 : FnOk Try.prog 87 := ⟨Try.f87, Try.func87, by kernel_rfl, by kernel_rfl⟩
@[simp] theorem Try.ok88 : FnOk Try.prog 88 := ⟨Try.f88, Try.func88, by kernel_rfl, by kernel_rfl⟩
@[simp] theorem Try.ok89 : FnOk Try.prog 89 := ⟨Try.f89, Try.func89, by kernel_rfl, by kernel_rfl⟩
@[simp] theorem Try.ok90 : FnOk Try.prog 90 := ⟨Try.f90, Try.func90, by kernel_rfl, by kernel_rfl⟩
@[simp] theorem Try.ok91 : FnOk Try.prog 91 := ⟨Try.f91, Try.func91, by kernel_rfl, by kernel_rfl⟩
@[simp] theorem Try.ok92 : FnOk Try.prog 92 := ⟨Try.f92, Try.func92, by kernel_rfl, by kernel_rfl⟩
@[simp] theorem Try.ok93 : FnOk Try.prog 93 := ⟨Try.f93, Try.func93, by kernel_rfl, by kernel_rfl⟩
@[simp] theorem Try.ok94 : FnOk Try.prog 94 := ⟨Try.f94, Try.func94, by kernel_rfl, by kernel_rfl⟩
@[simp] theorem Try.ok95 : FnOk Try.prog 95 := ⟨Try.f95, Try.func95, by kernel_rfl, by kernel_rfl⟩
@[simp] theorem Try.ok96 : FnOk Try.prog 96 := ⟨Try.f96, Try.func96, by kernel_rfl, by kernel_rfl⟩
@[simp] theorem Try.ok97 : FnOk Try.prog 97 := ⟨Try.f97, Try.func97, by kernel_rfl, by kernel_rfl⟩
@[simp] theorem Try.ok98 : FnOk Try.prog 98 := ⟨Try.f98, Try.func98, by kernel_rfl, by kernel_rfl⟩
@[simp] theorem Try.ok99 : FnOk Try.prog 99 := ⟨Try.f99, Try.func99, by kernel_rfl, by kernel_rfl⟩
@[simp] theorem Try.ok100 : FnOk Try.prog 100 := ⟨Try.f100, Try.func100, by kernel_rfl, by kernel_rfl⟩
@[simp] theorem Try.ok101 : FnOk Try.prog 101 := ⟨Try.f101, Try.func101, by kernel_rfl, by kernel_rfl⟩
@[simp] theorem Try.ok102 : FnOk Try.prog 102 := ⟨Try.f102, Try.func102, by kernel_rfl, by kernel_rfl⟩
@[simp] theorem Try.ok103 : FnOk Try.prog 103 := ⟨Try.f103, Try.func103, by kernel_rfl, by kernel_rfl⟩
end Go.Proofs

/-
  Cells and tables of the program in memory; the contracts of small functions on them.
-/
namespace Go.HC
theorem Grow.ints {e : TypeId} {F : Nat → Prop} {h : Heap} {v : Value} {xs : List Int} {own : Option Nat} (hg : Grow rInt e F h v xs own) : SlRep rInt (fun b => own = some b) h v xs := by
  obtain ⟨a, c, rfl⟩ := hg.val
  obtain ⟨cs, _, h1, h2, h3, h4⟩ := hg.cells
  exact ⟨a, c, cs, rfl, h1, h2, h3, ints_map.2 (ints_map.1 h4)⟩
def rCell : Rp CellM where
  sz := 5
  pos := by decide
  rep F h cs c := ∃ kv sv nv xv, cs = [kv, .int .i64 c.count, sv, nv, xv] ∧ SlRep rInt F h kv c.key ∧ SlRep rInt F h sv c.sum ∧ SlRep rInt F h nv c.mn ∧ SlRep rInt F h xv c.mx
  len := by rintro F h cs c ⟨kv, sv, nv, xv, rfl, _⟩; rfl
  one := by
    rintro F h cs c ⟨kv, sv, nv, xv, rfl, h1, h2, h3, h4⟩
    obtain ⟨_, _, rfl, _⟩ := h1.val
    obtain ⟨_, _, rfl, _⟩ := h2.val
    obtain ⟨_, _, rfl, _⟩ := h3.val
    obtain ⟨_, _, rfl, _⟩ := h4.val
    rfl
  mono := by
    rintro F F' h h' cs c ⟨kv, sv, nv, xv, rfl, h1, h2, h3, h4⟩ hm
    exact ⟨kv, sv, nv, xv, rfl, h1.mono hm, h2.mono hm, h3.mono hm, h4.mono hm⟩
def rSlot : Rp (Option CellM) where
  sz := 6
  pos := by decide
  rep F h cs s := match s with
    | none => cs = [.slice none 0 0, .int .i64 0, .slice none 0 0, .slice none 0 0, .slice none 0 0, .bool false]
    | some c => ∃ ds, rCell.rep F h ds c ∧ cs = ds ++ [.bool true]
  len := by
    rintro F h cs (_ | c) hr
    · rw [show cs = _ from hr]; rfl
    · obtain ⟨ds, h1, rfl⟩ := hr
      rw [List.length_append, rCell.len h1]; rfl
  one := by
    rintro F h cs (_ | c) hr
    · rw [show cs = _ from hr]; rfl
    · obtain ⟨ds, h1, rfl⟩ := hr
      rw [List.all_append, rCell.one h1]; rfl
  mono := by
    rintro F F' h h' cs (_ | c) hr hm
    · exact hr
    · obtain ⟨ds, h1, rfl⟩ := hr
      exact ⟨ds, rCell.mono h1 hm, rfl⟩
theorem hashM_take {key : List Int} {k : Nat} (hk : k < key.length) : hashM (key.take (k + 1)) = (31 * hashM (key.take k) + key[k].tmod 1000003 + 1).tmod 1000003 := by
  unfold hashM
  rw [List.take_add_one, List.getElem?_eq_getElem hk, List.foldl_append]
  rfl
theorem hashM_bound (key : List Int) : -1000003 < hashM key ∧ hashM key < 1000003 := by
  unfold hashM
  generalize h0 : (7 : Int) = z
  have hz : -1000003 < z ∧ z < 1000003 := by omega
  clear h0
  induction key generalizing z with
  | nil => exact hz
  | cons v key ih => exact ih _ (tmod_bound (by decide))
theorem probe_next (key : List Int) (n i : Nat) : (probe key n i + 1) % n = probe key n (i + 1) := by
  unfold probe
  rw [Nat.mod_add_mod]; rfl
theorem find_hit {T : Tab} {key : List Int} {i : Nat} (hi : i < T.length) (hb : ∀ j, j < i → hitM T key (probe key T.length j) = false) (hh : hitM T key (probe key T.length i) = true) : findM T key = some (probe key T.length i) := by
  unfold findM
  rw [Option.map_eq_some_iff]
  refine ⟨i, ?_, rfl⟩
  rw [List.find?_range_eq_some]
  exact ⟨hh, List.mem_range.2 hi, fun j hj => by simpa using hb j hj⟩
theorem find_miss {T : Tab} {key : List Int} (hb : ∀ j, j < T.length → hitM T key (probe key T.length j) = false) : findM T key = none := by
  unfold findM
  rw [Option.map_eq_none_iff, List.find?_eq_none]
  intro j hj
  rw [hb j (List.mem_range.1 hj)]; simp
end Go.HC
namespace Go.Proofs
open Go Go.HC

theorem intT : ElemT Try.prog 22 3 rInt 8 := ⟨Try.elS22, Try.szS3, Try.byS3, _, Try.zS3, rfl⟩
theorem cellT : ElemT Try.prog 29 39 rCell 104 := ⟨Try.elS29, Try.szS39, Try.byS39, _, Try.zS39, rfl⟩
set_option maxRecDepth 10000 in
theorem cloneInt_spec {F : Nat → Prop} {h : Heap} {v : Value} {xs : List Int} (hv : SlRep rInt F h v xs) (hF : ∀ b, F b → b < h.size) (hn : xs.length < 1099511627776) :
    CallH Try.prog 48 #[v] h fun r h' => ∃ own, Grow rInt 3 none_ h' r xs own ∧ Keep none_ h h' ∧ ∀ b, own = some b → h.size ≤ b := by
  refine enter [.tmp 2] Try.func48 rfl rfl (by kernel_rfl) rfl ?_
  obtain ⟨a, c, cs, rfl, h1, h2, h3, h4⟩ := hv
  cases a with
  | none =>
    simp -dsimp
    have : xs = [] := by
      rcases h3 with h0 | ⟨_, _, _, _, _, hx, _⟩
      · have hl := h4.len
        rw [h0] at hl
        rcases Nat.mul_eq_zero.1 hl.symm with h | h
        · exact List.eq_nil_of_length_eq_zero h
        · exact absurd h (Nat.ne_of_gt rInt.pos)
      · cases hx
    subst this
    exact ⟨none, .nil _ _ _ _, .refl _ _, fun b hb => by cases hb⟩
  | some a =>
    simp -dsimp
    refine clone_cells (F := none_) (F2 := F) intT (fun _ h => h.elim) hF rfl h3 (ints_map.2 (ints_map.1 h4)) (by omega) (by omega) ?_
    intro v' h' own' hg hk ho hz
    obtain ⟨a', c', rfl⟩ := hg.val
    simp -dsimp
    exact ⟨own', hg, hk, ho⟩

set_option maxRecDepth 10000 in
theorem equal_spec {F G : Nat → Prop} {h : Heap} {av bv : Value} {xs ys : List Int} (ha : SlRep rInt F h av xs) (hb : SlRep rInt G h bv ys) :
    CallH Try.prog 47 #[av, bv] h fun r h' => r = .bool (decide (xs = ys)) ∧ h' = h := by
  refine callH_by fun K hK => ?_
  refine enter [.tmp 4] Try.func47 rfl rfl (by kernel_rfl) rfl ?_
  obtain ⟨a0, c0, rfl, hc0, hc0'⟩ := ha.val
  obtain ⟨a1, c1, rfl, hc1, hc1'⟩ := hb.val
  by_cases hl : xs.length = ys.length
  · have hl' : ((xs.length : Int) == (ys.length : Int)) = true := by simp; omega
    have hl2 : ((xs.length : Int) != (ys.length : Int)) = false := by simp [bne]; omega
    simp -dsimp [hl2]
    refine loop' (σ := Nat) (fun k => [(0, .slice a0 xs.length c0), (1, .slice a1 ys.length c1), (12, .int .i64 xs.length), (13, .int .i64 k)]) (fun _ => []) (fun k h' => h' = h ∧ k ≤ xs.length ∧ xs.take k = ys.take k) (fun k => xs.length - k) 0 ?_ rfl ⟨rfl, Nat.zero_le _, rfl⟩ (by kernel_rfl) ?_
    · intro p hp
      simp at hp
      rcases hp with rfl | rfl | rfl | rfl <;> simp
    · rintro k h' g ⟨rfl, hk, hpre⟩
      by_cases hkl : k < xs.length
      · obtain ⟨b1, o1, v1, rfl, _, hr1, hc1⟩ := ha.get1 rfl k hkl
        obtain ⟨b2, o2, v2, rfl, _, hr2, hc2⟩ := hb.get1 rfl k (by omega)
        have hv1 : v1 = .int .i64 xs[k] := by simpa [rInt] using hr1
        have hv2 : v2 = .int .i64 ys[k] := by simpa [rInt] using hr2
        subst hv1; subst hv2
        have hid1 : ∀ sz ar kk, idxV sz ar (.slice (some ⟨b1, o1, none⟩) xs.length c0) (.int kk (k : Int)) = sz.map fun s => .pointer (some ⟨b1, o1 + k * s, none⟩) := by
          intro sz ar kk
          rw [idxV_slice (by omega) (by omega) rfl]
          simp
        have hid2 : ∀ sz ar kk, idxV sz ar (.slice (some ⟨b2, o2, none⟩) ys.length c1) (.int kk (k : Int)) = sz.map fun s => .pointer (some ⟨b2, o2 + k * s, none⟩) := by
          intro sz ar kk
          rw [idxV_slice (by omega) (by omega) rfl]
          simp
        have wk : IntKind.i64.wrap ((k : Int) + 1) = ((k + 1 : Nat) : Int) := by rw [wrap_i64 (by omega) (by omega)]; rfl
        simp -dsimp [hkl]
        refine drawn_by [⟨0, true, []⟩, ⟨1, true, []⟩, ⟨2, true, []⟩, ⟨3, true, []⟩, ⟨4, true, []⟩, ⟨5, true, []⟩, ⟨6, true, []⟩, ⟨7, true, []⟩, ⟨8, true, []⟩] (by kernel_rfl) (by kernel_rfl) ?_
        by_cases he : xs[k] = ys[k]
        · have he2 : (ys[k] != ys[k]) = false := by simp
          simp -dsimp [hid1, hid2, hc1, hc2, elSz, he, wk]
          refine ⟨k + 1, ?_, rfl, ⟨rfl, by omega, ?_⟩, by show xs.length - (k + 1) < xs.length - k; omega⟩
          · intro p hp
            simp at hp
            rcases hp with rfl | rfl | rfl | rfl <;> simp
          · rw [List.take_add_one, List.take_add_one, hpre, List.getElem?_eq_getElem hkl, List.getElem?_eq_getElem (show k < ys.length by omega), he]
        · have he2 : (xs[k] != ys[k]) = true := by simpa [bne] using he
          have hne : decide (xs = ys) = false := decide_eq_false fun e => he (by subst e; rfl)
          simp -dsimp [hid1, hid2, hc1, hc2, elSz, he2]
          exact hK _ _ ⟨by rw [hne], rfl⟩
      · have heq : decide (xs = ys) = true := decide_eq_true (by
          rw [List.take_of_length_le (by omega), List.take_of_length_le (by omega)] at hpre
          exact hpre)
        simp -dsimp [hkl]
        exact hK _ _ ⟨by rw [heq], rfl⟩
  · have hl2 : ((xs.length : Int) != (ys.length : Int)) = true := by simp [bne]; omega
    have hne : decide (xs = ys) = false := decide_eq_false fun e => hl (by rw [e])
    simp -dsimp [hl2]
    exact hK _ _ ⟨by rw [hne], rfl⟩
end Go.Proofs

/-
  Groups of cells by their keys, plainly: what cells of one key come to, one cell of each key, rising.
-/
namespace Go.HC
/-! ### the order of keys -/
def lessM : List Int → List Int → Int
  | [], [] => 0
  | [], _ :: _ => -1
  | _ :: _, [] => 1
  | x :: xs, y :: ys => if x < y then -1 else if y < x then 1 else lessM xs ys
theorem lessM_zero : ∀ {xs ys : List Int}, lessM xs ys = 0 ↔ xs = ys
  | [], [] => by simp [lessM]
  | [], _ :: _ => by simp [lessM]
  | _ :: _, [] => by simp [lessM]
  | x :: xs, y :: ys => by
    rw [lessM]
    split
    · rename_i h
      simp only [List.cons.injEq]
      constructor
      · intro h; omega
      · rintro ⟨rfl, _⟩; omega
    · split
      · rename_i h
        simp only [List.cons.injEq]
        constructor
        · intro h; omega
        · rintro ⟨rfl, _⟩; omega
      · rename_i h1 h2
        rw [lessM_zero]
        simp only [List.cons.injEq]
        constructor
        · intro h; exact ⟨by omega, h⟩
        · rintro ⟨_, h⟩; exact h
theorem lessM_neg : ∀ (xs ys : List Int), lessM ys xs = - lessM xs ys
  | [], [] => rfl
  | [], _ :: _ => rfl
  | _ :: _, [] => rfl
  | x :: xs, y :: ys => by
    rw [lessM, lessM]
    by_cases h1 : x < y
    · have h2 : ¬ y < x := by omega
      simp only [if_pos h1, if_neg h2]; rfl
    · by_cases h2 : y < x
      · simp only [if_neg h1, if_pos h2]
      · simp only [if_neg h1, if_neg h2, lessM_neg xs ys]
theorem lessM_three : ∀ (xs ys : List Int), lessM xs ys = -1 ∨ lessM xs ys = 0 ∨ lessM xs ys = 1
  | [], [] => .inr (.inl rfl)
  | [], _ :: _ => .inl rfl
  | _ :: _, [] => .inr (.inr rfl)
  | x :: xs, y :: ys => by
    rw [lessM]
    split
    · exact .inl rfl
    · split
      · exact .inr (.inr rfl)
      · exact lessM_three xs ys
theorem lessM_trans : ∀ {xs ys zs : List Int}, lessM xs ys < 0 → lessM ys zs < 0 → lessM xs zs < 0
  | [], [], _, h, _ => by simp [lessM] at h
  | [], _ :: _, [], _, h => by simp [lessM] at h
  | [], _ :: _, _ :: _, _, _ => by simp [lessM]
  | _ :: _, [], _, h, _ => by simp [lessM] at h
  | _ :: _, _ :: _, [], _, h => by simp [lessM] at h
  | x :: xs, y :: ys, z :: zs, h1, h2 => by
    rw [lessM] at h1 h2 ⊢
    split at h1
    · split at h2
      · rw [if_pos (by omega)]; omega
      · split at h2
        · omega
        · rw [if_pos (by omega)]; omega
    · split at h1
      · omega
      · split at h2
        · rw [if_pos (by omega)]; omega
        · split at h2
          · omega
          · rw [if_neg (by omega), if_neg (by omega)]
            exact lessM_trans h1 h2
theorem lessM_self (xs : List Int) : lessM xs xs = 0 := lessM_zero.2 rfl
/-! ### cells of one key -/
def joinAll : List CellM → Option CellM
  | [] => none
  | c :: cs => some (cs.foldl joinC c)
/-- A cell, put to what is there. -/
def joinO : Option CellM → CellM → CellM
  | none, c => c
  | some d, c => joinC d c
theorem joinAll_snoc (l : List CellM) (c : CellM) : joinAll (l ++ [c]) = some (joinO (joinAll l) c) := by
  cases l with
  | nil => rfl
  | cons d l => simp [joinAll, joinO]
theorem foldl_key : ∀ (l : List CellM) (c : CellM), (l.foldl joinC c).key = c.key
  | [], _ => rfl
  | d :: l, c => by rw [List.foldl_cons, foldl_key l]; rfl
/-- What the cells of a key come to. -/
def atKey (key : List Int) (l : List CellM) : Option CellM := joinAll (l.filter fun c => decide (c.key = key))
theorem atKey_nil (key : List Int) : atKey key [] = none := rfl
theorem atKey_key {key : List Int} {l : List CellM} {c : CellM} (h : atKey key l = some c) : c.key = key := by
  unfold atKey at h
  cases hf : l.filter (fun c => decide (c.key = key)) with
  | nil => rw [hf] at h; cases h
  | cons d m =>
    rw [hf] at h
    simp only [joinAll, Option.some.injEq] at h
    rw [← h, foldl_key]
    have : d ∈ l.filter (fun c => decide (c.key = key)) := by rw [hf]; exact List.mem_cons_self
    simpa using (List.mem_filter.1 this).2
theorem atKey_snoc (key : List Int) (l : List CellM) (c : CellM) :
    atKey key (l ++ [c]) = if c.key = key then some (joinO (atKey key l) c) else atKey key l := by
  unfold atKey
  rw [List.filter_append]
  by_cases h : c.key = key
  · rw [if_pos h, ← joinAll_snoc]
    simp [h]
  · rw [if_neg h]
    simp [h]
theorem atKey_none {key : List Int} {l : List CellM} : atKey key l = none ↔ ∀ c ∈ l, c.key ≠ key := by
  unfold atKey
  cases hf : l.filter (fun c => decide (c.key = key)) with
  | nil =>
    simp only [joinAll, true_iff]
    intro c hc hk
    have : c ∈ l.filter (fun c => decide (c.key = key)) := List.mem_filter.2 ⟨hc, by simpa using hk⟩
    rw [hf] at this
    cases this
  | cons d m =>
    have : d ∈ l.filter (fun c => decide (c.key = key)) := by rw [hf]; exact List.mem_cons_self
    have := List.mem_filter.1 this
    simp only [joinAll, reduceCtorEq, false_iff]
    exact fun h => h d this.1 (by simpa using this.2)
/-! ### joining is of no order -/
theorem wrap_is (x : Int) : ∃ k : Int, IntKind.i64.wrap x = x + k * 18446744073709551616 ∧ -9223372036854775808 ≤ IntKind.i64.wrap x ∧ IntKind.i64.wrap x < 9223372036854775808 := by
  have e : (2 : Int) ^ IntKind.i64.bits = 18446744073709551616 := by decide
  have e2 : (2 : Int) ^ (IntKind.i64.bits - 1) = 9223372036854775808 := by decide
  unfold IntKind.wrap
  simp only [e, e2]
  by_cases h : x % 18446744073709551616 ≥ 9223372036854775808
  · refine ⟨- (x / 18446744073709551616) - 1, ?_⟩
    simp [IntKind.signed, h]; omega
  · refine ⟨- (x / 18446744073709551616), ?_⟩
    simp [IntKind.signed, h]; omega
theorem wrap_add_wrap (x y : Int) : IntKind.i64.wrap (IntKind.i64.wrap x + y) = IntKind.i64.wrap (x + y) := by
  obtain ⟨k1, h1, _, _⟩ := wrap_is x
  obtain ⟨k2, h2, _, _⟩ := wrap_is (IntKind.i64.wrap x + y)
  obtain ⟨k3, h3, _, _⟩ := wrap_is (x + y)
  omega
theorem wrap_add_wrap' (x y : Int) : IntKind.i64.wrap (x + IntKind.i64.wrap y) = IntKind.i64.wrap (x + y) := by
  rw [Int.add_comm, wrap_add_wrap, Int.add_comm]
theorem zip_assoc {f : Int → Int → Int} (hf : ∀ x y z, f (f x y) z = f x (f y z)) : ∀ xs ys zs : List Int, List.zipWith f (List.zipWith f xs ys) zs = List.zipWith f xs (List.zipWith f ys zs)
  | [], _, _ => by simp
  | _ :: _, [], _ => by simp
  | _ :: _, _ :: _, [] => by simp
  | x :: xs, y :: ys, z :: zs => by simp [hf, zip_assoc hf xs ys zs]
theorem zip_comm {f : Int → Int → Int} (hf : ∀ x y, f x y = f y x) : ∀ xs ys : List Int, List.zipWith f xs ys = List.zipWith f ys xs
  | [], ys => by simp
  | _ :: _, [] => by simp
  | x :: xs, y :: ys => by simp [hf x y, zip_comm hf xs ys]
theorem joinC_assoc (a b c : CellM) : joinC (joinC a b) c = joinC a (joinC b c) := by
  unfold joinC
  simp only [wrap_add_wrap, wrap_add_wrap', Int.add_assoc]
  rw [zip_assoc (fun x y z => by rw [wrap_add_wrap, wrap_add_wrap', Int.add_assoc]), zip_assoc (fun x y z => by omega), zip_assoc (fun x y z => by omega)]
theorem joinC_comm {a b : CellM} (h : a.key = b.key) : joinC a b = joinC b a := by
  unfold joinC
  rw [h, Int.add_comm, zip_comm (fun x y => by rw [Int.add_comm]) a.sum, zip_comm (fun x y => by omega) a.mn, zip_comm (fun x y => by omega) a.mx]
theorem foldl_join (l : List CellM) : ∀ (a b : CellM), l.foldl joinC (joinC a b) = joinC a (l.foldl joinC b) := by
  induction l with
  | nil => exact fun _ _ => rfl
  | cons c l ih => intro a b; rw [List.foldl_cons, List.foldl_cons, joinC_assoc, ih]
/-- Two parts' cells of a key. -/
def join2 : Option CellM → Option CellM → Option CellM
  | none, y => y
  | x, none => x
  | some x, some y => some (joinC x y)
theorem joinAll_append (l m : List CellM) : joinAll (l ++ m) = join2 (joinAll l) (joinAll m) := by
  cases l with
  | nil => cases m <;> rfl
  | cons c l =>
    cases m with
    | nil => simp [joinAll, join2]
    | cons d m => simp [joinAll, join2, foldl_join]
theorem atKey_append (key : List Int) (l m : List CellM) : atKey key (l ++ m) = join2 (atKey key l) (atKey key m) := by
  unfold atKey
  rw [List.filter_append, joinAll_append]
theorem joinAll_perm {key : List Int} {l m : List CellM} (hp : l.Perm m) : (∀ c ∈ l, c.key = key) → joinAll l = joinAll m := by
  induction hp with
  | nil => exact fun _ => rfl
  | @cons x l m hp ih =>
    intro hl
    have := ih fun c hc => hl c (List.mem_cons_of_mem _ hc)
    rw [← List.singleton_append, ← List.singleton_append (l := m), joinAll_append, joinAll_append, this]
  | swap x y l =>
    intro hl
    have h1 := hl x (by simp)
    have h2 := hl y (by simp)
    simp only [joinAll, List.foldl_cons]
    rw [joinC_comm (h2.trans h1.symm)]
  | trans hp1 hp2 ih1 ih2 => exact fun hl => (ih1 hl).trans (ih2 fun c hc => hl c (hp1.mem_iff.2 hc))
theorem atKey_perm {key : List Int} {l m : List CellM} (hp : l.Perm m) : atKey key l = atKey key m :=
  joinAll_perm (key := key) (hp.filter _) fun c hc => by simpa using (List.mem_filter.1 hc).2
/-! ### one cell of each key -/
def Srt (l : List CellM) : Prop := l.Pairwise fun a b => lessM a.key b.key < 0
/-- The group-by: rising, of each key what its cells come to. -/
structure Grp (l out : List CellM) : Prop where
  srt : Srt out
  mem : ∀ c, c ∈ out ↔ atKey c.key l = some c
theorem srt_eq : ∀ {l m : List CellM}, Srt l → Srt m → (∀ c, c ∈ l ↔ c ∈ m) → l = m
  | [], [], _, _, _ => rfl
  | [], c :: m, _, _, h => by have := (h c).2 List.mem_cons_self; cases this
  | c :: l, [], _, _, h => by have := (h c).1 List.mem_cons_self; cases this
  | a :: l, b :: m, h1, h2, h => by
    obtain ⟨h1a, h1b⟩ := List.pairwise_cons.1 h1
    obtain ⟨h2a, h2b⟩ := List.pairwise_cons.1 h2
    have hab : a = b := by
      rcases List.mem_cons.1 ((h a).1 List.mem_cons_self) with e | h3
      · exact e
      · rcases List.mem_cons.1 ((h b).2 List.mem_cons_self) with e | h4
        · exact e.symm
        · have x := lessM_trans (h2a a h3) (h1a b h4)
          rw [lessM_self] at x; omega
    subst hab
    congr 1
    refine srt_eq h1b h2b fun c => ?_
    constructor
    · intro hc
      rcases List.mem_cons.1 ((h c).1 (List.mem_cons_of_mem _ hc)) with e | h3
      · subst e; have x := h1a c hc; rw [lessM_self] at x; omega
      · exact h3
    · intro hc
      rcases List.mem_cons.1 ((h c).2 (List.mem_cons_of_mem _ hc)) with e | h3
      · subst e; have x := h2a c hc; rw [lessM_self] at x; omega
      · exact h3
theorem Grp.unique {l o o' : List CellM} (h : Grp l o) (h' : Grp l o') : o = o' := srt_eq h.srt h'.srt fun c => (h.mem c).trans (h'.mem c).symm
theorem Grp.perm {l m o : List CellM} (h : Grp l o) (hp : l.Perm m) : Grp m o := ⟨h.srt, fun c => by rw [h.mem, atKey_perm hp]⟩
theorem Grp.nil : Grp [] [] := ⟨List.Pairwise.nil, fun c => by simp [atKey_nil]⟩
/-- A cell is put to those of its key, or where it belongs. -/
def putC : List CellM → CellM → List CellM
  | [], c => [c]
  | d :: l, c => if lessM d.key c.key < 0 then d :: putC l c else if lessM d.key c.key = 0 then joinC d c :: l else c :: d :: l
theorem Srt.find {l : List CellM} (hs : Srt l) {a b : CellM} (ha : a ∈ l) (hb : b ∈ l) (h : a.key = b.key) : a = b := by
  induction l with
  | nil => cases ha
  | cons c l ih =>
    obtain ⟨h1, h2⟩ := List.pairwise_cons.1 hs
    rcases List.mem_cons.1 ha with rfl | ha' <;> rcases List.mem_cons.1 hb with rfl | hb'
    · rfl
    · have := h1 b hb'; rw [h, lessM_self] at this; omega
    · have := h1 a ha'; rw [← h, lessM_self] at this; omega
    · exact ih h2 ha' hb'
theorem mem_put {l : List CellM} (hs : Srt l) (c x : CellM) : x ∈ putC l c ↔ (x.key ≠ c.key ∧ x ∈ l) ∨ (x.key = c.key ∧ x = joinO (l.find? (fun d => decide (d.key = c.key))) c) := by
  induction l with
  | nil =>
    simp only [putC, List.mem_singleton, List.not_mem_nil, and_false, false_or, List.find?_nil]
    exact ⟨fun h => ⟨by rw [h], h⟩, fun h => h.2⟩
  | cons d l ih =>
    obtain ⟨h1, h2⟩ := List.pairwise_cons.1 hs
    rw [putC]
    split
    · rename_i hlt
      have hne : d.key ≠ c.key := fun e => by rw [e, lessM_self] at hlt; omega
      rw [List.mem_cons, ih h2, List.find?_cons_of_neg (by simpa using hne), List.mem_cons]
      constructor
      · rintro (rfl | ⟨h3, h4⟩ | h3)
        · exact .inl ⟨hne, .inl rfl⟩
        · exact .inl ⟨h3, .inr h4⟩
        · exact .inr h3
      · rintro (⟨h3, rfl | h4⟩ | h3)
        · exact .inl rfl
        · exact .inr (.inl ⟨h3, h4⟩)
        · exact .inr (.inr h3)
    · split
      · rename_i h0
        have he := lessM_zero.1 h0
        rw [List.find?_cons_of_pos (by simpa using he), List.mem_cons, List.mem_cons]
        have hlk : ∀ y ∈ l, y.key ≠ c.key := fun y hy e => by have := h1 y hy; rw [e, ← he, lessM_self] at this; omega
        constructor
        · rintro (rfl | h3)
          · exact .inr ⟨he, rfl⟩
          · exact .inl ⟨hlk x h3, .inr h3⟩
        · rintro (⟨h3, rfl | h4⟩ | ⟨_, rfl⟩)
          · exact absurd he h3
          · exact .inr h4
          · exact .inl rfl
      · rename_i h3 h0
        have hgt : lessM c.key d.key < 0 := by
          have := lessM_neg d.key c.key
          have := lessM_three d.key c.key
          omega
        have hlk : ∀ y ∈ d :: l, y.key ≠ c.key := by
          intro y hy e
          rcases List.mem_cons.1 hy with rfl | hy
          · rw [e, lessM_self] at hgt; omega
          · have := lessM_trans hgt (h1 y hy)
            rw [e, lessM_self] at this; omega
        have hn : (d :: l).find? (fun d => decide (d.key = c.key)) = none := by
          rw [List.find?_eq_none]
          intro y hy
          simpa using hlk y hy
        rw [hn, List.mem_cons]
        constructor
        · rintro (rfl | h4)
          · exact .inr ⟨rfl, rfl⟩
          · exact .inl ⟨hlk x h4, h4⟩
        · rintro (⟨_, h4⟩ | ⟨_, rfl⟩)
          · exact .inr h4
          · exact .inl rfl
theorem put_key {l : List CellM} {c x : CellM} (hx : x ∈ putC l c) : x.key = c.key ∨ x ∈ l := by
  induction l with
  | nil => rw [putC, List.mem_singleton] at hx; exact .inl (by rw [hx])
  | cons d l ih =>
    rw [putC] at hx
    split at hx
    · rcases List.mem_cons.1 hx with rfl | h
      · exact .inr List.mem_cons_self
      · exact (ih h).imp id (List.mem_cons_of_mem _)
    · split at hx
      · rename_i h0
        rcases List.mem_cons.1 hx with rfl | h
        · exact .inl (lessM_zero.1 h0)
        · exact .inr (List.mem_cons_of_mem _ h)
      · rcases List.mem_cons.1 hx with rfl | h
        · exact .inl rfl
        · exact .inr h
theorem srt_put {l : List CellM} (hs : Srt l) (c : CellM) : Srt (putC l c) := by
  induction l with
  | nil => exact List.pairwise_singleton _ _
  | cons d l ih =>
    obtain ⟨h1, h2⟩ := List.pairwise_cons.1 hs
    rw [putC]
    split
    · rename_i hlt
      refine List.pairwise_cons.2 ⟨fun y hy => ?_, ih h2⟩
      rcases put_key hy with e | h
      · rw [e]; exact hlt
      · exact h1 y h
    · split
      · refine List.pairwise_cons.2 ⟨fun y hy => h1 y hy, h2⟩
      · rename_i h3 h0
        have hgt : lessM c.key d.key < 0 := by
          have := lessM_neg d.key c.key
          have := lessM_three d.key c.key
          omega
        refine List.pairwise_cons.2 ⟨fun y hy => ?_, hs⟩
        rcases List.mem_cons.1 hy with rfl | hy
        · exact hgt
        · exact lessM_trans hgt (h1 y hy)
theorem Grp.find {l o : List CellM} (h : Grp l o) (key : List Int) : o.find? (fun d => decide (d.key = key)) = atKey key l := by
  cases hf : o.find? (fun d => decide (d.key = key)) with
  | none =>
    cases ha : atKey key l with
    | none => rfl
    | some c =>
      have hk := atKey_key ha
      have hm := (h.mem c).2 (by rw [hk, ha])
      have := List.find?_eq_none.1 hf c hm
      simp [hk] at this
  | some d =>
    have hm := (h.mem d).1 (List.mem_of_find?_eq_some hf)
    have hk := List.find?_some hf
    simp only [decide_eq_true_eq] at hk
    rw [hk] at hm
    exact hm.symm
theorem Grp.put {l o : List CellM} (h : Grp l o) (c : CellM) : Grp (l ++ [c]) (putC o c) := by
  refine ⟨srt_put h.srt c, fun x => ?_⟩
  rw [mem_put h.srt, h.find, atKey_snoc]
  by_cases hk : c.key = x.key
  · rw [if_pos hk, hk]
    simp only [ne_eq, not_true_eq_false, false_and, true_and, false_or]
    rw [Option.some.injEq]
    exact eq_comm
  · rw [if_neg hk, h.mem]
    have : x.key ≠ c.key := fun e => hk e.symm
    simp [this]
def groupC (l : List CellM) : List CellM := l.foldl putC []
theorem groupC_snoc (l : List CellM) (c : CellM) : groupC (l ++ [c]) = putC (groupC l) c := by simp [groupC]
theorem group_take {l : List CellM} {k : Nat} (hk : k < l.length) : groupC (l.take (k + 1)) = putC (groupC (l.take k)) l[k] := by
  rw [List.take_add_one, List.getElem?_eq_getElem hk, Option.toList_some, groupC_snoc]
theorem grp_aux : ∀ (l o m : List CellM), Grp m o → Grp (m ++ l) (l.foldl putC o)
  | [], o, m, h => by simpa using h
  | c :: l, o, m, h => by
    have := grp_aux l (putC o c) (m ++ [c]) (h.put c)
    simpa using this
theorem grp_group (l : List CellM) : Grp l (groupC l) := by
  have := grp_aux l [] [] .nil
  rwa [List.nil_append] at this
theorem group_perm {l m : List CellM} (hp : l.Perm m) : groupC l = groupC m := ((grp_group l).perm hp).unique (grp_group m)
theorem Grp.eq {l o : List CellM} (h : Grp l o) : o = groupC l := h.unique (grp_group l)
/-- As many as there are keys. -/
theorem putC_len {l : List CellM} (c : CellM) : (putC l c).length = l.length ∨ (putC l c).length = l.length + 1 := by
  induction l with
  | nil => exact .inr rfl
  | cons d l ih =>
    rw [putC]
    split
    · simpa using ih
    · split <;> simp
theorem putC_le (l : List CellM) (c : CellM) : (putC l c).length ≤ l.length + 1 := by rcases putC_len (l := l) c with h | h <;> omega
theorem group_le : ∀ (l o : List CellM), (l.foldl putC o).length ≤ o.length + l.length
  | [], _ => by simp
  | c :: l, o => by
    have := group_le l (putC o c)
    have := putC_le o c
    rw [List.foldl_cons, List.length_cons]; omega
theorem groupC_le (l : List CellM) : (groupC l).length ≤ l.length := by
  have := group_le l []
  rwa [List.length_nil, Nat.zero_add] at this
end Go.HC

/-
  The document's order of keys.
-/
namespace Go.Proofs
open Go Go.HC

set_option maxHeartbeats 4000000 in
set_option maxRecDepth 10000 in
theorem rless_spec {F G : Nat → Prop} {h : Heap} {av bv : Value} {xs ys : List Int} (ha : SlRep rInt F h av xs) (hb : SlRep rInt G h bv ys) :
    CallH Try.prog 31 #[av, bv] h fun r h' => r = .int .i64 (lessM xs ys) ∧ h' = h := by
  refine callH_by fun K hK => ?_
  refine enter [.tmp 4] Try.func31 rfl rfl (by kernel_rfl) rfl ?_
  obtain ⟨a0, c0, rfl, hc0, hc0'⟩ := ha.val
  obtain ⟨a1, c1, rfl, hc1, hc1'⟩ := hb.val
  simp -dsimp
  refine loop' (σ := Nat) (fun k => [(0, .slice a0 xs.length c0), (1, .slice a1 ys.length c1), (5, .int .i64 k)]) (fun _ => []) (fun k h' => h' = h ∧ k ≤ xs.length ∧ k ≤ ys.length ∧ lessM xs ys = lessM (xs.drop k) (ys.drop k)) (fun k => xs.length - k) 0 ?_ rfl ⟨rfl, Nat.zero_le _, Nat.zero_le _, rfl⟩ (by kernel_rfl) ?_
  · intro p hp
    simp at hp
    rcases hp with rfl | rfl | rfl <;> simp
  · rintro k h' g ⟨rfl, hk, hk', hpre⟩
    by_cases hx : k < xs.length
    · by_cases hy : k < ys.length
      · obtain ⟨b1, o1, v1, rfl, _, hr1, hc1⟩ := ha.get1 rfl k hx
        obtain ⟨b2, o2, v2, rfl, _, hr2, hc2⟩ := hb.get1 rfl k hy
        have hv1 : v1 = .int .i64 xs[k] := by simpa [rInt] using hr1
        have hv2 : v2 = .int .i64 ys[k] := by simpa [rInt] using hr2
        subst hv1; subst hv2
        have hid1 : ∀ sz ar kk, idxV sz ar (.slice (some ⟨b1, o1, none⟩) xs.length c0) (.int kk (k : Int)) = sz.map fun s => .pointer (some ⟨b1, o1 + k * s, none⟩) := by
          intro sz ar kk
          rw [idxV_slice (by omega) (by omega) rfl]
          simp
        have hid2 : ∀ sz ar kk, idxV sz ar (.slice (some ⟨b2, o2, none⟩) ys.length c1) (.int kk (k : Int)) = sz.map fun s => .pointer (some ⟨b2, o2 + k * s, none⟩) := by
          intro sz ar kk
          rw [idxV_slice (by omega) (by omega) rfl]
          simp
        have wk : IntKind.i64.wrap ((k : Int) + 1) = ((k + 1 : Nat) : Int) := by rw [wrap_i64 (by omega) (by omega)]; rfl
        rw [List.drop_eq_getElem_cons hx, List.drop_eq_getElem_cons hy, lessM] at hpre
        simp -dsimp [hx, hy]
        refine drawn_by [⟨0, true, []⟩, ⟨1, true, []⟩, ⟨2, true, []⟩, ⟨3, true, []⟩, ⟨4, true, []⟩, ⟨5, true, []⟩, ⟨6, true, []⟩, ⟨7, true, []⟩, ⟨8, true, []⟩] (by kernel_rfl) (by kernel_rfl) ?_
        by_cases h1 : xs[k] < ys[k]
        · rw [if_pos h1] at hpre
          simp -dsimp [hid1, hid2, hc1, hc2, elSz, h1]
          exact hK _ _ ⟨by rw [hpre], rfl⟩
        · rw [if_neg h1] at hpre
          simp -dsimp [hid1, hid2, hc1, hc2, elSz, h1]
          refine drawn_by [⟨0, true, []⟩, ⟨1, true, []⟩, ⟨2, true, []⟩, ⟨3, true, []⟩, ⟨4, true, []⟩, ⟨5, true, []⟩, ⟨6, true, []⟩, ⟨7, true, []⟩, ⟨8, true, []⟩] (by kernel_rfl) (by kernel_rfl) ?_
          by_cases h2 : ys[k] < xs[k]
          · rw [if_pos h2] at hpre
            simp -dsimp [hid1, hid2, hc1, hc2, elSz, h2]
            exact hK _ _ ⟨by rw [hpre], rfl⟩
          · rw [if_neg h2] at hpre
            simp -dsimp [hid1, hid2, hc1, hc2, elSz, h2, wk]
            refine ⟨k + 1, ?_, rfl, ⟨rfl, by omega, by omega, hpre⟩, by show xs.length - (k + 1) < xs.length - k; omega⟩
            intro p hp
            simp at hp
            rcases hp with rfl | rfl | rfl <;> simp
      · have hl : ¬ (xs.length < ys.length) := by omega
        have hg : ys.length < xs.length := by omega
        rw [List.drop_eq_getElem_cons hx, List.drop_of_length_le (l := ys) (by omega), lessM] at hpre
        simp -dsimp [hx, hy, hl, hg]
        exact hK _ _ ⟨by rw [hpre], rfl⟩
    · by_cases hy : k < ys.length
      · have hl : xs.length < ys.length := by omega
        rw [List.drop_of_length_le (l := xs) (by omega), List.drop_eq_getElem_cons hy, lessM] at hpre
        simp -dsimp [hx, hl]
        exact hK _ _ ⟨by rw [hpre], rfl⟩
      · have hl : ¬ (xs.length < ys.length) := by omega
        have hg : ¬ (ys.length < xs.length) := by omega
        rw [List.drop_of_length_le (l := xs) (by omega), List.drop_of_length_le (l := ys) (by omega), lessM] at hpre
        simp -dsimp [hx, hl, hg]
        exact hK _ _ ⟨by rw [hpre], rfl⟩
end Go.Proofs

/-
  The document's comparisons of cells.
-/
namespace Go.HC
theorem cellM_ext {a b : CellM} (h1 : a.count = b.count) (h2 : a.key = b.key) (h3 : a.sum = b.sum) (h4 : a.mn = b.mn) (h5 : a.mx = b.mx) : a = b := by
  cases a; cases b; simp_all
end Go.HC
namespace Go.Proofs
open Go Go.HC

set_option maxRecDepth 10000 in
theorem ints_spec {F G : Nat → Prop} {h : Heap} {av bv : Value} {xs ys : List Int} (ha : SlRep rInt F h av xs) (hb : SlRep rInt G h bv ys) :
    CallH Try.prog 42 #[av, bv] h fun r h' => r = .bool (decide (xs = ys)) ∧ h' = h := by
  refine callH_by fun K hK => ?_
  refine enter [.tmp 4] Try.func42 rfl rfl (by kernel_rfl) rfl ?_
  obtain ⟨a0, c0, rfl, hc0, hc0'⟩ := ha.val
  obtain ⟨a1, c1, rfl, hc1, hc1'⟩ := hb.val
  by_cases hl : xs.length = ys.length
  · have hl' : ((xs.length : Int) == (ys.length : Int)) = true := by simp; omega
    have hl2 : ((xs.length : Int) != (ys.length : Int)) = false := by simp [bne]; omega
    simp -dsimp [hl2]
    refine loop' (σ := Nat) (fun k => [(0, .slice a0 xs.length c0), (1, .slice a1 ys.length c1), (5, .int .i64 k)]) (fun _ => []) (fun k h' => h' = h ∧ k ≤ xs.length ∧ xs.take k = ys.take k) (fun k => xs.length - k) 0 ?_ rfl ⟨rfl, Nat.zero_le _, rfl⟩ (by kernel_rfl) ?_
    · intro p hp
      simp at hp
      rcases hp with rfl | rfl | rfl <;> simp
    · rintro k h' g ⟨rfl, hk, hpre⟩
      by_cases hkl : k < xs.length
      · obtain ⟨b1, o1, v1, rfl, _, hr1, hc1⟩ := ha.get1 rfl k hkl
        obtain ⟨b2, o2, v2, rfl, _, hr2, hc2⟩ := hb.get1 rfl k (by omega)
        have hv1 : v1 = .int .i64 xs[k] := by simpa [rInt] using hr1
        have hv2 : v2 = .int .i64 ys[k] := by simpa [rInt] using hr2
        subst hv1; subst hv2
        have hid1 : ∀ sz ar kk, idxV sz ar (.slice (some ⟨b1, o1, none⟩) xs.length c0) (.int kk (k : Int)) = sz.map fun s => .pointer (some ⟨b1, o1 + k * s, none⟩) := by
          intro sz ar kk
          rw [idxV_slice (by omega) (by omega) rfl]
          simp
        have hid2 : ∀ sz ar kk, idxV sz ar (.slice (some ⟨b2, o2, none⟩) ys.length c1) (.int kk (k : Int)) = sz.map fun s => .pointer (some ⟨b2, o2 + k * s, none⟩) := by
          intro sz ar kk
          rw [idxV_slice (by omega) (by omega) rfl]
          simp
        have wk : IntKind.i64.wrap ((k : Int) + 1) = ((k + 1 : Nat) : Int) := by rw [wrap_i64 (by omega) (by omega)]; rfl
        simp -dsimp [hkl]
        refine drawn_by [⟨0, true, []⟩, ⟨1, true, []⟩, ⟨2, true, []⟩, ⟨3, true, []⟩, ⟨4, true, []⟩, ⟨5, true, []⟩, ⟨6, true, []⟩, ⟨7, true, []⟩, ⟨8, true, []⟩] (by kernel_rfl) (by kernel_rfl) ?_
        by_cases he : xs[k] = ys[k]
        · have he2 : (ys[k] != ys[k]) = false := by simp
          simp -dsimp [hid1, hid2, hc1, hc2, elSz, he, wk]
          refine ⟨k + 1, ?_, rfl, ⟨rfl, by omega, ?_⟩, by show xs.length - (k + 1) < xs.length - k; omega⟩
          · intro p hp
            simp at hp
            rcases hp with rfl | rfl | rfl <;> simp
          · rw [List.take_add_one, List.take_add_one, hpre, List.getElem?_eq_getElem hkl, List.getElem?_eq_getElem (show k < ys.length by omega), he]
        · have he2 : (xs[k] != ys[k]) = true := by simpa [bne] using he
          have hne : decide (xs = ys) = false := decide_eq_false fun e => he (by subst e; rfl)
          simp -dsimp [hid1, hid2, hc1, hc2, elSz, he2]
          exact hK _ _ ⟨by rw [hne], rfl⟩
      · have heq : decide (xs = ys) = true := decide_eq_true (by
          rw [List.take_of_length_le (by omega), List.take_of_length_le (by omega)] at hpre
          exact hpre)
        simp -dsimp [hkl]
        exact hK _ _ ⟨by rw [heq], rfl⟩
  · have hl2 : ((xs.length : Int) != (ys.length : Int)) = true := by simp [bne]; omega
    have hne : decide (xs = ys) = false := decide_eq_false fun e => hl (by rw [e])
    simp -dsimp [hl2]
    exact hK _ _ ⟨by rw [hne], rfl⟩

set_option maxHeartbeats 40000000 in
set_option maxRecDepth 10000 in
theorem cellEq_spec {F G : Nat → Prop} {h : Heap} {cs ds : List Value} {a b : CellM} (ha : rCell.rep F h cs a) (hF : ∀ b, F b → b < h.size) (hb : rCell.rep G h ds b) (hG : ∀ b, G b → b < h.size) :
    CallH Try.prog 24 #[.agg cs.toArray, .agg ds.toArray] h fun r h' => (∃ t : Bool, r = .bool t ∧ (t = true ↔ a = b)) ∧ Keep none_ h h' := by
  refine callH_by fun K hK => ?_
  refine enter [.tmp 4] Try.func24 rfl rfl (by kernel_rfl) rfl ?_
  obtain ⟨kv, sv, nv, xv, rfl, r1, r2, r3, r4⟩ := ha
  obtain ⟨ka, kc, rfl, _, _⟩ := r1.val
  obtain ⟨s1, sc, rfl, _, _⟩ := r2.val
  obtain ⟨na, nc, rfl, _, _⟩ := r3.val
  obtain ⟨xa, xc, rfl, _, _⟩ := r4.val
  obtain ⟨kv', sv', nv', xv', rfl, q1, q2, q3, q4⟩ := hb
  obtain ⟨ka', kc', rfl, _, _⟩ := q1.val
  obtain ⟨sa', sc', rfl, _, _⟩ := q2.val
  obtain ⟨na', nc', rfl, _, _⟩ := q3.val
  obtain ⟨xa', xc', rfl, _, _⟩ := q4.val
  simp -dsimp [boxS_eq]
  generalize hB : Array.push _ _ = h0
  have hz0 : h0.size = h.size + 2 := by rw [← hB]; simp
  have k0 : Keep none_ h h0 := by rw [← hB]; exact ((Keep.refl none_ h).pushed _).pushed _
  have hp1 : ∀ o, (h.push o).size = h.size + 1 := fun o => by simp
  have hA : h0[h.size]? = some (.cells #[.slice ka a.key.length kc, .int .i64 a.count, .slice s1 a.sum.length sc, .slice na a.mn.length nc, .slice xa a.mx.length xc] 39 (0, 0)) := by rw [← hB]; exact push_at (push_new _ _)
  have hB0 : h0[h.size + 1]? = some (.cells #[.slice ka' b.key.length kc', .int .i64 b.count, .slice sa' b.sum.length sc', .slice na' b.mn.length nc', .slice xa' b.mx.length xc'] 39 (0, 0)) := by
    rw [← hB, ← hp1]; exact push_new _ _
  have m1 : ∀ b, F b → F b ∧ h0[b]? = h[b]? := fun b hb => ⟨hb, k0.blk b (hF b hb) (fun h => h)⟩
  have m2 : ∀ b, G b → G b ∧ h0[b]? = h[b]? := fun b hb => ⟨hb, k0.blk b (hG b hb) (fun h => h)⟩
  by_cases hcn : a.count = b.count
  · have hcb : (b.count == b.count) = true := beq_self_eq_true _
    simp -dsimp [hA, hB0, hcn]
    refine call_by (ints_spec (r1.mono m1) (q1.mono m2)) ?_
    rintro _ h1 ⟨rfl, hh⟩
    obtain rfl := hh.symm
    by_cases hk : a.key = b.key
    · rw [decide_eq_true hk]
      simp -dsimp [hA, hB0]
      refine call_by (ints_spec (r2.mono m1) (q2.mono m2)) ?_
      rintro _ h1 ⟨rfl, hh⟩
      obtain rfl := hh.symm
      by_cases hs : a.sum = b.sum
      · rw [decide_eq_true hs]
        simp -dsimp [hA, hB0]
        refine call_by (ints_spec (r3.mono m1) (q3.mono m2)) ?_
        rintro _ h1 ⟨rfl, hh⟩
        obtain rfl := hh.symm
        by_cases hm : a.mn = b.mn
        · rw [decide_eq_true hm]
          simp -dsimp [hA, hB0]
          refine call_by (ints_spec (r4.mono m1) (q4.mono m2)) ?_
          rintro _ h1 ⟨rfl, hh⟩
          obtain rfl := hh.symm
          simp -dsimp
          exact hK _ _ ⟨⟨_, rfl, by rw [decide_eq_true_iff]; exact ⟨fun h => cellM_ext hcn hk hs hm h, fun h => by rw [h]⟩⟩, k0⟩
        · rw [decide_eq_false hm]
          simp -dsimp
          exact hK _ _ ⟨⟨_, rfl, by simp; exact fun h => hm (by rw [h])⟩, k0⟩
      · rw [decide_eq_false hs]
        simp -dsimp
        exact hK _ _ ⟨⟨_, rfl, by simp; exact fun h => hs (by rw [h])⟩, k0⟩
    · rw [decide_eq_false hk]
      simp -dsimp
      exact hK _ _ ⟨⟨_, rfl, by simp; exact fun h => hk (by rw [h])⟩, k0⟩
  · have hcb : (a.count == b.count) = false := beq_eq_false_iff_ne.2 hcn
    simp -dsimp [hA, hB0, hcb]
    exact hK _ _ ⟨⟨_, rfl, by simp; exact fun h => hcn (by rw [h])⟩, k0⟩
end Go.Proofs

/-
  The program's table in memory; where a key is found.
-/
namespace Go.Proofs
open Go Go.HC

structure TabC (h : Heap) (T : Tab) (bs : Nat) (sv : Value) (os : Option Nat) (R : Nat → Prop) : Prop where
  str : h[bs]? = some (.cells #[sv, .int .i64 (takenM T)] 62 (0, 0))
  slots : Grow rSlot 68 R h sv T os
  sep : ∀ b, R b → b < h.size ∧ b ≠ bs ∧ os ≠ some b
  o1 : os ≠ some bs
  ok : TabOk T
def tfoot (bs : Nat) (os : Option Nat) (R : Nat → Prop) : Nat → Prop := fun b => b = bs ∨ os = some b ∨ R b
theorem TabC.lt {h : Heap} {T : Tab} {bs : Nat} {sv : Value} {os : Option Nat} {R : Nat → Prop} (s : TabC h T bs sv os R) : ∀ b, tfoot bs os R b → b < h.size := by
  rintro b (rfl | ho | hr)
  · exact lt_of_blk s.str
  · exact s.slots.own_lt b ho
  · exact (s.sep b hr).1
theorem TabC.mono {h h' : Heap} {T : Tab} {bs : Nat} {sv : Value} {os : Option Nat} {R : Nat → Prop} (s : TabC h T bs sv os R) (hs : h.size ≤ h'.size) (hk : ∀ b, tfoot bs os R b → h'[b]? = h[b]?) : TabC h' T bs sv os R where
  str := (hk bs (.inl rfl)).trans s.str
  slots := s.slots.mono (fun b hb => ⟨hb, hk b (.inr (.inr hb))⟩) fun b hb => ⟨fun hR => (s.sep b hR).2.2 hb, hk b (.inr (.inl hb))⟩
  sep := fun b hb => ⟨Nat.lt_of_lt_of_le (s.sep b hb).1 hs, (s.sep b hb).2⟩
  o1 := s.o1
  ok := s.ok
def TabAt (v : Value) (F : Nat → Prop) (h : Heap) (T : Tab) : Prop := ∃ bs sv os R, v = .pointer (some ⟨bs, 0, none⟩) ∧ F = tfoot bs os R ∧ TabC h T bs sv os R
theorem TabC.at {h : Heap} {T : Tab} {bs : Nat} {sv : Value} {os : Option Nat} {R : Nat → Prop} (s : TabC h T bs sv os R) : TabAt (.pointer (some ⟨bs, 0, none⟩)) (tfoot bs os R) h T := ⟨bs, sv, os, R, rfl, rfl, s⟩
theorem TabAt.lt {v : Value} {F : Nat → Prop} {h : Heap} {T : Tab} (s : TabAt v F h T) : ∀ b, F b → b < h.size := by
  obtain ⟨bs, sv, os, R, rfl, rfl, s⟩ := s
  exact s.lt
theorem TabAt.mono {v : Value} {F : Nat → Prop} {h h' : Heap} {T : Tab} (s : TabAt v F h T) (hs : h.size ≤ h'.size) (hk : ∀ b, F b → h'[b]? = h[b]?) : TabAt v F h' T := by
  obtain ⟨bs, sv, os, R, rfl, rfl, s⟩ := s
  exact ⟨bs, sv, os, R, rfl, rfl, s.mono hs hk⟩
theorem TabAt.keep {v : Value} {F S : Nat → Prop} {h h' : Heap} {T : Tab} (s : TabAt v F h T) (k : Keep S h h') (hS : ∀ b, F b → ¬ S b) : TabAt v F h' T := s.mono k.size fun b hb => k.blk b (s.lt b hb) (hS b hb)

set_option maxRecDepth 10000 in
theorem len_spec {v : Value} {F : Nat → Prop} {h : Heap} {T : Tab} (s : TabAt v F h T) : CallH Try.prog 20 #[v] h fun r h' => r = .int .i64 (takenM T) ∧ h' = h := by
  refine callH_by fun K hK => ?_
  obtain ⟨bs, sv, os, R, rfl, rfl, s⟩ := s
  refine enter [.tmp 2] Try.func20 rfl rfl (by kernel_rfl) rfl ?_
  have hs := s.str
  simp -dsimp [hs]
  exact hK _ _ ⟨rfl, rfl⟩

/-- A slot's cells, as they are loaded. -/
theorem slot_cells {R : Nat → Prop} {h : Heap} {cs : List Value} {s : Option CellM} (hr : rSlot.rep R h cs s) : ∃ kv cn sv nv xv, cs = [kv, .int .i64 cn, sv, nv, xv, .bool s.isSome] ∧ SlRep rInt R h kv ((s.map (·.key)).getD []) ∧
    kv.oneCell' = true ∧ sv.oneCell' = true ∧ nv.oneCell' = true ∧ xv.oneCell' = true := by
  cases s with
  | none => exact ⟨_, _, _, _, _, hr, .nil _ _ _, rfl, rfl, rfl, rfl⟩
  | some c =>
    obtain ⟨ds, ⟨kv, sv, nv, xv, rfl, h1, h2, h3, h4⟩, rfl⟩ := hr
    refine ⟨kv, c.count, sv, nv, xv, rfl, h1, ?_, ?_, ?_, ?_⟩
    · obtain ⟨_, _, rfl, _⟩ := h1.val; rfl
    · obtain ⟨_, _, rfl, _⟩ := h2.val; rfl
    · obtain ⟨_, _, rfl, _⟩ := h3.val; rfl
    · obtain ⟨_, _, rfl, _⟩ := h4.val; rfl

set_option maxHeartbeats 40000000 in
set_option maxRecDepth 10000 in
theorem find_spec {v : Value} {F G : Nat → Prop} {h : Heap} {T : Tab} (s : TabAt v F h T) (hT : T.length < 1000000000) {kv : Value} {key : List Int} (hk : SlRep rInt G h kv key) (hG : ∀ b, G b → b < h.size) :
    CallH Try.prog 36 #[v, kv] h fun r h' => r = .int .i64 (match findM T key with | some k => (k : Int) | none => -1) ∧ Keep none_ h h' := by
  refine callH_by fun K hK => ?_
  obtain ⟨bs, sv, os, R, rfl, rfl, s⟩ := s
  obtain ⟨ka, kc, rfl, hkc, hkc'⟩ := hk.val
  refine enter [.tmp 4] Try.func36 rfl rfl (by kernel_rfl) rfl ?_
  have hs := s.str
  have hRl : ∀ b, R b → b < h.size := fun b hb => (s.sep b hb).1
  obtain ⟨sa, sc, rfl⟩ := s.slots.val
  obtain ⟨hh0, hh1⟩ := hashM_bound key
  simp -dsimp
  refine scope 0 _ rfl (σ := Nat) (fun i => [(0, .pointer (some ⟨bs, 0, none⟩)), (1, .slice ka key.length kc), (5, .int .i64 T.length), (9, .int .i64 (probe key T.length i)), (10, .int .i64 i)]) (fun _ => [])
    (fun i h' => Keep none_ h h' ∧ i < T.length ∧ ∀ j, j < i → hitM T key (probe key T.length j) = false) (fun i => T.length - i) (T.length + 1) (by kernel_rfl) (by kernel_rfl) ?first ?pass
  case' first =>
    by_cases h0 : T.length = 0
    · have hT0 : T = [] := List.eq_nil_of_length_eq_zero h0
      subst hT0
      simp -dsimp [hs]
      exact hK _ _ ⟨rfl, .refl _ _⟩
    · have hne : ((T.length : Int) == 0) = false := beq_eq_false_iff_ne.2 (by omega)
      have hrem : ∀ x : Int, intRes .rem .i64 x (T.length : Int) = some (.int .i64 (x.tmod T.length)) := fun x => intRes_rem _ _ _ (by omega)
      simp -dsimp [hs, hne]
      refine loop' (σ := Nat) (fun k => [(0, .pointer (some ⟨bs, 0, none⟩)), (1, .slice ka key.length kc), (5, .int .i64 T.length), (6, .int .i64 (hashM (key.take k))), (19, .slice ka key.length kc), (20, .int .i64 key.length), (21, .int .i64 k)]) (fun _ => []) (fun k h' => h' = h ∧ k ≤ key.length) (fun k => key.length - k) 0 ?_ rfl ⟨rfl, Nat.zero_le _⟩ (by kernel_rfl) ?_
      · intro p hp
        simp at hp
        rcases hp with rfl | rfl | rfl | rfl | rfl | rfl | rfl <;> simp [hashM]
      · rintro k h' g ⟨hhe, hkk⟩
        have hhe' := hhe.symm
        subst hhe'
        by_cases hkl : k < key.length
        · obtain ⟨b1, o1, v1, rfl, _, hr1, hc1⟩ := hk.get1 rfl k hkl
          have hv1 : v1 = .int .i64 key[k] := by simpa [rInt] using hr1
          subst hv1
          have hidx : ∀ (K : Value → Heap → Prop) (h : Heap), indexAddrS Try.prog 22 (.slice (some ⟨b1, o1, none⟩) key.length kc) (.int .i64 (k : Int)) h K = K (.pointer (some ⟨b1, o1 + k, none⟩)) h := by
            intro K h
            rw [indexAddrS_slice _ _ _ _ _ _ (by omega) (by omega) rfl]
            simp [elSz]
          have wk : IntKind.i64.wrap ((k : Int) + 1) = ((k + 1 : Nat) : Int) := by rw [wrap_i64 (by omega) (by omega)]; rfl
          obtain ⟨q0, q1⟩ := hashM_bound (key.take k)
          have hst := hashM_take hkl
          obtain ⟨p0, p1⟩ := tmod_bound (a := key[k]) (n := 1000003) (by decide)
          have w1 : IntKind.i64.wrap (31 * hashM (key.take k)) = 31 * hashM (key.take k) := wrap_i64 (by omega) (by omega)
          have w2 : IntKind.i64.wrap (31 * hashM (key.take k) + (key[k]).tmod 1000003) = 31 * hashM (key.take k) + (key[k]).tmod 1000003 := wrap_i64 (by omega) (by omega)
          have w3 : IntKind.i64.wrap (31 * hashM (key.take k) + (key[k]).tmod 1000003 + 1) = 31 * hashM (key.take k) + (key[k]).tmod 1000003 + 1 := wrap_i64 (by omega) (by omega)
          simp -dsimp [hkl, hidx, hc1, w1, w2, w3, ← hst, wk]
          refine ⟨k + 1, ?_, rfl, ⟨rfl, by omega⟩, by show key.length - (k + 1) < key.length - k; omega⟩
          intro p hp
          simp at hp
          rcases hp with rfl | rfl | rfl | rfl | rfl | rfl | rfl <;> simp
        · have hall : key.take k = key := List.take_of_length_le (by omega)
          obtain ⟨r0, r1⟩ := tmod_bound (a := hashM key) (n := (T.length : Int)) (by omega)
          have w1 : IntKind.i64.wrap ((hashM key).tmod T.length + T.length) = (hashM key).tmod T.length + T.length := wrap_i64 (by omega) (by omega)
          have hpl := placeM_lt key (n := T.length) (by omega)
          have hp0 : ((hashM key).tmod T.length + T.length).tmod T.length = ((probe key T.length 0 : Nat) : Int) := by
            unfold probe
            rw [Nat.add_zero, Nat.mod_eq_of_lt hpl]
            unfold placeM
            rw [Int.toNat_of_nonneg (Int.tmod_nonneg _ (by omega))]
          simp -dsimp [hkl, hall, hrem, w1, hp0, hs]
          have k1 : Keep none_ h h := .refl _ _
          have hi : 0 < T.length := by omega
          have hb : ∀ j, j < 0 → hitM T key (probe key T.length j) = false := fun j hj => by omega
          have s1' := s.mono k1.size fun b hb => k1.blk b (s.lt b hb) (fun h => h)
          have hs1 := s1'.str
          have hrem : ∀ x : Int, intRes .rem .i64 x (T.length : Int) = some (.int .i64 (x.tmod T.length)) := fun x => intRes_rem _ _ _ (by omega)
          have hpl := probe_lt key (n := T.length) (by omega) 0
          have hnx := probe_next key T.length 0
          have hsat : T[probe key T.length 0]? = some T[probe key T.length 0] := List.getElem?_eq_getElem hpl
          generalize hpe : probe key T.length 0 = at_ at hpl hnx hsat ⊢
          obtain ⟨bk, cs, hsa, _, hr, hc⟩ := s1'.slots.elem at_ hpl
          subst hsa
          obtain ⟨wv, cn, sv, nv, xv, rfl, hkey, u1, u2, u3, u4⟩ := slot_cells hr
          have hcells : HC.cellsIn h[bk]? (at_ * 6) 6 = some [wv, .int .i64 cn, sv, nv, xv, .bool T[at_].isSome] := hc
          have hidx : ∀ (K : Value → Heap → Prop) (h : Heap), indexAddrS Try.prog 60 (.slice (some ⟨bk, 0, none⟩) T.length sc) (.int .i64 (at_ : Int)) h K = K (.pointer (some ⟨bk, at_ * 6, none⟩)) h := by
            intro K h
            rw [indexAddrS_slice _ _ _ _ _ _ (by omega) (by omega) rfl]
            simp [elSz]
          have w1 : IntKind.i64.wrap ((0 : Int) + 1) = ((0 + 1 : Nat) : Int) := by rw [wrap_i64 (by omega) (by omega)]; rfl
          have w2 : IntKind.i64.wrap ((at_ : Int) + 1) = (at_ : Int) + 1 := wrap_i64 (by omega) (by omega)
          have w3 : ((at_ : Int) + 1).tmod (T.length : Int) = ((probe key T.length (0 + 1) : Nat) : Int) := by
            rw [← hnx]; exact (Int.ofNat_tmod _ _).symm
          simp -dsimp [hidx, hcells, u1, u2, u3, u4]
          generalize hH : Array.setIfInBounds _ h.size _ = h2
          have hz2 : h2.size = h.size + 1 := by rw [← hH]; simp
          have k12 : Keep none_ h h2 := by rw [← hH]; exact ((Keep.refl none_ h).pushed _).setted _ (fun hh => absurd hh (by omega))
          have k2 := k1.trans k12 (fun _ _ h => h)
          have hfb : h2[h.size]? = some (.cells #[wv, .int .i64 cn, sv, nv, xv, .bool T[at_].isSome] 68 (0, 0)) := by rw [← hH]; exact set_same _ (by simp)
          have hkey2 : SlRep rInt R h2 wv ((T[at_].map (·.key)).getD []) := hkey.mono fun b hb => ⟨hb, k12.blk b (by have := hRl b hb; have := k1.size; omega) (fun h => h)⟩
          have hk2 : SlRep rInt G h2 (.slice ka key.length kc) key := hk.mono fun b hb => ⟨hb, k2.blk b (hG b hb) (fun h => h)⟩
          cases hta : T[at_] with
          | none =>
            have hit : hitM T key (probe key T.length 0) = true := by unfold hitM; rw [hpe, hsat, hta]
            have hfm := find_hit hi hb hit
            rw [hta] at hfb
            simp -dsimp
            refine hK _ _ ⟨?_, k2⟩
            rw [hfm, hpe]
          | some c =>
            rw [hta] at hfb hkey2
            simp -dsimp [hfb]
            refine call_by (equal_spec hkey2 hk2) ?_
            rintro _ h2' ⟨rfl, hh⟩
            obtain rfl := hh.symm
            have hke : ((Option.map (fun x => x.key) (some c)).getD []) = c.key := rfl
            rw [hke]
            have hhit : hitM T key (probe key T.length 0) = decide (c.key = key) := by unfold hitM; rw [hpe, hsat, hta]
            by_cases he : c.key = key
            · have hd : decide (c.key = key) = true := decide_eq_true he
              rw [hd]
              have hfm := find_hit hi hb (hhit.trans hd)
              simp -dsimp
              refine hK _ _ ⟨?_, k2⟩
              rw [hfm, hpe]
            · have hd : decide (c.key = key) = false := decide_eq_false he
              rw [hd]
              have hb' : ∀ j, j < 0 + 1 → hitM T key (probe key T.length j) = false := fun j hj => by
                by_cases hji : j < 0
                · exact hb j hji
                · have : j = 0 := by omega
                  subst this
                  exact hhit.trans hd
              by_cases hin : 0 + 1 < T.length
              · have hin' : (((0 + 1 : Nat) : Int) < (T.length : Int)) := by omega
                have v1 : IntKind.i64.wrap 1 = 1 := by decide
                have v2 : (1 : Int) < (T.length : Int) := by omega
                have v3 : 1 < T.length := by omega
                simp -dsimp [v1, v2, w2, hrem, w3]
                refine ⟨rfl, 0 + 1, ?_, rfl, ⟨k2, hin, hb'⟩, by show T.length - (0 + 1) < T.length + 1; omega⟩
                intro p hp
                simp at hp
                rcases hp with rfl | rfl | rfl | rfl | rfl <;> simp
              · have hin' : ¬ (((0 + 1 : Nat) : Int) < (T.length : Int)) := by omega
                have hfm := find_miss (T := T) (key := key) fun j hj => hb' j (by omega)
                have v1 : IntKind.i64.wrap 1 = 1 := by decide
                have v2 : ¬ (1 : Int) < (T.length : Int) := by omega
                have v3 : ¬ 1 < T.length := by omega
                simp -dsimp [v1, v2]
                refine hK _ _ ⟨?_, k2⟩
                rw [hfm]
  case' pass =>
    rintro i h1 g ⟨k1, hi, hb⟩
    have s1' := s.mono k1.size fun b hb => k1.blk b (s.lt b hb) (fun h => h)
    have hs1 := s1'.str
    have hrem : ∀ x : Int, intRes .rem .i64 x (T.length : Int) = some (.int .i64 (x.tmod T.length)) := fun x => intRes_rem _ _ _ (by omega)
    have hpl := probe_lt key (n := T.length) (by omega) i
    have hnx := probe_next key T.length i
    have hsat : T[probe key T.length i]? = some T[probe key T.length i] := List.getElem?_eq_getElem hpl
    generalize hpe : probe key T.length i = at_ at hpl hnx hsat ⊢
    obtain ⟨bk, cs, hsa, _, hr, hc⟩ := s1'.slots.elem at_ hpl
    subst hsa
    obtain ⟨wv, cn, sv, nv, xv, rfl, hkey, u1, u2, u3, u4⟩ := slot_cells hr
    have hcells : HC.cellsIn h1[bk]? (at_ * 6) 6 = some [wv, .int .i64 cn, sv, nv, xv, .bool T[at_].isSome] := hc
    have hidx : ∀ (K : Value → Heap → Prop) (h : Heap), indexAddrS Try.prog 60 (.slice (some ⟨bk, 0, none⟩) T.length sc) (.int .i64 (at_ : Int)) h K = K (.pointer (some ⟨bk, at_ * 6, none⟩)) h := by
      intro K h
      rw [indexAddrS_slice _ _ _ _ _ _ (by omega) (by omega) rfl]
      simp [elSz]
    have w1 : IntKind.i64.wrap ((i : Int) + 1) = (i : Int) + 1 := wrap_i64 (by omega) (by omega)
    have w2 : IntKind.i64.wrap ((at_ : Int) + 1) = (at_ : Int) + 1 := wrap_i64 (by omega) (by omega)
    have w3 : ((at_ : Int) + 1).tmod (T.length : Int) = ((probe key T.length (i + 1) : Nat) : Int) := by
      rw [← hnx]; exact (Int.ofNat_tmod _ _).symm
    simp -dsimp [hs1, hidx, hcells, u1, u2, u3, u4]
    generalize hH : Array.setIfInBounds _ h1.size _ = h2
    have hz2 : h2.size = h1.size + 1 := by rw [← hH]; simp
    have k12 : Keep none_ h1 h2 := by rw [← hH]; exact ((Keep.refl none_ h1).pushed _).setted _ (fun hh => absurd hh (by omega))
    have k2 := k1.trans k12 (fun _ _ h => h)
    have hfb : h2[h1.size]? = some (.cells #[wv, .int .i64 cn, sv, nv, xv, .bool T[at_].isSome] 68 (0, 0)) := by rw [← hH]; exact set_same _ (by simp)
    have hkey2 : SlRep rInt R h2 wv ((T[at_].map (·.key)).getD []) := hkey.mono fun b hb => ⟨hb, k12.blk b (by have := hRl b hb; have := k1.size; omega) (fun h => h)⟩
    have hk2 : SlRep rInt G h2 (.slice ka key.length kc) key := hk.mono fun b hb => ⟨hb, k2.blk b (hG b hb) (fun h => h)⟩
    cases hta : T[at_] with
    | none =>
      have hit : hitM T key (probe key T.length i) = true := by unfold hitM; rw [hpe, hsat, hta]
      have hfm := find_hit hi hb hit
      rw [hta] at hfb
      simp -dsimp
      refine hK _ _ ⟨?_, k2⟩
      rw [hfm, hpe]
    | some c =>
      rw [hta] at hfb hkey2
      simp -dsimp [hfb]
      refine call_by (equal_spec hkey2 hk2) ?_
      rintro _ h2' ⟨rfl, hh⟩
      obtain rfl := hh.symm
      have hke : ((Option.map (fun x => x.key) (some c)).getD []) = c.key := rfl
      rw [hke]
      have hhit : hitM T key (probe key T.length i) = decide (c.key = key) := by unfold hitM; rw [hpe, hsat, hta]
      by_cases he : c.key = key
      · have hd : decide (c.key = key) = true := decide_eq_true he
        rw [hd]
        have hfm := find_hit hi hb (hhit.trans hd)
        simp -dsimp
        refine hK _ _ ⟨?_, k2⟩
        rw [hfm, hpe]
      · have hd : decide (c.key = key) = false := decide_eq_false he
        rw [hd]
        have hb' : ∀ j, j < i + 1 → hitM T key (probe key T.length j) = false := fun j hj => by
          by_cases hji : j < i
          · exact hb j hji
          · have : j = i := by omega
            subst this
            exact hhit.trans hd
        by_cases hin : i + 1 < T.length
        · have hin' : ((i : Int) + 1 < (T.length : Int)) := by omega
          simp -dsimp [w1, hin', w2, hrem, w3]
          refine ⟨rfl, i + 1, ?_, rfl, ⟨k2, hin, hb'⟩, by show T.length - (i + 1) < T.length - i; omega⟩
          intro p hp
          simp at hp
          rcases hp with rfl | rfl | rfl | rfl | rfl <;> simp
        · have hin' : ¬ ((i : Int) + 1 < (T.length : Int)) := by omega
          have hfm := find_miss (T := T) (key := key) fun j hj => hb' j (by omega)
          simp -dsimp [w1, hin']
          refine hK _ _ ⟨?_, k2⟩
          rw [hfm]
end Go.Proofs

/-
  Cells in memory of their own.
-/
namespace Go.HC
/-- No row of a cell is too long. -/
structure CellSmall (c : CellM) : Prop where
  key : c.key.length < 1000000000
  sum : c.sum.length < 1000000000
  mn : c.mn.length < 1000000000
  mx : c.mx.length < 1000000000
end Go.HC
namespace Go.Proofs
open Go Go.HC

set_option maxHeartbeats 40000000 in
set_option maxRecDepth 10000 in
theorem cellOwn_th {F : Nat → Prop} {h : Heap} {cs : List Value} {c : CellM} (hr : rCell.rep F h cs c) (hF : ∀ b, F b → b < h.size) (hc : CellSmall c) :
    CallH Try.prog 60 #[.agg cs.toArray] h fun r h' => ∃ ds G, r = .agg ds.toArray ∧ rCell.rep G h' ds c ∧ Keep none_ h h' ∧ (∀ b, G b → h.size ≤ b ∧ b < h'.size) ∧ ∀ b, G b → Thaw h' b := by
  refine callH_by fun K hK => ?_
  refine enter [.cell 2 39] Try.func60 rfl rfl (by kernel_rfl) rfl ?_
  obtain ⟨kv, sv, nv, xv, rfl, r1, r2, r3, r4⟩ := hr
  obtain ⟨ka, kc, rfl, _, _⟩ := r1.val
  obtain ⟨sa, sc, rfl, _, _⟩ := r2.val
  obtain ⟨na, nc, rfl, _, _⟩ := r3.val
  obtain ⟨xa, xc, rfl, _, _⟩ := r4.val
  simp -dsimp [boxS_eq]
  generalize hB : (h.push _).push _ = h0
  have hz0 : h0.size = h.size + 2 := by rw [← hB]; simp
  have k0 : Keep none_ h h0 := by rw [← hB]; exact ((Keep.refl none_ h).pushed _).pushed _
  have hb0 : h0[h.size]? = some (.cells #[.slice ka c.key.length kc, .int .i64 c.count, .slice sa c.sum.length sc, .slice na c.mn.length nc, .slice xa c.mx.length xc] 39 (0, 0)) := by rw [← hB]; exact push_at (push_new _ _)
  have ht0 : h.size + 1 < h0.size := by omega
  have m1 : ∀ (h' : Heap), Keep none_ h h' → ∀ b, F b → F b ∧ h'[b]? = h[b]? := fun h' k b hb => ⟨hb, k.blk b (hF b hb) (fun h => h)⟩
  refine drawn_by [⟨0, true, []⟩, ⟨1, true, []⟩, ⟨3, true, []⟩, ⟨4, true, []⟩, ⟨5, true, []⟩, ⟨6, true, []⟩, ⟨8, true, []⟩, ⟨9, true, []⟩, ⟨11, true, []⟩, ⟨12, true, []⟩, ⟨2, false, [3, 4, 5, 6, 8, 9, 11, 12]⟩, ⟨7, false, [3, 4, 8, 9, 11, 12]⟩, ⟨10, false, [3, 4, 11, 12]⟩, ⟨13, false, [3, 4]⟩, ⟨14, false, []⟩, ⟨15, false, []⟩] (by kernel_rfl) (by kernel_rfl) ?_
  simp -dsimp [hb0]
  refine call_by (cloneInt_spec (r1.mono (m1 h0 k0)) (fun b hb => by have := hF b hb; omega) (by have := hc.key; omega)) ?_
  rintro _ h1 ⟨o1, g1, k1, n1⟩
  obtain ⟨a1, c1, rfl⟩ := g1.val
  have k01 := k0.trans k1 (fun _ _ h => h)
  have hb1 := k1.at hb0 (fun h => h)
  have e1 := k1.size
  simp -dsimp [again_cons, hb1]
  refine call_by (cloneInt_spec (r2.mono (m1 h1 k01)) (fun b hb => by have := hF b hb; omega) (by have := hc.sum; omega)) ?_
  rintro _ h2 ⟨o2, g2, k2, n2⟩
  obtain ⟨a2, c2, rfl⟩ := g2.val
  have k02 := k01.trans k2 (fun _ _ h => h)
  have hb2 := k2.at hb1 (fun h => h)
  have e2 := k2.size
  simp -dsimp [again_cons, hb2]
  refine call_by (cloneInt_spec (r3.mono (m1 h2 k02)) (fun b hb => by have := hF b hb; omega) (by have := hc.mn; omega)) ?_
  rintro _ h3 ⟨o3, g3, k3, n3⟩
  obtain ⟨a3, c3, rfl⟩ := g3.val
  have k03 := k02.trans k3 (fun _ _ h => h)
  have hb3 := k3.at hb2 (fun h => h)
  have e3 := k3.size
  simp -dsimp [again_cons, hb3]
  refine call_by (cloneInt_spec (r4.mono (m1 h3 k03)) (fun b hb => by have := hF b hb; omega) (by have := hc.mx; omega)) ?_
  rintro _ h4 ⟨o4, g4, k4, n4⟩
  obtain ⟨a4, c4, rfl⟩ := g4.val
  have k04 := k03.trans k4 (fun _ _ h => h)
  have hb4 := k4.at hb3 (fun h => h)
  have e4 := k4.size
  have ht4 : h4[h.size + 1]? = some (.cells #[.slice none 0 0, .int .i64 0, .slice none 0 0, .slice none 0 0, .slice none 0 0] 39 (0, 0)) := by
    have : h0[h.size + 1]? = some (.cells #[.slice none 0 0, .int .i64 0, .slice none 0 0, .slice none 0 0, .slice none 0 0] 39 (0, 0)) := by
      rw [← hB]
      have : (h.push (.cells #[.slice ka c.key.length kc, .int .i64 c.count, .slice sa c.sum.length sc, .slice na c.mn.length nc, .slice xa c.mx.length xc] 39)).size = h.size + 1 := by simp
      rw [← this]; exact push_new _ _
    exact k4.at (k3.at (k2.at (k1.at this (fun h => h)) (fun h => h)) (fun h => h)) (fun h => h)
  have hset : ∀ o, (h4.setIfInBounds (h.size + 1) o)[h.size + 1]? = some o := fun o => set_same o (by omega)
  simp -dsimp [again_cons, hb4, ht4, hset]
  generalize hH : h4.setIfInBounds (h.size + 1) _ = h5
  have hz5 : h5.size = h4.size := by rw [← hH]; simp
  have hold : ∀ b, b ≠ h.size + 1 → h5[b]? = h4[b]? := fun b hn => by rw [← hH, set_other _ (fun e => hn e.symm)]
  have l1 := g1.own_lt
  have l2 := g2.own_lt
  have l3 := g3.own_lt
  have l4 := g4.own_lt
  refine hK _ _ ⟨_, fun b => o1 = some b ∨ o2 = some b ∨ o3 = some b ∨ o4 = some b, rfl, ⟨_, _, _, _, rfl, ?_, ?_, ?_, ?_⟩, ⟨by omega, fun b hb _ => by rw [hold b (by omega), k04.blk b hb (fun h => h)]⟩, ?_, ?_⟩
  · exact g1.ints.mono fun b hb => ⟨.inl hb, by
      have := n1 b hb
      have := l1 b hb
      rw [hold b (by omega), k4.blk b (by omega) (fun h => h), k3.blk b (by omega) (fun h => h), k2.blk b (by omega) (fun h => h)]⟩
  · exact g2.ints.mono fun b hb => ⟨.inr (.inl hb), by
      have := n2 b hb
      have := l2 b hb
      rw [hold b (by omega), k4.blk b (by omega) (fun h => h), k3.blk b (by omega) (fun h => h)]⟩
  · exact g3.ints.mono fun b hb => ⟨.inr (.inr (.inl hb)), by
      have := n3 b hb
      have := l3 b hb
      rw [hold b (by omega), k4.blk b (by omega) (fun h => h)]⟩
  · exact g4.ints.mono fun b hb => ⟨.inr (.inr (.inr hb)), by
      have := n4 b hb
      rw [hold b (by omega)]⟩
  · rintro b (hb | hb | hb | hb)
    · have := n1 b hb; have := l1 b hb; omega
    · have := n2 b hb; have := l2 b hb; omega
    · have := n3 b hb; have := l3 b hb; omega
    · have := n4 b hb; have := l4 b hb; omega
  · rintro b (hb | hb | hb | hb)
    · refine (g1.thaw b hb).at ?_
      have := n1 b hb; have := l1 b hb
      rw [hold b (by omega), k4.blk b (by omega) (fun h => h), k3.blk b (by omega) (fun h => h), k2.blk b (by omega) (fun h => h)]
    · refine (g2.thaw b hb).at ?_
      have := n2 b hb; have := l2 b hb
      rw [hold b (by omega), k4.blk b (by omega) (fun h => h), k3.blk b (by omega) (fun h => h)]
    · refine (g3.thaw b hb).at ?_
      have := n3 b hb; have := l3 b hb
      rw [hold b (by omega), k4.blk b (by omega) (fun h => h)]
    · refine (g4.thaw b hb).at ?_
      have := n4 b hb
      rw [hold b (by omega)]
theorem cellOwn_spec {F : Nat → Prop} {h : Heap} {cs : List Value} {c : CellM} (hr : rCell.rep F h cs c) (hF : ∀ b, F b → b < h.size) (hc : CellSmall c) :
    CallH Try.prog 60 #[.agg cs.toArray] h fun r h' => ∃ ds G, r = .agg ds.toArray ∧ rCell.rep G h' ds c ∧ Keep none_ h h' ∧ ∀ b, G b → h.size ≤ b ∧ b < h'.size :=
  (cellOwn_th hr hF hc).mono fun _ _ ⟨ds, G, e, r, k, n, _⟩ => ⟨ds, G, e, r, k, n⟩

set_option maxRecDepth 10000 in
theorem add_spec (x y : Int) (h : Heap) : CallH Try.prog 50 #[.int .i64 x, .int .i64 y] h fun r h' => r = .int .i64 (IntKind.i64.wrap (x + y)) ∧ h' = h := by
  refine enter [.tmp 4] Try.func50 rfl rfl (by kernel_rfl) rfl ?_
  simp -dsimp
set_option maxRecDepth 10000 in
theorem min_spec (x y : Int) (h : Heap) : CallH Try.prog 51 #[.int .i64 x, .int .i64 y] h fun r h' => r = .int .i64 (min x y) ∧ h' = h := by
  refine enter [.tmp 4] Try.func51 rfl rfl (by kernel_rfl) rfl ?_
  simp -dsimp
  done
set_option maxRecDepth 10000 in
theorem max_spec (x y : Int) (h : Heap) : CallH Try.prog 52 #[.int .i64 x, .int .i64 y] h fun r h' => r = .int .i64 (max x y) ∧ h' = h := by
  refine enter [.tmp 4] Try.func52 rfl rfl (by kernel_rfl) rfl ?_
  simp -dsimp
  done
end Go.Proofs

/-
  HC, part 23: a drawn region in which operations stand in no order, whatever they do; each one's own promise is kept whatever else has been done ahead.
-/
namespace Go.HC
/-- What is said of an operation: it looks, and sees v; or it acts, leaves all older blocks, and promises Q. -/
inductive Sp
  | look (v : Value)
  | act (Q : Value → Heap → Prop)
abbrev Sps := List (List Nat × Sp)
def dstOf (ops : List Oper) (i : Nat) : Option Tmp := (ops[i]?).bind (·.dst)
def rdsOf (sp : Sps) (i : Nat) : List Nat := ((sp[i]?).map (·.1)).getD []
/-- What earlier operations promised, as the frame shows it. -/
def rdS (ops : List Oper) (sp : Sps) (h1 : Heap) : List Nat → L → (L → Prop) → Prop
  | [], l, C => C l
  | j :: js, l, C => match sp[j]? with
    | some (_, .look v) => rdS ops sp h1 js (putl (dstOf ops j) v l) C
    | some (_, .act Q) => ∀ v hj, Q v hj → Keep none_ hj h1 → rdS ops sp h1 js (putl (dstOf ops j) v l) C
    | none => False
/-- The same, looked up. -/
def item (ops : List Oper) (sp : Sps) (j : Nat) : Option Tmp × Option Sp := (dstOf ops j, (sp[j]?).map (·.2))
def rdI (h1 : Heap) : List (Option Tmp × Option Sp) → L → (L → Prop) → Prop
  | [], l, C => C l
  | (d, s) :: r, l, C => match s with
    | some (.look v) => rdI h1 r (putl d v l) C
    | some (.act Q) => ∀ v hj, Q v hj → Keep none_ hj h1 → rdI h1 r (putl d v l) C
    | none => False
def doS (P : Program) (o : Option Oper) (s : Sp) (l : L) (b : Base) (h1 : Heap) : Prop :=
  match o with
  | none => False
  | some o => match s with
    | .look v => vop P o.op (ev l b) h1 = some v
    | .act Q => os P o l b h1 (fun v h2 => Keep none_ h1 h2 ∧ Q v h2)
def obl (P : Program) (ops : List Oper) (sp : Sps) (l : L) (b : Base) (h : Heap) : Nat → Sps → Prop
  | _, [] => True
  | i, (rd, s) :: rest => (∀ h1, Keep none_ h h1 → rdS ops sp h1 rd l (fun l' => doS P ops[i]? s l' b h1)) ∧ obl P ops sp l b h (i + 1) rest

def anyOk (ops : List Oper) (rds : List (List Nat)) (tail : List Di) : Bool :=
  (!Region.departs ops.toArray || (upM .text ops.toArray && upM .gc ops.toArray)) && upB ops.toArray && Region.noSelect ops.toArray && decide (rds.length ≤ ops.length) &&
  ((List.range rds.length).all fun i => match ops[i]? with
    | none => false
    | some o => o.guard.isNone && o.dst.isSome && ((rds.getD i []).all fun j => decide (j < rds.length) && (depsOf ops.toArray i).contains j) &&
      o.op.operands.toList.all fun x => match x with
        | .tmp t => ((rds.getD i []).any fun j => dstOf ops j == some t) || ((List.range rds.length).all fun j => dstOf ops j != some t)
        | _ => true) &&
  ((List.range rds.length).all fun i => (List.range rds.length).all fun j => i == j || dstOf ops i != dstOf ops j) &&
  (tail.all fun d => decide (rds.length ≤ d.i) && (List.range rds.length).all fun x => anc ops.toArray ops.length x d.i) &&
  pairB ops.toArray tail && (List.range rds.length ++ tail.map (·.i)).isPerm (List.range ops.length) &&
  tail.all fun d => !d.mv || (match ops[d.i]? with | some o => valOp o.op | none => false)

def putsL (ops : List Oper) (vals : Nat → Value) : List Nat → L → L
  | [], l => l
  | j :: js, l => putsL ops vals js (putl (dstOf ops j) (vals j) l)

section
variable {P : Program} {ops : List Oper} {sp : Sps}
def Post (sp : Sps) (i : Nat) (v : Value) (h1 : Heap) : Prop :=
  match sp[i]? with
  | some (_, .look u) => v = u
  | some (_, .act Q) => ∃ hj, Q v hj ∧ Keep none_ hj h1
  | none => False
theorem Post.keep {i : Nat} {v : Value} {h1 h2 : Heap} (hp : Post sp i v h1) (k : Keep none_ h1 h2) : Post sp i v h2 := by
  unfold Post at hp ⊢
  split at hp
  · exact hp
  · obtain ⟨hj, hq, hk⟩ := hp
    exact ⟨hj, hq, hk.trans k fun _ _ h => h⟩
  · exact hp
theorem rdS_use {h1 : Heap} {vals : Nat → Value} {C : L → Prop} : ∀ (js : List Nat) {l : L}, (∀ j ∈ js, Post sp j (vals j) h1) → rdS ops sp h1 js l C → C (putsL ops vals js l)
  | [], _, _, h => h
  | j :: js, l, hp, h => by
    have hj := hp j (List.mem_cons_self ..)
    have hp' : ∀ j ∈ js, Post sp j (vals j) h1 := fun i hi => hp i (List.mem_cons_of_mem _ hi)
    unfold rdS at h
    unfold Post at hj
    split at h
    · rename_i hs
      rw [hs] at hj
      have hj : vals j = _ := hj
      rw [← hj] at h
      exact rdS_use js hp' h
    · rename_i hs
      rw [hs] at hj
      obtain ⟨hh, hq, hk⟩ := hj
      exact rdS_use js hp' (h _ _ hq hk)
    · exact h.elim
theorem rdS_mono {h1 : Heap} {C C' : L → Prop} : ∀ (js : List Nat) {l : L}, rdS ops sp h1 js l C → (∀ l, C l → C' l) → rdS ops sp h1 js l C'
  | [], _, h, hc => hc _ h
  | j :: js, l, h, hc => by
    unfold rdS at h ⊢
    split at h
    · exact rdS_mono js h hc
    · exact fun v hj hq hk => rdS_mono js (h v hj hq hk) hc
    · exact h
theorem rdS_of_rdI {h1 : Heap} {C : L → Prop} : ∀ (js : List Nat) {l : L}, rdI h1 (js.map (item ops sp)) l C → rdS ops sp h1 js l C
  | [], _, h => h
  | j :: js, l, h => by
    unfold rdS
    rw [List.map_cons] at h
    unfold item rdI at h
    split
    · rename_i hs
      rw [hs] at h
      exact rdS_of_rdI js h
    · rename_i hs
      rw [hs] at h
      exact fun v hj hq hk => rdS_of_rdI js (h v hj hq hk)
    · rename_i hs
      rw [hs] at h
      exact h
theorem look_putl_ne {d : Option Tmp} {v : Value} {l : L} {b : Base} {t : Nat} (h : d ≠ some t) : look (putl d v l) b t = look l b t := by
  cases d with
  | none => rfl
  | some d =>
    have hne : d ≠ t := fun e => h (by rw [e])
    simp [putl, hne]
theorem look_puts_ne {vals : Nat → Value} {b : Base} {t : Nat} : ∀ (js : List Nat) {l : L}, (∀ j ∈ js, dstOf ops j ≠ some t) → look (putsL ops vals js l) b t = look l b t
  | [], _, _ => rfl
  | j :: js, l, h => by
    unfold putsL
    rw [look_puts_ne js (fun i hi => h i (List.mem_cons_of_mem _ hi)), look_putl_ne (h j (List.mem_cons_self ..))]
theorem look_puts_eq {vals : Nat → Value} {b : Base} {t j : Nat} (hj : dstOf ops j = some t) : ∀ (js : List Nat) {l : L}, (∀ i ∈ js, dstOf ops i = some t → i = j) → j ∈ js → look (putsL ops vals js l) b t = vals j
  | [], _, _, h => by cases h
  | i :: js, l, hu, h => by
    unfold putsL
    by_cases hm : j ∈ js
    · exact look_puts_eq hj js (fun x hx => hu x (List.mem_cons_of_mem _ hx)) hm
    · have hij : i = j := by
        rcases List.mem_cons.1 h with h | h
        · exact h.symm
        · exact absurd h hm
      subst hij
      rw [look_puts_ne js (fun x hx he => hm (hu x (List.mem_cons_of_mem _ hx) he ▸ hx)), hj]
      simp [putl]
theorem obl_get {l : L} {b : Base} {h : Heap} : ∀ (rest : Sps) (i : Nat) {k : Nat} {rd : List Nat} {s : Sp}, obl P ops sp l b h i rest → rest[k]? = some (rd, s) →
    ∀ h1, Keep none_ h h1 → rdS ops sp h1 rd l (fun l' => doS P ops[i + k]? s l' b h1)
  | [], _, _, _, _, _, hk => by simp at hk
  | (rd', s') :: rest, i, k, rd, s, ho, hk => by
    cases k with
    | zero =>
      simp only [List.getElem?_cons_zero, Option.some.injEq, Prod.mk.injEq] at hk
      obtain ⟨rfl, rfl⟩ := hk
      exact ho.1
    | succ k =>
      rw [List.getElem?_cons_succ] at hk
      have := obl_get rest (i + 1) ho.2 hk
      rw [show i + 1 + k = i + (k + 1) by omega] at this
      exact this

/-- What holds while operations are done. -/
structure Mid (P : Program) (ops : List Oper) (sp : Sps) (n : Nat) (l : L) (b : Base) (h : Heap) (E : List Nat) (a : Act) (h1 : Heap) : Prop where
  size : a.tmps.size = n
  defers : a.defers = b.d.map markOf
  other : ∀ t, (∀ j ∈ E, dstOf ops j ≠ some t) → a.tmps.getD t undef = look l b t
  val : ∀ j ∈ E, ∃ d, dstOf ops j = some d ∧ Post sp j (a.tmps.getD d undef) h1
  keep : Keep none_ h h1
def valsOf (ops : List Oper) (a : Act) (j : Nat) : Value := match dstOf ops j with | some d => a.tmps.getD d undef | none => undef
theorem Mid.post {n : Nat} {l : L} {b : Base} {h h1 : Heap} {E : List Nat} {a : Act} (m : Mid P ops sp n l b h E a h1) : ∀ j ∈ E, Post sp j (valsOf ops a j) h1 := by
  intro j hj
  obtain ⟨d, hd, hp⟩ := m.val j hj
  unfold valsOf
  rw [hd]; exact hp
theorem Mid.look {n : Nat} {l : L} {b : Base} {h h1 : Heap} {E : List Nat} {a : Act} (m : Mid P ops sp n l b h E a h1) {js : List Nat} (hjs : ∀ j ∈ js, j ∈ E) (hu : ∀ i ∈ E, ∀ j ∈ E, dstOf ops i = dstOf ops j → i = j) {t : Nat}
    (ht : (∃ j ∈ js, dstOf ops j = some t) ∨ ∀ j ∈ E, dstOf ops j ≠ some t) : a.tmps.getD t undef = HC.look (putsL ops (valsOf ops a) js l) b t := by
  by_cases hex : ∃ j ∈ js, dstOf ops j = some t
  · obtain ⟨j, hj, hd⟩ := hex
    rw [look_puts_eq hd js (fun i hi he => hu i (hjs i hi) j (hjs j hj) (by rw [he, hd])) hj]
    unfold valsOf
    rw [hd]
  · have hE := ht.resolve_left hex
    rw [look_puts_ne js (fun j hj => hE j (hjs j hj))]
    exact m.other t hE
theorem getD_setIfInBounds (a : Array Value) (d t : Nat) (v : Value) (hd : d < a.size) : (a.setIfInBounds d v).getD t undef = if d = t then v else a.getD t undef := by
  by_cases h : d = t
  · subst h; simp [hd]
  · simp [h, Array.getElem?_setIfInBounds_ne h]
theorem Mid.step {n : Nat} {l : L} {b : Base} {h h1 h2 : Heap} {E : List Nat} {a : Act} {s d : Nat} {v : Value} (m : Mid P ops sp n l b h E a h1) (hd : dstOf ops s = some d) (hdn : d < n) (hu : ∀ j ∈ E, dstOf ops j ≠ some d) (hk : Keep none_ h1 h2) (hp : Post sp s v h2) :
    Mid P ops sp n l b h (s :: E) (a.put (some d) v) h2 := by
  have hsz : d < a.tmps.size := by rw [m.size]; exact hdn
  refine ⟨by simp [Act.put, m.size], m.defers, fun t ht => ?_, fun j hj => ?_, m.keep.trans hk fun _ _ h => h⟩
  · have hne : d ≠ t := fun e => ht s (List.mem_cons_self ..) (by rw [hd, e])
    show (a.tmps.setIfInBounds d v).getD t undef = _
    rw [getD_setIfInBounds _ _ _ _ hsz, if_neg hne]
    exact m.other t fun j hj => ht j (List.mem_cons_of_mem _ hj)
  · show ∃ d', dstOf ops j = some d' ∧ Post sp j ((a.tmps.setIfInBounds d v).getD d' undef) h2
    rcases List.mem_cons.1 hj with rfl | hj
    · refine ⟨d, hd, ?_⟩
      rw [getD_setIfInBounds _ _ _ _ hsz, if_pos rfl]
      exact hp
    · obtain ⟨d', hd', hp'⟩ := m.val j hj
      refine ⟨d', hd', ?_⟩
      rw [getD_setIfInBounds _ _ _ _ hsz, if_neg (fun e => hu j hj (by rw [hd', e]))]
      exact hp'.keep hk
theorem ev_other {l l' : L} {b : Base} {x : Operand} (h : ∀ t, x ≠ .tmp t) : ev l b x = ev l' b x := by
  cases x with
  | tmp t => exact absurd rfl (h t)
  | const v => rfl
  | global k => rfl
  | func f => rfl
theorem any_arun {n : Nat} {κ : L → Base → Heap → Prop} {l : L} {b : Base} {h : Heap} (sp : Sps) (tail : List Di) (hok : anyOk ops (sp.map (·.1)) tail = true) (hopn : opsOk n ops.toArray = true)
    (hob : obl P ops sp l b h 0 sp) (hfin : ∀ h1, Keep none_ h h1 → rdS ops sp h1 (List.range sp.length) l (fun l' => dsem P ops.toArray tail [] κ l' b h1)) :
    ∀ (σ : List Nat) (E : List Nat) (a : Act) (h1 : Heap), (E ++ σ).Perm (List.range ops.length) → (∀ j ∈ E, j < sp.length) → DownC ops.toArray E → Lin ops.toArray E σ → Mid P ops sp n l b h E a h1 →
      arun P ops.toArray σ (fun a' h' => ∃ l', IsFr n a' l' b ∧ κ l' b h') a h1 := by
  unfold anyOk at hok
  simp only [List.length_map] at hok
  rw [Bool.and_eq_true, Bool.and_eq_true, Bool.and_eq_true, Bool.and_eq_true, Bool.and_eq_true, Bool.and_eq_true, Bool.and_eq_true, Bool.and_eq_true, Bool.and_eq_true] at hok
  obtain ⟨⟨⟨⟨⟨⟨⟨⟨⟨_, _⟩, hsel⟩, hle⟩, hops⟩, hdst⟩, htl⟩, hpair⟩, hperm⟩, hval⟩ := hok
  have hle := of_decide_eq_true hle
  have hperm := List.isPerm_iff.1 hperm
  have huniq : ∀ i, i < sp.length → ∀ j, j < sp.length → dstOf ops i = dstOf ops j → i = j := by
    intro i hi j hj he
    have h1 := List.all_eq_true.1 (List.all_eq_true.1 hdst i (List.mem_range.2 hi)) j (List.mem_range.2 hj)
    rcases Bool.or_eq_true_iff.1 h1 with h1 | h1
    · simpa using h1
    · simp [he] at h1
  have hnd : ∀ {σ E : List Nat}, (E ++ σ).Perm (List.range ops.length) → (E ++ σ).Nodup := fun hp => hp.symm.nodup List.nodup_range
  have hfinish : ∀ (σ : List Nat) (E : List Nat) (a : Act) (h1 : Heap), (E ++ σ).Perm (List.range ops.length) → (∀ j ∈ E, j < sp.length) → DownC ops.toArray E → Lin ops.toArray E σ → Mid P ops sp n l b h E a h1 → (∀ i, i < sp.length → i ∈ E) →
      arun P ops.toArray σ (fun a' h' => ∃ l', IsFr n a' l' b ∧ κ l' b h') a h1 := by
    intro σ E a h1 hp hE hdc hlin m hall
    have hEp : E.Perm (List.range sp.length) := (List.perm_ext_iff_of_nodup (List.nodup_append.1 (hnd hp)).1 List.nodup_range).2 fun j => ⟨fun hj => List.mem_range.2 (hE j hj), fun hj => hall j (List.mem_range.1 hj)⟩
    have hσ : σ.Perm (tail.map (·.i)) := by
      have h1 : (E ++ σ).Perm (E ++ tail.map (·.i)) := hp.trans (hperm.symm.trans (hEp.symm.append_right _))
      exact (List.perm_append_left_iff E).1 h1
    have hfr : IsFr n a (putsL ops (valsOf ops a) (List.range sp.length) l) b := by
      refine ⟨m.size, fun t => ?_, m.defers⟩
      refine m.look (fun j hj => hall j (List.mem_range.1 hj)) (fun i hi j hj he => huniq i (hE i hi) j (hE j hj) he) ?_
      by_cases hex : ∃ j ∈ List.range sp.length, dstOf ops j = some t
      · exact .inl hex
      · exact .inr fun j hj he => hex ⟨j, List.mem_range.2 (hE j hj), he⟩
    have hd := rdS_use (ops := ops) (vals := valsOf ops a) (List.range sp.length) (fun j hj => m.post j (hall j (List.mem_range.1 hj))) (hfin h1 m.keep)
    have hval' : tail.all (fun d => !d.mv || (match ops.toArray[d.i]? with | some o => valOp o.op | none => false)) = true := by
      simpa only [List.getElem?_toArray] using hval
    have hcr := crun_of_dsem (P := P) hopn tail (pa := []) hval' (by simp) hfr hd
    refine arun_of_crun hsel σ tail E [] a h1 hσ (List.nodup_append.1 (hnd hp)).2.1 (fun d hd => ?_) hdc hlin (fun d hd he => ?_) hpair hcr
    · have h2 : d.i ∈ List.range ops.length := hperm.subset (List.mem_append_right _ (List.mem_map.2 ⟨d, hd, rfl⟩))
      have h3 := List.mem_range.1 h2
      simp [h3]
    · have h1 := List.all_eq_true.1 htl d hd
      rw [Bool.and_eq_true] at h1
      have h2 := of_decide_eq_true h1.1
      have h3 := hE _ he
      omega
  intro σ
  induction σ with
  | nil =>
    intro E a h1 hp hE hdc hlin m
    refine hfinish [] E a h1 hp hE hdc hlin m fun i hi => ?_
    have := hp.symm.subset (List.mem_range.2 (Nat.lt_of_lt_of_le hi hle))
    simpa using this
  | cons s σ ih =>
    intro E a h1 hp hE hdc hlin m
    by_cases hall : ∀ i, i < sp.length → i ∈ E
    · exact hfinish _ E a h1 hp hE hdc hlin m hall
    have hsm : s < sp.length := by
      refine Classical.byContradiction fun hns => hall fun i hi => ?_
      have hsr : s ∈ List.range sp.length ++ tail.map (·.i) := hperm.symm.subset (hp.subset (List.mem_append_right _ (List.mem_cons_self ..)))
      rcases List.mem_append.1 hsr with h2 | h2
      · exact absurd (List.mem_range.1 h2) hns
      · obtain ⟨d, hd, hds⟩ := List.mem_map.1 h2
        have h3 := List.all_eq_true.1 htl d hd
        rw [Bool.and_eq_true] at h3
        have h4 := List.all_eq_true.1 h3.2 i (List.mem_range.2 hi)
        rw [hds] at h4
        exact anc_mem hdc _ _ _ hlin.1 h4
    have hsE : s ∉ E := fun he => (List.nodup_append.1 (hnd hp)).2.2 _ he _ (List.mem_cons_self ..) rfl
    have hso := List.all_eq_true.1 hops s (List.mem_range.2 hsm)
    have hlt : s < ops.length := Nat.lt_of_lt_of_le hsm hle
    simp only [List.getElem?_eq_getElem hlt] at hso
    have hos : ops.toArray[s]? = some ops[s] := by simp [hlt]
    rw [Bool.and_eq_true, Bool.and_eq_true, Bool.and_eq_true] at hso
    obtain ⟨⟨⟨hg, hds⟩, hrd⟩, hopr⟩ := hso
    obtain ⟨rd, q, hsp⟩ : ∃ rd q, sp[s]? = some (rd, q) := ⟨_, _, List.getElem?_eq_getElem hsm⟩
    have hrde : (sp.map (·.1)).getD s [] = rd := by
      rw [List.getD_eq_getElem?_getD, List.getElem?_map, hsp]; rfl
    rw [hrde] at hrd hopr
    have hrE : ∀ j ∈ rd, j ∈ E := by
      intro j hj
      have h2 := List.all_eq_true.1 hrd j hj
      rw [Bool.and_eq_true] at h2
      exact hlin.1 j (by simpa using h2.2)
    obtain ⟨d, hd⟩ := Option.isSome_iff_exists.1 hds
    have hdst' : dstOf ops s = some d := by unfold dstOf; rw [List.getElem?_eq_getElem hlt]; exact hd
    have hdn : d < n := opsOk_spec hopn hos d hd
    have hgn : ops[s].guard = none := by simpa using hg
    have hwant : wanted ops.toArray ops[s] a = true := by unfold wanted Region.wanted; rw [hgn]
    have hgu : ∀ i ∈ E, ∀ j ∈ E, dstOf ops i = dstOf ops j → i = j := fun i hi j hj he => huniq i (hE i hi) j (hE j hj) he
    have heval : execOp a.eval ops[s] = execOp (ev (putsL ops (valsOf ops a) rd l) b) ops[s] := by
      refine execOp_congr _ (fun cs b => Region.noSelect_spec hsel _ _ cs b hos) fun x hx => ?_
      have hfr0 : IsFr n a [] ⟨fun t => a.tmps.getD t undef, b.d⟩ := ⟨m.size, fun _ => rfl, m.defers⟩
      have h2 := List.all_eq_true.1 hopr x (by simpa using hx)
      cases x with
      | tmp t =>
        refine m.look (js := rd) hrE hgu ?_
        rcases Bool.or_eq_true_iff.1 h2 with h2 | h2
        · obtain ⟨j, hj, he⟩ := List.any_eq_true.1 h2
          exact .inl ⟨j, hj, by simpa using he⟩
        · refine .inr fun j hj he => ?_
          have h3 := List.all_eq_true.1 h2 j (List.mem_range.2 (hE j hj))
          simp [he] at h3
      | const v => rfl
      | global k => rfl
      | func f => rfl
    have hdo := rdS_use (ops := ops) (vals := valsOf ops a) rd (fun j hj => m.post j (hrE j hj)) (obl_get sp 0 hob hsp h1 m.keep)
    rw [Nat.zero_add, List.getElem?_eq_getElem hlt] at hdo
    have hp' : (s :: E ++ σ).Perm (List.range ops.length) := (List.perm_middle.symm).trans hp
    have hE' : ∀ j ∈ s :: E, j < sp.length := fun j hj => by
      rcases List.mem_cons.1 hj with rfl | hj
      · exact hsm
      · exact hE j hj
    have hdc' : DownC ops.toArray (s :: E) := by
      intro y hy z hz
      rcases List.mem_cons.1 hy with rfl | hy
      · exact List.mem_cons_of_mem _ (hlin.1 z hz)
      · exact List.mem_cons_of_mem _ (hdc y hy z hz)
    have hun : ∀ j ∈ E, dstOf ops j ≠ some d := fun j hj he => hsE (huniq j (hE j hj) s hsm (by rw [he, hdst']) ▸ hj)
    simp only [arun, hos]
    rw [if_pos hwant, heval, hd]
    cases q with
    | look v =>
      have hv : vop P ops[s].op (ev (putsL ops (valsOf ops a) rd l) b) h1 = some v := hdo
      have hvs : os P ops[s] (putsL ops (valsOf ops a) rd l) b h1 (fun v' h' => v' = v ∧ h' = h1) := vop_sound hv _ ⟨rfl, rfl⟩
      refine hp_mono _ hvs fun x h' hx => nextK_mono (fun v' h'' hh => ?_) x h' hx
      obtain ⟨rfl, rfl⟩ := hh
      exact ih (s :: E) _ _ hp' hE' hdc' hlin.2 (m.step hdst' hdn hun (.refl _ _) (by unfold Post; rw [hsp]))
    | act Q =>
      have hvs : os P ops[s] (putsL ops (valsOf ops a) rd l) b h1 (fun v h2 => Keep none_ h1 h2 ∧ Q v h2) := hdo
      refine hp_mono _ hvs fun x h' hx => nextK_mono (fun v' h'' hh => ?_) x h' hx
      exact ih (s :: E) _ _ hp' hE' hdc' hlin.2 (m.step hdst' hdn hun hh.1 (by unfold Post; rw [hsp]; exact ⟨_, hh.2, .refl _ _⟩))
/-- A drawn region, in any order. -/
theorem drawn_any {n : Nat} {ro : Option Nat} {id : Nat} {κ : Kont} {l : L} {b : Base} {h : Heap} (sp : Sps) (is : List Nat) (tail : List Di) (his : List.range sp.length = is) (hok : anyOk ops (sp.map (·.1)) tail = true) (hopn : opsOk n ops.toArray = true)
    (hob : obl P ops sp l b h 0 sp) (hfin : ∀ h1, Keep none_ h h1 → rdI h1 (is.map (item ops sp)) l (fun l' => dw P ops tail [] κ.nx l' b h1)) : gs P n ro (.region id ops.toArray true) κ l b h := by
  intro a w hw hfr fr k cs hkd hro
  subst hw
  subst his
  have hd := hok
  unfold anyOk at hd
  rw [Bool.and_eq_true, Bool.and_eq_true, Bool.and_eq_true, Bool.and_eq_true, Bool.and_eq_true, Bool.and_eq_true, Bool.and_eq_true, Bool.and_eq_true, Bool.and_eq_true] at hd
  obtain ⟨⟨⟨⟨⟨⟨⟨⟨⟨hdep, hup⟩, _⟩, _⟩, _⟩, _⟩, _⟩, _⟩, _⟩, _⟩ := hd
  let tp := w.tape w.drawn (.order fr.fn id)
  obtain ⟨hp1, hlin⟩ := sched_all (mixed := P.follows .mixedOrders) hdep hup tp
  have hfin' : ∀ h1, Keep none_ w.heap h1 → rdS ops sp h1 (List.range sp.length) l (fun l' => dsem P ops.toArray tail [] κ.nx l' b h1) := fun h1 hk => rdS_mono _ (rdS_of_rdI _ (hfin h1 hk)) fun l' hl' => dsem_of_dwF tail (by simp) hl'
  have har := any_arun (P := P) (κ := κ.nx) (l := l) (b := b) (h := w.heap) sp tail hok hopn hob hfin' _ [] a w.heap (by simpa using hp1) (fun j hj => by cases hj) (fun y hy => by cases hy) hlin
    ⟨hfr.size, hfr.defers, fun t _ => hfr.slot t, (fun j hj => by cases hj), .refl _ _⟩
  obtain ⟨a', w', hs, ⟨l', hfr', hk⟩, hst⟩ := steps_arun (P := P) (d := b.d) (fr := fr) (k := k) (cs := cs) hopn _ (w := { w with drawn := w.drawn + 1 }) hfr.size hfr.defers har
  exact ⟨.nx, a', w', l', b, ⟨hs.os, hs.tape, hs.output, (by first | exact hs.drawn | exact Nat.le_trans (Nat.le_succ _) hs.drawn)⟩, hfr', hk, .head stepR_region_draw hst⟩
/-- append onto a slice of no capacity. -/
theorem clone_at {h : Heap} {K : Value → Heap → Prop} {α : Type} {R : Rp α} {F F2 : Nat → Prop} {ty : TypeId} {T e by_ bk : Nat} {cs : Array Bool} {xs : List α} {a : Option Addr} {n c2 : Nat} {news : List Value} (hT : ElemT P T e R by_) (hF : ∀ b, F b → b < h.size)
    (hb : h[bk]? = some (.cells #[] e (0, 0))) (hFb : ¬ F bk) (hn : n = xs.length) (hrn : Cells F2 h a news) (hel : Elems R F h news xs) (hbig : xs.length * by_ ≤ 140737488355328) (h63 : xs.length < 9223372036854775808)
    (hk : ∀ v' h' own', Grow R e F h' v' xs own' → Keep none_ h h' → (∀ b, own' = some b → b = bk ∨ h.size ≤ b) → K v' h') :
    builtinS P .append #[T, T] ty cs #[.slice (some ⟨bk, 0, none⟩) 0 0, .slice a n c2] h K := by
  obtain ⟨z, hz, hzs⟩ := hT.zero
  subst hn
  have hnl := hel.len
  refine append_cells (F := F2) hT.el hT.sz hT.by_ hz R.pos (old := []) (by simp) (.nil _ _ _) hnl hrn (by simpa using hbig) (by simpa using h63) ?_ ?_ ?_
  · intro h0 _
    have : xs = [] := List.eq_nil_of_length_eq_zero h0
    subst this
    exact hk _ _ (some bk) (.inr ⟨bk, 0, #[], [], rfl, rfl, hb, hFb, by simp, Nat.le_refl _, by decide, by simp, rfl⟩) (.refl _ _) (fun b hb => by cases hb; exact .inl rfl)
  · intro h0 hroom
    omega
  · intro hgr cap hcap hcap63
    have hnew : ¬ F h.size := fun hh => by have := hF _ hh; omega
    have e0 : 0 + xs.length = xs.length := by omega
    rw [e0] at hcap ⊢
    refine hk _ _ (some h.size) (.inr ⟨h.size, cap, _, news, rfl, rfl, push_new _ _, hnew, ?_, hcap, hcap63, ?_, ?_⟩)
      (.push _ _ _) (fun b hb => .inr (by cases hb; exact Nat.le_refl _))
    · simp only [Array.size_append, List.size_toArray, zeroCells_size, hzs, hnl, List.length_nil, Nat.zero_add]
      rw [← Nat.add_mul]
      congr 1
      omega
    · rw [← hnl]
      simp only [Array.toList_append, List.nil_append]
      exact List.take_left
    · exact hel.mono fun b hFb => ⟨hFb, push_old _ (hF b hFb)⟩
end
end Go.HC

/-
  The document's copy of a cell.
-/
namespace Go.Proofs
open Go Go.HC

theorem _root_.Go.HC.Grow.at_ {h h' : Heap} {v : Value} {xs : List Int} {e : Nat} {own : Option Nat} (g : Grow rInt e none_ h v xs own) (k : Keep none_ h h') : Grow rInt e none_ h' v xs own :=
  g.mono (fun _ h => h.elim) fun b hb => ⟨fun h => h, k.blk b (g.own_lt b hb) (fun h => h)⟩
/-- A slice without cells, at a block that is new. -/
def EmptyAt (n0 : Nat) : Value → Heap → Prop := fun v h => ∃ b, v = .slice (some ⟨b, 0, none⟩) 0 0 ∧ h[b]? = some (.cells #[] 3 (0, 0)) ∧ n0 ≤ b
/-- A new slice that holds these. -/
def NewInts (n0 : Nat) (xs : List Int) : Value → Heap → Prop := fun v h => ∃ own, Grow rInt 3 none_ h v xs own ∧ ∀ b, own = some b → n0 ≤ b
set_option maxRecDepth 10000 in
theorem newInts_app {K : Value → Heap → Prop} {ty : TypeId} {cs : Array Bool} {h0 h1 h2 : Heap} {F : Nat → Prop} {v : Value} {xs : List Int} {a : Option Addr} {c : Nat} (hv : EmptyAt h0.size v h1) (k12 : Keep none_ h1 h2) (k02 : Keep none_ h0 h2) (hx : SlRep rInt F h0 (.slice a xs.length c) xs) (hF : ∀ b, F b → b < h0.size) (hn : xs.length < 1000000000)
    (hk : ∀ v' h', Keep none_ h2 h' ∧ NewInts h0.size xs v' h' → K v' h') : builtinS Try.prog .append #[22, 22] ty cs #[v, .slice a xs.length c] h2 K := by
  obtain ⟨b, rfl, hb, hle⟩ := hv
  obtain ⟨a', c', cs', hv', h1', h2', h3, h4⟩ := hx
  cases hv'
  have s := k02.size
  refine clone_at (F := none_) (F2 := F) (xs := xs) intT (fun _ h => h.elim) (k12.at hb (fun h => h)) (fun h => h.elim) rfl (h3.mono fun b hb => ⟨hb, k02.blk b (hF b hb) (fun h => h)⟩) (ints_map.2 (ints_map.1 h4)) (by omega) (by omega) ?_
  intro v' h' own' hg hk' ho
  refine hk v' h' ⟨hk', own', hg, fun b hb => ?_⟩
  rcases ho b hb with rfl | h
  · exact hle
  · omega

set_option maxHeartbeats 40000000 in
set_option maxRecDepth 10000 in
theorem rcopy_th {F : Nat → Prop} {h : Heap} {cs : List Value} {c : CellM} (hr : rCell.rep F h cs c) (hF : ∀ b, F b → b < h.size) (hc : CellSmall c) :
    CallH Try.prog 41 #[.agg cs.toArray] h fun r h' => ∃ ds G, r = .agg ds.toArray ∧ rCell.rep G h' ds c ∧ Keep none_ h h' ∧ (∀ b, G b → h.size ≤ b ∧ b < h'.size) ∧ ∀ b, G b → Thaw h' b := by
  refine callH_by fun K hK => ?_
  refine enter [.cell 2 39] Try.func41 rfl rfl (by kernel_rfl) rfl ?_
  obtain ⟨kv, sv, nv, xv, rfl, r1, r2, r3, r4⟩ := hr
  obtain ⟨ka, kc, rfl, _, _⟩ := r1.val
  obtain ⟨sa, sc, rfl, _, _⟩ := r2.val
  obtain ⟨na, nc, rfl, _, _⟩ := r3.val
  obtain ⟨xa, xc, rfl, _, _⟩ := r4.val
  simp -dsimp [boxS_eq]
  generalize hB : (h.push _).push _ = h0
  have hz0 : h0.size = h.size + 2 := by rw [← hB]; simp
  have k0 : Keep none_ h h0 := by rw [← hB]; exact ((Keep.refl none_ h).pushed _).pushed _
  have hb0 : h0[h.size]? = some (.cells #[.slice ka c.key.length kc, .int .i64 c.count, .slice sa c.sum.length sc, .slice na c.mn.length nc, .slice xa c.mx.length xc] 39 (0, 0)) := by rw [← hB]; exact push_at (push_new _ _)
  have ht0 : h0[h.size + 1]? = some (.cells #[.slice none 0 0, .int .i64 0, .slice none 0 0, .slice none 0 0, .slice none 0 0] 39 (0, 0)) := by
    rw [← hB]
    have : (h.push (.cells #[.slice ka c.key.length kc, .int .i64 c.count, .slice sa c.sum.length sc, .slice na c.mn.length nc, .slice xa c.mx.length xc] 39)).size = h.size + 1 := by simp
    rw [← this]; exact push_new _ _
  have m0 : ∀ b, F b → F b ∧ h0[b]? = h[b]? := fun b hb => ⟨hb, k0.blk b (hF b hb) (fun h => h)⟩
  have hF0 : ∀ b, F b → b < h0.size := fun b hb => by have := hF b hb; omega
  have q1 := r1.mono m0
  have q2 := r2.mono m0
  have q3 := r3.mono m0
  have q4 := r4.mono m0
  refine drawn_any [([], .act (EmptyAt h0.size)), ([], .look (.pointer (some ⟨h.size, 0, none⟩))), ([1], .look (.slice ka c.key.length kc)), ([0, 2], .act (NewInts h0.size c.key)),
    ([], .look (.pointer (some ⟨h.size, 1, none⟩))), ([4], .look (.int .i64 c.count)),
    ([], .act (EmptyAt h0.size)), ([], .look (.pointer (some ⟨h.size, 2, none⟩))), ([7], .look (.slice sa c.sum.length sc)), ([6, 8], .act (NewInts h0.size c.sum)),
    ([], .act (EmptyAt h0.size)), ([], .look (.pointer (some ⟨h.size, 3, none⟩))), ([11], .look (.slice na c.mn.length nc)), ([10, 12], .act (NewInts h0.size c.mn)),
    ([], .act (EmptyAt h0.size)), ([], .look (.pointer (some ⟨h.size, 4, none⟩))), ([15], .look (.slice xa c.mx.length xc)), ([14, 16], .act (NewInts h0.size c.mx))] [0, 1, 2, 3, 4, 5, 6, 7, 8, 9, 10, 11, 12, 13, 14, 15, 16, 17] [⟨18, false, []⟩, ⟨19, false, []⟩] (by kernel_rfl) (by kernel_rfl) (by kernel_rfl) ?_ ?_
  · simp only [obl, rdS, doS]
    refine ⟨?_, ?_, ?_, ?_, ?_, ?_, ?_, ?_, ?_, ?_, ?_, ?_, ?_, ?_, ?_, ?_, ?_, ?_, trivial⟩
    all_goals intro h1 k1
    all_goals simp -dsimp [dstOf, k1.at hb0 (fun h => h)]
    · exact ⟨.push _ _ _, _, rfl, push_new _ _, k1.size⟩
    · exact fun v hj he kj => newInts_app he kj k1 q1 hF0 hc.key fun _ _ h => h
    · exact ⟨.push _ _ _, _, rfl, push_new _ _, k1.size⟩
    · exact fun v hj he kj => newInts_app he kj k1 q2 hF0 hc.sum fun _ _ h => h
    · exact ⟨.push _ _ _, _, rfl, push_new _ _, k1.size⟩
    · exact fun v hj he kj => newInts_app he kj k1 q3 hF0 hc.mn fun _ _ h => h
    · exact ⟨.push _ _ _, _, rfl, push_new _ _, k1.size⟩
    · exact fun v hj he kj => newInts_app he kj k1 q4 hF0 hc.mx fun _ _ h => h
  · intro h4 k4
    have hT4 := k4.at ht0 (fun h => h)
    have e4 := k4.size
    simp -dsimp only [List.map_cons, List.map_nil, item, dstOf, List.getElem?_cons_succ, List.getElem?_cons_zero, Option.map_some, Option.bind_some]
    simp -dsimp only [rdI, putl]
    rintro - - - - v1 j1 ⟨o1, g1, n1⟩ w1 - - - - v2 j2 ⟨o2, g2, n2⟩ w2 - - - - v3 j3 ⟨o3, g3, n3⟩ w3 - - - - v4 j4 ⟨o4, g4, n4⟩ w4
    replace g1 := g1.at_ w1
    replace g2 := g2.at_ w2
    replace g3 := g3.at_ w3
    replace g4 := g4.at_ w4
    obtain ⟨a1, c1, rfl⟩ := g1.val
    obtain ⟨a2, c2, rfl⟩ := g2.val
    obtain ⟨a3, c3, rfl⟩ := g3.val
    obtain ⟨a4, c4, rfl⟩ := g4.val
    have hset : ∀ o, (h4.setIfInBounds (h.size + 1) o)[h.size + 1]? = some o := fun o => set_same o (by omega)
    simp -dsimp [hT4, hset]
    generalize hH : h4.setIfInBounds (h.size + 1) _ = h5
    have hz5 : h5.size = h4.size := by rw [← hH]; simp
    have hold : ∀ b, b ≠ h.size + 1 → h5[b]? = h4[b]? := fun b hn => by rw [← hH, set_other _ (fun e => hn e.symm)]
    have l1 := g1.own_lt
    have l2 := g2.own_lt
    have l3 := g3.own_lt
    have l4 := g4.own_lt
    refine hK _ _ ⟨_, fun b => o1 = some b ∨ o2 = some b ∨ o3 = some b ∨ o4 = some b, rfl, ⟨_, _, _, _, rfl, ?_, ?_, ?_, ?_⟩, ⟨by omega, fun b hb _ => by rw [hold b (by omega), k4.blk b (by omega) (fun h => h), k0.blk b hb (fun h => h)]⟩, ?_, ?_⟩
    · exact g1.ints.mono fun b hb => ⟨.inl hb, by have := n1 b hb; rw [hold b (by omega)]⟩
    · exact g2.ints.mono fun b hb => ⟨.inr (.inl hb), by have := n2 b hb; rw [hold b (by omega)]⟩
    · exact g3.ints.mono fun b hb => ⟨.inr (.inr (.inl hb)), by have := n3 b hb; rw [hold b (by omega)]⟩
    · exact g4.ints.mono fun b hb => ⟨.inr (.inr (.inr hb)), by have := n4 b hb; rw [hold b (by omega)]⟩
    · rintro b (hb | hb | hb | hb)
      · have := n1 b hb; have := l1 b hb; omega
      · have := n2 b hb; have := l2 b hb; omega
      · have := n3 b hb; have := l3 b hb; omega
      · have := n4 b hb; have := l4 b hb; omega
    · rintro b (hb | hb | hb | hb)
      · exact (g1.thaw b hb).at (by have := n1 b hb; rw [hold b (by omega)])
      · exact (g2.thaw b hb).at (by have := n2 b hb; rw [hold b (by omega)])
      · exact (g3.thaw b hb).at (by have := n3 b hb; rw [hold b (by omega)])
      · exact (g4.thaw b hb).at (by have := n4 b hb; rw [hold b (by omega)])
end Go.Proofs

/-
  HC, part 24: footprints with a bound; what may be changed; a slice that grows among them; small words for the walk.
-/
namespace Go.HC
/-- The blocks from n on that are there, and are not to be changed. -/
def Ft (n : Nat) (M : Nat → Prop) (h : Heap) : Nat → Prop := fun b => Nw n h b ∧ b < h.size ∧ ¬ M b
abbrev Old (h : Heap) : Nat → Prop := Ft 0 none_ h
theorem Old.lt {h : Heap} : ∀ b, Old h b → b < h.size := fun _ h => h.2.1
theorem Ft.lt {n : Nat} {M : Nat → Prop} {h : Heap} : ∀ b, Ft n M h b → b < h.size := fun _ h => h.2.1
/-- From h to h' only blocks of M have changed; what may be changed now could be so, or is new. -/
structure Tr (M M' : Nat → Prop) (h h' : Heap) : Prop where
  keep : Keep M h h'
  new : ∀ b, M' b → M b ∨ h.size ≤ b
  lt : ∀ b, M' b → b < h'.size
section
variable {M M' M'' : Nat → Prop} {h h' h'' : Heap} {n n' : Nat}
theorem Tr.start (h : Heap) : Tr none_ none_ h h := ⟨.refl _ _, fun _ h => .inl h, fun _ h => h.elim⟩
theorem Tr.here (t : Tr M M' h h') : Tr M' M' h' h' := ⟨.refl _ _, fun _ h => .inl h, t.lt⟩
theorem Tr.size (t : Tr M M' h h') : h.size ≤ h'.size := t.keep.size
theorem Tr.trans (t : Tr M M' h h') (t' : Tr M' M'' h' h'') : Tr M M'' h h'' := by
  have s := t.keep.size
  refine ⟨⟨Nat.le_trans s t'.keep.size, fun b hb hm => ?_⟩, fun b hb => ?_, t'.lt⟩
  · have : ¬ M' b := fun hm' => (t.new b hm').elim hm (fun h => by omega)
    rw [t'.keep.blk b (by omega) this, t.keep.blk b hb hm]
  · rcases t'.new b hb with h1 | h1
    · exact t.new b h1
    · exact .inr (by omega)
theorem Tr.ft (t : Tr M M' h h') (hn : n' ≤ n) : ∀ b, Ft n M h b → Ft n' M' h' b ∧ h'[b]? = h[b]? := fun b hb =>
  ⟨⟨hb.1.at hn (t.keep.blk b hb.2.1 hb.2.2), Nat.lt_of_lt_of_le hb.2.1 t.keep.size, fun hm => (t.new b hm).elim hb.2.2 (fun h => by have := hb.2.1; omega)⟩, t.keep.blk b hb.2.1 hb.2.2⟩
/-- What is as old as h, whatever n. -/
theorem Tr.old (t : Tr none_ M h h') : ∀ b, Ft n none_ h b → Ft 0 M h' b ∧ h'[b]? = h[b]? := t.ft (Nat.zero_le _)
theorem Tr.call (t : Tr M M' h h') (k : Keep none_ h' h'') : Tr M M' h h'' :=
  t.trans ⟨⟨k.size, fun b hb _ => k.blk b hb (fun h => h)⟩, fun _ h => .inl h, fun b hb => Nat.lt_of_lt_of_le (t.lt b hb) k.size⟩
theorem Tr.push (t : Tr M M' h h') (o : Obj) : Tr M M' h (h'.push o) := t.call (.push _ _ _)
theorem Tr.pushM (t : Tr M M' h h') (o : Obj) : Tr M (fun b => M' b ∨ b = h'.size) h (h'.push o) :=
  t.trans ⟨.push _ _ _, fun b hb => hb.imp id fun e => by omega, fun b hb => by
    have : (h'.push o).size = h'.size + 1 := by simp
    rcases hb with hb | hb
    · have := t.lt b hb; omega
    · omega⟩
theorem Tr.set (t : Tr M M' h h') {b : Nat} (o : Obj) (hb : M' b) : Tr M M' h (h'.setIfInBounds b o) :=
  t.trans ⟨.set _ _ fun _ => hb, fun _ h => .inl h, fun c hc => by simpa using t.lt c hc⟩
theorem Tr.less (t : Tr M M' h h') (hm : ∀ b, M'' b → M' b) : Tr M M'' h h' := ⟨t.keep, fun b hb => t.new b (hm b hb), fun b hb => t.lt b (hm b hb)⟩
theorem Tr.forget (t : Tr M M' h h') : Tr M none_ h h' := t.less fun _ h => h.elim
theorem Tr.of (k : Keep none_ h h') : Tr none_ none_ h h' := (Tr.start h).call k
/-- Blocks that are not to be changed are as they were. -/
theorem Tr.at (t : Tr M M' h h') {b : Nat} {o : Obj} (hb : h[b]? = some o) (hm : ¬ M b) : h'[b]? = some o := t.keep.at hb hm
theorem Tr.fresh (t : Tr none_ M h h') : ∀ b, M b → h.size ≤ b := fun b hb => (t.new b hb).elim (fun h => h.elim) id
/-- What a call has laid anew is not to be changed. -/
theorem Tr.ret (t : Tr M M' h h') (hn : n ≤ h'.size) : ∀ b, Ft h'.size none_ h'' b → Ft n M' h'' b ∧ h''[b]? = h''[b]? :=
  fun b hb => ⟨⟨hb.1.less hn, hb.2.1, fun hm => by have := t.lt b hm; have := hb.1.1; omega⟩, rfl⟩
/-- The same, once nothing is changed any more. -/
theorem Ft.free (hn : n' ≤ n) : ∀ b, Ft n M h b → Ft n' none_ h b ∧ h[b]? = h[b]? := fun _ hb => ⟨⟨hb.1.less hn, hb.2.1, fun h => h⟩, rfl⟩
end
section
variable {α : Type} {R : Rp α} {M M' : Nat → Prop} {h h' : Heap} {n n' : Nat} {e : TypeId}
/-- A slice that grows: its block may be changed, its data lie in blocks that may not. -/
structure Gr (R : Rp α) (e : TypeId) (n : Nat) (M : Nat → Prop) (h : Heap) (v : Value) (xs : List α) (own : Option Nat) : Prop where
  grow : Grow R e (Ft n M h) h v xs own
  mu : ∀ b, own = some b → M b
theorem Gr.nil (R : Rp α) (e n : Nat) (M : Nat → Prop) (h : Heap) : Gr R e n M h (.slice none 0 0) [] none := ⟨.nil _ _ _ _, fun b hb => by cases hb⟩
theorem Gr.own_lt {v : Value} {xs : List α} {own : Option Nat} (g : Gr R e n M h v xs own) : ∀ b, own = some b → b < h.size := g.grow.own_lt
theorem Gr.mono {v : Value} {xs : List α} {own : Option Nat} (g : Gr R e n M h v xs own) (t : Tr M M' h h') (hn : n' ≤ n) (ho : ∀ b, own = some b → M' b ∧ h'[b]? = h[b]?) : Gr R e n' M' h' v xs own :=
  ⟨g.grow.mono (t.ft hn) fun b hb => ⟨fun hf => hf.2.2 (ho b hb).1, (ho b hb).2⟩, fun b hb => (ho b hb).1⟩
theorem Gr.call {v : Value} {xs : List α} {own : Option Nat} (g : Gr R e n M h v xs own) (k : Keep none_ h h') : Gr R e n M h' v xs own :=
  ⟨g.grow.mono (fun b hb => ⟨⟨hb.1.at (Nat.le_refl _) (k.blk b hb.2.1 (fun h => h)), Nat.lt_of_lt_of_le hb.2.1 k.size, hb.2.2⟩, k.blk b hb.2.1 (fun h => h)⟩) fun b hb => ⟨fun hf => hf.2.2 (g.mu b hb), k.blk b (g.own_lt b hb) (fun h => h)⟩, g.mu⟩
/-- Another block is written. -/
theorem Gr.set {v : Value} {xs : List α} {own : Option Nat} (g : Gr R e n M h v xs own) {b : Nat} (o : Obj) (hb : M b) (hne : own ≠ some b) : Gr R e n M (h.setIfInBounds b o) v xs own :=
  ⟨g.grow.mono (fun c hc => ⟨⟨hc.1.at (Nat.le_refl _) (set_other _ fun e => hc.2.2 (e ▸ hb)), by simpa using hc.2.1, hc.2.2⟩, set_other _ fun e => hc.2.2 (e ▸ hb)⟩) fun c hc => ⟨fun hf => hf.2.2 (g.mu c hc), set_other _ fun e => hne (by rw [hc, e])⟩, g.mu⟩
theorem Gr.val {v : Value} {xs : List α} {own : Option Nat} (g : Gr R e n M h v xs own) : ∃ a c, v = .slice a xs.length c := g.grow.val
theorem Gr.vals {v : Value} {xs : List α} {own : Option Nat} (g : Gr R e n M h v xs own) : ∃ a m c, v = .slice a m c ∧ m = xs.length := by
  obtain ⟨a, c, rfl⟩ := g.val
  exact ⟨a, _, c, rfl, rfl⟩
theorem Gr.thaw {v : Value} {xs : List α} {own : Option Nat} (g : Gr R e n M h v xs own) : ∀ b, own = some b → Thaw h b := g.grow.thaw
theorem Gr.rep {v : Value} {xs : List α} {own : Option Nat} (g : Gr R e n M h v xs own) (hn : n' ≤ n) (ho : ∀ b, own = some b → n' ≤ b) : SlRep R (Ft n' none_ h) h v xs :=
  g.grow.rep.mono fun b hb => ⟨hb.elim (fun hf => ⟨hf.1.less hn, hf.2.1, fun h => h⟩) fun hf => ⟨⟨ho b hf, fun _ => g.thaw b hf⟩, g.own_lt b hf, fun h => h⟩, rfl⟩
theorem Gr.elem {a : Option Addr} {m c : Nat} {xs : List α} {own : Option Nat} (g : Gr R e n M h (.slice a m c) xs own) (k : Nat) (hk : k < xs.length) :
    ∃ bk cs, a = some ⟨bk, 0, none⟩ ∧ own = some bk ∧ R.rep (Ft n M h) h cs xs[k] ∧ cellsIn h[bk]? (k * R.sz) R.sz = some cs := g.grow.elem k hk
/-- An element is written. -/
theorem Gr.setE {v : Value} {xs : List α} {own : Option Nat} {news : List Value} {x : α} {i : Nat} (g : Gr R e n M h v xs own) (hi : i < xs.length) (hr : R.rep (Ft n M h) h news x) :
    ∃ bk m c o, v = .slice (some ⟨bk, 0, none⟩) m c ∧ m = xs.length ∧ own = some bk ∧ writeIn h[bk]? (i * R.sz) news = some o ∧ Gr R e n M (h.setIfInBounds bk o) v (xs.set i x) own := by
  obtain ⟨bk, c, o, h1, h2, h3, h4⟩ := g.grow.setE hi hr
  refine ⟨bk, _, c, o, h1, rfl, h2, h3, ⟨h4.mono (fun b hb => ⟨⟨hb.1.at (Nat.le_refl _) (set_other _ fun e => hb.2.2 (e ▸ g.mu bk h2)), by simpa using hb.2.1, hb.2.2⟩, rfl⟩) fun b hb => ⟨fun hf => hf.2.2 (g.mu b hb), rfl⟩, g.mu⟩⟩
end
section
variable {P : Program} {h : Heap} {K : Value → Heap → Prop} {ty : TypeId} {α : Type} {R : Rp α} {M : Nat → Prop} {n : Nat}
/-- append onto a slice that grows. -/
theorem gr_append {T e by_ : Nat} {cs : Array Bool} {v : Value} {xs ys : List α} {own : Option Nat} {b : Option Addr} {m c2 : Nat} {news : List Value} {F2 : Nat → Prop}
    (hT : ElemT P T e R by_) (hg : Gr R e n M h v xs own) (hM : ∀ b, M b → b < h.size) (hm : m = ys.length) (hrn : Cells F2 h b news) (hel : Elems R (Ft n M h) h news ys)
    (hbig : (xs.length + ys.length) * by_ ≤ 140737488355328) (h63 : xs.length + ys.length < 9223372036854775808)
    (hk : ∀ v' h' own', Gr R e n (fun b => M b ∨ own' = some b) h' v' (xs ++ ys) own' → Tr M (fun b => M b ∨ own' = some b) h h' → Keep (fun b => own = some b) h h' → (∀ b, own' = some b → own = some b ∨ h.size ≤ b) → K v' h') :
    builtinS P .append #[T, T] ty cs #[v, .slice b m c2] h K := by
  refine append_grow hT hg.grow Ft.lt hm hrn hel hbig h63 ?_
  intro v' h' own' hg' hk' ho
  have hs := hk'.size
  have ht : Tr M (fun b => M b ∨ own' = some b) h h' := ⟨hk'.weaken fun b _ => hg.mu b, fun b hb => hb.elim .inl fun hb => (ho b hb).imp (hg.mu b) id, fun b hb => hb.elim (fun h => Nat.lt_of_lt_of_le (hM b h) hs) (hg'.own_lt b)⟩
  exact hk v' h' own' ⟨hg'.mono (fun b hb => ⟨(ht.ft (Nat.le_refl _) b hb).1, rfl⟩) fun b hb => ⟨fun hf => hf.2.2 (.inr hb), rfl⟩, fun b hb => .inr hb⟩ ht hk' ho
/-- A slice without cells is laid. -/
theorem gr_empty {M0 : Nat → Prop} {h0 : Heap} (R : Rp α) (e n : Nat) (t : Tr M0 M h0 h) (n0 : Nat) (hn0 : n0 = h.size) :
    Gr R e n (fun b => M b ∨ b = h.size) (h.push (.cells #[] e)) (.slice (some ⟨n0, 0, none⟩) 0 0) [] (some h.size) ∧ Tr M (fun b => M b ∨ b = h.size) h (h.push (.cells #[] e)) := by
  have t1 := t.here.pushM (.cells #[] e)
  subst hn0
  refine ⟨⟨?_, fun b hb => .inr (by cases hb; rfl)⟩, t1⟩
  exact .inr ⟨h.size, 0, #[], [], rfl, rfl, push_new _ _, fun hf => hf.2.2 (.inr rfl), by simp, Nat.le_refl _, by decide, by simp, rfl⟩
/-- A slice is opened for append. -/
theorem SlRep.open_ {F : Nat → Prop} {a : Option Addr} {m c : Nat} {xs : List α} (hs : SlRep R F h (.slice a m c) xs) : ∃ cs, m = xs.length ∧ xs.length ≤ c ∧ c < 9223372036854775808 ∧ Cells F h a cs ∧ Elems R F h cs xs := by
  obtain ⟨a', c', cs, hv, h1, h2, h3, h4⟩ := hs
  cases hv
  exact ⟨cs, rfl, h1, h2, h3, h4⟩
/-- append of one datum. -/
theorem gr_app1 {T e by_ n0 : Nat} {cs : Array Bool} {v : Value} {xs : List α} {own : Option Nat} {x : α} {c : List Value} {arr : Array Value} (hn0 : n0 = h.size)
    (hT : ElemT P T e R by_) (hg : Gr R e n M h v xs own) (hM : ∀ b, M b → b < h.size) (hr : R.rep (Ft n M h) h c x) (hc : arr.toList = c)
    (hbig : (xs.length + 1) * by_ ≤ 140737488355328) (h63 : xs.length + 1 < 9223372036854775808)
    (hk : ∀ v' h' own', Gr R e n (fun b => M b ∨ own' = some b) h' v' (xs ++ [x]) own' → Tr M (fun b => M b ∨ own' = some b) h h' → Keep (fun b => own = some b) h h' → (∀ b, own' = some b → own = some b ∨ h.size ≤ b) → K v' h') :
    builtinS P .append #[T, T] ty cs #[v, .slice (some ⟨n0, 0, none⟩) 1 1] (h.push (.cells arr e)) K := by
  subst hn0
  have hp : Tr M M h (h.push (.cells arr e)) := Tr.push ⟨.refl _ _, fun _ h => .inl h, hM⟩ _
  have hps : (h.push (.cells arr e)).size = h.size + 1 := by simp
  subst hc
  refine gr_append (F2 := fun b => b = h.size) (ys := [x]) (news := arr.toList) hT (hg.call (.push _ _ _)) hp.lt rfl ?_ (.single (R.mono hr (hp.ft (Nat.le_refl _)))) hbig h63 ?_
  · exact .inr ⟨h.size, 0, _, _, _, rfl, rfl, push_new _ _, by rw [List.drop_zero, List.take_of_length_le (Nat.le_refl _)]⟩
  · intro v' h' own' g t k ho
    have t' := hp.trans t
    refine hk v' h' own' g t' ⟨t'.size, fun b hb hn => ?_⟩ fun b hb => (ho b hb).imp id fun h => by omega
    rw [k.blk b (by omega) hn, push_old _ hb]
end
/-! ### words for the walk -/
section
variable {P : Program} {h : Heap} {K : Value → Heap → Prop} {l : L} {b : Base}
@[simp] theorem sub_nil : Sub [] l b = True := propext ⟨fun _ => trivial, fun _ => .nil _ _⟩
@[simp] theorem sub_cons (t : Nat) (v : Value) (S : L) : Sub ((t, v) :: S) l b = (look l b t = v ∧ Sub S l b) :=
  propext ⟨fun hs => ⟨hs (t, v) (List.mem_cons_self), fun p hp => hs p (List.mem_cons_of_mem _ hp)⟩, fun ⟨h1, h2⟩ => .cons h1 h2⟩
/-- A variable that is given its value at once. -/
theorem push_set {h : Heap} {o o' : Obj} {n : Nat} (hn : n = h.size) : (h.push o).setIfInBounds n o' = h.push o' := by
  subst hn
  apply Array.ext'
  simp
/-- A round of a loop has ended well; simp leaves what is said as it is written. -/
def LoopJ {σ : Type} (S : σ → L) (D : σ → List Nat) (J : σ → Heap → Prop) (μ : σ → Nat) (s : σ) (_t1 : Tag S) (_t2 : Tag J) (_t3 : Tag μ) (l : L) (b : Base) (h : Heap) : Prop := ∃ s', Sub (S s') l b ∧ b.d = D s' ∧ J s' h ∧ μ s' < μ s
theorem loopj {P : Program} {n : Nat} {ro : Option Nat} {c : Code} {κ : Kont} {l : L} {b : Base} {h : Heap} {σ : Type} (S : σ → L) (J : σ → Heap → Prop) (μ : σ → Nat) (s0 : σ) (hS : Sub (S s0) l b) (hJ : J s0 h) (hok : codeOk n c = true)
    (round : ∀ s h g, J s h → cs P n ro c { κ with nx := LoopJ S (fun _ => b.d) J μ s ⟨⟩ ⟨⟩ ⟨⟩ } (S s) ⟨g, b.d⟩ h) : gs P n ro (.loop c) κ l b h := loop S (fun _ => b.d) J μ s0 hS rfl hJ hok round
theorem elSz_eq (T : TypeId) : elSz P T = (elS P T).bind (szS P) := _root_.id rfl
theorem idxA_nat {T : TypeId} {bk off n c i : Nat} {k : IntKind} (hi : i < n) :
    indexAddrS P T (.slice (some ⟨bk, off, none⟩) n c) (.int k (i : Int)) h K = optS ((elS P T).bind (szS P)) (fun s => K (.pointer (some ⟨bk, off + i * s, none⟩)) h) := by
  rw [indexAddrS_slice _ _ _ _ _ _ (by omega) (by omega) rfl, elSz_eq]
  have e : (fun s => K (.pointer (offs (some ⟨bk, off, none⟩) ((i : Int).toNat * s))) h) = fun s => K (.pointer (some ⟨bk, off + i * s, none⟩)) h := by
    funext s; rw [offs_mk, Int.toNat_natCast]
  rw [e]
theorem idxA_zero {T : TypeId} {bk off n c : Nat} {k : IntKind} (hi : 0 < n) :
    indexAddrS P T (.slice (some ⟨bk, off, none⟩) n c) (.int k 0) h K = optS ((elS P T).bind (szS P)) (fun _ => K (.pointer (some ⟨bk, off, none⟩)) h) := by
  have := idxA_nat (P := P) (T := T) (bk := bk) (off := off) (c := c) (k := k) (h := h) (K := K) hi
  rw [Int.natCast_zero] at this
  rw [this]
  have e : (fun s => K (.pointer (some ⟨bk, off + 0 * s, none⟩)) h) = fun _ => K (.pointer (some ⟨bk, off, none⟩)) h := by
    funext s; rw [Nat.zero_mul, Nat.add_zero]
  rw [e]
theorem idxV_nat {sz : Option Nat} {ar : Option (Nat × Nat)} {bk off n c i : Nat} {k : IntKind} (hi : i < n) :
    idxV sz ar (.slice (some ⟨bk, off, none⟩) n c) (.int k (i : Int)) = sz.map fun s => .pointer (some ⟨bk, off + i * s, none⟩) := by
  rw [idxV_slice (by omega) (by omega) rfl]
  simp only [Int.toNat_natCast, offs_mk]
theorem wrap_succ {k : Nat} (hk : k < 9223372036854775807) : IntKind.i64.wrap ((k : Int) + 1) = ((k + 1 : Nat) : Int) := by
  rw [wrap_i64 (by omega) (by omega)]; rfl
end
end Go.HC

/-
  Rows of facts in memory; numbers within bounds; a row's cell; cells of rows.
-/
namespace Go.HC
structure RowM where
  key : List Int
  m : List Int
def rRow : Rp RowM where
  sz := 2
  pos := by decide
  rep F h cs r := ∃ kv mv, cs = [kv, mv] ∧ SlRep rInt F h kv r.key ∧ SlRep rInt F h mv r.m
  len := by rintro F h cs c ⟨kv, mv, rfl, _⟩; rfl
  one := by
    rintro F h cs c ⟨kv, mv, rfl, h1, h2⟩
    obtain ⟨_, _, rfl, _⟩ := h1.val
    obtain ⟨_, _, rfl, _⟩ := h2.val
    rfl
  mono := by
    rintro F F' h h' cs c ⟨kv, mv, rfl, h1, h2⟩ hm
    exact ⟨kv, mv, rfl, h1.mono hm, h2.mono hm⟩
/-- A cell's five parts. -/
theorem cell_open {F : Nat → Prop} {h : Heap} {cs : List Value} {c : CellM} (hr : rCell.rep F h cs c) : ∃ ka kc sa sc na nc xa xc,
    cs = [.slice ka c.key.length kc, .int .i64 c.count, .slice sa c.sum.length sc, .slice na c.mn.length nc, .slice xa c.mx.length xc] ∧
    SlRep rInt F h (.slice ka c.key.length kc) c.key ∧ SlRep rInt F h (.slice sa c.sum.length sc) c.sum ∧ SlRep rInt F h (.slice na c.mn.length nc) c.mn ∧ SlRep rInt F h (.slice xa c.mx.length xc) c.mx := by
  obtain ⟨kv, sv, nv, xv, rfl, r1, r2, r3, r4⟩ := hr
  obtain ⟨ka, kc, rfl, _, _⟩ := r1.val
  obtain ⟨sa, sc, rfl, _, _⟩ := r2.val
  obtain ⟨na, nc, rfl, _, _⟩ := r3.val
  obtain ⟨xa, xc, rfl, _, _⟩ := r4.val
  exact ⟨ka, kc, sa, sc, na, nc, xa, xc, rfl, r1, r2, r3, r4⟩
theorem row_open {F : Nat → Prop} {h : Heap} {cs : List Value} {r : RowM} (hr : rRow.rep F h cs r) : ∃ ka kc ma mc,
    cs = [.slice ka r.key.length kc, .slice ma r.m.length mc] ∧ SlRep rInt F h (.slice ka r.key.length kc) r.key ∧ SlRep rInt F h (.slice ma r.m.length mc) r.m := by
  obtain ⟨kv, mv, rfl, r1, r2⟩ := hr
  obtain ⟨ka, kc, rfl, _, _⟩ := r1.val
  obtain ⟨ma, mc, rfl, _, _⟩ := r2.val
  exact ⟨ka, kc, ma, mc, rfl, r1, r2⟩
/-- An element that is a number: where it lies. -/
theorem SlRep.int_at {F : Nat → Prop} {h : Heap} {a : Option Addr} {n c : Nat} {xs : List Int} (hs : SlRep rInt F h (.slice a n c) xs) (k : Nat) (hk : k < xs.length) :
    ∃ bk off, a = some ⟨bk, off, none⟩ ∧ F bk ∧ cellIn h[bk]? (off + k) = some (.int .i64 xs[k]) := by
  obtain ⟨b1, o1, v1, rfl, hf, hr, hc⟩ := hs.get1 rfl k hk
  have : v1 = .int .i64 xs[k] := by simpa [rInt] using hr
  exact ⟨b1, o1, rfl, hf, this ▸ hc⟩
/-- A number from 0 to n - 1. -/
def withinM (a n : Int) : Int := if a.tmod n < 0 then a.tmod n + n else a.tmod n
theorem withinM_bound {a n : Int} (hn : 0 < n) : 0 ≤ withinM a n ∧ withinM a n < n := by
  unfold withinM
  have h1 := tmod_bound (a := a) hn
  split <;> omega
/-- Is a dimension one of a set's? -/
def bitM (s : Int) (i : Nat) : Bool := (s.fdiv (2 ^ i)) % 2 == 1
theorem and_one (x : Int) : IntKind.i64.wrap ((BitVec.ofInt IntKind.i64.bits x &&& BitVec.ofInt IntKind.i64.bits 1).toNat) = x % 2 := by
  show IntKind.i64.wrap ((BitVec.ofInt 64 x &&& 1#64).toNat : Int) = x % 2
  rw [BitVec.toNat_and]
  have h3 : (1#64).toNat = 1 := rfl
  rw [h3, Nat.and_one_is_mod, BitVec.toNat_ofInt]
  rw [wrap_i64 (by omega) (by omega)]
  omega
@[simp high] theorem intRes_and1 (x : Int) : intRes .and .i64 x 1 = some (.int .i64 (x % 2)) := by rw [intRes_and, and_one]
theorem bit_op (s : Int) (i : Nat) : (s.fdiv (2 ^ i) % 2 == 1) = bitM s i := _root_.id rfl
theorem shr_bit {s : Int} {k : Nat} (hk : k < 64) : intRes .shr .i64 s (IntKind.u64.wrap (k : Int)) = some (.int .i64 (s.fdiv (2 ^ k))) := by
  have h1 : IntKind.u64.wrap (k : Int) = k := by simp [IntKind.wrap, IntKind.bits, IntKind.signed]; omega
  have h2 : min ((k : Int).toNat) IntKind.i64.bits = k := by
    show min ((k : Int).toNat) 64 = k
    omega
  rw [h1, intRes_shr _ _ _ (by omega), h2]
theorem pow2_le {k n : Nat} (h : k ≤ n) : (2 : Int) ^ k ≤ 2 ^ n := by
  have := Nat.pow_le_pow_right (n := 2) (by decide) h
  exact_mod_cast this
theorem pow2_pos (k : Nat) : (0 : Int) < 2 ^ k := Int.pow_pos (by decide)
theorem shl_one {k : Nat} (hk : k ≤ 62) : intRes .shl .i64 1 (IntKind.u64.wrap (k : Int)) = some (.int .i64 (2 ^ k)) := by
  have h1 : IntKind.u64.wrap (k : Int) = k := by simp [IntKind.wrap, IntKind.bits, IntKind.signed]; omega
  have h2 : min ((k : Int).toNat) IntKind.i64.bits = k := by
    show min ((k : Int).toNat) 64 = k
    omega
  have h3 : (2 : Int) ^ k ≤ 2 ^ 62 := pow2_le hk
  have h4 : (0 : Int) < 2 ^ k := Int.pow_pos (by decide)
  have h5 : (2 : Int) ^ 62 = 4611686018427387904 := by decide
  rw [h1, intRes_shl _ _ _ (by omega), h2, Int.one_mul, wrap_i64 (by omega) (by omega)]
/-- The values of a set's dimensions, from dimension i on. -/
def pickM (s : Int) : Nat → List Int → List Int
  | _, [] => []
  | i, x :: xs => if bitM s i then x :: pickM s (i + 1) xs else pickM s (i + 1) xs
theorem pickM_snoc (s : Int) (x : Int) : ∀ (xs : List Int) (i : Nat), pickM s i (xs ++ [x]) = pickM s i xs ++ (if bitM s (i + xs.length) then [x] else [])
  | [], i => by simp [pickM]
  | y :: ys, i => by
    rw [List.cons_append, pickM, pickM, pickM_snoc s x ys]
    have : i + 1 + ys.length = i + (y :: ys).length := by simp; omega
    rw [this]
    split <;> simp
theorem pickM_le (s : Int) : ∀ (xs : List Int) (i : Nat), (pickM s i xs).length ≤ xs.length
  | [], _ => Nat.le_refl _
  | x :: xs, i => by
    rw [pickM]
    have := pickM_le s xs (i + 1)
    split <;> simp <;> omega
def ofM (s : Int) (r : RowM) : CellM := ⟨pickM s 0 r.key, 1, r.m, r.m, r.m⟩
end Go.HC
namespace Go.Proofs
open Go Go.HC

set_option maxRecDepth 10000 in
theorem within1_spec (a n : Int) (hn : 0 < n) (hn' : n < 1000000000) (h : Heap) : CallH Try.prog 33 #[.int .i64 a, .int .i64 n] h fun r h' => r = .int .i64 (withinM a n) ∧ h' = h := by
  refine enter [.tmp 4] Try.func33 rfl rfl (by kernel_rfl) rfl ?_
  have h1 := tmod_bound (a := a) hn
  have hne : n ≠ 0 := by omega
  simp -dsimp [hne]
  by_cases hlt : a.tmod n < 0
  · have hw : IntKind.i64.wrap (a.tmod n + n) = a.tmod n + n := wrap_i64 (by omega) (by omega)
    simp -dsimp [hlt, hw, withinM]
  · simp -dsimp [hlt, withinM]
set_option maxRecDepth 10000 in
theorem within2_spec (a n : Int) (hn : 0 < n) (hn' : n < 1000000000) (h : Heap) : CallH Try.prog 35 #[.int .i64 a, .int .i64 n] h fun r h' => r = .int .i64 (withinM a n) ∧ h' = h := by
  refine enter [.tmp 4] Try.func35 rfl rfl (by kernel_rfl) rfl ?_
  have h1 := tmod_bound (a := a) hn
  have hne : n ≠ 0 := by omega
  simp -dsimp [hne]
  by_cases hlt : a.tmod n < 0
  · have hw : IntKind.i64.wrap (a.tmod n + n) = a.tmod n + n := wrap_i64 (by omega) (by omega)
    simp -dsimp [hlt, hw, withinM]
  · simp -dsimp [hlt, withinM]

set_option maxRecDepth 10000 in
/-- A copy of a row of numbers ('append([]int{}, x...)'). -/
theorem clone_ints {K : Value → Heap → Prop} {ty : TypeId} {cs : Array Bool} {M : Nat → Prop} {h : Heap} {n0 : Nat} (hn0 : n0 = h.size) {xs : List Int} {a : Option Addr} {m c : Nat} (hx : SlRep rInt (Ft 0 M h) h (.slice a m c) xs) (hn : xs.length < 1000000000)
    (hk : ∀ v' h', SlRep rInt (Ft h.size none_ h') h' v' xs → Keep none_ h h' → K v' h') :
    builtinS Try.prog .append #[22, 22] ty cs #[.slice (some ⟨n0, 0, none⟩) 0 0, .slice a m c] (h.push (.cells #[] 3)) K := by
  subst hn0
  obtain ⟨a', c', cs', hv, h1, h2, h3, h4⟩ := hx
  cases hv
  refine clone_cells (F := none_) (F2 := Ft 0 M h) intT (fun _ h => h.elim) Ft.lt rfl h3 (ints_map.2 (ints_map.1 h4)) (by omega) (by omega) ?_
  intro v' h' own g k ho _
  exact hk v' h' (g.ints.mono fun b hb => ⟨⟨⟨ho b hb, fun _ => g.thaw b hb⟩, g.own_lt b hb, fun h => h⟩, rfl⟩) k

theorem rcopy_new {h : Heap} {cs : List Value} {c : CellM} (hr : rCell.rep (Old h) h cs c) (hc : CellSmall c) :
    CallH Try.prog 41 #[.agg cs.toArray] h fun r h' => ∃ ds, r = .agg ds.toArray ∧ rCell.rep (Ft h.size none_ h') h' ds c ∧ Keep none_ h h' :=
  (rcopy_th hr Old.lt hc).mono fun _ _ ⟨ds, _, e, r, k, n, t⟩ => ⟨ds, e, rCell.mono r fun b hb => ⟨⟨⟨(n b hb).1, fun _ => t b hb⟩, (n b hb).2, fun h => h⟩, rfl⟩, k⟩

set_option maxHeartbeats 4000000 in
set_option maxRecDepth 10000 in
theorem of_spec {h : Heap} {cs : List Value} {r : RowM} (s : Int) (hr : rRow.rep (Old h) h cs r) (hk : r.key.length < 64) (hm : r.m.length < 1000000000) :
    CallH Try.prog 34 #[.agg cs.toArray, .int .i64 s] h fun v h' => ∃ ds, v = .agg ds.toArray ∧ rCell.rep (Ft h.size none_ h') h' ds (ofM s r) ∧ Keep none_ h h' := by
  refine callH_by fun K hK => ?_
  refine enter [.cell 4 39] Try.func34 rfl rfl (by kernel_rfl) rfl ?_
  obtain ⟨ka, kc, ma, mc, rfl, r1, r2⟩ := row_open hr
  simp -dsimp [boxS_eq]
  generalize hB : Array.push h _ = hb
  have kb : Keep none_ h hb := by rw [← hB]; exact .push _ _ _
  have hzb : hb.size = h.size + 1 := by rw [← hB]; simp
  have hR : hb[h.size]? = some (.cells #[.slice ka r.key.length kc, .slice ma r.m.length mc] 57 (0, 0)) := by rw [← hB]; exact push_new _ _
  rw [push_set (by simp; omega), ← hzb]
  have p1 := r1.mono ((Tr.of kb).ft (Nat.le_refl 0))
  have p2 := r2.mono ((Tr.of kb).ft (Nat.le_refl 0))
  refine loopj (σ := Nat × Value) (fun t => [(1, .int .i64 s), (2, .pointer (some ⟨h.size, 0, none⟩)), (4, .pointer (some ⟨hb.size, 0, none⟩)), (5, .pointer (some ⟨hb.size + 1, 0, none⟩)), (6, .int .i64 t.1)])
    (fun t h1 => ∃ M own, Tr none_ M hb h1 ∧ (M hb.size ∧ M (hb.size + 1)) ∧ (∀ b, own = some b → hb.size + 2 ≤ b) ∧ t.1 ≤ r.key.length ∧ h1[hb.size]? = some (.cells #[.slice none 0 0, .int .i64 0, .slice none 0 0, .slice none 0 0, .slice none 0 0] 39 (0, 0)) ∧
      h1[hb.size + 1]? = some (.cells #[t.2, .int .i64 1, .slice none 0 0, .slice none 0 0, .slice none 0 0] 39 (0, 0)) ∧ Gr rInt 3 hb.size M h1 t.2 (pickM s 0 (r.key.take t.1)) own)
    (fun t => r.key.length - t.1) (0, .slice none 0 0) (by simp) ?_ (by kernel_rfl) ?_
  · exact ⟨fun b => (none_ b ∨ b = hb.size) ∨ b = hb.size + 1, none, (((Tr.start _).pushM _).pushM _).less fun b hb => hb.imp id fun e => by simp [e], ⟨.inl (.inr rfl), .inr rfl⟩, (fun _ h => by cases h), Nat.zero_le _, push_at (push_new _ _), push_get (by simp), .nil _ _ _ _ _⟩
  rintro ⟨k, v⟩ h1 g ⟨M, own, t1, ⟨hM4, hM5⟩, hne, hk1, hb4, hb1, g1⟩
  simp only at hk1 hb1 g1
  have e1 := t1.size
  have hR1 := t1.at hR (fun h => h)
  have hlb := lt_of_blk hb1
  obtain ⟨va, vn, vc, rfl, hvn⟩ := g1.vals
  have wk := wrap_succ (k := k) (by omega)
  by_cases hkl : k < r.key.length
  · have q1 := p1.mono (t1.ft (Nat.le_refl 0))
    obtain ⟨b1, o1, rfl, _, hc1⟩ := q1.int_at k hkl
    simp -dsimp [hR1, hkl, shr_bit (show k < 64 by omega), bit_op]
    have hpk : pickM s 0 (r.key.take (k + 1)) = pickM s 0 (r.key.take k) ++ (if bitM s k then [r.key[k]] else []) := by
      rw [List.take_add_one, List.getElem?_eq_getElem hkl, Option.toList_some, pickM_snoc, List.length_take, Nat.min_eq_left (by omega), Nat.zero_add]
    by_cases hbit : bitM s k = true
    · have hb1p : ∀ o, (h1.push o)[hb.size + 1]? = _ := fun o => push_at hb1
      rw [if_pos hbit] at hpk
      simp -dsimp [hbit]
      refine drawn_by [⟨0, true, []⟩, ⟨1, true, []⟩, ⟨2, true, []⟩, ⟨3, true, []⟩, ⟨4, true, []⟩, ⟨5, true, []⟩, ⟨6, true, []⟩, ⟨7, false, [0, 1]⟩, ⟨8, false, []⟩, ⟨9, true, []⟩, ⟨10, false, []⟩] (by kernel_rfl) (by kernel_rfl) ?_
      simp -dsimp [hR1, hb1, hb1p, hc1, idxV_nat hkl, elSz_eq, again_cons]
      have hpl := pickM_le s (r.key.take k) 0
      rw [List.length_take] at hpl
      refine gr_app1 rfl intT g1 t1.lt rfl rfl (by omega) (by omega) ?_
      intro v' h2 own' g2 t2 k2 ho
      have hb2 := k2.at hb1 (fun e => by have := hne _ e; omega)
      have hb42 := k2.at hb4 (fun e => by have := hne _ e; omega)
      have hne' : ∀ b, own' = some b → hb.size + 2 ≤ b := fun b e => (ho _ e).elim (hne b) (by omega)
      obtain ⟨va', vn', vc', rfl, _⟩ := g2.vals
      simp -dsimp [hb2, wk]
      have hlb2 := lt_of_blk hb2
      refine ⟨(k + 1, _), by simp, rfl, ⟨_, own', (t1.trans t2).set _ (.inl hM5), ⟨.inl hM4, .inl hM5⟩, hne', by omega, (set_other _ (by omega)).trans hb42, set_same _ hlb2, ?_⟩, by simp; omega⟩
      rw [hpk]
      exact g2.set _ (.inl hM5) (fun e => by have := hne' _ e; omega)
    · rw [if_neg hbit, List.append_nil] at hpk
      simp -dsimp [hbit, wk]
      exact ⟨(k + 1, _), by simp, rfl, ⟨M, own, t1, ⟨hM4, hM5⟩, hne, by omega, hb4, hb1, by simpa [hpk] using g1⟩, by simp; omega⟩
  · have hkk : k = r.key.length := by omega
    rw [hkk, List.take_length] at g1
    have hR1p : ∀ o, (h1.push o)[h.size]? = _ := fun o => push_at hR1
    simp -dsimp [hR1, hR1p, hkl]
    refine clone_ints (M := M) rfl (p2.mono (t1.ft (Nat.le_refl 0))) hm ?_
    intro v2 h2 w2 k2
    have hb2 := k2.at hb1 (fun h => h)
    obtain ⟨a2, c2, rfl, _, _⟩ := w2.val
    simp -dsimp [hb2]
    obtain ⟨h3, e3⟩ : ∃ h3, h3 = Array.setIfInBounds h2 (hb.size + 1) (.cells #[.slice va vn vc, .int .i64 1, .slice a2 r.m.length c2, .slice none 0 0, .slice none 0 0] 39) := ⟨_, rfl⟩
    rw [← e3]
    have u3 := (t1.here.call k2).set (.cells #[.slice va vn vc, .int .i64 1, .slice a2 r.m.length c2, .slice none 0 0, .slice none 0 0] 39) hM5
    have s3 := (t1.call k2).here.set (.cells #[.slice va vn vc, .int .i64 1, .slice a2 r.m.length c2, .slice none 0 0, .slice none 0 0] 39) hM5
    rw [← e3] at u3 s3
    have hb3 : h3[hb.size + 1]? = some (.cells #[.slice va vn vc, .int .i64 1, .slice a2 r.m.length c2, .slice none 0 0, .slice none 0 0] 39 (0, 0)) := e3 ▸ set_same _ (lt_of_blk hb2)
    have g3 := e3 ▸ (g1.call k2).set _ hM5 (fun e => by have := hne _ e; omega)
    have w3 := (w2.mono (t1.ret (n := hb.size) e1)).mono (s3.ft (Nat.le_refl _))
    have t3 := t1.trans u3
    have hR3p : ∀ o, (h3.push o)[h.size]? = _ := fun o => push_at (t3.at hR (fun h => h))
    simp -dsimp [hR3p]
    refine clone_ints (M := M) (by rw [e3]; simp) (p2.mono (t3.ft (Nat.le_refl 0))) hm ?_
    intro v4 h4 w4 k4
    have hb4' := k4.at hb3 (fun h => h)
    obtain ⟨a4, c4, rfl, _, _⟩ := w4.val
    simp -dsimp [hb4']
    obtain ⟨h5, e5⟩ : ∃ h5, h5 = Array.setIfInBounds h4 (hb.size + 1) (.cells #[.slice va vn vc, .int .i64 1, .slice a2 r.m.length c2, .slice a4 r.m.length c4, .slice none 0 0] 39) := ⟨_, rfl⟩
    rw [← e5]
    have s5 := (t3.call k4).here.set (.cells #[.slice va vn vc, .int .i64 1, .slice a2 r.m.length c2, .slice a4 r.m.length c4, .slice none 0 0] 39) hM5
    rw [← e5] at s5
    have hb5 : h5[hb.size + 1]? = some (.cells #[.slice va vn vc, .int .i64 1, .slice a2 r.m.length c2, .slice a4 r.m.length c4, .slice none 0 0] 39 (0, 0)) := e5 ▸ set_same _ (lt_of_blk hb4')
    have g5 := e5 ▸ (g3.call k4).set _ hM5 (fun e => by have := hne _ e; omega)
    have u5 := (t3.here.call k4).trans s5
    have w5 := (w4.mono (t3.ret (n := hb.size) t3.size)).mono (s5.ft (Nat.le_refl _))
    have w35 := w3.mono (u5.ft (Nat.le_refl _))
    have t5 := t3.trans u5
    have hR5p : ∀ o, (h5.push o)[h.size]? = _ := fun o => push_at (t5.at hR (fun h => h))
    simp -dsimp [hR5p]
    refine clone_ints (M := M) (by rw [e5]; simp) (p2.mono (t5.ft (Nat.le_refl 0))) hm ?_
    intro v6 h6 w6 k6
    have hb6 := k6.at hb5 (fun h => h)
    obtain ⟨a6, c6, rfl, _, _⟩ := w6.val
    have hz6 : ∀ o, (Array.setIfInBounds h6 (hb.size + 1) o)[hb.size + 1]? = some o := fun o => set_same _ (lt_of_blk hb6)
    have hb46 : ∀ o, (Array.setIfInBounds h6 (hb.size + 1) o)[hb.size]? = _ := fun o => (set_other _ (by omega)).trans (k6.at ((e5 ▸ set_other _ (by omega) : h5[hb.size]? = h4[hb.size]?).trans (k4.at ((e3 ▸ set_other _ (by omega) : h3[hb.size]? = h2[hb.size]?).trans (k2.at hb4 (fun h => h))) (fun h => h))) (fun h => h))
    have hlb6 : hb.size < h6.size := by have := lt_of_blk hb6; omega
    have hz6' : ∀ o o', (Array.setIfInBounds (Array.setIfInBounds h6 (hb.size + 1) o) hb.size o')[hb.size]? = some o' := fun o o' => set_same _ (by simp; omega)
    simp -dsimp [hb6, hz6, hb46, hz6']
    have s7 := fun o o' => ((t5.call k6).here.set o hM5).set o' hM4
    have u7 := fun o o' => ((t5.here.call k6).set o hM5).set o' hM4
    have t7 := fun o o' => t5.trans (u7 o o')
    have hlh : h.size ≤ hb.size := by omega
    refine hK _ _ ⟨_, rfl, ⟨_, _, _, _, rfl, ?_, ?_, ?_, ?_⟩, kb.trans (t7 _ _).keep (fun _ _ h => h)⟩
    · exact (((g5.call k6).set _ hM5 (fun e => by have := hne _ e; omega)).set _ hM4 (fun e => by have := hne _ e; omega)).rep hlh fun b hb => by have := hne b hb; omega
    · exact (w35.mono ((u7 _ _).ft (Nat.le_refl _))).mono (Ft.free hlh)
    · exact (w5.mono ((u7 _ _).ft (Nat.le_refl _))).mono (Ft.free hlh)
    · exact ((w6.mono (t5.ret (n := hb.size) t5.size)).mono ((s7 _ _).ft (Nat.le_refl _))).mono (Ft.free hlh)
end Go.Proofs

/-
  Cells of rows; a cell among others; the facts' group-by; comparisons of rows of cells.
-/
namespace Go.HC
/-- How long a cell's rows are. -/
structure Sml (m : Nat) (c : CellM) : Prop where
  key : c.key.length ≤ 64
  sum : c.sum.length = m
  mn : c.mn.length = m
  mx : c.mx.length = m
theorem Sml.small {m : Nat} {c : CellM} (s : Sml m c) (hm : m < 1000000000) : CellSmall c := ⟨by have := s.key; omega, by have := s.sum; omega, by have := s.mn; omega, by have := s.mx; omega⟩
theorem Sml.join {m : Nat} {a b : CellM} (ha : Sml m a) (hb : Sml m b) : Sml m (joinC a b) :=
  ⟨ha.key, by simp [joinC, ha.sum, hb.sum], by simp [joinC, ha.mn, hb.mn], by simp [joinC, ha.mx, hb.mx]⟩
theorem Sml.of {s : Int} {r : RowM} (hk : r.key.length ≤ 64) : Sml r.m.length (ofM s r) := ⟨by have := pickM_le s r.key 0; simp only [ofM]; omega, rfl, rfl, rfl⟩
theorem sml_put {m : Nat} {l : List CellM} {c : CellM} (hl : ∀ d ∈ l, Sml m d) (hc : Sml m c) : ∀ d ∈ putC l c, Sml m d := by
  induction l with
  | nil => intro d hd; rw [putC, List.mem_singleton] at hd; rw [hd]; exact hc
  | cons e l ih =>
    intro d hd
    have he := hl e List.mem_cons_self
    have ih := ih fun d hd => hl d (List.mem_cons_of_mem _ hd)
    rw [putC] at hd
    split at hd
    · rcases List.mem_cons.1 hd with rfl | h
      · exact he
      · exact ih d h
    · split at hd
      · rcases List.mem_cons.1 hd with rfl | h
        · exact he.join hc
        · exact hl d (List.mem_cons_of_mem _ h)
      · rcases List.mem_cons.1 hd with rfl | h
        · exact hc
        · exact hl d h
theorem sml_group {m : Nat} {l : List CellM} (hl : ∀ d ∈ l, Sml m d) : ∀ d ∈ groupC l, Sml m d := by
  have key : ∀ (l o : List CellM), (∀ d ∈ l, Sml m d) → (∀ d ∈ o, Sml m d) → ∀ d ∈ l.foldl putC o, Sml m d := by
    intro l
    induction l with
    | nil => exact fun o _ ho => ho
    | cons c l ih => exact fun o hl ho => ih _ (fun d hd => hl d (List.mem_cons_of_mem _ hd)) (sml_put ho (hl c List.mem_cons_self))
  exact key l [] hl fun d hd => by cases hd
/-- Where a cell belongs: how many stand ahead of it. -/
def posC : List CellM → List Int → Nat
  | [], _ => 0
  | d :: l, key => if lessM d.key key < 0 then posC l key + 1 else 0
theorem posC_le : ∀ (l : List CellM) (key : List Int), posC l key ≤ l.length
  | [], _ => Nat.le_refl _
  | d :: l, key => by
    rw [posC]
    have := posC_le l key
    split <;> simp; omega
theorem posC_lt : ∀ {l : List CellM} {key : List Int} {k : Nat} (hk : k < l.length), k < posC l key → lessM l[k].key key < 0
  | [], _, k, hk, _ => by simp at hk
  | d :: l, key, k, hk, h => by
    rw [posC] at h
    split at h
    · rename_i h1
      cases k with
      | zero => exact h1
      | succ k => exact posC_lt (l := l) (by simpa using hk) (by omega)
    · omega
theorem posC_at : ∀ {l : List CellM} {key : List Int} (hk : posC l key < l.length), ¬ lessM l[posC l key].key key < 0
  | [], _, hk => by simp at hk
  | d :: l, key, hk => by
    by_cases h1 : lessM d.key key < 0
    · have e : posC (d :: l) key = posC l key + 1 := by rw [posC, if_pos h1]
      have hk' : posC l key < l.length := by rw [e] at hk; simpa using hk
      have := posC_at hk'
      simp only [e, List.getElem_cons_succ]
      exact this
    · have e : posC (d :: l) key = 0 := by rw [posC, if_neg h1]
      simp only [e, List.getElem_cons_zero]
      exact h1
theorem putC_pos : ∀ (l : List CellM) (c : CellM), putC l c = if h : posC l c.key < l.length ∧ ∃ hk : posC l c.key < l.length, lessM l[posC l c.key].key c.key = 0
    then l.set (posC l c.key) (joinC (l[posC l c.key]'h.1) c) else l.take (posC l c.key) ++ c :: l.drop (posC l c.key)
  | [], c => by simp [putC, posC]
  | d :: l, c => by
    rw [putC]
    by_cases h1 : lessM d.key c.key < 0
    · have e : posC (d :: l) c.key = posC l c.key + 1 := by rw [posC, if_pos h1]
      rw [if_pos h1, putC_pos l c]
      simp only [e, List.length_cons, Nat.add_lt_add_iff_right, List.getElem_cons_succ, List.set_cons_succ, List.take_succ_cons, List.drop_succ_cons, List.cons_append]
      split <;> rfl
    · have e : posC (d :: l) c.key = 0 := by rw [posC, if_neg h1]
      rw [if_neg h1]
      simp only [e, List.length_cons, Nat.zero_lt_succ, List.getElem_cons_zero, List.set_cons_zero, List.take_zero, List.drop_zero, List.nil_append, true_and, exists_true_left]
      split <;> simp_all
end Go.HC
namespace Go.Proofs
open Go Go.HC


set_option maxHeartbeats 4000000 in
set_option maxRecDepth 10000 in
theorem make_spec {h : Heap} {v : Value} {rows : List RowM} (s : Int) (hr : SlRep rRow (Old h) h v rows) (hn : rows.length < 1000000) (hs : ∀ r ∈ rows, r.key.length < 64 ∧ r.m.length < 1000000000) :
    CallH Try.prog 13 #[v, .int .i64 s] h fun r h' => SlRep rCell (Ft h.size none_ h') h' r (rows.map (ofM s)) ∧ Keep none_ h h' := by
  refine callH_by fun K hK => ?_
  refine enter [.tmp 4] Try.func13 rfl rfl (by kernel_rfl) rfl ?_
  obtain ⟨a0, c0, rfl, hc0, hc0'⟩ := hr.val
  simp -dsimp
  refine loopj (σ := Nat × Value) (fun t => [(0, .slice a0 rows.length c0), (1, .int .i64 s), (5, t.2), (6, .int .i64 t.1)])
    (fun t h1 => ∃ M own, Tr none_ M h h1 ∧ (∀ b, own = some b → h.size ≤ b) ∧ t.1 ≤ rows.length ∧ Gr rCell 39 h.size M h1 t.2 ((rows.map (ofM s)).take t.1) own)
    (fun t => rows.length - t.1) (0, .slice none 0 0) (by simp) ⟨none_, none, .start _, (fun _ h => by cases h), Nat.zero_le _, .nil _ _ _ _ _⟩ (by kernel_rfl) ?_
  rintro ⟨k, v⟩ h1 g ⟨M, own, t1, ho, hk1, g1⟩
  simp only at hk1 g1
  obtain ⟨va, vn, vc, rfl, hvn⟩ := g1.vals
  have wk := wrap_succ (k := k) (by omega)
  by_cases hkl : k < rows.length
  · have q1 := hr.mono t1.old
    obtain ⟨b1, o1, cs, rfl, _, hrep, hc1⟩ := q1.get k hkl
    obtain ⟨ka, kc, ma, mc, rfl, _⟩ := row_open hrep
    have hc1' : HC.cellsIn h1[b1]? (o1 + k * 2) 2 = _ := hc1
    simp -dsimp [hkl, idxA_nat hkl, hc1']
    have hrow := hs rows[k] (List.getElem_mem hkl)
    refine call_by (of_spec s (rRow.mono hrep (Ft.free (Nat.zero_le _))) hrow.1 hrow.2) ?_
    rintro _ h2 ⟨ds, rfl, r2, k2⟩
    have t2 := t1.call k2
    have hl5 := rCell.len r2
    obtain ⟨ka', kc', sa', sc', na', nc', xa', xc', rfl, _⟩ := cell_open r2
    simp -dsimp
    have hl : ((rows.map (ofM s)).take k).length ≤ rows.length := by rw [List.length_take, List.length_map]; omega
    refine gr_app1 rfl cellT (g1.call k2) t2.lt (rCell.mono r2 (t1.ret t1.size)) rfl (by omega) (by omega) ?_
    intro v' h3 own' g3 t3 k3 ho3
    obtain ⟨va', vn', vc', rfl, _⟩ := g3.vals
    simp -dsimp [wk]
    have hk2 := t2.size
    refine ⟨(k + 1, .slice va' vn' vc'), by simp, rfl, ⟨_, own', t2.trans t3, fun b hb => (ho3 b hb).elim (ho b) (by omega), by omega, ?_⟩, by simp; omega⟩
    have : (rows.map (ofM s)).take (k + 1) = (rows.map (ofM s)).take k ++ [ofM s rows[k]] := by
      rw [List.take_add_one, List.getElem?_map, List.getElem?_eq_getElem hkl]; rfl
    rw [this]; exact g3
  · have hkk : k = rows.length := by omega
    simp -dsimp [hkl]
    refine hK _ _ ⟨?_, t1.keep⟩
    rw [hkk, List.take_of_length_le (by simp)] at g1
    exact g1.rep (Nat.le_refl _) ho
end Go.Proofs

/-
  HC, part 25: several slices that grow, in blocks of their own.
-/
namespace Go.HC
/-- A slice that grows: its value, its data, its block. -/
structure GI (α : Type) where
  v : Value
  xs : List α
  o : Option Nat
/-- Slices that grow, in blocks of their own that are none of B. -/
structure Grs {α : Type} (R : Rp α) (e n : Nat) (M : Nat → Prop) (h : Heap) (B : Nat → Prop) (l : List (GI α)) : Prop where
  gr : ∀ t ∈ l, Gr R e n M h t.v t.xs t.o ∧ ∀ b, t.o = some b → ¬ B b ∧ n ≤ b
  sep : ∀ (i j : Nat) (s t : GI α), l[i]? = some s → l[j]? = some t → i ≠ j → ∀ b, s.o = some b → t.o ≠ some b
section
variable {α : Type} {R : Rp α} {e n : Nat} {M M' : Nat → Prop} {h h' : Heap} {B : Nat → Prop} {l : List (GI α)}
theorem Grs.nils (k : Nat) : Grs R e n M h B (List.replicate k ⟨.slice none 0 0, [], none⟩) := by
  refine ⟨fun t ht => ?_, fun i j s t hi hj _ b hb => ?_⟩
  · rw [(List.mem_replicate.1 ht).2]
    exact ⟨.nil _ _ _ _ _, fun b hb => by cases hb⟩
  · have := (List.mem_replicate.1 (List.mem_of_getElem? hi)).2
    rw [this] at hb; cases hb
theorem Grs.at (g : Grs R e n M h B l) {i : Nat} {t : GI α} (hi : l[i]? = some t) : Gr R e n M h t.v t.xs t.o := (g.gr t (List.mem_of_getElem? hi)).1
theorem Grs.call (g : Grs R e n M h B l) (k : Keep none_ h h') : Grs R e n M h' B l := ⟨fun t ht => ⟨(g.gr t ht).1.call k, (g.gr t ht).2⟩, g.sep⟩
/-- A block of B is written. -/
theorem Grs.wr (g : Grs R e n M h B l) {b : Nat} (o : Obj) (hb : M b) (hB : B b) : Grs R e n M (h.setIfInBounds b o) B l :=
  ⟨fun t ht => ⟨(g.gr t ht).1.set o hb fun e => ((g.gr t ht).2 b e).1 hB, (g.gr t ht).2⟩, g.sep⟩
/-- One of them has grown. -/
theorem Grs.app (g : Grs R e n M h B l) {i : Nat} {t : GI α} (hi : l[i]? = some t) {v : Value} {ys : List α} {o : Option Nat} (hg : Gr R e n M' h' v ys o) (ht : Tr M M' h h') (hk : Keep (fun b => t.o = some b) h h') (ho : ∀ b, o = some b → t.o = some b ∨ h.size ≤ b)
    (hB : ∀ b, B b → b < h.size) (hn : n ≤ h.size) (hM : ∀ b, M b → M' b) : Grs R e n M' h' B (l.set i ⟨v, ys, o⟩) := by
  have hil : i < l.length := (List.getElem?_eq_some_iff.1 hi).1
  have lt : ∀ s ∈ l, ∀ b, s.o = some b → b < h.size := fun s hs b hb => (g.gr s hs).1.own_lt b hb
  have hmt := List.mem_of_getElem? hi
  refine ⟨fun s hs => ?_, fun a c s t' ha hc hac b hb hb' => ?_⟩
  · obtain ⟨j, hj⟩ := List.mem_iff_getElem?.1 hs
    rw [List.getElem?_set] at hj
    by_cases hij : i = j
    · rw [if_pos hij, if_pos hil] at hj
      cases hj
      refine ⟨hg, fun b hb => ?_⟩
      rcases ho b hb with h1 | h1
      · exact (g.gr t hmt).2 b h1
      · exact ⟨fun h2 => by have := hB b h2; omega, by omega⟩
    · rw [if_neg hij] at hj
      have hm := List.mem_of_getElem? hj
      refine ⟨(g.gr s hm).1.mono ht (Nat.le_refl _) fun b hb => ⟨hM b ((g.gr s hm).1.mu b hb), hk.blk b (lt s hm b hb) (g.sep j i s t hj hi (fun e => hij e.symm) b hb)⟩, (g.gr s hm).2⟩
  · rw [List.getElem?_set] at ha hc
    by_cases h1 : i = a
    · have h2 : i ≠ c := fun e => hac (h1.symm.trans e)
      rw [if_pos h1, if_pos hil] at ha
      rw [if_neg h2] at hc
      cases ha
      rcases ho b hb with h3 | h3
      · exact g.sep i c t t' hi hc h2 b h3 hb'
      · have := lt t' (List.mem_of_getElem? hc) b hb'; omega
    · rw [if_neg h1] at ha
      by_cases h2 : i = c
      · rw [if_pos h2, if_pos hil] at hc
        cases hc
        rcases ho b hb' with h3 | h3
        · exact g.sep a i s t ha hi (fun e => h1 e.symm) b hb h3
        · have := lt s (List.mem_of_getElem? ha) b hb; omega
      · rw [if_neg h2] at hc
        exact g.sep a c s t' ha hc hac b hb hb'
end
end Go.HC

/-
  The document's join of two cells.
-/
namespace Go.HC
theorem zip_take {g : Int → Int → Int} {xs ys : List Int} {k : Nat} (h1 : k < xs.length) (h2 : k < ys.length) : (List.zipWith g xs ys).take (k + 1) = (List.zipWith g xs ys).take k ++ [g xs[k] ys[k]] := by
  rw [List.take_add_one, List.getElem?_eq_getElem (by rw [List.length_zipWith]; omega), List.getElem_zipWith]
  rfl
end Go.HC
namespace Go.Proofs
open Go Go.HC

theorem _root_.Go.HC.Grow.not_at {e f : Nat} {h : Heap} {v : Value} {xs : List Int} {own : Option Nat} {b : Nat} {arr : Array Value} (g : Grow rInt e none_ h v xs own) (hb : h[b]? = some (.cells arr f (0, 0))) (hef : e ≠ f) : own ≠ some b := by
  rintro rfl
  rcases g with ⟨_, _, h0⟩ | ⟨bk, c, ar, cs, _, h0, h1, _⟩
  · cases h0
  · cases h0
    rw [h1] at hb
    simp only [Option.some.injEq] at hb
    injection hb with _ h2 _
    exact hef h2
set_option maxHeartbeats 40000000 in
set_option maxRecDepth 10000 in
theorem rjoin_spec {h : Heap} {cs ds : List Value} {a b : CellM} {m : Nat} (ha : rCell.rep (Old h) h cs a) (sa : CellSmall a) (ea : Sml m a) (hb : rCell.rep (Old h) h ds b) (eb : Sml m b) :
    CallH Try.prog 40 #[.agg cs.toArray, .agg ds.toArray] h fun r h' => ∃ es, r = .agg es.toArray ∧ rCell.rep (Ft h.size none_ h') h' es (joinC a b) ∧ Keep none_ h h' := by
  refine callH_by fun K hK => ?_
  refine enter [.cell 4 39] Try.func40 rfl rfl (by kernel_rfl) rfl ?_
  obtain ⟨kv, sv, nv, xv, rfl, r1, r2, r3, r4⟩ := ha
  obtain ⟨ka, kc, rfl, _, _⟩ := r1.val
  obtain ⟨s1, sc, rfl, _, _⟩ := r2.val
  obtain ⟨na, nc, rfl, _, _⟩ := r3.val
  obtain ⟨xa, xc, rfl, _, _⟩ := r4.val
  obtain ⟨kv', sv', nv', xv', rfl, q1, q2, q3, q4⟩ := hb
  obtain ⟨ka', kc', rfl, _, _⟩ := q1.val
  obtain ⟨sa', sc', rfl, _, _⟩ := q2.val
  obtain ⟨na', nc', rfl, _, _⟩ := q3.val
  obtain ⟨xa', xc', rfl, _, _⟩ := q4.val
  simp -dsimp [boxS_eq]
  generalize hB : Array.push _ _ = h0
  have hz0 : h0.size = h.size + 3 := by rw [← hB]; simp
  have k0 : Keep none_ h h0 := by rw [← hB]; exact (((Keep.refl none_ h).pushed _).pushed _).pushed _
  have hp1 : ∀ o, (h.push o).size = h.size + 1 := fun o => by simp
  have hp2 : ∀ o o', ((h.push o).push o').size = h.size + 2 := fun o o' => by simp
  have hA0 : h0[h.size]? = some (.cells #[.slice ka a.key.length kc, .int .i64 a.count, .slice s1 a.sum.length sc, .slice na a.mn.length nc, .slice xa a.mx.length xc] 39 (0, 0)) := by rw [← hB]; exact push_at (push_at (push_new _ _))
  have hB0 : h0[h.size + 1]? = some (.cells #[.slice ka' b.key.length kc', .int .i64 b.count, .slice sa' b.sum.length sc', .slice na' b.mn.length nc', .slice xa' b.mx.length xc'] 39 (0, 0)) := by
    rw [← hB]; refine push_at ?_; rw [← hp1]; exact push_new _ _
  have hT0 : h0[h.size + 2]? = some (.cells #[.slice none 0 0, .int .i64 0, .slice none 0 0, .slice none 0 0, .slice none 0 0] 39 (0, 0)) := by
    rw [← hB, ← hp2]; exact push_new _ _
  have m1 : ∀ b, Old h b → Old h b ∧ h0[b]? = h[b]? := fun b hb => ⟨hb, k0.blk b (Old.lt b hb) (fun h => h)⟩
  have hF0 : ∀ b, Old h b → b < h0.size := fun b hb => by have := Old.lt b hb; omega
  have p1 := r1.mono m1
  refine drawn_any [([], .act (EmptyAt h0.size)), ([], .look (.pointer (some ⟨h.size, 0, none⟩))), ([1], .look (.slice ka a.key.length kc)), ([0, 2], .act (NewInts h0.size a.key)),
    ([], .look (.pointer (some ⟨h.size, 1, none⟩))), ([4], .look (.int .i64 a.count)), ([], .look (.pointer (some ⟨h.size + 1, 1, none⟩))), ([6], .look (.int .i64 b.count)), ([5, 7], .look (.int .i64 (IntKind.i64.wrap (a.count + b.count)))),
    ([3, 8], .act (fun v h' => ∃ kv, v = .agg #[kv, .int .i64 (IntKind.i64.wrap (a.count + b.count)), .slice none 0 0, .slice none 0 0, .slice none 0 0] ∧ NewInts h0.size a.key kv h')),
    ([], .act (fun v h' => ∃ b5, v = .pointer (some ⟨b5, 0, none⟩) ∧ h'[b5]? = some (.cells #[.slice none 0 0, .int .i64 0, .slice none 0 0, .slice none 0 0, .slice none 0 0] 39 (0, 0)) ∧ h0.size ≤ b5))]
    [0, 1, 2, 3, 4, 5, 6, 7, 8, 9, 10] [⟨11, false, []⟩] (by kernel_rfl) (by kernel_rfl) (by kernel_rfl) ?_ ?_
  · simp only [obl, rdS, doS]
    refine ⟨?_, ?_, ?_, ?_, ?_, ?_, ?_, ?_, ?_, ?_, ?_, trivial⟩
    all_goals intro h1 k1
    all_goals simp -dsimp [dstOf, k1.at hA0 (fun h => h), k1.at hB0 (fun h => h)]
    · exact ⟨.push _ _ _, _, rfl, push_new _ _, k1.size⟩
    · exact fun v hj he kj => newInts_app he kj k1 p1 hF0 sa.key fun _ _ h => h
    · rintro v hj ⟨own, g, n⟩ kj
      replace g := g.at_ kj
      obtain ⟨a', c', rfl⟩ := g.val
      simp -dsimp
      exact ⟨.refl _ _, own, g, n⟩
    · exact ⟨.push _ _ _, k1.size⟩
  · intro h4 k4
    have hT4 := k4.at hT0 (fun h => h)
    have e4 := k4.size
    simp -dsimp only [List.map_cons, List.map_nil, item, dstOf, List.getElem?_cons_succ, List.getElem?_cons_zero, Option.map_some, Option.bind_some]
    simp -dsimp only [rdI, putl]
    rintro - - - - - - - - vA jA ⟨kv, rfl, o1, g1, n1⟩ wA vB jB ⟨b5, rfl, hb5, l5⟩ wB
    replace g1 := g1.at_ wA
    replace hb5 := wB.at hb5 (fun h => h)
    have w1 := g1.not_at hb5 (by decide)
    obtain ⟨a1, c1, rfl⟩ := g1.val
    have hlb := lt_of_blk hb5
    have hset : ∀ o, (h4.setIfInBounds b5 o)[b5]? = some o := fun o => set_same o hlb
    simp -dsimp [hb5]
    have hs2 : h.size + 1 + 1 = h.size + 2 := rfl
    rw [hs2]
    have t4 : Tr none_ (fun b => b = h.size + 2 ∨ b = b5) h h4 := ⟨k0.trans k4 (fun _ _ h => h), fun b hb => .inr (by omega), fun b hb => by omega⟩
    generalize hH : h4.setIfInBounds b5 _ = h5
    have t5 : Tr none_ (fun b => b = h.size + 2 ∨ b = b5) h h5 := by rw [← hH]; exact t4.set _ (.inr rfl)
    have hold : ∀ b, b ≠ b5 → h5[b]? = h4[b]? := fun b hn => by rw [← hH, set_other _ (fun e => hn e.symm)]
    have hz5 : h5.size = h4.size := by rw [← hH]; simp
    have hb5' : h5[b5]? = some (.cells #[.slice a1 a.key.length c1, .int .i64 (IntKind.i64.wrap (a.count + b.count)), .slice none 0 0, .slice none 0 0, .slice none 0 0] 39 (0, 0)) := by rw [← hH]; exact set_same _ hlb
    have gk : SlRep rInt (Ft h.size (fun b => b = h.size + 2 ∨ b = b5) h5) h5 _ _ := g1.ints.mono fun b hb => by
        have := n1 b hb
        have := g1.own_lt b hb
        have hne : b ≠ b5 := fun e => w1 (by rw [← e]; exact hb)
        exact ⟨⟨⟨by omega, fun _ => (g1.thaw b hb).at (hold b hne)⟩, by omega, by omega⟩, hold b hne⟩
    have hA5 := (hold _ (by omega)).trans (k4.at hA0 (fun h => h))
    have hB5 := (hold _ (by omega)).trans (k4.at hB0 (fun h => h))
    have hT5 := (hold _ (by omega)).trans hT4
    clear hH hset
    refine loopj (σ := Nat × Value × Value × Value) (fun t => [(2, .pointer (some ⟨h.size, 0, none⟩)), (3, .pointer (some ⟨h.size + 1, 0, none⟩)), (4, .pointer (some ⟨h.size + 2, 0, none⟩)), (5, .pointer (some ⟨b5, 0, none⟩)), (6, .int .i64 t.1)])
      (fun t h1 => ∃ M o2 o3 o4, Tr (fun b => b = h.size + 2 ∨ b = b5) M h5 h1 ∧ (M (h.size + 2) ∧ M b5) ∧ t.1 ≤ a.sum.length ∧ h1[h.size + 2]? = some (.cells #[.slice none 0 0, .int .i64 0, .slice none 0 0, .slice none 0 0, .slice none 0 0] 39 (0, 0)) ∧
        h1[b5]? = some (.cells #[.slice a1 a.key.length c1, .int .i64 (IntKind.i64.wrap (a.count + b.count)), t.2.1, t.2.2.1, t.2.2.2] 39 (0, 0)) ∧
        Grs rInt 3 h.size M h1 (fun b => b = h.size + 2 ∨ b = b5) [⟨t.2.1, (joinC a b).sum.take t.1, o2⟩, ⟨t.2.2.1, (joinC a b).mn.take t.1, o3⟩, ⟨t.2.2.2, (joinC a b).mx.take t.1, o4⟩])
      (fun t => a.sum.length - t.1) (0, .slice none 0 0, .slice none 0 0, .slice none 0 0) (by simp) ⟨_, none, none, none, t5.here, ⟨.inl rfl, .inr rfl⟩, Nat.zero_le _, hT5, hb5', Grs.nils 3⟩ (by kernel_rfl) ?_
    rintro ⟨k, v2, v3, v4⟩ h1 g ⟨M, o2, o3, o4, t1, ⟨hM2, hM5⟩, hk, hT1, hb1, gg⟩
    simp only at hk hT1 hb1 gg
    have e1 := t1.size
    have hA1 := t1.at hA5 (by omega)
    have hB1 := t1.at hB5 (by omega)
    have wk := wrap_succ (k := k) (by have := sa.sum; omega)
    have hlb1 := lt_of_blk hb1
    obtain ⟨va2, vn2, vc2, rfl, _⟩ := (gg.at (i := 0) rfl).vals
    obtain ⟨va3, vn3, vc3, rfl, _⟩ := (gg.at (i := 1) rfl).vals
    obtain ⟨va4, vn4, vc4, rfl, _⟩ := (gg.at (i := 2) rfl).vals
    by_cases hkl : k < a.sum.length
    · have hb1p : ∀ o, (h1.push o)[b5]? = _ := fun o => push_at hb1
      simp -dsimp [hA1, hkl]
      have tt := t5.trans t1
      have ll : ∀ f : List Int, (f.take k).length ≤ k := fun f => by rw [List.length_take]; omega
      have hsk := sa.sum
      obtain ⟨bA0, oA0, eA0, _, cA0⟩ := (r2.mono tt.old).int_at k (by omega)
      obtain ⟨bB0, oB0, eB0, _, cB0⟩ := (q2.mono tt.old).int_at k (by rw [eb.sum, ← ea.sum]; omega)
      subst eA0 eB0
      have iA0 : k < a.sum.length := by omega
      have iB0 : k < b.sum.length := by rw [eb.sum, ← ea.sum]; omega
      refine drawn_by [⟨0, true, []⟩, ⟨1, true, []⟩, ⟨2, true, []⟩, ⟨3, true, []⟩, ⟨4, true, []⟩, ⟨5, true, []⟩, ⟨6, true, []⟩, ⟨7, true, []⟩, ⟨8, true, []⟩, ⟨9, true, []⟩, ⟨10, true, []⟩, ⟨11, true, []⟩, ⟨12, true, []⟩, ⟨13, false, [0, 1]⟩, ⟨14, false, []⟩, ⟨15, true, []⟩, ⟨16, false, []⟩] (by kernel_rfl) (by kernel_rfl) ?_
      simp -dsimp [hA1, hB1, hb1, hb1p, cA0, cB0, idxV_nat iA0, idxV_nat iB0, elSz_eq, again_cons]
      have eL0 := ll (joinC a b).sum
      refine gr_app1 (xs := (joinC a b).sum.take k) (by rfl) intT (gg.at (i := 0) rfl) t1.lt rfl rfl (by omega) (by omega) ?_
      intro w0 y0 p0 g0 u0 k0 ho0
      obtain ⟨ya0, yn0, yc0, rfl, _⟩ := g0.vals
      have hby0 := k0.at hb1 (fun e => ((gg.gr _ (List.mem_of_getElem? (i := 0) rfl)).2 _ e).1 (.inr rfl))
      have G0 := gg.app (i := 0) rfl g0 u0 k0 ho0 (fun b hb => by have := tt.size; have := lt_of_blk hb1; have := tt.lt _ hM2; omega) tt.size (fun b hb => .inl hb)
      simp -dsimp [hby0]
      obtain ⟨z0, x0⟩ : ∃ z, z = y0.setIfInBounds b5 (.cells #[.slice a1 a.key.length c1, .int .i64 (IntKind.i64.wrap (a.count + b.count)), .slice ya0 yn0 yc0, .slice va3 vn3 vc3, .slice va4 vn4 vc4] 39) := ⟨_, rfl⟩
      rw [← x0]
      obtain ⟨N0, eN0⟩ : ∃ N : Nat → Prop, N = fun b => M b ∨ p0 = some b := ⟨_, rfl⟩
      have n20 : N0 (h.size + 2) := by rw [eN0]; exact .inl hM2
      have n50 : N0 b5 := by rw [eN0]; exact .inl hM5
      rw [← eN0] at u0 G0
      replace u0 := u0.set (.cells #[.slice a1 a.key.length c1, .int .i64 (IntKind.i64.wrap (a.count + b.count)), .slice ya0 yn0 yc0, .slice va3 vn3 vc3, .slice va4 vn4 vc4] 39) n50
      replace G0 := G0.wr (.cells #[.slice a1 a.key.length c1, .int .i64 (IntKind.i64.wrap (a.count + b.count)), .slice ya0 yn0 yc0, .slice va3 vn3 vc3, .slice va4 vn4 vc4] 39) n50 (.inr rfl)
      rw [← x0] at u0 G0
      have hbz0 : z0[b5]? = some (.cells #[.slice a1 a.key.length c1, .int .i64 (IntKind.i64.wrap (a.count + b.count)), .slice ya0 yn0 yc0, .slice va3 vn3 vc3, .slice va4 vn4 vc4] 39 (0, 0)) := x0 ▸ set_same _ (lt_of_blk hby0)
      have hTz0 : z0[h.size + 2]? = _ := x0 ▸ (set_other _ (by omega)).trans (k0.at hT1 (fun e => ((gg.gr _ (List.mem_of_getElem? (i := 0) rfl)).2 _ e).1 (.inl rfl)))
      have hbzp0 : ∀ o, (z0.push o)[b5]? = _ := fun o => push_at hbz0
      have tr0 := t1.trans u0
      have tt0 := tt.trans u0
      have hA0' := tr0.at hA5 (by omega)
      have hB0' := tr0.at hB5 (by omega)
      obtain ⟨bA1, oA1, eA1, _, cA1⟩ := (r3.mono tt0.old).int_at k (by rw [ea.mn, ← ea.sum]; omega)
      obtain ⟨bB1, oB1, eB1, _, cB1⟩ := (q3.mono tt0.old).int_at k (by rw [eb.mn, ← ea.sum]; omega)
      subst eA1 eB1
      have iA1 : k < a.mn.length := by rw [ea.mn, ← ea.sum]; omega
      have iB1 : k < b.mn.length := by rw [eb.mn, ← ea.sum]; omega
      refine drawn_by [⟨0, true, []⟩, ⟨1, true, []⟩, ⟨2, true, []⟩, ⟨3, true, []⟩, ⟨4, true, []⟩, ⟨5, true, []⟩, ⟨6, true, []⟩, ⟨7, true, []⟩, ⟨8, true, []⟩, ⟨9, true, []⟩, ⟨10, true, []⟩, ⟨11, true, []⟩, ⟨12, false, [0, 1]⟩, ⟨13, false, [0, 1]⟩, ⟨14, false, []⟩, ⟨15, true, []⟩, ⟨16, false, []⟩] (by kernel_rfl) (by kernel_rfl) ?_
      simp -dsimp [hA0', hB0', hbz0, hbzp0, cA1, cB1, idxV_nat iA1, idxV_nat iB1, elSz_eq, again_cons]
      have eL1 := ll (joinC a b).mn
      refine gr_app1 (xs := (joinC a b).mn.take k) (by first | rfl | (rw [x0]; simp)) intT (G0.at (i := 1) rfl) tr0.lt rfl rfl (by omega) (by omega) ?_
      intro w1 y1 p1 g1 u1 k1 ho1
      obtain ⟨ya1, yn1, yc1, rfl, _⟩ := g1.vals
      have hby1 := k1.at hbz0 (fun e => ((G0.gr _ (List.mem_of_getElem? (i := 1) rfl)).2 _ e).1 (.inr rfl))
      have G1 := G0.app (i := 1) rfl g1 u1 k1 ho1 (fun b hb => by have := tt0.size; have := lt_of_blk hbz0; have := tt0.lt _ n20; omega) tt0.size (fun b hb => .inl hb)
      simp -dsimp [hby1]
      obtain ⟨z1, x1⟩ : ∃ z, z = y1.setIfInBounds b5 (.cells #[.slice a1 a.key.length c1, .int .i64 (IntKind.i64.wrap (a.count + b.count)), .slice ya0 yn0 yc0, .slice ya1 yn1 yc1, .slice va4 vn4 vc4] 39) := ⟨_, rfl⟩
      rw [← x1]
      obtain ⟨N1, eN1⟩ : ∃ N : Nat → Prop, N = fun b => N0 b ∨ p1 = some b := ⟨_, rfl⟩
      have n21 : N1 (h.size + 2) := by rw [eN1]; exact .inl n20
      have n51 : N1 b5 := by rw [eN1]; exact .inl n50
      rw [← eN1] at u1 G1
      replace u1 := u1.set (.cells #[.slice a1 a.key.length c1, .int .i64 (IntKind.i64.wrap (a.count + b.count)), .slice ya0 yn0 yc0, .slice ya1 yn1 yc1, .slice va4 vn4 vc4] 39) n51
      replace G1 := G1.wr (.cells #[.slice a1 a.key.length c1, .int .i64 (IntKind.i64.wrap (a.count + b.count)), .slice ya0 yn0 yc0, .slice ya1 yn1 yc1, .slice va4 vn4 vc4] 39) n51 (.inr rfl)
      rw [← x1] at u1 G1
      have hbz1 : z1[b5]? = some (.cells #[.slice a1 a.key.length c1, .int .i64 (IntKind.i64.wrap (a.count + b.count)), .slice ya0 yn0 yc0, .slice ya1 yn1 yc1, .slice va4 vn4 vc4] 39 (0, 0)) := x1 ▸ set_same _ (lt_of_blk hby1)
      have hTz1 : z1[h.size + 2]? = _ := x1 ▸ (set_other _ (by omega)).trans (k1.at hTz0 (fun e => ((G0.gr _ (List.mem_of_getElem? (i := 1) rfl)).2 _ e).1 (.inl rfl)))
      have hbzp1 : ∀ o, (z1.push o)[b5]? = _ := fun o => push_at hbz1
      have tr1 := tr0.trans u1
      have tt1 := tt0.trans u1
      have hA1' := tr1.at hA5 (by omega)
      have hB1' := tr1.at hB5 (by omega)
      obtain ⟨bA2, oA2, eA2, _, cA2⟩ := (r4.mono tt1.old).int_at k (by rw [ea.mx, ← ea.sum]; omega)
      obtain ⟨bB2, oB2, eB2, _, cB2⟩ := (q4.mono tt1.old).int_at k (by rw [eb.mx, ← ea.sum]; omega)
      subst eA2 eB2
      have iA2 : k < a.mx.length := by rw [ea.mx, ← ea.sum]; omega
      have iB2 : k < b.mx.length := by rw [eb.mx, ← ea.sum]; omega
      refine drawn_by [⟨0, true, []⟩, ⟨1, true, []⟩, ⟨2, true, []⟩, ⟨3, true, []⟩, ⟨4, true, []⟩, ⟨5, true, []⟩, ⟨6, true, []⟩, ⟨7, true, []⟩, ⟨8, true, []⟩, ⟨9, true, []⟩, ⟨10, true, []⟩, ⟨11, true, []⟩, ⟨12, false, [0, 1]⟩, ⟨13, false, [0, 1]⟩, ⟨14, false, []⟩, ⟨15, true, []⟩, ⟨16, false, []⟩] (by kernel_rfl) (by kernel_rfl) ?_
      simp -dsimp [hA1', hB1', hbz1, hbzp1, cA2, cB2, idxV_nat iA2, idxV_nat iB2, elSz_eq, again_cons]
      have eL2 := ll (joinC a b).mx
      refine gr_app1 (xs := (joinC a b).mx.take k) (by first | rfl | (rw [x1]; simp)) intT (G1.at (i := 2) rfl) tr1.lt rfl rfl (by omega) (by omega) ?_
      intro w2 y2 p2 g2 u2 k2 ho2
      obtain ⟨ya2, yn2, yc2, rfl, _⟩ := g2.vals
      have hby2 := k2.at hbz1 (fun e => ((G1.gr _ (List.mem_of_getElem? (i := 2) rfl)).2 _ e).1 (.inr rfl))
      have G2 := G1.app (i := 2) rfl g2 u2 k2 ho2 (fun b hb => by have := tt1.size; have := lt_of_blk hbz1; have := tt1.lt _ n21; omega) tt1.size (fun b hb => .inl hb)
      simp -dsimp [hby2]
      obtain ⟨z2, x2⟩ : ∃ z, z = y2.setIfInBounds b5 (.cells #[.slice a1 a.key.length c1, .int .i64 (IntKind.i64.wrap (a.count + b.count)), .slice ya0 yn0 yc0, .slice ya1 yn1 yc1, .slice ya2 yn2 yc2] 39) := ⟨_, rfl⟩
      rw [← x2]
      obtain ⟨N2, eN2⟩ : ∃ N : Nat → Prop, N = fun b => N1 b ∨ p2 = some b := ⟨_, rfl⟩
      have n22 : N2 (h.size + 2) := by rw [eN2]; exact .inl n21
      have n52 : N2 b5 := by rw [eN2]; exact .inl n51
      rw [← eN2] at u2 G2
      replace u2 := u2.set (.cells #[.slice a1 a.key.length c1, .int .i64 (IntKind.i64.wrap (a.count + b.count)), .slice ya0 yn0 yc0, .slice ya1 yn1 yc1, .slice ya2 yn2 yc2] 39) n52
      replace G2 := G2.wr (.cells #[.slice a1 a.key.length c1, .int .i64 (IntKind.i64.wrap (a.count + b.count)), .slice ya0 yn0 yc0, .slice ya1 yn1 yc1, .slice ya2 yn2 yc2] 39) n52 (.inr rfl)
      rw [← x2] at u2 G2
      have hbz2 : z2[b5]? = some (.cells #[.slice a1 a.key.length c1, .int .i64 (IntKind.i64.wrap (a.count + b.count)), .slice ya0 yn0 yc0, .slice ya1 yn1 yc1, .slice ya2 yn2 yc2] 39 (0, 0)) := x2 ▸ set_same _ (lt_of_blk hby2)
      have hTz2 : z2[h.size + 2]? = _ := x2 ▸ (set_other _ (by omega)).trans (k2.at hTz1 (fun e => ((G1.gr _ (List.mem_of_getElem? (i := 2) rfl)).2 _ e).1 (.inl rfl)))
      have hbzp2 : ∀ o, (z2.push o)[b5]? = _ := fun o => push_at hbz2
      have tr2 := tr1.trans u2
      have tt2 := tt1.trans u2
      have hA2' := tr2.at hA5 (by omega)
      have hB2' := tr2.at hB5 (by omega)
      have z0' := zip_take (g := fun x y => IntKind.i64.wrap (x + y)) iA0 iB0
      have z1' := zip_take (g := min) iA1 iB1
      have z2' := zip_take (g := max) iA2 iB2
      refine ⟨(k + 1, .slice ya0 yn0 yc0, .slice ya1 yn1 yc1, .slice ya2 yn2 yc2), by simp [wk], rfl, ⟨N2, p0, p1, p2, tr2, ⟨n22, n52⟩, by omega, hTz2, hbz2, ?_⟩, by simp; omega⟩
      show Grs _ _ _ _ _ _ [⟨_, (List.zipWith _ a.sum b.sum).take (k + 1), p0⟩, ⟨_, (List.zipWith _ a.mn b.mn).take (k + 1), p1⟩, ⟨_, (List.zipWith _ a.mx b.mx).take (k + 1), p2⟩]
      rw [z0', z1', z2']
      exact G2
    · simp -dsimp [hA1, hkl, hb1]
      have hkk : k = a.sum.length := by omega
      have hsetT : ∀ o, (h1.setIfInBounds (h.size + 2) o)[h.size + 2]? = some o := fun o => set_same _ (lt_of_blk hT1)
      simp -dsimp [hT1, hsetT]
      have hl := fun (f : Int → Int → Int) (xs ys : List Int) (e : xs.length = m) (e' : ys.length = m) => List.take_of_length_le (l := List.zipWith f xs ys) (i := k) (by rw [List.length_zipWith]; have := ea.sum; omega)
      have tt := (t5.trans t1).set (.cells #[.slice a1 a.key.length c1, .int .i64 (IntKind.i64.wrap (a.count + b.count)), .slice va2 vn2 vc2, .slice va3 vn3 vc3, .slice va4 vn4 vc4] 39) hM2
      have t1' := t1.set (.cells #[.slice a1 a.key.length c1, .int .i64 (IntKind.i64.wrap (a.count + b.count)), .slice va2 vn2 vc2, .slice va3 vn3 vc3, .slice va4 vn4 vc4] 39) hM2
      have g9 := gg.wr (.cells #[.slice a1 a.key.length c1, .int .i64 (IntKind.i64.wrap (a.count + b.count)), .slice va2 vn2 vc2, .slice va3 vn3 vc3, .slice va4 vn4 vc4] 39) hM2 (.inl rfl)
      have hr := fun i t (hi : [(⟨.slice va2 vn2 vc2, (joinC a b).sum.take k, o2⟩ : GI Int), ⟨.slice va3 vn3 vc3, (joinC a b).mn.take k, o3⟩, ⟨.slice va4 vn4 vc4, (joinC a b).mx.take k, o4⟩][i]? = some t) => (g9.at hi).rep (n' := h.size) (Nat.le_refl _) fun b hb => ((g9.gr t (List.mem_of_getElem? hi)).2 b hb).2
      refine hK _ _ ⟨_, rfl, ⟨_, _, _, _, rfl, (gk.mono (t1'.ft (Nat.le_refl _))).mono (Ft.free (Nat.le_refl _)), ?_, ?_, ?_⟩, tt.keep⟩
      · have := hr 0 _ rfl
        rwa [show (joinC a b).sum.take k = (joinC a b).sum from hl _ _ _ ea.sum eb.sum] at this
      · have := hr 1 _ rfl
        rwa [show (joinC a b).mn.take k = (joinC a b).mn from hl _ _ _ ea.mn eb.mn] at this
      · have := hr 2 _ rfl
        rwa [show (joinC a b).mx.take k = (joinC a b).mx from hl _ _ _ ea.mx eb.mx] at this
end Go.Proofs

/-
  A cell is put among others that rise; groups of cells and of facts: the document's.
-/
namespace Go.Proofs
open Go Go.HC

set_option maxHeartbeats 4000000 in
set_option maxRecDepth 10000 in
theorem rput_at {n0 : Nat} {h : Heap} {v : Value} {cs : List Value} {l : List CellM} {c : CellM} {m : Nat} (hl : SlRep rCell (Ft n0 none_ h) h v l) (hc : rCell.rep (Old h) h cs c) (hn : l.length < 1000000) (hm : m < 1000000000) (hs : ∀ d ∈ l, Sml m d) (hsc : Sml m c) (hn0 : n0 ≤ h.size) :
    CallH Try.prog 46 #[v, .agg cs.toArray] h fun r h' => SlRep rCell (Ft n0 none_ h') h' r (putC l c) ∧ Keep none_ h h' := by
  refine callH_by fun K hK => ?_
  refine enter [.tmp 4] Try.func46 rfl rfl (by kernel_rfl) rfl ?_
  obtain ⟨a0, c0, rfl, hc0, hc0'⟩ := hl.val
  obtain ⟨ka, kc, sa, sc, na, nc, xa, xc, rfl, r1, r2, r3, r4⟩ := cell_open hc
  simp -dsimp [boxS_eq]
  generalize hB : Array.push h _ = hb
  have kb : Keep none_ h hb := by rw [← hB]; exact .push _ _ _
  have hC : hb[h.size]? = some (.cells #[.slice ka c.key.length kc, .int .i64 c.count, .slice sa c.sum.length sc, .slice na c.mn.length nc, .slice xa c.mx.length xc] 39 (0, 0)) := by rw [← hB]; exact push_new _ _
  have tb := Tr.of kb
  have l1 := hl.mono (tb.ft (Nat.le_refl n0))
  have k1 := r1.mono (tb.ft (Nat.le_refl 0))
  have c1 := rCell.mono hc (tb.ft (Nat.le_refl 0))
  have hpl := posC_le l c.key
  refine loopj (σ := Nat) (fun k => [(0, .slice a0 l.length c0), (3, .pointer (some ⟨h.size, 0, none⟩)), (5, .int .i64 k)]) (fun k h1 => h1 = hb ∧ k ≤ posC l c.key) (fun k => l.length - k) 0 (by simp) ⟨rfl, Nat.zero_le _⟩ (by kernel_rfl) ?_
  rintro k h1 g ⟨rfl, hk⟩
  have wk := wrap_succ (k := k) (by omega)
  rcases Nat.lt_or_ge k l.length with hkl | hkl
  case' inl =>
    obtain ⟨b1, o1, cs1, ea0, _, hr1, hc1⟩ := l1.get k hkl
    subst ea0
    obtain ⟨ka1, kc1, sa1, sc1, na1, nc1, xa1, xc1, rfl, q1, _⟩ := cell_open hr1
    have hk0 : cellIn h1[b1]? (o1 + k * 5) = some (.slice ka1 l[k].key.length kc1) := cellsIn_cell (d := 0) hc1 (by decide)
    have hc1' : HC.cellsIn h1[b1]? (o1 + k * 5) 5 = _ := hc1
    simp -dsimp
    refine drawn_by [⟨0, true, []⟩, ⟨1, true, []⟩, ⟨2, true, []⟩, ⟨3, true, []⟩, ⟨4, true, []⟩, ⟨5, true, []⟩, ⟨6, true, []⟩, ⟨7, true, []⟩, ⟨8, true, []⟩, ⟨9, true, []⟩, ⟨10, true, []⟩, ⟨11, true, []⟩, ⟨12, false, []⟩, ⟨13, true, []⟩, ⟨14, true, []⟩] (by kernel_rfl) (by kernel_rfl) ?_
    simp -dsimp [hkl, idxV_nat hkl, elSz_eq, hk0, hC]
    refine call_by (rless_spec q1 k1) ?_
    rintro _ h2 ⟨rfl, hh⟩
    obtain rfl := hh.symm
    by_cases hlt : lessM l[k].key c.key < 0
    case pos =>
      simp -dsimp [hlt, wk]
      refine ⟨k + 1, by simp, rfl, ⟨rfl, ?_⟩, by show l.length - (k + 1) < l.length - k; omega⟩
      rcases Nat.lt_or_ge k (posC l c.key) with h | h
      · exact h
      · have e : k = posC l c.key := by omega
        subst e
        exact absurd hlt (posC_at hkl)
    have hkp : k = posC l c.key := by
      rcases Nat.lt_or_ge k (posC l c.key) with h | h
      · exact absurd (posC_lt hkl h) hlt
      · omega
    simp -dsimp [hlt]
    refine drawn_by [⟨0, true, []⟩, ⟨1, true, []⟩, ⟨2, true, []⟩, ⟨3, true, []⟩, ⟨4, true, []⟩, ⟨5, true, []⟩, ⟨6, true, []⟩, ⟨7, true, []⟩, ⟨8, true, []⟩, ⟨9, true, []⟩, ⟨10, true, []⟩, ⟨11, true, []⟩, ⟨12, false, []⟩, ⟨13, true, []⟩, ⟨14, true, []⟩] (by kernel_rfl) (by kernel_rfl) ?_
    simp -dsimp [hkl, idxV_nat hkl, elSz_eq, hk0, hC]
    refine call_by (rless_spec q1 k1) ?_
    rintro _ h2 ⟨rfl, hh⟩
    obtain rfl := hh.symm
    by_cases h0 : lessM l[k].key c.key = 0
    case pos =>
      simp -dsimp [h0]
      obtain ⟨ge, te⟩ := gr_empty rCell 39 n0 tb h1.size rfl
      obtain ⟨cs0, _, _, _, hcl, hel⟩ := l1.open_
      refine gr_append (ys := l) (n := n0) cellT ge te.lt rfl (hcl.mono fun b hb => te.ft (Nat.le_refl n0) b hb) (hel.mono fun b hb => te.ft (Nat.le_refl n0) b hb) (by simp; omega) (by simp; omega) ?_
      intro v3 h3 own3 g3 t3 k3 ho3
      obtain ⟨va3, vn3, vc3, rfl, hvn3⟩ := g3.vals
      have u3 := te.trans t3
      have hC3 := u3.at hC (fun h => h)
      have hk3 : HC.cellsIn h3[b1]? (o1 + k * 5) 5 = HC.cellsIn h1[b1]? (o1 + k * 5) 5 := by
        obtain ⟨bb, oo, cc, e1, hf, _⟩ := l1.get k hkl
        cases e1
        rw [u3.keep.blk b1 hf.2.1 (fun h => h)]
      simp -dsimp
      refine drawn_by [⟨0, true, []⟩, ⟨1, true, []⟩, ⟨2, true, []⟩, ⟨3, true, []⟩, ⟨4, true, []⟩, ⟨5, true, []⟩, ⟨6, true, []⟩, ⟨7, false, [0, 1]⟩, ⟨8, true, []⟩, ⟨9, false, []⟩] (by kernel_rfl) (by kernel_rfl) ?_
      simp -dsimp [idxV_nat hkl, elSz_eq, hC3, hk3, hc1']
      have hm1 := hs l[k] (List.getElem_mem hkl)
      refine call_by (rjoin_spec (rCell.mono (rCell.mono hr1 (u3.ft (Nat.le_refl n0))) (Ft.free (Nat.zero_le _))) (hm1.small hm) hm1 (rCell.mono (rCell.mono c1 (u3.ft (Nat.le_refl 0))) (Ft.free (Nat.zero_le _))) hsc) ?_
      rintro _ h4 ⟨es, rfl, r4', k4⟩
      have u4 := u3.call k4
      have hl5 := rCell.len r4'
      obtain ⟨bk, m', c', o', hv, hm', ho4, hw, g4⟩ := (g3.call k4).setE (i := k) (by simpa using hkl) (rCell.mono r4' (u3.ret (Nat.le_trans hn0 (kb.trans u3.keep fun _ _ h => h).size)))
      cases hv
      have hkm : k < vn3 := by rw [hm']; simpa using hkl
      obtain ⟨ka5, kc5, sa5, sc5, na5, nc5, xa5, xc5, rfl, _⟩ := cell_open r4'
      have hw' : writeIn h4[bk]? (k * 5) _ = some o' := hw
      simp -dsimp [idxV_nat hkm, elSz_eq, again_cons, hw']
      have u5 := u4.set o' (g3.mu bk ho4)
      refine hK _ _ ⟨?_, kb.trans u5.keep (fun _ _ h => h)⟩
      have hput : putC l c = l.set k (joinC l[k] c) := by
        rw [putC_pos]
        subst hkp
        rw [dif_pos ⟨hkl, hkl, h0⟩]
      rw [hput]
      simp only [List.nil_append] at g4
      exact g4.rep (Nat.le_refl n0) (fun b hb => by have := u5.fresh b (g4.mu b hb); have := kb.size; omega)
    have h0' : (lessM l[k].key c.key == 0) = false := by simpa using h0
    simp -dsimp [h0']
  case' inr =>
    have hkp : k = posC l c.key := by omega
    have hkl' : ¬ k < l.length := by omega
    simp -dsimp
    refine drawn_by [⟨0, true, []⟩, ⟨1, true, []⟩, ⟨2, true, []⟩, ⟨3, true, []⟩, ⟨4, true, []⟩, ⟨5, true, []⟩, ⟨6, true, []⟩, ⟨7, true, []⟩, ⟨8, true, []⟩, ⟨9, true, []⟩, ⟨10, true, []⟩, ⟨11, true, []⟩, ⟨12, false, []⟩, ⟨13, true, []⟩, ⟨14, true, []⟩] (by kernel_rfl) (by kernel_rfl) ?_
    simp -dsimp [hkl']
    refine drawn_by [⟨0, true, []⟩, ⟨1, true, []⟩, ⟨2, true, []⟩, ⟨3, true, []⟩, ⟨4, true, []⟩, ⟨5, true, []⟩, ⟨6, true, []⟩, ⟨7, true, []⟩, ⟨8, true, []⟩, ⟨9, true, []⟩, ⟨10, true, []⟩, ⟨11, true, []⟩, ⟨12, false, []⟩, ⟨13, true, []⟩, ⟨14, true, []⟩] (by kernel_rfl) (by kernel_rfl) ?_
    simp -dsimp [hkl']
  all_goals
    have hkl2 : k ≤ l.length := by omega
    refine drawn_by [⟨1, true, []⟩, ⟨2, true, []⟩, ⟨3, true, []⟩, ⟨5, true, []⟩, ⟨9, true, []⟩, ⟨10, true, []⟩, ⟨11, true, []⟩, ⟨0, false, [1, 2, 3, 5, 9, 10, 11]⟩, ⟨4, false, [5, 9, 10, 11]⟩, ⟨6, false, [9, 10, 11]⟩, ⟨7, false, [9, 10, 11]⟩, ⟨8, false, [9, 10, 11]⟩, ⟨12, false, []⟩, ⟨13, true, []⟩] (by kernel_rfl) (by kernel_rfl) ?_
    have hkc : k ≤ c0 := by omega
    have hCp : ∀ o, (h1.push o)[h.size]? = _ := fun o => push_at hC
    simp -dsimp [elSz_eq, pieceV, natV, hC, hCp, hkl2, hc0, hkc, again_cons]
    obtain ⟨ge, te⟩ := gr_empty rCell 39 n0 tb h1.size rfl
    have s1 := (l1.mono (te.ft (Nat.le_refl n0))).cut (i := 0) (j := k) (m := c0) (Nat.zero_le _) hkl2 hkc (Nat.le_refl _)
    have s2 := l1.cut (i := k) (j := l.length) (m := c0) hkl2 (Nat.le_refl _) hc0 (Nat.le_refl _)
    simp only [List.drop_zero, Nat.sub_zero] at s1 s2
    have htk : (l.take k).length = k := by rw [List.length_take]; omega
    have hdk : ((l.drop k).take (l.length - k)) = l.drop k := List.take_of_length_le (by simp)
    rw [hdk] at s2
    have hld : (l.drop k).length = l.length - k := by simp
    obtain ⟨cs1, _, _, _, hcl1, hel1⟩ := s1.open_
    refine gr_append (ys := l.take k) (n := n0) cellT ge te.lt htk.symm hcl1 hel1 (by rw [htk]; simp; omega) (by rw [htk]; simp; omega) ?_
    intro v3 h3 own3 g3 t3 k3 ho3
    rw [List.nil_append] at g3
    obtain ⟨va3, vn3, vc3, rfl, hvn3⟩ := g3.vals
    have u3 := te.trans t3
    have hC3 := u3.at hC (fun h => h)
    simp -dsimp [elSz_eq, pieceV, natV, hC3, hkl2, hc0, hkc, again_cons]
    refine call_by (rcopy_new (rCell.mono (rCell.mono c1 (u3.ft (Nat.le_refl 0))) (Ft.free (Nat.zero_le _))) (hsc.small hm)) ?_
    rintro _ h4 ⟨es, rfl, r4', k4⟩
    have u4 := u3.call k4
    obtain ⟨ka5, kc5, sa5, sc5, na5, nc5, xa5, xc5, rfl, _⟩ := cell_open r4'
    simp -dsimp [elSz_eq, pieceV, natV, hkl2, hc0, hkc, again_cons]
    refine gr_app1 rfl cellT (g3.call k4) u4.lt (rCell.mono r4' (u3.ret (Nat.le_trans hn0 (kb.trans u3.keep fun _ _ h => h).size))) rfl (by rw [htk]; omega) (by rw [htk]; omega) ?_
    intro v5 h5 own5 g5 t5 k5 ho5
    have u5 := u4.trans t5
    obtain ⟨va5, vn5, vc5, rfl, hvn5⟩ := g5.vals
    simp -dsimp [elSz_eq, pieceV, natV, hkl2, hc0, hkc, again_cons]
    obtain ⟨cs2, _, _, _, hcl2, hel2⟩ := (s2.mono (u5.ft (Nat.le_refl n0))).open_
    refine gr_append (ys := l.drop k) (n := n0) cellT g5 u5.lt hld.symm hcl2 hel2 (by rw [List.length_append, htk, hld]; simp; omega) (by rw [List.length_append, htk, hld]; simp; omega) ?_
    intro v6 h6 own6 g6 t6 k6 ho6
    obtain ⟨va6, vn6, vc6, rfl, hvn6⟩ := g6.vals
    simp -dsimp
    have u6 := u5.trans t6
    refine hK _ _ ⟨?_, kb.trans u6.keep (fun _ _ h => h)⟩
    have hput : putC l c = l.take k ++ [c] ++ l.drop k := by
      rw [putC_pos, ← hkp, dif_neg]
      · simp
      · rintro ⟨hx, _, h0x⟩
        first | exact h0 h0x | omega
    rw [hput]
    exact g6.rep (Nat.le_refl n0) (fun b hb => by have := u6.fresh b (g6.mu b hb); have := kb.size; omega)
theorem rput_spec {h : Heap} {v : Value} {cs : List Value} {l : List CellM} {c : CellM} {m : Nat} (hl : SlRep rCell (Old h) h v l) (hc : rCell.rep (Old h) h cs c) (hn : l.length < 1000000) (hm : m < 1000000000) (hs : ∀ d ∈ l, Sml m d) (hsc : Sml m c) :
    CallH Try.prog 46 #[v, .agg cs.toArray] h fun r h' => SlRep rCell (Old h') h' r (putC l c) ∧ Keep none_ h h' := rput_at hl hc hn hm hs hsc (Nat.zero_le _)
end Go.Proofs

/-
  Groups of cells and of facts, the document's; rows of cells held against each other.
-/
namespace Go.Proofs
open Go Go.HC

set_option maxHeartbeats 4000000 in
set_option maxRecDepth 10000 in
theorem rfacts_spec {h : Heap} {v : Value} {rows : List RowM} {m : Nat} (s : Int) (hr : SlRep rRow (Old h) h v rows) (hn : rows.length < 1000000) (hm : m < 1000000000) (hs : ∀ r ∈ rows, r.key.length < 64 ∧ r.m.length = m) :
    CallH Try.prog 30 #[v, .int .i64 s] h fun r h' => SlRep rCell (Old h') h' r (groupC (rows.map (ofM s))) ∧ Keep none_ h h' := by
  refine callH_by fun K hK => ?_
  refine enter [.tmp 4] Try.func30 rfl rfl (by kernel_rfl) rfl ?_
  obtain ⟨a0, c0, rfl, hc0, hc0'⟩ := hr.val
  have hall : ∀ d ∈ rows.map (ofM s), Sml m d := by
    intro d hd
    obtain ⟨r, hr, rfl⟩ := List.mem_map.1 hd
    have := hs r hr
    rw [← this.2]
    exact .of (by omega)
  simp -dsimp
  refine loopj (σ := Nat × Value) (fun t => [(0, .slice a0 rows.length c0), (1, .int .i64 s), (5, t.2), (6, .int .i64 t.1)])
    (fun t h1 => Keep none_ h h1 ∧ t.1 ≤ rows.length ∧ SlRep rCell (Old h1) h1 t.2 (groupC ((rows.map (ofM s)).take t.1)))
    (fun t => rows.length - t.1) (0, .slice none 0 0) (by simp) ⟨.refl _ _, Nat.zero_le _, .nil _ _ _⟩ (by kernel_rfl) ?_
  rintro ⟨k, v⟩ h1 g ⟨k1, hk1, g1⟩
  simp only at hk1 g1
  have wk := wrap_succ (k := k) (by omega)
  by_cases hkl : k < rows.length
  · have q1 := hr.mono ((Tr.of k1).ft (Nat.le_refl 0))
    obtain ⟨b1, o1, cs, rfl, _, hrep, hc1⟩ := q1.get k hkl
    obtain ⟨ka, kc, ma, mc, rfl, _⟩ := row_open hrep
    have hc1' : HC.cellsIn h1[b1]? (o1 + k * 2) 2 = _ := hc1
    simp -dsimp [hkl, idxA_nat hkl, hc1']
    have hrow := hs rows[k] (List.getElem_mem hkl)
    refine call_by (of_spec s hrep hrow.1 (by omega)) ?_
    rintro _ h2 ⟨ds, rfl, r2, k2⟩
    have hl := groupC_le ((rows.map (ofM s)).take k)
    rw [List.length_take, List.length_map] at hl
    have hkm : k < (rows.map (ofM s)).length := by simpa using hkl
    simp -dsimp
    refine call_by (rput_spec (m := m) (g1.mono ((Tr.of k2).ft (Nat.le_refl 0))) (rCell.mono r2 (Ft.free (Nat.zero_le _))) (by omega) hm (sml_group fun d hd => hall d (List.mem_of_mem_take hd)) (hall _ (by have := List.getElem_mem hkm; simpa using this))) ?_
    rintro v3 h3 ⟨g3, k3⟩
    simp -dsimp [wk]
    refine ⟨(k + 1, v3), by simp, rfl, ⟨(k1.trans k2 fun _ _ h => h).trans k3 fun _ _ h => h, by omega, ?_⟩, by simp; omega⟩
    rw [group_take hkm, List.getElem_map]
    exact g3
  · have hkk : k = rows.length := by omega
    simp -dsimp [hkl]
    rw [hkk, List.take_of_length_le (by simp)] at g1
    exact hK _ _ ⟨g1, k1⟩

set_option maxHeartbeats 4000000 in
set_option maxRecDepth 10000 in
theorem rgroup_at {n0 : Nat} {h : Heap} {v : Value} {l : List CellM} {m : Nat} (hl : SlRep rCell (Ft n0 none_ h) h v l) (hn : l.length < 1000000) (hm : m < 1000000000) (hs : ∀ d ∈ l, Sml m d) (hn0 : n0 ≤ h.size) :
    CallH Try.prog 56 #[v] h fun r h' => SlRep rCell (Ft n0 none_ h') h' r (groupC l) ∧ Keep none_ h h' := by
  refine callH_by fun K hK => ?_
  refine enter [.tmp 2] Try.func56 rfl rfl (by kernel_rfl) rfl ?_
  obtain ⟨a0, c0, rfl, hc0, hc0'⟩ := hl.val
  simp -dsimp
  refine loopj (σ := Nat × Value) (fun t => [(0, .slice a0 l.length c0), (3, t.2), (4, .int .i64 t.1)])
    (fun t h1 => Keep none_ h h1 ∧ t.1 ≤ l.length ∧ SlRep rCell (Ft n0 none_ h1) h1 t.2 (groupC (l.take t.1)))
    (fun t => l.length - t.1) (0, .slice none 0 0) (by simp) ⟨.refl _ _, Nat.zero_le _, .nil _ _ _⟩ (by kernel_rfl) ?_
  rintro ⟨k, v⟩ h1 g ⟨k1, hk1, g1⟩
  simp only at hk1 g1
  have wk := wrap_succ (k := k) (by omega)
  by_cases hkl : k < l.length
  · have q1 := hl.mono ((Tr.of k1).ft (Nat.le_refl n0))
    obtain ⟨b1, o1, cs, rfl, _, hrep, hc1⟩ := q1.get k hkl
    obtain ⟨ka, kc, sa, sc, na, nc, xa, xc, rfl, _⟩ := cell_open hrep
    have hc1' : HC.cellsIn h1[b1]? (o1 + k * 5) 5 = _ := hc1
    simp -dsimp [hkl, idxA_nat hkl, hc1']
    have hg := groupC_le (l.take k)
    rw [List.length_take] at hg
    refine call_by (rput_at (m := m) g1 (rCell.mono hrep (Ft.free (Nat.zero_le _))) (by omega) hm (sml_group fun d hd => hs d (List.mem_of_mem_take hd)) (hs _ (List.getElem_mem hkl)) (Nat.le_trans hn0 k1.size)) ?_
    rintro v3 h3 ⟨g3, k3⟩
    simp -dsimp [wk]
    refine ⟨(k + 1, v3), by simp, rfl, ⟨k1.trans k3 fun _ _ h => h, by omega, ?_⟩, by simp; omega⟩
    rw [group_take hkl]
    exact g3
  · have hkk : k = l.length := by omega
    simp -dsimp [hkl]
    rw [hkk, List.take_length] at g1
    exact hK _ _ ⟨g1, k1⟩

theorem rgroup_spec {h : Heap} {v : Value} {l : List CellM} {m : Nat} (hl : SlRep rCell (Old h) h v l) (hn : l.length < 1000000) (hm : m < 1000000000) (hs : ∀ d ∈ l, Sml m d) :
    CallH Try.prog 56 #[v] h fun r h' => SlRep rCell (Old h') h' r (groupC l) ∧ Keep none_ h h' := rgroup_at hl hn hm hs (Nat.zero_le _)

set_option maxHeartbeats 4000000 in
set_option maxRecDepth 10000 in
theorem rsame_spec {h : Heap} {v u : Value} {l m : List CellM} (hl : SlRep rCell (Old h) h v l) (hm : SlRep rCell (Old h) h u m) :
    CallH Try.prog 25 #[v, u] h fun r h' => (∃ t : Bool, r = .bool t ∧ (t = true ↔ l = m)) ∧ Keep none_ h h' := by
  refine callH_by fun K hK => ?_
  refine enter [.tmp 4] Try.func25 rfl rfl (by kernel_rfl) rfl ?_
  obtain ⟨a0, c0, rfl, hc0, hc0'⟩ := hl.val
  obtain ⟨a1, c1, rfl, hc1, hc1'⟩ := hm.val
  by_cases hlen : l.length = m.length
  · have hl2 : ((l.length : Int) != (m.length : Int)) = false := by simp [bne]; omega
    simp -dsimp [hl2]
    refine loopj (σ := Nat) (fun k => [(0, .slice a0 l.length c0), (1, .slice a1 m.length c1), (5, .int .i64 k)])
      (fun k h1 => Keep none_ h h1 ∧ k ≤ l.length ∧ l.take k = m.take k) (fun k => l.length - k) 0 (by simp) ⟨.refl _ _, Nat.zero_le _, rfl⟩ (by kernel_rfl) ?_
    rintro k h1 g ⟨k1, hk1, hpre⟩
    by_cases hkl : k < l.length
    · have hkm : k < m.length := by omega
      have wk := wrap_succ (k := k) (by omega)
      obtain ⟨b1, o1, cs, rfl, _, hr1, hx1⟩ := (hl.mono ((Tr.of k1).ft (Nat.le_refl 0))).get k hkl
      obtain ⟨b2, o2, ds, rfl, _, hr2, hx2⟩ := (hm.mono ((Tr.of k1).ft (Nat.le_refl 0))).get k hkm
      obtain ⟨ka, kc, sa, sc, na, nc, xa, xc, rfl, _⟩ := cell_open hr1
      obtain ⟨ka', kc', sa', sc', na', nc', xa', xc', rfl, _⟩ := cell_open hr2
      have hx1' : HC.cellsIn h1[b1]? (o1 + k * 5) 5 = _ := hx1
      have hx2' : HC.cellsIn h1[b2]? (o2 + k * 5) 5 = _ := hx2
      simp -dsimp [hkl]
      refine drawn_by [⟨0, true, []⟩, ⟨1, true, []⟩, ⟨2, true, []⟩, ⟨3, true, []⟩, ⟨4, true, []⟩, ⟨5, true, []⟩, ⟨6, true, []⟩, ⟨7, true, []⟩, ⟨8, false, []⟩, ⟨9, true, []⟩] (by kernel_rfl) (by kernel_rfl) ?_
      simp -dsimp [idxV_nat hkl, idxV_nat hkm, elSz_eq, hx1', hx2']
      refine call_by (cellEq_spec hr1 Old.lt hr2 Old.lt) ?_
      rintro _ h2 ⟨⟨t, rfl, ht⟩, k2⟩
      cases t with
      | true =>
        have he := ht.1 rfl
        simp -dsimp [wk]
        refine ⟨k + 1, by simp, rfl, ⟨k1.trans k2 fun _ _ h => h, by omega, ?_⟩, by show l.length - (k + 1) < l.length - k; omega⟩
        rw [List.take_add_one, List.take_add_one, hpre, List.getElem?_eq_getElem hkl, List.getElem?_eq_getElem hkm, he]
      | false =>
        simp -dsimp
        refine hK _ _ ⟨⟨false, rfl, ?_⟩, k1.trans k2 fun _ _ h => h⟩
        simp only [Bool.false_eq_true, false_iff]
        intro e
        subst e
        exact absurd (ht.2 rfl) (by simp)
    · simp -dsimp [hkl]
      refine hK _ _ ⟨⟨true, rfl, ?_⟩, k1⟩
      rw [List.take_of_length_le (by omega), List.take_of_length_le (by omega)] at hpre
      simp [hpre]
  · have hl2 : ((l.length : Int) != (m.length : Int)) = true := by simp [bne]; omega
    simp -dsimp [hl2]
    refine hK _ _ ⟨⟨false, rfl, ?_⟩, .refl _ _⟩
    simp only [Bool.false_eq_true, false_iff]
    exact fun e => hlen (by rw [e])
end Go.Proofs

/-
  HC, part 26: a loop that is cut off from what comes behind it: its rounds end in a state, and what comes behind begins with that.
-/
namespace Go.HC
/-- The loop with this number is left, in a state of which this holds. -/
def ExJ {σ : Type} (idx : Nat) (S : σ → L) (d : List Nat) (J : σ → Heap → Prop) (_t1 : Tag S) (_t2 : Tag J) (j : Nat) (l : L) (b : Base) (h : Heap) : Prop := j = idx ∧ ∃ s, Sub (S s) l b ∧ b.d = d ∧ J s h
section
variable {P : Program} {n : Nat} {ro : Option Nat} {c : Code} {κ : Kont} {l : L} {b : Base} {h : Heap} {σ : Type}
theorem gsem_cut {idx : Nat} {S : σ → L} {d : List Nat} {J : σ → Heap → Prop} {R : L → Base → Heap → Prop} (hR : ∀ l b h, R l b h → κ.rt l b h)
    (hc : gsem P n ro c { nx := fun _ _ _ => False, rt := R, ex := ExJ idx S d J ⟨⟩ ⟨⟩, gt := fun _ _ _ _ => False } l b h)
    (after : ∀ s h g, J s h → κ.ex idx (S s) ⟨g, d⟩ h) : gsem P n ro c κ l b h := by
  intro a w hw hfr fr k cs hkd hro
  obtain ⟨e, a', w', l', b', hs, hfr', hk, harr⟩ := hc a w hw hfr fr k cs hkd hro
  cases e with
  | nx => exact hk.elim
  | rt => exact ⟨.rt, a', w', l', b', hs, hfr', hR _ _ _ hk, harr⟩
  | ex j =>
    obtain ⟨rfl, s, hsub, hd, hJ⟩ := hk
    have hcl := hfr'.clean hsub
    rw [hd] at hcl
    exact ⟨.ex j, a', w', S s, ⟨fun t => a'.tmps.getD t undef, d⟩, hs, hcl, after s _ _ hJ, harr⟩
  | gt t => exact hk.elim
/-- A loop: S, J: what holds ahead of each round; it is left where Q holds too; R: how its rounds may return. -/
theorem loopc (S : σ → L) (J : σ → Heap → Prop) (μ : σ → Nat) (s0 : σ) (idx : Nat) (Q : σ → Heap → Prop) (R : L → Base → Heap → Prop) (hR : ∀ l b h, R l b h → κ.rt l b h) (hS : Sub (S s0) l b) (hJ : J s0 h) (hok : codeOk n c = true)
    (round : ∀ s h g, J s h → cs P n ro c { nx := LoopJ S (fun _ => b.d) J μ s ⟨⟩ ⟨⟩ ⟨⟩, rt := R, ex := ExJ idx S b.d (fun s h => J s h ∧ Q s h) ⟨⟩ ⟨⟩, gt := fun _ _ _ _ => False } (S s) ⟨g, b.d⟩ h)
    (after : ∀ s h g, J s h → Q s h → κ.ex idx (S s) ⟨g, b.d⟩ h) : gs P n ro (.loop c) κ l b h :=
  gsem_cut hR (loop (κ := { nx := fun _ _ _ => False, rt := R, ex := ExJ idx S b.d (fun s h => J s h ∧ Q s h) ⟨⟩ ⟨⟩, gt := fun _ _ _ _ => False }) S (fun _ => b.d) J μ s0 hS rfl hJ hok round) fun s h g hj => after s h g hj.1 hj.2
/-- No round returns. -/
def noRet : L → Base → Heap → Prop := fun _ _ _ => False
theorem noRet_le {κ : Kont} : ∀ l b h, noRet l b h → κ.rt l b h := fun _ _ _ h => h.elim
end
end Go.HC
