/-
  HC, part 11: data in memory ('Rp'), slices of them, slices that grow.
-/
import Derived.Test.YtjkefplcbmdndaaHC10
namespace Go.HC

/-- How data of a type lie in cells: within blocks of F (a footprint), in heap h. -/
structure Rp (α : Type) where
  sz : Nat
  pos : 0 < sz
  rep : (Nat → Prop) → Heap → List Value → α → Prop
  len : ∀ {F h cs x}, rep F h cs x → cs.length = sz
  one : ∀ {F h cs x}, rep F h cs x → cs.all Value.oneCell' = true
  mono : ∀ {F F' h h' cs x}, rep F h cs x → (∀ b, F b → F' b ∧ h'[b]? = h[b]?) → rep F' h' cs x

theorem Keep.mono {S F : Nat → Prop} {h h' : Heap} (k : Keep S h h') (hF : ∀ b, F b → b < h.size ∧ ¬ S b) : ∀ b, F b → F b ∧ h'[b]? = h[b]? :=
  fun b hb => ⟨hb, k.blk b (hF b hb).1 (hF b hb).2⟩

def rInt : Rp Int where
  sz := 1
  pos := by decide
  rep _ _ cs x := cs = [.int .i64 x]
  len h := by subst h; rfl
  one h := by subst h; rfl
  mono h _ := h
def rByte : Rp UInt8 where
  sz := 1
  pos := by decide
  rep _ _ cs x := cs = [.int .u8 x.toNat]
  len h := by subst h; rfl
  one h := by subst h; rfl
  mono h _ := h
def rBool : Rp Bool where
  sz := 1
  pos := by decide
  rep _ _ cs x := cs = [.bool x]
  len h := by subst h; rfl
  one h := by subst h; rfl
  mono h _ := h
def rStr : Rp ByteArray where
  sz := 1
  pos := by decide
  rep _ _ cs x := cs = [.string x]
  len h := by subst h; rfl
  one h := by subst h; rfl
  mono h _ := h
def Rp.prod {α β : Type} (R : Rp α) (Q : Rp β) : Rp (α × β) where
  sz := R.sz + Q.sz
  pos := Nat.add_pos_left R.pos _
  rep F h cs p := ∃ c1 c2, cs = c1 ++ c2 ∧ R.rep F h c1 p.1 ∧ Q.rep F h c2 p.2
  len := by rintro F h cs x ⟨c1, c2, rfl, h1, h2⟩; rw [List.length_append, R.len h1, Q.len h2]
  one := by rintro F h cs x ⟨c1, c2, rfl, h1, h2⟩; rw [List.all_append, R.one h1, Q.one h2]; rfl
  mono := by rintro F F' h h' cs x ⟨c1, c2, rfl, h1, h2⟩ hm; exact ⟨c1, c2, rfl, R.mono h1 hm, Q.mono h2 hm⟩
def Rp.comap {α β : Type} (R : Rp α) (f : β → α) : Rp β where
  sz := R.sz
  pos := R.pos
  rep F h cs y := R.rep F h cs (f y)
  len := R.len
  one := R.one
  mono := R.mono

/-- The cells of several data, one behind the other. -/
def Elems {α : Type} (R : Rp α) (F : Nat → Prop) (h : Heap) : List Value → List α → Prop
  | cs, [] => cs = []
  | cs, x :: xs => ∃ c1 c2, cs = c1 ++ c2 ∧ R.rep F h c1 x ∧ Elems R F h c2 xs

section
variable {α : Type} {R : Rp α} {F F' : Nat → Prop} {h h' : Heap}
theorem Elems.len : ∀ {xs : List α} {cs : List Value}, Elems R F h cs xs → cs.length = xs.length * R.sz
  | [], cs, he => by rw [show cs = [] from he]; simp
  | x :: xs, cs, ⟨c1, c2, e, h1, h2⟩ => by
    rw [e, List.length_append, R.len h1, Elems.len h2, List.length_cons, Nat.add_mul, Nat.one_mul, Nat.add_comm]
theorem Elems.one : ∀ {xs : List α} {cs : List Value}, Elems R F h cs xs → cs.all Value.oneCell' = true
  | [], cs, he => by rw [show cs = [] from he]; rfl
  | x :: xs, cs, ⟨c1, c2, e, h1, h2⟩ => by rw [e, List.all_append, R.one h1, Elems.one h2]; rfl
theorem Elems.mono (hm : ∀ b, F b → F' b ∧ h'[b]? = h[b]?) : ∀ {xs : List α} {cs : List Value}, Elems R F h cs xs → Elems R F' h' cs xs
  | [], _, he => he
  | _ :: _, _, ⟨c1, c2, e, h1, h2⟩ => ⟨c1, c2, e, R.mono h1 hm, Elems.mono hm h2⟩
theorem Elems.append : ∀ {xs ys : List α} {cs ds : List Value}, Elems R F h cs xs → Elems R F h ds ys → Elems R F h (cs ++ ds) (xs ++ ys)
  | [], ys, cs, ds, h1, h2 => by rw [show cs = [] from h1]; exact h2
  | x :: xs, ys, cs, ds, ⟨c1, c2, e, h1, h3⟩, h2 => ⟨c1, c2 ++ ds, by rw [e, List.append_assoc], h1, Elems.append h3 h2⟩
theorem Elems.single {x : α} {cs : List Value} (hr : R.rep F h cs x) : Elems R F h cs [x] := ⟨cs, [], by simp, hr, rfl⟩
theorem Elems.drop : ∀ (k : Nat) {xs : List α} {cs : List Value}, Elems R F h cs xs → Elems R F h (cs.drop (k * R.sz)) (xs.drop k)
  | 0, xs, cs, he => by simpa using he
  | k + 1, [], cs, he => by rw [show cs = [] from he]; simp [Elems]
  | k + 1, x :: xs, cs, ⟨c1, c2, e, h1, h2⟩ => by
    have := Elems.drop k h2
    rw [e, List.drop_append, R.len h1, List.drop_of_length_le (by rw [R.len h1, Nat.succ_mul]; omega), List.nil_append, Nat.succ_mul, Nat.add_sub_cancel]
    exact this
theorem Elems.take : ∀ (k : Nat) {xs : List α} {cs : List Value}, Elems R F h cs xs → Elems R F h (cs.take (k * R.sz)) (xs.take k)
  | 0, xs, cs, he => by simp [Elems]
  | k + 1, [], cs, he => by rw [show cs = [] from he]; simp [Elems]
  | k + 1, x :: xs, cs, ⟨c1, c2, e, h1, h2⟩ => by
    refine ⟨c1, c2.take (k * R.sz), ?_, h1, Elems.take k h2⟩
    rw [e, List.take_append, R.len h1, List.take_of_length_le (by rw [R.len h1, Nat.succ_mul]; omega), Nat.succ_mul, Nat.add_sub_cancel]
theorem Elems.get : ∀ {xs : List α} {cs : List Value} (k : Nat) (hk : k < xs.length), Elems R F h cs xs → R.rep F h ((cs.drop (k * R.sz)).take R.sz) xs[k]
  | [], _, k, hk, _ => by simp at hk
  | x :: xs, cs, 0, _, ⟨c1, c2, e, h1, h2⟩ => by
    subst e
    simp only [Nat.zero_mul, List.drop_zero, List.getElem_cons_zero]
    rw [List.take_append_of_le_length (by rw [R.len h1]; exact Nat.le_refl _), List.take_of_length_le (by rw [R.len h1]; exact Nat.le_refl _)]
    exact h1
  | x :: xs, cs, k + 1, hk, ⟨c1, c2, e, h1, h2⟩ => by
    subst e
    have := Elems.get k (by simpa using hk) h2
    rw [List.drop_append, R.len h1, List.drop_of_length_le (by rw [R.len h1, Nat.succ_mul]; omega), List.nil_append, Nat.succ_mul, Nat.add_sub_cancel, List.getElem_cons_succ]
    exact this
end

/-- A slice value that shows these data. -/
def SlRep {α : Type} (R : Rp α) (F : Nat → Prop) (h : Heap) (v : Value) (xs : List α) : Prop :=
  ∃ a c cs, v = .slice a xs.length c ∧ xs.length ≤ c ∧ c < 9223372036854775808 ∧ Cells F h a cs ∧ Elems R F h cs xs
def rSlice {α : Type} (R : Rp α) : Rp (List α) where
  sz := 1
  pos := by decide
  rep F h cs xs := ∃ v, cs = [v] ∧ SlRep R F h v xs
  len := by rintro F h cs xs ⟨v, rfl, _⟩; rfl
  one := by rintro F h cs xs ⟨v, rfl, a, c, cs', rfl, _⟩; rfl
  mono := by
    rintro F F' h h' cs xs ⟨v, rfl, a, c, cs', rfl, h1, h2, h3, h4⟩ hm
    exact ⟨_, rfl, a, c, cs', rfl, h1, h2, h3.mono hm, h4.mono hm⟩

section
variable {α : Type} {R : Rp α} {F F' : Nat → Prop} {h h' : Heap}
theorem SlRep.mono {v : Value} {xs : List α} (hs : SlRep R F h v xs) (hm : ∀ b, F b → F' b ∧ h'[b]? = h[b]?) : SlRep R F' h' v xs := by
  obtain ⟨a, c, cs, rfl, h1, h2, h3, h4⟩ := hs
  exact ⟨a, c, cs, rfl, h1, h2, h3.mono hm, h4.mono hm⟩
theorem SlRep.nil (R : Rp α) (F : Nat → Prop) (h : Heap) : SlRep R F h (.slice none 0 0) [] := ⟨none, 0, [], rfl, Nat.le_refl _, by decide, .nil _ _ _, rfl⟩
theorem SlRep.val {v : Value} {xs : List α} (hs : SlRep R F h v xs) : ∃ a c, v = .slice a xs.length c ∧ xs.length ≤ c ∧ c < 9223372036854775808 := by
  obtain ⟨a, c, cs, rfl, h1, h2, _⟩ := hs; exact ⟨a, c, rfl, h1, h2⟩
/-- An element: where it lies, and what lies there. -/
theorem SlRep.get {a : Option Addr} {n c : Nat} {xs : List α} (hs : SlRep R F h (.slice a n c) xs) (k : Nat) (hk : k < xs.length) :
    ∃ bk off cs, a = some ⟨bk, off, none⟩ ∧ F bk ∧ R.rep F h cs xs[k] ∧ cellsIn h[bk]? (off + k * R.sz) R.sz = some cs := by
  obtain ⟨a', c', cs, hv, h1, h2, h3, h4⟩ := hs
  cases hv
  have hlen := h4.len
  have hne : cs ≠ [] := by
    intro e
    rw [e] at hlen
    have : 0 < xs.length * R.sz := Nat.mul_pos (by omega) R.pos
    simp at hlen
    omega
  rcases h3 with h0 | ⟨bk, off, arr, e, fz, rfl, hF, hb, ht⟩
  · exact absurd h0 hne
  · refine ⟨bk, off, _, rfl, hF, h4.get k hk, ?_⟩
    have hle := Cells.len ht hne
    have hk2 : k * R.sz + R.sz ≤ cs.length := by
      rw [hlen, ← Nat.succ_mul]; exact Nat.mul_le_mul_right _ hk
    rw [hb, cellsIn_some, if_pos (by omega)]
    congr 1
    conv => rhs; rw [← ht]
    rw [List.drop_take, List.take_take, Nat.min_eq_left (by omega), List.drop_drop]
/-- An element of one cell. -/
theorem SlRep.get1 {a : Option Addr} {n c : Nat} {xs : List α} (hs : SlRep R F h (.slice a n c) xs) (h1 : R.sz = 1) (k : Nat) (hk : k < xs.length) :
    ∃ bk off v, a = some ⟨bk, off, none⟩ ∧ F bk ∧ R.rep F h [v] xs[k] ∧ cellIn h[bk]? (off + k) = some v := by
  obtain ⟨bk, off, cs, rfl, hF, hr, hc⟩ := hs.get k hk
  have hl := R.len hr
  rw [h1] at hl hc
  match cs, hl with
  | [v], _ =>
    refine ⟨bk, off, v, rfl, hF, hr, ?_⟩
    rw [Nat.mul_one] at hc
    cases hb : h[bk]? with
    | none => rw [hb] at hc; simp [cellsIn] at hc
    | some o =>
      cases o with
      | cells c e fz =>
        rw [hb, cellsIn_some] at hc
        split at hc
        · rename_i hle
          simp only [Option.some.injEq] at hc
          rw [cellIn_some]
          have h2 : off + k < c.size := by omega
          rw [List.drop_eq_getElem_cons (by simpa using h2)] at hc
          simp at hc
          simp [h2, hc]
        · cases hc
      | _ => rw [hb] at hc; simp [cellsIn] at hc

/-! ### A slice that grows: nil, or all of a block of its own -/
def Grow {α : Type} (R : Rp α) (e : TypeId) (F : Nat → Prop) (h : Heap) (v : Value) (xs : List α) (own : Option Nat) : Prop :=
  (v = .slice none 0 0 ∧ xs = [] ∧ own = none) ∨
  ∃ bk c arr cs, v = .slice (some ⟨bk, 0, none⟩) xs.length c ∧ own = some bk ∧ h[bk]? = some (.cells arr e (0, 0)) ∧ ¬ F bk ∧ arr.size = c * R.sz ∧ xs.length ≤ c ∧ c < 9223372036854775808 ∧
    arr.toList.take (xs.length * R.sz) = cs ∧ Elems R F h cs xs
theorem Grow.nil (R : Rp α) (e : TypeId) (F : Nat → Prop) (h : Heap) : Grow R e F h (.slice none 0 0) [] none := .inl ⟨rfl, rfl, rfl⟩
theorem Grow.mono {e : TypeId} {v : Value} {xs : List α} {own : Option Nat} (hg : Grow R e F h v xs own) (hm : ∀ b, F b → F' b ∧ h'[b]? = h[b]?) (ho : ∀ b, own = some b → ¬ F' b ∧ h'[b]? = h[b]?) :
    Grow R e F' h' v xs own := by
  rcases hg with hn | ⟨bk, c, arr, cs, rfl, rfl, hb, hf, h1, h2, h3, h4, h5⟩
  · exact .inl hn
  · exact .inr ⟨bk, c, arr, cs, rfl, rfl, (ho bk rfl).2.trans hb, (ho bk rfl).1, h1, h2, h3, h4, h5.mono hm⟩
theorem Grow.own_lt {e : TypeId} {v : Value} {xs : List α} {own : Option Nat} (hg : Grow R e F h v xs own) : ∀ b, own = some b → b < h.size := by
  rcases hg with ⟨_, _, rfl⟩ | ⟨bk, c, arr, cs, rfl, rfl, hb, _⟩
  · intro b hb; cases hb
  · intro b e; cases e; exact lt_of_blk hb
theorem Grow.cells {e : TypeId} {a : Option Addr} {n c : Nat} {xs : List α} {own : Option Nat} (hg : Grow R e F h (.slice a n c) xs own) :
    ∃ cs, n = xs.length ∧ n ≤ c ∧ c < 9223372036854775808 ∧ Cells (fun b => own = some b) h a cs ∧ Elems R F h cs xs := by
  rcases hg with ⟨hv, rfl, rfl⟩ | ⟨bk, c', arr, cs, hv, rfl, hb, hf, h1, h2, h3, h4, h5⟩
  · cases hv; exact ⟨[], rfl, Nat.le_refl _, by decide, .nil _ _ _, rfl⟩
  · cases hv
    refine ⟨cs, rfl, h2, h3, ?_, h5⟩
    by_cases hne : cs = []
    · exact .inl hne
    · refine .inr ⟨bk, 0, arr, e, (0, 0), rfl, rfl, hb, ?_⟩
      rw [List.drop_zero, h5.len, h4]
theorem Grow.rep {e : TypeId} {v : Value} {xs : List α} {own : Option Nat} (hg : Grow R e F h v xs own) : SlRep R (fun b => F b ∨ own = some b) h v xs := by
  have hv : ∃ a n c, v = .slice a n c := by
    rcases hg with ⟨rfl, _⟩ | ⟨bk, c, arr, cs, rfl, _⟩
    · exact ⟨_, _, _, rfl⟩
    · exact ⟨_, _, _, rfl⟩
  obtain ⟨a, n, c, rfl⟩ := hv
  obtain ⟨cs, rfl, h1, h2, h3, h4⟩ := hg.cells
  exact ⟨a, c, cs, rfl, h1, h2, h3.mono (fun b hb => ⟨.inr hb, rfl⟩), h4.mono (fun b hb => ⟨.inl hb, rfl⟩)⟩
end

section
variable {P : Program} {h : Heap} {K : Value → Heap → Prop} {ty : TypeId} {α : Type} {R : Rp α} {F F2 : Nat → Prop}
/-- Which types the cells have. -/
structure ElemT (P : Program) (T e : TypeId) (R : Rp α) (by_ : Nat) : Prop where
  el : elS P T = some e
  sz : szS P e = some R.sz
  by_ : byS P e = some by_
  zero : ∃ z, zS P e = some z ∧ z.cells.size = R.sz

/-- append onto a slice that grows. -/
theorem append_grow {T e by_ : Nat} {cs : Array Bool} {v : Value} {xs ys : List α} {own : Option Nat} {b : Option Addr} {m c2 : Nat} {news : List Value}
    (hT : ElemT P T e R by_) (hg : Grow R e F h v xs own) (hF : ∀ b, F b → b < h.size)
    (hm : m = ys.length) (hrn : Cells F2 h b news) (hel : Elems R F h news ys)
    (hbig : (xs.length + ys.length) * by_ ≤ 140737488355328) (h63 : xs.length + ys.length < 9223372036854775808)
    (hk : ∀ v' h' own', Grow R e F h' v' (xs ++ ys) own' → Keep (fun b => own = some b) h h' → (∀ b, own' = some b → own = some b ∨ h.size ≤ b) → K v' h') :
    builtinS P .append #[T, T] ty cs #[v, .slice b m c2] h K := by
  obtain ⟨z, hz, hzs⟩ := hT.zero
  have hv : ∃ a n c, v = .slice a n c := by
    rcases hg with ⟨rfl, _⟩ | ⟨bk, c, arr, cs, rfl, _⟩
    · exact ⟨_, _, _, rfl⟩
    · exact ⟨_, _, _, rfl⟩
  obtain ⟨a, n, c, rfl⟩ := hv
  obtain ⟨old, rfl, hnc, hc63, hro, hold⟩ := hg.cells
  subst hm
  have hnl := hel.len
  have cells2 : Cells (fun b => own = some b ∨ F2 b) h b news := hrn.mono (fun b hb => ⟨.inr hb, rfl⟩)
  have cells1 : Cells (fun b => own = some b ∨ F2 b) h a old := hro.mono (fun b hb => ⟨.inl hb, rfl⟩)
  refine append_cells (F := fun b => own = some b ∨ F2 b) hT.el hT.sz hT.by_ hz R.pos hold.len cells1 hnl cells2 hbig h63 ?_ ?_ ?_
  · intro h0 _
    have : ys = [] := List.eq_nil_of_length_eq_zero h0
    subst this
    refine hk _ _ own (by simpa using hg) (.refl _ _) (fun b hb => .inl hb)
  · intro h0 hroom
    rcases hg with ⟨hv, rfl, rfl⟩ | ⟨bk, c', arr, cs', hv, rfl, hb, hf, h1, h2, h3, h4, h5⟩
    · cases hv; omega
    · cases hv
      have hsz : 0 + (xs.length + ys.length) * R.sz ≤ arr.size := by
        rw [h1, Nat.zero_add]; exact Nat.mul_le_mul_right _ hroom
      refine ⟨bk, 0, arr, e, (0, 0), rfl, hb, hsz, by simp, hel.one, ?_⟩
      have hlt := lt_of_blk hb
      have hne : ∀ b, F b → bk ≠ b := fun b hFb e => hf (e ▸ hFb)
      refine hk _ _ (some bk) (.inr ⟨bk, c, writeC arr (xs.length * R.sz) news, cs' ++ news, by rw [List.length_append], rfl, ?_, hf, by rw [size_writeC, h1], by rw [List.length_append]; exact hroom, h3, ?_, ?_⟩)
        (.set h _ (fun _ => rfl)) (fun b hb => .inl hb)
      · rw [Nat.zero_add]; exact set_same _ hlt
      · have hle : xs.length * R.sz + news.length ≤ arr.size := by rw [hnl, ← Nat.add_mul]; rw [Nat.zero_add] at hsz; exact hsz
        rw [toList_writeC _ _ _ hle, h4, List.length_append]
        have hcl : (cs' ++ news).length = (xs.length + ys.length) * R.sz := by rw [List.length_append, h5.len, hnl, Nat.add_mul]
        rw [← hcl]
        exact List.take_left
      · refine (h5.append hel).mono fun b hFb => ⟨hFb, ?_⟩
        exact set_other _ (hne b hFb)
  · intro hgr cap hcap hcap63
    have hnew : ¬ F h.size := fun hh => by have := hF _ hh; omega
    refine hk _ _ (some h.size) (.inr ⟨h.size, cap, _, old ++ news, by rw [List.length_append], rfl, push_new _ _, hnew, ?_, by rw [List.length_append]; exact hcap, hcap63, ?_, ?_⟩)
      (.push _ _ _) (fun b hb => .inr (by cases hb; exact Nat.le_refl _))
    · simp only [Array.size_append, List.size_toArray, zeroCells_size, hzs, hold.len, hnl]
      rw [← Nat.add_mul, ← Nat.add_mul]
      congr 1
      omega
    · have hcl : (old ++ news).length = (xs.length + ys.length) * R.sz := by rw [List.length_append, hold.len, hnl, Nat.add_mul]
      rw [List.length_append, ← hcl]
      simp only [Array.toList_append, List.append_assoc]
      rw [← List.append_assoc]
      exact List.take_left
    · exact (hold.append hel).mono fun b hFb => ⟨hFb, push_old _ (hF b hFb)⟩
end
end Go.HC
namespace Go.HC
/-- The blocks that are new. -/
def Btw (h h' : Heap) : Nat → Prop := fun b => h.size ≤ b ∧ b < h'.size
section
variable {α : Type} {R : Rp α} {F F' : Nat → Prop} {h h' : Heap}
theorem Grow.empty (R : Rp α) (e : TypeId) (hF : ∀ b, F b → b < h.size) : Grow R e F (h.push (.cells #[] e)) (.slice (some ⟨h.size, 0, none⟩) 0 0) [] (some h.size) :=
  .inr ⟨h.size, 0, #[], [], rfl, rfl, push_new _ _, fun hh => by have := hF _ hh; omega, by simp, Nat.le_refl _, by decide, by simp, rfl⟩
theorem Cells.bound {a : Option Addr} {cs : List Value} (hc : Cells F h a cs) : Cells (fun b => F b ∧ b < h.size) h a cs := by
  rcases hc with h0 | ⟨bk, off, c, e, fz, h1, h2, h3, h4⟩
  · exact .inl h0
  · exact .inr ⟨bk, off, c, e, fz, h1, ⟨h2, lt_of_blk h3⟩, h3, h4⟩
theorem ints_map : ∀ {xs : List Int} {cs : List Value}, Elems rInt F h cs xs ↔ cs = xs.map (Value.int .i64)
  | [], cs => by simp [Elems]
  | x :: xs, cs => by
    constructor
    · rintro ⟨c1, c2, rfl, rfl, h2⟩
      rw [ints_map.1 h2]; rfl
    · rintro rfl
      exact ⟨[.int .i64 x], _, rfl, rfl, ints_map.2 rfl⟩
theorem bytes_map : ∀ {xs : List UInt8} {cs : List Value}, Elems rByte F h cs xs ↔ cs = xs.map (fun x => Value.int .u8 x.toNat)
  | [], cs => by simp [Elems]
  | x :: xs, cs => by
    constructor
    · rintro ⟨c1, c2, rfl, rfl, h2⟩
      rw [bytes_map.1 h2]; rfl
    · rintro rfl
      exact ⟨[.int .u8 x.toNat], _, rfl, rfl, bytes_map.2 rfl⟩
theorem strs_map : ∀ {xs : List ByteArray} {cs : List Value}, Elems rStr F h cs xs ↔ cs = xs.map Value.string
  | [], cs => by simp [Elems]
  | x :: xs, cs => by
    constructor
    · rintro ⟨c1, c2, rfl, rfl, h2⟩
      rw [strs_map.1 h2]; rfl
    · rintro rfl
      exact ⟨[.string x], _, rfl, rfl, strs_map.2 rfl⟩
/-- Of data that lie in their own cells alone the footprint is the row's. -/
theorem SlRep.pure_foot {a : Option Addr} {n c : Nat} {xs : List α} {G : Nat → Prop} (hp : ∀ {cs : List Value}, Elems R F h cs xs → Elems R G h cs xs)
    {cs : List Value} (hv : n = xs.length) (h1 : n ≤ c) (h2 : c < 9223372036854775808) (h3 : Cells G h a cs) (h4 : Elems R F h cs xs) : SlRep R G h (.slice a n c) xs := by
  subst hv; exact ⟨a, c, cs, rfl, h1, h2, h3, hp h4⟩
end
end Go.HC
