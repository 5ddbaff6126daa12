/-
  HC, part 10: memory: what is kept, rows of cells, append, make, copy.
-/
import Derived.Test.YtjkefplcbmdndaaHC9
import Derived.Laws.Append
namespace Go.HC

/-! ### What is kept -/
/-- All old blocks but those of S are as they were. -/
structure Keep (S : Nat → Prop) (h h' : Heap) : Prop where
  size : h.size ≤ h'.size
  blk : ∀ b, b < h.size → ¬ S b → h'[b]? = h[b]?
def none_ : Nat → Prop := fun _ => False
def one_ (b : Nat) : Nat → Prop := fun x => x = b
theorem Keep.refl (S : Nat → Prop) (h : Heap) : Keep S h h := ⟨Nat.le_refl _, fun _ _ _ => rfl⟩
theorem Keep.trans {S S' : Nat → Prop} {h h' h'' : Heap} (k : Keep S h h') (k' : Keep S' h' h'') (hs : ∀ b, b < h.size → S' b → S b) : Keep S h h'' :=
  ⟨Nat.le_trans k.size k'.size, fun b hb hn => (k'.blk b (Nat.lt_of_lt_of_le hb k.size) (fun h => hn (hs b hb h))).trans (k.blk b hb hn)⟩
theorem Keep.weaken {S S' : Nat → Prop} {h h' : Heap} (k : Keep S h h') (hs : ∀ b, b < h.size → S b → S' b) : Keep S' h h' :=
  ⟨k.size, fun b hb hn => k.blk b hb (fun h => hn (hs b hb h))⟩
theorem Keep.push (S : Nat → Prop) (h : Heap) (o : Obj) : Keep S h (h.push o) :=
  ⟨by simp, fun b hb _ => by rw [Array.getElem?_push, if_neg (by omega)]⟩
theorem Keep.set {S : Nat → Prop} (h : Heap) {b : Nat} (o : Obj) (hb : b < h.size → S b) : Keep S h (h.setIfInBounds b o) :=
  ⟨by simp, fun i hi hn => by rw [Array.getElem?_setIfInBounds, if_neg (fun e => hn (by subst e; exact hb hi))]⟩
theorem Keep.at {S : Nat → Prop} {h h' : Heap} (k : Keep S h h') {b : Nat} {o : Obj} (hb : h[b]? = some o) (hs : ¬ S b) : h'[b]? = some o :=
  (k.blk b (Array.getElem?_eq_some_iff.1 hb).1 hs).trans hb
theorem lt_of_blk {h : Heap} {b : Nat} {o : Obj} (hb : h[b]? = some o) : b < h.size := (Array.getElem?_eq_some_iff.1 hb).1
theorem push_old {h : Heap} {b : Nat} (o : Obj) (hb : b < h.size) : (h.push o)[b]? = h[b]? := by rw [Array.getElem?_push, if_neg (by omega)]
theorem push_at {h : Heap} {b : Nat} {o o' : Obj} (hb : h[b]? = some o') : (h.push o)[b]? = some o' := by rw [push_old o (lt_of_blk hb), hb]
@[simp] theorem push_new (h : Heap) (o : Obj) : (h.push o)[h.size]? = some o := by simp
theorem set_same {h : Heap} {b : Nat} (o : Obj) (hb : b < h.size) : (h.setIfInBounds b o)[b]? = some o := by simp [hb]
theorem set_other {h : Heap} {b i : Nat} (o : Obj) (hb : b ≠ i) : (h.setIfInBounds b o)[i]? = h[i]? := by rw [Array.getElem?_setIfInBounds, if_neg hb]

/-! ### Cells at an address -/
def Cells (F : Nat → Prop) (h : Heap) (a : Option Addr) (cs : List Value) : Prop :=
  cs = [] ∨ ∃ bk off c e fz, a = some ⟨bk, off, none⟩ ∧ F bk ∧ h[bk]? = some (.cells c e fz) ∧ (c.toList.drop off).take cs.length = cs
theorem Cells.nil (F : Nat → Prop) (h : Heap) (a : Option Addr) : Cells F h a [] := .inl rfl
theorem Cells.mono {F F' : Nat → Prop} {h h' : Heap} {a : Option Addr} {cs : List Value} (hc : Cells F h a cs) (hk : ∀ b, F b → F' b ∧ h'[b]? = h[b]?) : Cells F' h' a cs := by
  rcases hc with h0 | ⟨bk, off, c, e, fz, h1, h2, h3, h4⟩
  · exact .inl h0
  · exact .inr ⟨bk, off, c, e, fz, h1, (hk _ h2).1, (hk _ h2).2.trans h3, h4⟩
theorem Cells.len {off : Nat} {c : Array Value} {cs : List Value} (h4 : (c.toList.drop off).take cs.length = cs) (hne : cs ≠ []) : off + cs.length ≤ c.size := by
  have := congrArg List.length h4
  simp only [List.length_take, List.length_drop, Array.length_toList] at this
  have : 0 < cs.length := List.length_pos_iff.2 hne
  omega
theorem Cells.from {F : Nat → Prop} {h : Heap} {a : Option Addr} {cs : List Value} (hc : Cells F h a cs) (hne : cs ≠ []) :
    ∃ bk off, a = some ⟨bk, off, none⟩ ∧ F bk ∧ cellsIn h[bk]? off cs.length = some cs := by
  rcases hc with h0 | ⟨bk, off, c, e, fz, h1, h2, h3, h4⟩
  · exact absurd h0 hne
  · refine ⟨bk, off, h1, h2, ?_⟩
    rw [h3, cellsIn_some, if_pos (Cells.len h4 hne), h4]
theorem Cells.loads {F : Nat → Prop} {h : Heap} {a : Addr} {cs : List Value} (hc : Cells F h (some a) cs) : cellsFrom h a 0 cs.length = some cs := by
  by_cases hne : cs = []
  · subst hne; rfl
  · obtain ⟨bk, off, h1, _, h2⟩ := hc.from hne
    cases h1
    rw [cellsFrom_mk _ _ _ _ _ (by simpa using hne)]
    exact h2
theorem Cells.drop {F : Nat → Prop} {h : Heap} {bk off : Nat} {cs : List Value} (n : Nat) (hc : Cells F h (some ⟨bk, off, none⟩) cs) (hn : n ≤ cs.length) : Cells F h (some ⟨bk, off + n, none⟩) (cs.drop n) := by
  rcases hc with h0 | ⟨bk', off', c, e, fz, h1, h2, h3, h4⟩
  · subst h0; simp only [List.length_nil, Nat.le_zero] at hn; subst hn; exact .inl rfl
  · cases h1
    refine .inr ⟨bk, off + n, c, e, fz, rfl, h2, h3, ?_⟩
    rw [List.length_drop]
    conv => rhs; rw [← h4]
    rw [← List.drop_drop, List.drop_take]
theorem Cells.take {F : Nat → Prop} {h : Heap} {a : Option Addr} {cs : List Value} (n : Nat) (hc : Cells F h a cs) : Cells F h a (cs.take n) := by
  rcases hc with h0 | ⟨bk', off', c, e, fz, h1, h2, h3, h4⟩
  · subst h0; exact .inl (by simp)
  · refine .inr ⟨bk', off', c, e, fz, h1, h2, h3, ?_⟩
    conv => rhs; rw [← h4]
    rw [List.take_take, List.length_take]

section
variable {P : Program} {h : Heap} {K : Value → Heap → Prop} {ty : TypeId}

theorem hp_firstCells {F : Nat → Prop} {a : Option Addr} {n c s m : Nat} {cs : List Value} {K' : Array Value → Heap → Prop} (hc : Cells F h a cs) (hm : cs.length = m * s) :
    hp P (Builtin.firstCells s m (.slice a n c)) K' h = K' cs.toArray h := by
  cases a with
  | none =>
    rcases hc with h0 | ⟨_, _, _, _, _, h1, _⟩
    · subst h0; rfl
    · cases h1
  | some a =>
    simp only [Builtin.firstCells, loadCells]
    rw [hp_loadCellsFrom, ← hm, hc.loads]
    simp

theorem zeroCells_size (z : Array Value) (n : Nat) : (Builtin.zeroCells z n).size = n * z.size := by simp [Builtin.zeroCells]

/-- append, cell by cell. -/
theorem append_cells {T e s by_ : Nat} {z : Value} {cs : Array Bool} {F : Nat → Prop} {a b : Option Addr} {n c m c2 : Nat} {old news : List Value}
    (hT : elS P T = some e) (hs : szS P e = some s) (hby : byS P e = some by_) (hz : zS P e = some z) (hs0 : 0 < s)
    (hold : old.length = n * s) (hro : Cells F h a old) (hnew : news.length = m * s) (hrn : Cells F h b news)
    (hbig : (n + m) * by_ ≤ 140737488355328) (h63 : n + m < 9223372036854775808)
    (room0 : m = 0 → n ≤ c → K (.slice a n c) h)
    (room : 0 < m → n + m ≤ c → ∃ bk off arr e' fz, a = some ⟨bk, off, none⟩ ∧ h[bk]? = some (.cells arr e' fz) ∧ off + (n + m) * s ≤ arr.size ∧ frozenIn fz (off + n * s) (m * s) = false ∧ news.all Value.oneCell' = true ∧
      K (.slice a (n + m) c) (h.setIfInBounds bk (.cells (writeC arr (off + n * s) news) e' fz)))
    (grow : c < n + m → ∀ cap, n + m ≤ cap → cap < 9223372036854775808 → K (.slice (some ⟨h.size, 0, none⟩) (n + m) cap) (h.push (.cells (old.toArray ++ news.toArray ++ Builtin.zeroCells z.cells (cap - (n + m))) e))) :
    builtinS P .append #[T, T] ty cs #[.slice a n c, .slice b m c2] h K := by
  have hu := elS_spec hT
  unfold builtinS builtin Builtin.append_
  have hby' : ∃ i, P.info? e = some i ∧ i.bytes = by_ := by
    unfold byS at hby
    cases hi : P.info? e with
    | none => simp [hi] at hby
    | some i => simp [hi] at hby; exact ⟨i, rfl, hby⟩
  obtain ⟨i, hi, rfl⟩ := hby'
  simp only [hp_bind, hp_underlying, hu, hp_sizeOf, hs, hp_pure, Bool.false_eq_true, if_false, Builtin.lenOf, List.getElem?_toArray, List.getElem?_cons_zero, List.getElem?_cons_succ, Bool.not_false, if_true]
  by_cases hroom : n + m ≤ c
  · rw [if_pos hroom]
    simp only [hp_bind, hp_firstCells (c := c2) (n := m) hrn hnew]
    by_cases hm : m = 0
    · subst hm
      have hn0 : news = [] := List.eq_nil_of_length_eq_zero (by simpa using hnew)
      subst hn0
      have := room0 rfl hroom
      cases a <;> simpa [storeCells, nextK] using this
    · obtain ⟨bk, off, arr, e', fz, rfl, hb, hsz, hfz, hone, hk⟩ := room (by omega) hroom
      have hne : news ≠ [] := by
        intro e0
        rw [e0] at hnew
        have : 0 < m * s := Nat.mul_pos (by omega) hs0
        simp at hnew
        omega
      have hw : writeIn (some (.cells arr e' fz)) (off + n * s) news = some (.cells (writeC arr (off + n * s) news) e' fz) := by
        rw [writeIn_some, if_pos]
        rw [hone, hnew, hfz]
        have : off + n * s + m * s ≤ arr.size := by rw [Nat.add_assoc, ← Nat.add_mul]; exact hsz
        simp [this]
      simp only [add_mk]
      show hp P (do storeCells _ news; pure _) _ h
      rw [hp_bind, hp_storeCells _ _ _ _ _ _ hne, Nat.add_zero, hb, hw]
      simpa [nextK] using hk
  · rw [if_neg hroom]
    have hcap := growslice_fits (old := c) (need := n + m) (bytes := i.bytes) (by omega) hbig
    have hmax : IntKind.i64.max = 9223372036854775807 := by decide
    simp only [hp_bind, hp_typeInfo, hi, hp_pure, hp_ite]
    rw [if_neg (by rw [hmax]; intro hh; have := hh.1; omega)]
    rw [if_neg (by omega)]
    simp only [hp_choose, Question.forced, Bool.false_eq_true, if_false, Question.cut]
    intro t
    have hge : n + m ≤ n + m + t % (2 ^ 63 - (n + m)) := Nat.le_add_right _ _
    have hlt : n + m + t % (2 ^ 63 - (n + m)) < 9223372036854775808 := by
      have := Nat.mod_lt t (show 0 < 2 ^ 63 - (n + m) by omega)
      omega
    have hk := grow (by omega) _ hge hlt
    simp only [hp_askRoom, hp_firstCells (n := n) (c := c) hro hold, hp_firstCells (c := c2) (n := m) hrn hnew, hp_zeroValue, hz, hp_bind, newRow, hp_newObj, hp_pure, nextK]
    exact hk
end
end Go.HC
