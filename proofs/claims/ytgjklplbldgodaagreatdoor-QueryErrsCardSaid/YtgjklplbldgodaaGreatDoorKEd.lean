/-
  Cuboids as bytes, plainly: which cells a set's file may hold; what stands where in it.
-/
import Derived.Test.YtgjklplbldgodaaGreatDoorKEc
import Derived.ProofKit
import Derived.OpenShut

namespace Go.HC
/-- A cell's bytes. -/
def cellB (c : CellM) : List UInt8 := c.key.map byteM ++ w2 c.count ++ (List.range c.sum.length).flatMap fun k => w8 (c.sum.getD k 0) ++ w8 (c.mn.getD k 0) ++ w8 (c.mx.getD k 0)
theorem encC_eq (set : Int) (l : List CellM) : encC set l = [byteM set] ++ w2 l.length ++ l.flatMap cellB := rfl
def I64 (x : Int) : Prop := -9223372036854775808 ≤ x ∧ x < 9223372036854775808
/-- A cell of a set, of facts of a schema. -/
structure CelOk (s : SchM) (k : Int) (c : CellM) : Prop where
  klen : c.key.length = (dimsM k).length
  key : ∀ (j : Nat) (h : j < c.key.length) (h' : j < (dimsM k).length), 0 ≤ c.key[j] ∧ c.key[j] < s.cards.getD (dimsM k)[j] 0
  sum : c.sum.length = s.ms.toNat
  mn : c.mn.length = s.ms.toNat
  mx : c.mx.length = s.ms.toNat
  i64 : ∀ j, I64 (c.sum.getD j 0) ∧ I64 (c.mn.getD j 0) ∧ I64 (c.mx.getD j 0)
  le : ∀ j, c.mn.getD j 0 ≤ c.mx.getD j 0
/-- Cells that a set's file may hold. -/
structure CubOk (s : SchM) (k : Int) (l : List CellM) : Prop where
  sch : SchOk s
  set : 0 ≤ k ∧ k < 2 ^ s.cards.length
  len : l.length ≤ 300
  srt : Srt l
  cel : ∀ c ∈ l, CelOk s k c
  count : ∀ c ∈ l, 1 ≤ c.count ∧ c.count ≤ 300
theorem zip_getD {f : Int → Int → Int} (h0 : f 0 0 = 0) : ∀ {xs ys : List Int}, xs.length = ys.length → ∀ j, (List.zipWith f xs ys).getD j 0 = f (xs.getD j 0) (ys.getD j 0)
  | [], [], _, j => by simp [h0]
  | x :: xs, y :: ys, h, 0 => rfl
  | x :: xs, y :: ys, h, j + 1 => by
    have := zip_getD h0 (xs := xs) (ys := ys) (by simpa using h) j
    simpa using this
theorem wrap_i64_in (x : Int) : I64 (IntKind.i64.wrap x) := by
  unfold I64
  rw [wrap_eq]
  split <;> omega
theorem CelOk.join {s : SchM} {k : Int} {a b : CellM} (ha : CelOk s k a) (hb : CelOk s k b) : CelOk s k (joinC a b) := by
  have e1 : a.sum.length = b.sum.length := by rw [ha.sum, hb.sum]
  have e2 : a.mn.length = b.mn.length := by rw [ha.mn, hb.mn]
  have e3 : a.mx.length = b.mx.length := by rw [ha.mx, hb.mx]
  refine ⟨ha.klen, ha.key, ?_, ?_, ?_, fun j => ?_, fun j => ?_⟩
  · simp [joinC, ha.sum, hb.sum]
  · simp [joinC, ha.mn, hb.mn]
  · simp [joinC, ha.mx, hb.mx]
  · have h1 := ha.i64 j
    have h2 := hb.i64 j
    simp only [joinC]
    rw [zip_getD (by decide) e1, zip_getD (by decide) e2, zip_getD (by decide) e3]
    refine ⟨wrap_i64_in _, ?_, ?_⟩
    · unfold I64 at *; omega
    · unfold I64 at *; omega
  · have h1 := ha.le j
    have h2 := hb.le j
    simp only [joinC]
    rw [zip_getD (by decide) e2, zip_getD (by decide) e3]
    omega
def totC (l : List CellM) : Int := (l.map (·.count)).sum
theorem tot_put : ∀ {o : List CellM} {c : CellM}, (∀ d ∈ o, 1 ≤ d.count) → 1 ≤ c.count → totC o + c.count < 9223372036854775808 → totC (putC o c) = totC o + c.count ∧ ∀ d ∈ putC o c, 1 ≤ d.count
  | [], c, _, hc, _ => by
    refine ⟨by simp [totC, putC], fun d hd => ?_⟩
    rw [putC, List.mem_singleton] at hd
    rw [hd]; exact hc
  | x :: o, c, ho, hc, hlt => by
    have hx := ho x List.mem_cons_self
    have ho' : ∀ d ∈ o, 1 ≤ d.count := fun d hd => ho d (List.mem_cons_of_mem _ hd)
    have hpos : ∀ (o : List CellM), (∀ d ∈ o, 1 ≤ d.count) → 0 ≤ totC o := by
      intro o
      induction o with
      | nil => intro _; simp [totC]
      | cons y o ih =>
        intro h
        have h1 := h y List.mem_cons_self
        have h2 := ih fun d hd => h d (List.mem_cons_of_mem _ hd)
        simp only [totC, List.map_cons, List.sum_cons] at *
        omega
    have h0 := hpos o ho'
    have e : totC (x :: o) = x.count + totC o := by simp [totC]
    rw [e] at hlt ⊢
    rw [putC]
    split
    · have ih := tot_put ho' hc (by omega)
      refine ⟨?_, fun d hd => ?_⟩
      · have : totC (x :: putC o c) = x.count + totC (putC o c) := by simp [totC]
        rw [this, ih.1]; omega
      · rcases List.mem_cons.1 hd with rfl | hd
        · exact hx
        · exact ih.2 d hd
    · split
      · have hj : (joinC x c).count = x.count + c.count := by
          simp only [joinC]
          exact wrap_i64 (by omega) (by omega)
        refine ⟨?_, fun d hd => ?_⟩
        · have : totC (joinC x c :: o) = (joinC x c).count + totC o := by simp [totC]
          rw [this, hj]; omega
        · rcases List.mem_cons.1 hd with rfl | hd
          · omega
          · exact ho' d hd
      · refine ⟨?_, fun d hd => ?_⟩
        · simp only [totC, List.map_cons, List.sum_cons] at *
          omega
        · rcases List.mem_cons.1 hd with rfl | hd
          · exact hc
          · exact ho d hd
theorem tot_fold : ∀ (l o : List CellM), (∀ d ∈ o, 1 ≤ d.count) → (∀ d ∈ l, d.count = 1) → totC o + l.length < 9223372036854775808 → totC (l.foldl putC o) = totC o + l.length ∧ ∀ d ∈ l.foldl putC o, 1 ≤ d.count
  | [], o, ho, _, _ => ⟨by simp, ho⟩
  | c :: l, o, ho, hl, hlt => by
    have hc := hl c List.mem_cons_self
    simp only [List.length_cons] at hlt ⊢
    obtain ⟨h1, h2⟩ := tot_put (o := o) (c := c) ho (by omega) (by omega)
    have := tot_fold l (putC o c) h2 (fun d hd => hl d (List.mem_cons_of_mem _ hd)) (by omega)
    refine ⟨?_, this.2⟩
    rw [List.foldl_cons, this.1, h1]
    omega
theorem tot_mem : ∀ {l : List CellM}, (∀ d ∈ l, 1 ≤ d.count) → ∀ d ∈ l, d.count ≤ totC l
  | [], _, d, hd => by cases hd
  | x :: l, h, d, hd => by
    have hx := h x List.mem_cons_self
    have hl : ∀ d ∈ l, 1 ≤ d.count := fun d hd => h d (List.mem_cons_of_mem _ hd)
    have e : totC (x :: l) = x.count + totC l := by simp [totC]
    rcases List.mem_cons.1 hd with rfl | hd
    · cases l with
      | nil => simp [totC]
      | cons y l =>
        have h1 := tot_mem hl y List.mem_cons_self
        have h2 := hl y List.mem_cons_self
        omega
    · have := tot_mem hl d hd
      omega
theorem filter_at {p : Nat → Bool} {n i : Nat} (hi : i < n) (hp : p i = true) : ((List.range n).filter p)[((List.range i).filter p).length]? = some i := by
  obtain ⟨m, rfl⟩ : ∃ m, n = i + 1 + m := ⟨n - (i + 1), by omega⟩
  have e : (List.range (i + 1 + m)).filter p = (List.range i).filter p ++ i :: ((List.range' (i + 1) m).filter p) := by
    have h1 : List.range (i + 1 + m) = List.range i ++ (i :: List.range' (i + 1) m) := by
      rw [List.range_eq_range', List.range_eq_range', ← List.range'_append_1 (s := 0) (m := i + 1) (n := m), List.range'_1_concat]
      simp
    rw [h1, List.filter_append, List.filter_cons, if_pos hp]
  rw [e, List.getElem?_append_right (Nat.le_refl _), Nat.sub_self]
  rfl
/-- The values of a set's dimensions, by their places. -/
theorem pick_map {k : Int} : ∀ (xs : List Int) (i : Nat), pickM k i xs = ((List.range' i xs.length).filter (bitM k)).map fun q => xs.getD (q - i) 0
  | [], i => by simp [pickM]
  | x :: xs, i => by
    have ih := pick_map (k := k) xs (i + 1)
    have e : ((List.range' (i + 1) xs.length).filter (bitM k)).map (fun q => (x :: xs).getD (q - i) 0) = ((List.range' (i + 1) xs.length).filter (bitM k)).map fun q => xs.getD (q - (i + 1)) 0 := by
      apply List.map_congr_left
      intro q hq
      have hq := (List.mem_filter.1 hq).1
      rw [List.mem_range'_1] at hq
      rw [show q - i = (q - (i + 1)) + 1 by omega, List.getD_cons_succ]
    rw [pickM, List.length_cons, List.range'_succ, List.filter_cons]
    by_cases hb : bitM k i = true
    · rw [if_pos hb, if_pos hb, List.map_cons, e, ih, Nat.sub_self]
      rfl
    · rw [if_neg hb, if_neg hb, e, ih]
theorem bit_high {k : Int} {d i : Nat} (h0 : 0 ≤ k) (h : k < 2 ^ d) (hi : d ≤ i) : bitM k i = false := by
  unfold bitM
  have hp : (2 : Int) ^ d ≤ 2 ^ i := pow2_le hi
  rw [Int.fdiv_eq_ediv_of_nonneg _ (by omega), Int.ediv_eq_zero_of_lt h0 (by omega)]
  rfl
theorem dims_range {k : Int} {d : Nat} (h0 : 0 ≤ k) (h : k < 2 ^ d) (hd : d ≤ 4) : dimsM k = (List.range d).filter (bitM k) := by
  unfold dimsM
  obtain ⟨m, e⟩ : ∃ m, 4 = d + m := ⟨4 - d, by omega⟩
  rw [e, List.range_add, List.filter_append]
  have : ((List.range m).map (d + ·)).filter (bitM k) = [] := by
    rw [List.filter_eq_nil_iff]
    intro q hq
    obtain ⟨i, _, rfl⟩ := List.mem_map.1 hq
    rw [bit_high h0 h (by omega)]
    simp
  rw [this, List.append_nil]
theorem cel_of {s : SchM} {rows : List RowM} (ok : FactsOk s rows) {k : Int} (h0 : 0 ≤ k) (h : k < 2 ^ s.cards.length) {r : RowM} (hr : r ∈ rows) : CelOk s k (ofM k r) := by
  have hk := ok.key r hr
  have hm := ok.m r hr
  have hd := dims_range h0 h ok.dims.2
  have hp : pickM k 0 r.key = (dimsM k).map fun q => r.key.getD q 0 := by
    rw [pick_map, hd, hk.1, ← List.range_eq_range']
    rfl
  refine ⟨by simp only [ofM]; rw [hp, List.length_map], fun j hj hj' => ?_, hm.1, hm.1, hm.1, fun j => ?_, fun j => Int.le_refl _⟩
  · simp only [ofM]
    have hq : (dimsM k)[j] < s.cards.length := by
      have := List.getElem_mem hj'
      have h2 : (dimsM k)[j] ∈ (List.range s.cards.length).filter (bitM k) := by rw [← hd]; exact this
      exact List.mem_range.1 (List.mem_filter.1 h2).1
    have hv : (pickM k 0 r.key)[j]'(by rw [hp]; simpa using hj') = r.key[(dimsM k)[j]]'(by omega) := by
      simp only [hp, List.getElem_map]
      rw [List.getD_eq_getElem?_getD, List.getElem?_eq_getElem (by omega)]
      rfl
    rw [hv, List.getD_eq_getElem?_getD, List.getElem?_eq_getElem hq]
    exact hk.2 _ (by omega) hq
  · simp only [ofM]
    have : I64 (r.m.getD j 0) := by
      by_cases hj : j < r.m.length
      · rw [List.getD_eq_getElem?_getD, List.getElem?_eq_getElem hj]
        exact hm.2 _ (List.getElem_mem hj)
      · rw [List.getD_eq_getElem?_getD, List.getElem?_eq_none (by omega)]
        unfold I64
        simp
    exact ⟨this, this, this⟩
/-- The cuboid of facts is one that its file may hold. -/
theorem cub_ok {s : SchM} {rows : List RowM} (ok : FactsOk s rows) {k : Int} (h0 : 0 ≤ k) (h : k < 2 ^ s.cards.length) : CubOk s k (groupC (rows.map (ofM k))) := by
  have hle := groupC_le (rows.map (ofM k))
  rw [List.length_map] at hle
  have hlen := ok.len
  have ht := tot_fold (rows.map (ofM k)) [] (fun d hd => by cases hd) (fun d hd => by
    obtain ⟨r, _, rfl⟩ := List.mem_map.1 hd
    rfl) (by rw [List.length_map]; simp [totC]; omega)
  rw [List.length_map] at ht
  refine ⟨ok.sch, ⟨h0, h⟩, by omega, (grp_group _).srt, group_all (fun _ _ h1 h2 => h1.join h2) fun c hc => ?_, fun c hc => ?_⟩
  · obtain ⟨r, hr, rfl⟩ := List.mem_map.1 hc
    exact cel_of ok h0 h hr
  · have h1 := ht.2 c hc
    have h2 := tot_mem ht.2 c hc
    rw [ht.1] at h2
    simp only [totC, List.map_nil, List.sum_nil] at h2
    omega
theorem three_len (x y z : Int) : (w8 x ++ w8 y ++ w8 z).length = 24 := by simp [w8_len]
theorem cellB_len {s : SchM} {k : Int} {c : CellM} (h : CelOk s k c) : (cellB c).length = (dimsM k).length + 2 + 24 * s.ms.toNat := by
  unfold cellB w2
  rw [List.length_append, List.length_append, List.length_map, flat_size (w := 24) (fun x _ => three_len _ _ _), h.klen, List.length_range, h.sum]
  simp only [List.length_cons, List.length_nil]
  omega
/-- What stands where in a cell's bytes. -/
structure CelAt (c : CellM) (B : List UInt8) : Prop where
  key : ∀ (j : Nat) (h : j < c.key.length), B[j]? = some (byteM c.key[j])
  count : (B.drop c.key.length).take 2 = w2 c.count
  sum : ∀ j, j < c.sum.length → (B.drop (c.key.length + 2 + 24 * j)).take 8 = w8 (c.sum.getD j 0)
  mn : ∀ j, j < c.sum.length → (B.drop (c.key.length + 2 + 24 * j + 8)).take 8 = w8 (c.mn.getD j 0)
  mx : ∀ j, j < c.sum.length → (B.drop (c.key.length + 2 + 24 * j + 16)).take 8 = w8 (c.mx.getD j 0)
theorem cel_at (c : CellM) : CelAt c (cellB c) := by
  have h3 : ∀ j, j < c.sum.length → (((List.range c.sum.length).flatMap fun k => w8 (c.sum.getD k 0) ++ w8 (c.mn.getD k 0) ++ w8 (c.mx.getD k 0)).drop (j * 24)).take 24 = w8 (c.sum.getD j 0) ++ w8 (c.mn.getD j 0) ++ w8 (c.mx.getD j 0) := fun j hj => by
    have := flat_piece (l := List.range c.sum.length) (w := 24) (f := fun k => w8 (c.sum.getD k 0) ++ w8 (c.mn.getD k 0) ++ w8 (c.mx.getD k 0)) (fun x _ => three_len _ _ _) j (by simpa using hj)
    rw [List.getElem_range] at this
    exact this
  have hk : (c.key.map byteM).length = c.key.length := List.length_map ..
  have h2l : ∀ x : Int, (w2 x).length = 2 := fun x => rfl
  have hB : ∀ j q, q + 8 ≤ 24 → ((cellB c).drop (c.key.length + 2 + 24 * j + q)).take 8 = (((((List.range c.sum.length).flatMap fun k => w8 (c.sum.getD k 0) ++ w8 (c.mn.getD k 0) ++ w8 (c.mx.getD k 0)).drop (j * 24)).take 24).drop q).take 8 := fun j q hq => by
    unfold cellB
    rw [List.append_assoc, List.drop_append, List.drop_of_length_le (by omega), List.nil_append, hk, List.drop_append, List.drop_of_length_le (by rw [h2l]; omega), List.nil_append, h2l, List.drop_take, List.drop_drop, List.take_take, Nat.min_eq_left (by omega)]
    congr 2
    omega
  refine ⟨fun j hj => ?_, ?_, fun j hj => ?_, fun j hj => ?_, fun j hj => ?_⟩
  · unfold cellB
    rw [List.append_assoc, List.getElem?_append_left (by omega), List.getElem?_map, List.getElem?_eq_getElem hj]
    rfl
  · unfold cellB
    rw [List.append_assoc, List.drop_append, List.drop_of_length_le (by omega), List.nil_append, hk, Nat.sub_self, List.drop_zero, List.take_append_of_le_length (by rw [h2l]; exact Nat.le_refl _), List.take_of_length_le (by rw [h2l]; exact Nat.le_refl _)]
  · have := hB j 0 (by omega)
    rw [Nat.add_zero] at this
    rw [this, h3 j hj, List.drop_zero, List.append_assoc, List.take_append_of_le_length (by rw [w8_len]; exact Nat.le_refl _), List.take_of_length_le (by rw [w8_len]; exact Nat.le_refl _)]
  · rw [hB j 8 (by omega), h3 j hj, List.append_assoc, List.drop_append, List.drop_of_length_le (by rw [w8_len]; exact Nat.le_refl _), List.nil_append, w8_len, List.drop_zero, List.take_append_of_le_length (by rw [w8_len]; exact Nat.le_refl _), List.take_of_length_le (by rw [w8_len]; exact Nat.le_refl _)]
  · rw [hB j 16 (by omega), h3 j hj, List.drop_append, List.drop_of_length_le (by simp [w8_len]), List.nil_append, List.length_append, w8_len, w8_len, List.drop_zero, List.take_of_length_le (by rw [w8_len]; exact Nat.le_refl _)]
end Go.HC

/-
  Cells out of bytes: what both share; levels.
-/
namespace Go.HC
variable {P : Program} {ty : TypeId} {K : Value → Heap → Prop}
/-- One of several slices grows by what lies somewhere. -/
theorem grs_at {α : Type} {R : Rp α} {T e by_ n e0 i : Nat} {cs : Array Bool} {M B : Nat → Prop} {h1 : Heap} {l : List (GI α)} {t : GI α} {x : α} {c : List Value} {arr : Array Value}
    (he : h1[e0]? = some (.cells arr e (0, 0))) (hT : ElemT P T e R by_) (gg : Grs R e n M h1 B l) (hi : l[i]? = some t) (hM : ∀ b, M b → b < h1.size) (hr : R.rep (Ft n M h1) h1 c x) (hc : arr.toList = c)
    (hbig : (t.xs.length + 1) * by_ ≤ 140737488355328) (h63 : t.xs.length + 1 < 9223372036854775808) (hB : ∀ b, B b → b < h1.size) (hn : n ≤ h1.size)
    (hk : ∀ a m c' y N p, Keep (fun b => t.o = some b) h1 y → Tr M N h1 y → Grs R e n N y B (l.set i ⟨.slice a m c', t.xs ++ [x], p⟩) → (∀ b, M b → N b) → K (.slice a m c') y) :
    builtinS P .append #[T, T] ty cs #[t.v, .slice (some ⟨e0, 0, none⟩) 1 1] h1 K := by
  subst hc
  refine gr_append (F2 := fun b => b = e0) (ys := [x]) (news := arr.toList) hT (gg.at hi) hM rfl (.inr ⟨e0, 0, _, _, _, rfl, rfl, he, by rw [List.drop_zero, List.take_of_length_le (Nat.le_refl _)]⟩) (.single hr) hbig h63 ?_
  intro v' y p g u k ho
  obtain ⟨a, m, c', rfl, _⟩ := g.vals
  exact hk a m c' y (fun b => M b ∨ p = some b) p k u (gg.app hi g u k ho hB hn (fun b hb => .inl hb)) fun b hb => .inl hb
theorem Grs.over {α : Type} {R : Rp α} {e n : Nat} {M M' B S : Nat → Prop} {h h' : Heap} {l : List (GI α)} (g : Grs R e n M h B l) (t : Tr M M' h h') (k : Keep S h h') (hS : ∀ b, S b → b < h.size → B b) (hM : ∀ b, M b → M' b) : Grs R e n M' h' B l :=
  ⟨fun s hs => ⟨(g.gr s hs).1.mono t (Nat.le_refl _) fun b hb => ⟨hM b ((g.gr s hs).1.mu b hb), k.blk b ((g.gr s hs).1.own_lt b hb) fun h1 => ((g.gr s hs).2 b hb).1 (hS b h1 ((g.gr s hs).1.own_lt b hb))⟩, (g.gr s hs).2⟩, g.sep⟩
/-- How many of a set's dimensions stand ahead of one. -/
def cntD (k : Int) (i : Nat) : Nat := ((List.range i).filter (bitM k)).length
theorem cntD_le (k : Int) (i : Nat) : cntD k i ≤ i := by
  unfold cntD
  have := List.length_filter_le (bitM k) (List.range i)
  simpa using this
end Go.HC
namespace Go.Proofs
open Go Go.HC

end Go.Proofs

/-
  How many bits are set: numbers below 16.
-/
namespace Go.Proofs
open Go Go.HC

set_option maxHeartbeats 4000000 in
set_option maxRecDepth 10000 in
theorem ones64_spec (x : Fin 16) (h : Heap) : CallH Tryz.prog 157 #[.int .u64 (x.val : Int)] h fun r h' => r = .int .i64 (dimsM (x.val : Int)).length ∧ h' = h := by
  refine callH_by fun K hK => ?_
  refine enter [.tmp 2] Tryz.func157 rfl rfl (by kernel_rfl) rfl ?_
  simp -dsimp
  refine hK _ _ ⟨congrArg (Value.int .i64) ?_, rfl⟩
  clear hK
  revert x
  decide +kernel

set_option maxHeartbeats 4000000 in
set_option maxRecDepth 10000 in
theorem ones_spec {k : Int} (h0 : 0 ≤ k) (hk : k < 16) (h : Heap) : CallH Tryz.prog 126 #[.int .u64 k] h fun r h' => r = .int .i64 (dimsM k).length ∧ h' = h := by
  obtain ⟨x, rfl⟩ : ∃ x : Fin 16, k = (x.val : Int) := ⟨⟨k.toNat, by omega⟩, by simp; omega⟩
  refine callH_by fun K hK => ?_
  refine enter [.tmp 2] Tryz.func126 rfl rfl (by kernel_rfl) rfl ?_
  simp -dsimp
  refine call_by (ones64_spec x h) ?_
  rintro _ h1 ⟨rfl, hh⟩
  subst h1
  simp -dsimp
  exact hK _ _ ⟨rfl, rfl⟩
end Go.Proofs

/-
  The program's sets of dimensions, in their order.
-/
namespace Go.HC
def levK (k : Int) : Nat := (dimsM k).length
def swapL (l : List Int) (j : Nat) : List Int := (l.set (j + 1) (l.getD j 0)).set j (l.getD (j + 1) 0)
/-- One is moved ahead, past those of lower level. -/
def bubL (l : List Int) : Nat → List Int
  | 0 => l
  | j + 1 => if levK (l.getD j 0) < levK (l.getD (j + 1) 0) then bubL (swapL l j) j else l
def insL (l : List Int) : Nat → List Int
  | 0 => l
  | i + 1 => bubL (insL l i) (i + 1)
theorem swapL_len (l : List Int) (j : Nat) : (swapL l j).length = l.length := by simp [swapL]
theorem bubL_len : ∀ (j : Nat) (l : List Int), (bubL l j).length = l.length
  | 0, _ => rfl
  | j + 1, l => by
    rw [bubL]
    split
    · rw [bubL_len j, swapL_len]
    · rfl
theorem insL_len (l : List Int) : ∀ i, (insL l i).length = l.length
  | 0 => rfl
  | i + 1 => by rw [insL, bubL_len, insL_len l i]
def InL (l : List Int) : Prop := ∀ x ∈ l, 0 ≤ x ∧ x < 16
theorem swapL_in {l : List Int} {j : Nat} (h : InL l) (hj : j + 1 < l.length) : InL (swapL l j) := by
  intro x hx
  have g : ∀ i, i < l.length → 0 ≤ l.getD i 0 ∧ l.getD i 0 < 16 := fun i hi => by
    rw [List.getD_eq_getElem?_getD, List.getElem?_eq_getElem hi]
    exact h _ (List.getElem_mem hi)
  unfold swapL at hx
  rcases List.mem_or_eq_of_mem_set hx with hx | rfl
  · rcases List.mem_or_eq_of_mem_set hx with hx | rfl
    · exact h x hx
    · exact g _ (by omega)
  · exact g _ (by omega)
theorem bubL_in : ∀ (j : Nat) {l : List Int}, InL l → j < l.length → InL (bubL l j)
  | 0, _, h, _ => h
  | j + 1, l, h, hj => by
    rw [bubL]
    split
    · exact bubL_in j (swapL_in h hj) (by rw [swapL_len]; omega)
    · exact h
theorem insL_in {l : List Int} (h : InL l) : ∀ i, i < l.length → InL (insL l i)
  | 0, _ => h
  | i + 1, hi => bubL_in (i + 1) (insL_in h i (by omega)) (by rw [insL_len]; exact hi)
/-- All sets of so many dimensions. -/
def numsL (n : Nat) : List Int := (List.range n).map fun (i : Nat) => (i : Int)
def setsL (d : Nat) : List Int := insL (numsL (2 ^ d)) (2 ^ d - 1)
theorem numsL_in {d : Nat} (hd : d ≤ 4) : InL (numsL (2 ^ d)) := by
  intro x hx
  obtain ⟨i, hi, rfl⟩ := List.mem_map.1 hx
  have := List.mem_range.1 hi
  have : 2 ^ d ≤ 2 ^ 4 := Nat.pow_le_pow_right (by decide) hd
  omega
theorem numsL_len (n : Nat) : (numsL n).length = n := by simp [numsL]
theorem Grow.ints_own {e : TypeId} {F : Nat → Prop} {h : Heap} {v : Value} {xs : List Int} {own : Option Nat} (hg : Grow rInt e F h v xs own) : Grow rInt e none_ h v xs own := by
  rcases hg with h0 | ⟨bk, c, arr, cs, h0, h1, h2, h3, h4, h5, h6, h7, h8⟩
  · exact .inl h0
  · exact .inr ⟨bk, c, arr, cs, h0, h1, h2, (fun h => h), h4, h5, h6, h7, ints_map.2 (ints_map.1 h8)⟩
end Go.HC
namespace Go.Proofs
open Go Go.HC

set_option maxRecDepth 10000 in
theorem plevel_spec {k : Int} (h0 : 0 ≤ k) (hk : k < 16) (h : Heap) : CallH Tryz.prog 120 #[.int .i64 k] h fun r h' => r = .int .i64 (levK k) ∧ h' = h := by
  refine callH_by fun K hK => ?_
  refine enter [.tmp 2] Tryz.func120 rfl rfl (by kernel_rfl) rfl ?_
  have wu : IntKind.u64.wrap k = k := by simp [IntKind.wrap, IntKind.bits, IntKind.signed]; omega
  simp -dsimp [wu]
  refine call_by (ones_spec h0 hk h) ?_
  rintro _ y ⟨rfl, hh⟩
  subst y
  simp -dsimp
  exact hK _ _ ⟨rfl, rfl⟩

set_option maxRecDepth 10000 in
theorem before_spec {a b : Int} (ha : 0 ≤ a ∧ a < 16) (hb : 0 ≤ b ∧ b < 16) (h : Heap) : CallH Tryz.prog 118 #[.int .i64 a, .int .i64 b] h fun r h' => (∃ c : Int, r = .int .i64 c ∧ (c < 0 ↔ levK b < levK a)) ∧ h' = h := by
  refine callH_by fun K hK => ?_
  refine enter [.tmp 4] Tryz.func118 rfl rfl (by kernel_rfl) rfl ?_
  simp -dsimp
  refine call_by (plevel_spec hb.1 hb.2 h) ?_
  rintro _ y ⟨rfl, hh⟩
  subst y
  simp -dsimp
  refine call_by (plevel_spec ha.1 ha.2 h) ?_
  rintro _ y ⟨rfl, hh⟩
  subst y
  simp -dsimp
  refine call_by (cmpInt_spec _ _ h) ?_
  rintro _ y ⟨rfl, hh⟩
  subst y
  simp -dsimp
  refine hK _ _ ⟨⟨_, rfl, ?_⟩, rfl⟩
  split
  · omega
  · split <;> omega

set_option maxHeartbeats 4000000 in
set_option maxRecDepth 10000 in
theorem insort_spec {h : Heap} {v : Value} {l : List Int} {own : Option Nat} (g : Grow rInt 3 none_ h v l own) (hl : 0 < l.length) (hin : InL l) (hn : l.length < 1000) :
    CallH Tryz.prog 171 #[v, .int .i64 0, .int .i64 l.length, .func (.func 118) #[] #[]] h fun r h' => r = .tuple #[] ∧ Grow rInt 3 none_ h' v (insL l (l.length - 1)) own ∧ Keep (fun b => own = some b) h h' := by
  refine callH_by fun K hK => ?_
  refine enter [] Tryz.func171 rfl rfl (by kernel_rfl) rfl ?_
  obtain ⟨a0, c0, rfl⟩ := g.val
  simp -dsimp
  refine loopc (σ := Nat) (fun i => [(0, .slice a0 l.length c0), (1, .int .i64 0), (2, .int .i64 l.length), (3, .func (.func 118) #[] #[]), (8, .int .i64 i)])
    (fun i y => 1 ≤ i ∧ i ≤ l.length ∧ Grow rInt 3 none_ y (.slice a0 l.length c0) (insL l (i - 1)) own ∧ Keep (fun b => own = some b) h y) (fun i => l.length - i) 1 0 (fun i _ => i = l.length) noRet noRet_le (by simp) ⟨Nat.le_refl _, hl, g, .refl _ _⟩ (by kernel_rfl) ?_ ?_
  case refine_1 =>
    rintro i y g0 ⟨h1, hi, gy, ky⟩
    by_cases hil : i < l.length
    · have wi := wrap_succ (k := i) (by omega)
      simp -dsimp [hil]
      refine loopc (σ := Nat) (fun j => [(0, .slice a0 l.length c0), (1, .int .i64 0), (2, .int .i64 l.length), (3, .func (.func 118) #[] #[]), (8, .int .i64 i), (9, .int .i64 j)])
        (fun j z => j ≤ i ∧ ∃ m, m.length = l.length ∧ InL m ∧ bubL m j = insL l i ∧ Grow rInt 3 none_ z (.slice a0 l.length c0) m own ∧ Keep (fun b => own = some b) h z) (fun j => j) i 2 (fun j z => Grow rInt 3 none_ z (.slice a0 l.length c0) (insL l i) own) noRet noRet_le (by simp)
        ⟨Nat.le_refl _, insL l (i - 1), insL_len _ _, insL_in hin _ (by omega), by obtain ⟨p, rfl⟩ : ∃ p, i = p + 1 := ⟨i - 1, by omega⟩; rfl, gy, ky⟩ (by kernel_rfl) ?_ ?_
      case refine_1 =>
        rintro j z g1 ⟨hj, m, hm, him, hb, gz, kz⟩
        cases j with
        | zero =>
          simp -dsimp
          refine drawn_by [⟨0, true, []⟩, ⟨1, true, []⟩, ⟨2, true, []⟩, ⟨3, true, []⟩, ⟨4, true, []⟩, ⟨5, true, []⟩, ⟨6, true, []⟩, ⟨7, true, []⟩, ⟨8, true, []⟩, ⟨9, true, []⟩, ⟨10, true, []⟩, ⟨11, true, []⟩, ⟨12, true, []⟩, ⟨13, true, []⟩, ⟨14, false, []⟩, ⟨15, true, []⟩, ⟨16, true, []⟩] (by kernel_rfl) (by kernel_rfl) ?_
          simp -dsimp
          exact ⟨rfl, 0, by simp, rfl, ⟨⟨hj, m, hm, him, hb, gz, kz⟩, by rw [← hb]; exact gz⟩⟩
        | succ j =>
          have hj0 : (0 : Int) < ((j + 1 : Nat) : Int) := by omega
          have hjm1 : j + 1 < m.length := by omega
          have hjm : j < m.length := by omega
          have w1 : IntKind.i64.wrap (((j + 1 : Nat) : Int) - 1) = (j : Int) := by rw [wrap_i64 (by omega) (by omega)]; omega
          have w1' : IntKind.i64.wrap ((j : Int) + 1 - 1) = (j : Int) := by rw [wrap_i64 (by omega) (by omega)]; omega
          obtain ⟨bk, cs1, eva, eown, e1, hc1⟩ := gz.elem (j + 1) hjm1
          obtain ⟨bk2, cs2, eva2, _, e2, hc2⟩ := gz.elem j hjm
          subst eva
          cases eva2
          have e1 : cs1 = [.int .i64 m[j + 1]] := e1
          have e2 : cs2 = [.int .i64 m[j]] := e2
          subst e1 e2
          have c1 : HC.cellIn z[bk]? (j + 1) = some (.int .i64 m[j + 1]) := by
            have := cellsIn_cell (d := 0) hc1 (by decide)
            simpa [rInt] using this
          have c2 : HC.cellIn z[bk]? j = some (.int .i64 m[j]) := by
            have := cellsIn_cell (d := 0) hc2 (by decide)
            simpa [rInt] using this
          have i1 : j + 1 < l.length := by omega
          have i2 : j < l.length := by omega
          have ix1 : ∀ sz ar, idxV sz ar (.slice (some ⟨bk, 0, none⟩) l.length c0) (.int .i64 ((j : Int) + 1)) = sz.map fun s => .pointer (some ⟨bk, 0 + (j + 1) * s, none⟩) := fun sz ar =>
            idxV_nat (sz := sz) (ar := ar) (bk := bk) (off := 0) (n := l.length) (c := c0) (i := j + 1) (k := .i64) i1
          have gd1 : m.getD (j + 1) 0 = m[j + 1] := by rw [List.getD_eq_getElem?_getD, List.getElem?_eq_getElem hjm1]; rfl
          have gd2 : m.getD j 0 = m[j] := by rw [List.getD_eq_getElem?_getD, List.getElem?_eq_getElem hjm]; rfl
          simp -dsimp
          refine drawn_by [⟨0, true, []⟩, ⟨1, true, []⟩, ⟨2, true, []⟩, ⟨3, true, []⟩, ⟨4, true, []⟩, ⟨5, true, []⟩, ⟨6, true, []⟩, ⟨7, true, []⟩, ⟨8, true, []⟩, ⟨9, true, []⟩, ⟨10, true, []⟩, ⟨11, true, []⟩, ⟨12, true, []⟩, ⟨13, true, []⟩, ⟨14, false, []⟩, ⟨15, true, []⟩, ⟨16, true, []⟩] (by kernel_rfl) (by kernel_rfl) ?_
          have wj0 : IntKind.i64.wrap (j : Int) = (j : Int) := wrap_i64 (by omega) (by omega)
          simp -dsimp [wj0, ix1, idxV_nat i2, elSz_eq, c1, c2]
          refine call_by (before_spec (him _ (List.getElem_mem hjm1)) (him _ (List.getElem_mem hjm)) z) ?_
          rintro _ z2 ⟨⟨cc, rfl, hcc⟩, hh⟩
          subst z2
          rw [bubL, gd1, gd2] at hb
          by_cases hlev : levK m[j] < levK m[j + 1]
          · have hcn : cc < 0 := hcc.2 hlev
            rw [if_pos hlev] at hb
            simp -dsimp [hcn, wj0, ix1, idxV_nat i2, elSz_eq, c1, c2, again_cons]
            refine drawn_by [⟨0, true, []⟩, ⟨1, true, []⟩, ⟨2, true, []⟩, ⟨3, true, []⟩, ⟨4, true, []⟩, ⟨5, true, []⟩, ⟨6, true, []⟩, ⟨7, true, []⟩, ⟨8, true, []⟩, ⟨9, true, []⟩, ⟨10, true, []⟩, ⟨11, true, []⟩, ⟨12, true, []⟩, ⟨13, true, []⟩, ⟨14, true, []⟩, ⟨15, false, [2, 3, 4]⟩, ⟨16, true, []⟩, ⟨17, false, []⟩] (by kernel_rfl) (by kernel_rfl) ?_
            obtain ⟨bk', c', o1, e1, e2, hw1, gz1⟩ := gz.setE (i := j + 1) (x := m[j]) (news := [.int .i64 m[j]]) hjm1 rfl
            rw [hm] at e1
            cases e1
            rw [eown] at e2
            cases e2
            obtain ⟨bk'', c'', o2, e3, e4, hw2, gz2⟩ := gz1.setE (i := j) (x := m[j + 1]) (news := [.int .i64 m[j + 1]]) (by rw [List.length_set]; exact hjm) rfl
            rw [List.length_set, hm] at e3
            cases e3
            rw [eown] at e4
            cases e4
            have hw1' : writeIn z[bk]? (j + 1) [.int .i64 m[j]] = some o1 := by simpa [rInt] using hw1
            have hw2' : writeIn (z.setIfInBounds bk o1)[bk]? j [.int .i64 m[j + 1]] = some o2 := by simpa [rInt] using hw2
            simp -dsimp [wj0, ix1, idxV_nat i2, elSz_eq, c1, c2, hw1', hw2', again_cons]
            rw [Array.setIfInBounds_setIfInBounds] at gz2
            have e5 : (m.set (j + 1) m[j]).set j m[j + 1] = swapL m j := by unfold swapL; rw [gd1, gd2]
            rw [e5] at gz2
            exact ⟨j, by simp, rfl, ⟨by omega, swapL m j, by rw [swapL_len]; exact hm, swapL_in him hjm1, hb, gz2, kz.setted _ fun _ => eown⟩, by show j < j + 1; omega⟩
          · have hcn : ¬ cc < 0 := fun e => hlev (hcc.1 e)
            rw [if_neg hlev] at hb
            simp -dsimp [hcn]
            exact ⟨rfl, j + 1, by simp, rfl, ⟨⟨hj, m, hm, him, by rw [bubL, gd1, gd2, if_neg hlev]; exact hb, gz, kz⟩, by rw [← hb]; exact gz⟩⟩
      rintro j z g1 ⟨hj, m, hm, him, hb, gz, kz⟩ hq
      simp -dsimp [wi]
      exact ⟨i + 1, by simp, rfl, ⟨by omega, hil, by rw [Nat.add_sub_cancel]; exact hq, kz⟩, by show l.length - (i + 1) < l.length - i; omega⟩
    · simp -dsimp [hil]
      exact ⟨rfl, i, by simp, rfl, ⟨h1, hi, gy, ky⟩, by show i = _; omega⟩
  rintro i y g0 ⟨h1, hi, gy, ky⟩ hil
  have hil : i = l.length := hil
  subst hil
  simp -dsimp
  exact hK _ _ ⟨rfl, gy, ky⟩

set_option maxHeartbeats 4000000 in
set_option maxRecDepth 10000 in
theorem stable_spec {h : Heap} {v : Value} {l : List Int} {own : Option Nat} (g : Grow rInt 3 none_ h v l own) (hl : 0 < l.length) (hin : InL l) (hn : l.length < 20) :
    CallH Tryz.prog 117 #[v, .func (.func 118) #[] #[]] h fun r h' => r = .tuple #[] ∧ Grow rInt 3 none_ h' v (insL l (l.length - 1)) own ∧ Keep (fun b => own = some b) h h' := by
  refine callH_by fun K hK => ?_
  refine enter [] Tryz.func117 rfl rfl (by kernel_rfl) rfl ?_
  obtain ⟨a0, c0, rfl⟩ := g.val
  simp -dsimp
  refine call_by (K' := fun r h' => r = .tuple #[] ∧ Grow rInt 3 none_ h' (.slice a0 l.length c0) (insL l (l.length - 1)) own ∧ Keep (fun b => own = some b) h h') ?_ ?_
  · refine callH_by fun K hK => ?_
    refine enter [] Tryz.func142 rfl rfl (by kernel_rfl) rfl ?_
    have q1 : ¬ (20 : Int) ≤ l.length := by omega
    have q1' : decide ((20 : Int) ≤ (l.length : Int)) = false := decide_eq_false q1
    have q2' : decide ((20 : Int) < (l.length : Int)) = false := decide_eq_false (by omega)
    simp -dsimp
    refine loopc (σ := Unit) (fun _ => [(0, .slice a0 l.length c0), (1, .int .i64 l.length), (2, .func (.func 118) #[] #[]), (6, .int .i64 20), (7, .int .i64 0), (8, .int .i64 20)])
      (fun _ y => y = h) (fun _ => 0) () 0 (fun _ _ => True) noRet noRet_le (by simp) rfl (by kernel_rfl) ?_ ?_
    · rintro _ y g0 rfl
      simp -dsimp [q1']
      exact ⟨rfl, (), by simp, rfl, rfl, trivial⟩
    rintro _ y g0 rfl _
    simp -dsimp
    refine call_by (insort_spec g hl hin (by omega)) ?_
    rintro _ z ⟨rfl, gz, kz⟩
    simp -dsimp
    refine loopc (σ := Unit) (fun _ => [(0, .slice a0 l.length c0), (1, .int .i64 l.length), (2, .func (.func 118) #[] #[]), (6, .int .i64 20)])
      (fun _ y => y = z) (fun _ => 0) () 2 (fun _ _ => True) noRet noRet_le (by simp) rfl (by kernel_rfl) ?_ ?_
    · rintro _ y' g0 rfl
      simp -dsimp [q2']
      exact ⟨rfl, (), by simp, rfl, rfl, trivial⟩
    rintro _ y' g0 rfl _
    simp -dsimp
    exact hK _ _ ⟨rfl, gz, kz⟩
  rintro _ z ⟨rfl, gz, kz⟩
  simp -dsimp
  exact hK _ _ ⟨rfl, gz, kz⟩

set_option maxRecDepth 10000 in
theorem below_iter {h0 : Heap} {bx n : Nat} {fz : Nat × Nat} (hbx : h0[bx]? = some (.cells #[.int .i64 n] 3 fz)) (hn : n < 1000) :
    IterM Tryz.prog 141 #[] #[.pointer (some ⟨bx, 0, none⟩)] (fun i : Nat => #[.int .i64 (i : Int)]) (fun xs i _ _ => xs = List.range i ∧ i < n) (fun xs => xs = List.range n) (fun b => b = bx) h0 := by
  intro y J M0 h ⟨yf, yu, yv', hyf⟩ hy hJ hsz hFp
  subst hyf
  have hlt := lt_of_blk hbx
  obtain ⟨_, hMb, hbe⟩ := hFp bx rfl
  have hbx' := hbe.trans hbx
  refine callH_by fun K hK => ?_
  refine enter [] Tryz.func141 rfl rfl (by kernel_rfl) rfl ?_
  simp -dsimp [hbx']
  refine loopc (σ := Nat) (fun i => [(0, .func yf yu yv'), (4, .int .i64 n), (5, .int .i64 i)]) (fun i h1 => i ≤ n ∧ ∃ M, J (List.range i) M h1 ∧ Tr M0 M h h1) (fun i => n - i) 0 0 (fun i _ => i = n) noRet noRet_le (by simp)
    ⟨by omega, M0, hJ, ⟨.refl _ _, fun _ h => .inl h, fun b hb => hy.lt hJ b hb⟩⟩ (by kernel_rfl) ?_ ?_
  · rintro i h1 g ⟨hi, M, hJ1, t⟩
    by_cases hl : i < n
    · have wk := wrap_succ (k := i) (by omega)
      simp -dsimp [hl]
      refine callV_by (hy.step (x := i) hJ1 ⟨rfl, hl⟩) ?_
      rintro _ h2 ⟨rfl, M', hJ2, t2⟩
      simp -dsimp [wk]
      exact ⟨i + 1, by simp, rfl, ⟨by omega, M', by rw [List.range_succ]; exact hJ2, t.trans t2⟩, by show n - (i + 1) < n - i; omega⟩
    · simp -dsimp [hl]
      exact ⟨rfl, i, by simp, rfl, ⟨hi, M, hJ1, t⟩, by show i = n; omega⟩
  · rintro i h1 g ⟨hi, M, hJ1, t⟩ rfl
    simp -dsimp
    exact hK _ _ ⟨_, M, rfl, hJ1, t⟩

theorem numsL_snoc (i : Nat) : numsL (i + 1) = numsL i ++ [(i : Int)] := by
  unfold numsL
  rw [List.range_succ, List.map_append]
  rfl

set_option maxHeartbeats 4000000 in
set_option maxRecDepth 10000 in
theorem collectI_spec {h : Heap} {bx n : Nat} {fz : Nat × Nat} (hbx : h[bx]? = some (.cells #[.int .i64 n] 3 fz)) (hn : n < 1000) :
    CallH Tryz.prog 114 #[.func (.func 141) #[] #[.pointer (some ⟨bx, 0, none⟩)]] h fun r h' => ∃ own, Grow rInt 3 none_ h' r (numsL n) own ∧ Keep none_ h h' ∧ ∀ b, own = some b → h.size ≤ b := by
  refine callH_by fun K hK => ?_
  refine enter [.tmp 2] Tryz.func114 rfl rfl (by kernel_rfl) rfl ?_
  simp -dsimp
  refine call_by (K' := fun r h' => ∃ own, Grow rInt 3 none_ h' r (numsL n) own ∧ Keep none_ h h' ∧ ∀ b, own = some b → h.size ≤ b) ?_ ?_
  · refine callH_by fun K hK => ?_
    refine enter [.tmp 4] Tryz.func140 rfl rfl (by kernel_rfl) rfl ?_
    simp -dsimp [boxS_eq]
    generalize hB : Array.push h _ = h1
    have k1 : Keep none_ h h1 := by rw [← hB]; exact .push _ _ _
    have hz1 : h1.size = h.size + 1 := by rw [← hB]; simp
    have hO : h1[h.size]? = some (.cells #[.slice none 0 0] 22 (0, 0)) := by rw [← hB]; exact push_new _ _
    have hbl := lt_of_blk hbx
    obtain ⟨I, hI⟩ : ∃ I : List Nat → (Nat → Prop) → Heap → Prop, ∀ xs M h', I xs M h' ↔ (M h.size ∧ (∀ b, M b → b < h'.size) ∧ xs.length ≤ n ∧ ∃ v own, h'[h.size]? = some (.cells #[v] 22 (0, 0)) ∧
        Gr rInt 3 h.size M h' v (numsL xs.length) own ∧ ∀ bk, own = some bk → h1.size + 2 ≤ bk) := ⟨_, fun _ _ _ => Iff.rfl⟩
    refine range_m (val := fun i : Nat => #[.int .i64 (i : Int)]) (first := #[]) (by simp) (by simp) (below_iter (k1.at hbx (fun h => h)) hn) I
      ?_ ?_ (fun b => b = h.size) ?_ ?_ (by kernel_rfl) (by kernel_rfl) (fun _ => rfl) (by intro p hp; simp at hp; subst hp; decide) ?_ ?_
    · exact fun hi => ((hI _ _ _).1 hi).2.1
    · intro xs M h4 h5 hi m1 m2 k
      obtain ⟨hM, hlt, hx, v, own, w1, g, ho⟩ := (hI _ _ _).1 hi
      exact (hI _ _ _).2 ⟨hM, fun b hb => Nat.lt_of_lt_of_le (hlt b hb) k.size, hx, v, own, k.at w1 (by omega), g.lp hlt m2 (fun e => by have := ho _ e; omega) k, ho⟩
    · rintro b rfl
      exact ⟨by omega, by omega⟩
    · intro h4 k4 hz4
      exact (hI _ _ _).2 ⟨.inl rfl, by omega, Nat.zero_le _, _, none, k4.at hO (fun h => h), .nil _ _ _ _ _, fun b hb => by cases hb⟩
    · rintro xs i M h4 hi4 ⟨hxs, hin⟩ hz4 m1 m2 t
      obtain ⟨hM, hlt, hx, v, own, w1, g, ho⟩ := (hI _ _ _).1 hi4
      have hxl : xs.length = i := by rw [hxs]; simp
      simp -dsimp
      refine ⟨.refl _ _, fun h6 k6 hz6 => ?_⟩
      have l4 := lt_of_blk w1
      have t46 : Tr M M h4 h6 := .lp hlt m2 k6
      have g6 := g.lp hlt m2 (fun e => by have := ho _ e; omega) k6
      have w6 := k6.at w1 (by omega)
      obtain ⟨va, vn, vc, rfl, hvn⟩ := g6.vals
      have hnl := numsL_len xs.length
      simp -dsimp [w6]
      refine gr_app1 (x := (i : Int)) rfl intT g6 t46.lt rfl rfl (by omega) (by omega) ?_
      intro v' h7 own' g7 t7 k7 ho7
      have w7 := k7.at w6 (fun e => by have := ho _ e; omega)
      have ho7' : ∀ b, own' = some b → h1.size + 2 ≤ b := fun b e => (ho7 _ e).elim (ho b) (by omega)
      obtain ⟨va', vn', vc', rfl, hvn'⟩ := g7.vals
      have hl7 := lt_of_blk w7
      simp -dsimp [w7]
      have t8 := (t46.trans t7).set (.cells #[.slice va' vn' vc'] 22) (.inl hM)
      refine ⟨_, (hI _ _ _).2 ⟨.inl hM, t8.lt, by simp; omega, _, own', set_same _ hl7, ?_, ho7'⟩, t8, .inl m1, .inl m2, (set_other _ (by omega)).trans (k7.blk _ (by omega) fun e => by have := ho _ e; omega), (set_other _ (by omega)).trans (k7.blk _ (by omega) fun e => by have := ho _ e; omega)⟩
      rw [List.length_append, List.length_singleton, numsL_snoc]
      rw [← hxl] at g7
      exact g7.set _ (.inl hM) (fun e => by have := ho7' _ e; omega)
    · rintro xs M h4 hxl hi4 hdm hz4 m1 m2 t
      obtain ⟨hM, hlt, hx, v, own, w1, g, ho⟩ := (hI _ _ _).1 hi4
      have T4 := Tr.from_ k1 t (fun b hb => by omega)
      have hxl' : xs.length = n := by rw [hxl]; simp
      rw [hxl'] at g
      obtain ⟨va, vn, vc, rfl, hvn⟩ := g.vals
      simp -dsimp [w1]
      rw [takeS_cons hdm]
      simp -dsimp
      have u := T4.set (.deferred none) m1
      exact hK _ _ ⟨own, Grow.ints_own (g.set _ m1 (fun e => by have := ho _ e; omega)).grow, u.keep, fun b hb => by have := ho b hb; omega⟩
  rintro v z ⟨own, gz, kz, ho⟩
  obtain ⟨va, vc, rfl⟩ := gz.val
  simp -dsimp
  exact hK _ _ ⟨own, gz, kz, ho⟩

set_option maxHeartbeats 4000000 in
set_option maxRecDepth 10000 in
theorem psets_spec {d : Nat} (hd : d ≤ 4) (h : Heap) : CallH Tryz.prog 82 #[.int .i64 d] h fun r h' => ∃ own, Grow rInt 3 none_ h' r (setsL d) own ∧ Keep none_ h h' ∧ ∀ b, own = some b → h.size ≤ b := by
  refine callH_by fun K hK => ?_
  refine enter [.tmp 2] Tryz.func82 rfl rfl (by kernel_rfl) rfl ?_
  have hp : 2 ^ d ≤ 2 ^ 4 := Nat.pow_le_pow_right (by decide) hd
  have hp0 : 0 < 2 ^ d := Nat.pow_pos (by decide)
  simp -dsimp
  refine call_by (K' := fun r h' => r = .int .i64 ((2 ^ d : Nat) : Int) ∧ h' = h) ?_ ?_
  · refine callH_by fun K hK => ?_
    refine enter [.tmp 2] Tryz.func116 rfl rfl (by kernel_rfl) rfl ?_
    have e1 : max (d : Int) 0 = d := by omega
    have e2 : min (d : Int) 4 = d := by omega
    have e3 : intRes .shl .i64 1 (d : Int) = some (.int .i64 ((2 ^ d : Nat) : Int)) := by
      have h2 : min ((d : Int).toNat) IntKind.i64.bits = d := by
        show min ((d : Int).toNat) 64 = d
        omega
      have h3 : (2 : Int) ^ d ≤ 2 ^ 4 := pow2_le hd
      have h4 := pow2_pos d
      have h5 : (2 : Int) ^ 4 = 16 := by decide
      rw [intRes_shl _ _ _ (by omega), h2, Int.one_mul, wrap_i64 (by omega) (by omega), Int.natCast_pow]
      rfl
    simp -dsimp [-intRes_shl, e1, e2, e3]
    exact hK _ _ ⟨by rw [Int.natCast_pow]; rfl, rfl⟩
  rintro _ y ⟨rfl, hh⟩
  subst y
  simp -dsimp
  refine call_by (K' := fun r h' => r = .func (.func 141) #[] #[.pointer (some ⟨h.size, 0, none⟩)] ∧ h' = h.push (.cells #[.int .i64 ((2 ^ d : Nat) : Int)] 3)) ?_ ?_
  · refine callH_by fun K hK => ?_
    refine enter [.tmp 2] Tryz.func115 rfl rfl (by kernel_rfl) rfl ?_
    simp -dsimp [boxS_eq]
    exact hK _ _ ⟨rfl, by simp⟩
  rintro _ h1 ⟨rfl, e1⟩
  have k1 : Keep none_ h h1 := by rw [e1]; exact .push _ _ _
  have z1 : h1.size = h.size + 1 := by rw [e1]; simp
  have w1 : h1[h.size]? = some (.cells #[.int .i64 ((2 ^ d : Nat) : Int)] 3 (0, 0)) := by rw [e1]; exact push_new _ _
  clear e1
  simp -dsimp
  refine call_by (collectI_spec w1 (by omega)) ?_
  rintro v h2 ⟨own2, g2, k2, ho2⟩
  have hnl := numsL_len (2 ^ d)
  have g2' := g2
  obtain ⟨va, vc, rfl⟩ := g2.val
  rw [hnl] at g2 ⊢
  simp -dsimp
  refine call_by (stable_spec g2 (by omega) (numsL_in hd) (by omega)) ?_
  rintro _ h3 ⟨rfl, g3, k3⟩
  rw [hnl] at g3
  simp -dsimp
  refine call_by (cloneInt_spec (F := fun b => own2 = some b) (by exact g3.rep.mono fun b hb => ⟨hb.elim (fun h => h.elim) id, rfl⟩) (fun b hb => by have := g3.own_lt b hb; exact this) (by rw [insL_len]; omega)) ?_
  rintro v4 h4 ⟨own4, g4, k4, ho4⟩
  obtain ⟨va4, vc4, rfl⟩ := g4.val
  simp -dsimp
  have s2 := k2.size
  have s3 := k3.size
  refine hK _ _ ⟨own4, g4, ⟨by have := k4.size; omega, fun b hb _ => ?_⟩, fun b e => by have := ho4 b e; omega⟩
  rw [k4.blk b (by omega) (fun h => h), k3.blk b (by omega) (fun e => by have := ho2 b e; omega), k2.blk b (by omega) (fun h => h), k1.blk b hb (fun h => h)]
end Go.Proofs

/-
  The bridge from a contract on heaps to a row: what an argument that is a slice of numbers is, in memory.
-/
namespace Go.HC
open Go.ChangeShapes Go.WideShapes Go.ChangeAt Go.RowKit

theorem cells_of {w : World} {a : Addr} {vs : List Value} (hc : ∀ i (hi : i < vs.length), w.cell? (a.add i) = some vs[i]) : Cells (fun b => b < w.heap.size) w.heap (some a) vs := by
  by_cases hne : vs = []
  · exact .inl hne
  · have hpos : 0 < vs.length := List.length_pos_iff.2 hne
    obtain ⟨bk, off, spot⟩ := a
    have h0 := hc 0 hpos
    rw [cellH_eq] at h0
    unfold cellH at h0
    simp only [Addr.add, if_true] at h0
    cases hb : w.heap[bk]? with
    | none => rw [hb] at h0; cases h0
    | some o =>
      rw [hb] at h0
      cases o with
      | cells c e fz =>
        simp only at h0
        have hsp : spot = none := by
          cases spot with
          | none => rfl
          | some s => simp at h0
        subst hsp
        refine .inr ⟨bk, off, c, e, fz, rfl, lt_of_blk hb, hb, ?_⟩
        apply List.ext_getElem?
        intro i
        by_cases hi : i < vs.length
        · have h1 := hc i hi
          rw [cellH_eq] at h1
          unfold cellH at h1
          rw [add_mk] at h1
          simp only [hb, Option.isSome_none, Bool.false_eq_true, if_false] at h1
          rw [List.getElem?_take, if_pos hi, List.getElem?_drop, Array.getElem?_toList, h1, List.getElem?_eq_getElem hi]
        · rw [List.getElem?_take, if_neg hi, List.getElem?_eq_none (by omega)]
      | _ => cases h0

variable {H : Type} {enc : TypeId × Value → H} {P : Program} {W : World} {base : Nat}
theorem open_rep {t e : TypeId} {k : IntKind} {v : Value} {d : DataW H} {p : List MemPlace} (ht : P.underlying t = some (.slice e)) (he : P.underlying e = some (.int k)) (hc : P.cellsOf e = 1)
    (hval : Value.okWide P W .any base t v) (hd : DataW.Trod enc P W 0 (fun _ => true) true t v d p) :
    ∃ (a : Option Addr) (n c : Nat) (zs : List Int), v = .slice a n c ∧ zs.length = n ∧ n ≤ c ∧ c < 9223372036854775808 ∧ Cells (fun b => b < W.heap.size) W.heap a (zs.map (.int k)) ∧ ∀ z ∈ zs, (Lit.int k z).wf = true := by
  obtain ⟨a0, len, cap, rfl⟩ := okWide_slice ht hval
  obtain ⟨fuel, hf⟩ := hd
  rcases open_ints ht he hc hf with ⟨hcs, hx⟩ | ⟨a, len', cap', zs, hcs, _, hl, hm, hz, hx, hcell, hwz⟩
  · simp [Value.cells] at hcs
    obtain ⟨rfl, rfl, rfl⟩ := hcs
    exact ⟨none, 0, 0, [], rfl, rfl, Nat.le_refl _, by decide, .inl rfl, by simp⟩
  · simp [Value.cells] at hcs
    obtain ⟨rfl, rfl, rfl⟩ := hcs
    simp only [if_true] at hz
    have hm' : maxLen = 9223372036854775807 := rfl
    refine ⟨some a, len, cap, zs.take len, rfl, by simp; omega, hl, by omega, cells_of fun i hi => ?_, fun z hz => hwz z (List.mem_of_mem_take hz)⟩
    simp only [List.length_map, List.length_take] at hi
    rw [hcell i (by omega)]
    simp [List.getElem_map, List.getElem_take, List.getD, List.getElem?_eq_getElem (show i < zs.length by omega)]
/-- A contract, as the row's walk. -/
theorem below_of {w w' : World} (h : Same w w') (k : Keep none_ w.heap w'.heap) : Below w.heap.size w w' :=
  ⟨h.os, h.tape, h.output, k.size, fun i hi => k.blk i hi (fun h => h)⟩
theorem calls_of {f : FuncId} {args : Array Value} {w : World} (h : CallH P f args w.heap fun r h' => r = .bool true ∧ Keep none_ w.heap h') : Calls P f args w fun e w' => e = .returned (.bool true) ∧ Below w.heap.size w w' :=
  (h w rfl).mono fun e w' ⟨v, he, hs, hv, hk⟩ => ⟨by rw [he, hv], below_of hs hk⟩
end Go.HC

/-
  The bridge: arguments that stay as they were, all at once.
-/
namespace Go.HC
open Go.ChangeShapes Go.WideShapes Go.ChangeAt Go.RowKit Go.ChangeMaps
theorem below_trodAll {H : Type} {enc : TypeId × Value → H} {P : Program} (hl : laidOutB P = true) {W W' : World} (hb : Below W.heap.size W W') :
    ∀ {ts : List TypeId} {vs : List Value} {ds : List (DataW H)} {ps : List MemPlace}, (ts.all fun t => P.readableRec t && decide (t < P.types.size)) = true →
      DataW.TrodAll enc P W 0 (fun _ => true) true ts vs ds ps → (∀ x ∈ ps, x.block < W.heap.size) → DataW.TrodAll enc P W' 0 (fun b => decide (b < W.heap.size)) true ts vs ds ps
  | [], vs, ds, ps, _, h, _ => by
    obtain ⟨rfl, rfl, rfl⟩ := trodAll_nil h
    exact trodAll_mk0
  | t :: ts, vs, ds, ps, ht, h, hlt => by
    rw [List.all_cons, Bool.and_eq_true, Bool.and_eq_true] at ht
    obtain ⟨⟨h1, h2⟩, h3⟩ := ht
    obtain ⟨v, vs', d, ds', p, q, rfl, rfl, rfl, hd, hs⟩ := trodAll_cons h
    exact trodAll_cons_mk (Below.trod hl h1 (of_decide_eq_true h2) hd hb fun x hx => hlt x (List.mem_append.2 (.inl hx))) (below_trodAll hl hb h3 hs fun x hx => hlt x (List.mem_append.2 (.inr hx)))
end Go.HC

/-
  The bridge: an argument that is a struct, field by field.
-/
namespace Go.HC
open Go.ChangeShapes Go.WideShapes Go.ChangeAt Go.RowKit Go.ChangeMaps
variable {H : Type} {enc : TypeId × Value → H} {P : Program} {W : World} {base : Nat}
theorem fld_int {t : TypeId} {fuel : Nat} {v : Value} {y : DataW H × List MemPlace} (ht : P.underlying t = some (.int .i64)) (h : DataW.trod enc P W 0 (fun _ => true) true fuel t [v] = some y) :
    ∃ a : Int, v = .int .i64 a ∧ (Lit.int .i64 a).wf = true := by
  obtain ⟨n, h1, _, h3⟩ := DataW.trod_int ht h
  cases h1
  exact ⟨n, rfl, h3⟩
theorem fld_ints {t e : TypeId} {fuel : Nat} {v : Value} {y : DataW H × List MemPlace} (ht : P.underlying t = some (.slice e)) (he : P.underlying e = some (.int .i64)) (hc : P.cellsOf e = 1)
    (h : DataW.trod enc P W 0 (fun _ => true) true fuel t [v] = some y) : ∃ xs : List Int, SlRep rInt (fun b => b < W.heap.size) W.heap v xs := by
  rcases open_ints ht he hc h with ⟨hcs, hx⟩ | ⟨a, len, cap, zs, hcs, _, hl, hm, hz, hx, hcell, hwz⟩
  · cases hcs
    exact ⟨[], none, 0, [], rfl, Nat.le_refl _, by decide, .inl rfl, rfl⟩
  · cases hcs
    simp only [if_true] at hz
    have hm' : maxLen = 9223372036854775807 := rfl
    refine ⟨zs.take len, some a, cap, (zs.take len).map (.int .i64), by rw [List.length_take, Nat.min_eq_left (by omega)], by rw [List.length_take]; omega, by omega, cells_of fun i hi => ?_, ints_map.2 rfl⟩
    simp only [List.length_map, List.length_take] at hi
    rw [hcell i (by omega)]
    simp [List.getElem_map, List.getElem_take, List.getD, List.getElem?_eq_getElem (show i < zs.length by omega)]
/-- What a query asks of a dimension. -/
structure FilM where
  dim : Int
  lo : Int
  hi : Int
def rFil : Rp FilM where
  sz := 3
  pos := by decide
  rep _ _ cs x := cs = [.int .i64 x.dim, .int .i64 x.lo, .int .i64 x.hi]
  len h := by subst h; rfl
  one h := by subst h; rfl
  mono h _ := h
/-- A struct's fields: each by its cells. -/
theorem flds {t : TypeId} {fs : Array Field} {L : Array (TypeId × Nat)} {v : Value} {d : DataW H} {ps : List MemPlace} {m : Nat} (ht : P.underlying t = some (.struct fs)) (hct : P.cellsOf t = m) (hL : fs.map (fun f => (f.type, f.offset)) = L)
    (hval : Value.okWide P W .any base t v) (hd : DataW.Trod enc P W 0 (fun _ => true) true t v d ps) :
    ∃ cs : Array Value, v = .agg cs ∧ cs.size = m ∧ ∀ (i : Nat) (u : TypeId × Nat), L[i]? = some u → ∃ fuel y, DataW.trod enc P W 0 (fun _ => true) true fuel u.1 ((cs.toList.drop u.2).take (P.cellsOf u.1)) = some y := by
  obtain ⟨cs, rfl, hcs⟩ := okWide_struct ht hval
  obtain ⟨fuel, hf⟩ := hd
  obtain ⟨xs, n, _, _, hl, hlen, hp⟩ := DataW.trod_struct ht hf
  refine ⟨cs, rfl, by rw [hcs, hct], fun i u hu => ?_⟩
  rw [← hL, Array.getElem?_map] at hu
  cases hfi : fs[i]? with
  | none => rw [hfi] at hu; cases hu
  | some f =>
    rw [hfi] at hu
    cases hu
    have h1 := hp i f hfi
    have hi : i < fs.size := by
      rcases Nat.lt_or_ge i fs.size with h | h
      · exact h
      · rw [Array.getElem?_eq_none h] at hfi; cases hfi
    rw [List.getElem?_eq_getElem (by omega)] at h1
    exact ⟨n, _, h1⟩
/-- Facts, a config, by numbers. -/
theorem open_shape {t ti ts : TypeId} {fs : Array Field} {v : Value} {d : DataW H} {ps : List MemPlace} (ht : P.underlying t = some (.struct fs)) (hct : P.cellsOf t = 6) (hL : fs.map (fun f => (f.type, f.offset)) = #[(ti, 0), (ti, 1), (ti, 2), (ti, 3), (ts, 4), (ts, 5)])
    (hi : P.underlying ti = some (.int .i64)) (hci : P.cellsOf ti = 1) (hs : P.underlying ts = some (.slice ti)) (hcs : P.cellsOf ts = 1) (hval : Value.okWide P W .any base t v) (hd : DataW.Trod enc P W 0 (fun _ => true) true t v d ps) :
    ∃ (a b c e : Int) (v4 v5 : Value) (xs ys : List Int), v = .agg #[.int .i64 a, .int .i64 b, .int .i64 c, .int .i64 e, v4, v5] ∧ SlRep rInt (fun b => b < W.heap.size) W.heap v4 xs ∧ SlRep rInt (fun b => b < W.heap.size) W.heap v5 ys := by
  obtain ⟨cs, rfl, hsz, hf⟩ := flds ht hct hL hval hd
  obtain ⟨v0, v1, v2, v3, v4, v5, rfl⟩ : ∃ a b c d e f, cs = #[a, b, c, d, e, f] := by
    obtain ⟨l⟩ := cs
    match l, hsz with
    | [a, b, c, d, e, f], _ => exact ⟨a, b, c, d, e, f, rfl⟩
  obtain ⟨f0, y0, h0⟩ := hf 0 (ti, 0) rfl
  obtain ⟨f1, y1, h1⟩ := hf 1 (ti, 1) rfl
  obtain ⟨f2, y2, h2⟩ := hf 2 (ti, 2) rfl
  obtain ⟨f3, y3, h3⟩ := hf 3 (ti, 3) rfl
  obtain ⟨f4, y4, h4⟩ := hf 4 (ts, 4) rfl
  obtain ⟨f5, y5, h5⟩ := hf 5 (ts, 5) rfl
  simp only [hci, hcs] at h0 h1 h2 h3 h4 h5
  obtain ⟨a, rfl, _⟩ := fld_int hi h0
  obtain ⟨b, rfl, _⟩ := fld_int hi h1
  obtain ⟨c, rfl, _⟩ := fld_int hi h2
  obtain ⟨e, rfl, _⟩ := fld_int hi h3
  obtain ⟨xs, hx⟩ := fld_ints hs hi hci h4
  obtain ⟨ys, hy⟩ := fld_ints hs hi hci h5
  exact ⟨a, b, c, e, v4, v5, xs, ys, rfl, hx, hy⟩
end Go.HC

/-
  Queries, plainly.
-/
namespace Go.HC
/-- Do filters let a key of a set by? -/
def letM (a : Int) (fs : List FilM) (key : List Int) : Bool := fs.all fun f => match pickN (2 ^ f.dim.toNat) (dimsM a) key with
  | [v] => decide (f.lo ≤ v) && decide (v ≤ f.hi)
  | _ => false
def askM (a : Int) (cells : List CellM) (set : Int) (fs : List FilM) : List CellM := groupC ((cells.filter fun c => letM a fs c.key).map (narrowC a set))
end Go.HC

/-
  Queries, plainly: which may be, which set serves.
-/
namespace Go.HC
/-- One set or the other's dimensions. -/
def orM (x y : Int) : Int := IntKind.i64.wrap ((BitVec.ofInt IntKind.i64.bits x ||| BitVec.ofInt IntKind.i64.bits y).toNat)
theorem or_op (x y : Int) : intRes .or .i64 x y = some (.int .i64 (orM x y)) := _root_.id rfl
theorem or_bits : ∀ x y : Fin 16, (0 ≤ orM x.val y.val ∧ orM x.val y.val < 16) ∧ ∀ i : Fin 4, bitM (orM x.val y.val) i.val = (bitM x.val i.val || bitM y.val i.val) := by decide +kernel
theorem or_ok {x y : Int} (hx : 0 ≤ x ∧ x < 16) (hy : 0 ≤ y ∧ y < 16) : (0 ≤ orM x y ∧ orM x y < 16) ∧ ∀ i, i < 4 → bitM (orM x y) i = (bitM x i || bitM y i) := by
  obtain ⟨m, rfl⟩ : ∃ m : Nat, x = m := ⟨x.toNat, by omega⟩
  obtain ⟨n, rfl⟩ : ∃ n : Nat, y = n := ⟨y.toNat, by omega⟩
  have h := or_bits ⟨m, by omega⟩ ⟨n, by omega⟩
  exact ⟨h.1, fun i hi => h.2 ⟨i, hi⟩⟩
theorem pow_lt16 {d : Nat} (h : d < 4) : 0 ≤ (2 : Int) ^ d ∧ (2 : Int) ^ d < 16 := by
  rcases d with _ | _ | _ | _ | d <;> first | decide | omega
/-- All dimensions that a query names. -/
def needM (set : Int) (fs : List FilM) : Int := fs.foldl (fun n f => orM n (2 ^ f.dim.toNat)) set
def cardAt (cards : List Int) (d : Int) : Int := (cards[d.toNat]?).getD 0
/-- May filters be, beside those that were seen? -/
def rightF (cards : List Int) : Int → List FilM → Bool
  | _, [] => true
  | seen, f :: fs => if f.dim < 0 ∨ (cards.length : Int) ≤ f.dim ∨ f.lo < 0 ∨ f.hi < f.lo ∨ cardAt cards f.dim ≤ f.hi ∨ bitM seen f.dim.toNat = true then false else rightF cards (orM seen (2 ^ f.dim.toNat)) fs
def rightM (cards : List Int) (set : Int) (fs : List FilM) : Bool := if set < 0 ∨ 2 ^ cards.length ≤ set then false else rightF cards 0 fs
theorem rightF_ok {cards : List Int} : ∀ {fs : List FilM} {seen : Int}, rightF cards seen fs = true → ∀ f ∈ fs, 0 ≤ f.dim ∧ f.dim < cards.length ∧ 0 ≤ f.lo ∧ f.lo ≤ f.hi ∧ f.hi < cardAt cards f.dim
  | [], _, _, f, hf => by cases hf
  | g :: fs, seen, h, f, hf => by
    rw [rightF] at h
    split at h
    · cases h
    · rename_i hn
      rcases List.mem_cons.1 hf with rfl | hf
      · omega
      · exact rightF_ok h f hf
/-- Which set serves: the first of the fewest cells. -/
def stepM (com : Nat → Option (List CellM)) (need : Int) (best : Option (Nat × List CellM)) (x : Nat) : Option (Nat × List CellM) :=
  if andM x need = need then match com x with
    | none => best
    | some l => match best with
      | none => some (x, l)
      | some b => if l.length < b.2.length then some (x, l) else some b
  else best
def serveM (com : Nat → Option (List CellM)) (need : Int) (n : Nat) : Option (Nat × List CellM) := (List.range n).foldl (stepM com need) none
theorem serve_succ (com : Nat → Option (List CellM)) (need : Int) (n : Nat) : serveM com need (n + 1) = stepM com need (serveM com need n) n := by
  unfold serveM
  rw [List.range_succ, List.foldl_append]
  rfl
theorem serve_some {com : Nat → Option (List CellM)} {need : Int} : ∀ {n : Nat} {x : Nat} {l : List CellM}, serveM com need n = some (x, l) → x < n ∧ com x = some l ∧ andM x need = need
  | 0, x, l, h => by cases h
  | n + 1, x, l, h => by
    rw [serve_succ, stepM] at h
    split at h
    · rename_i hn
      cases hc : com n with
      | none =>
        rw [hc] at h
        have := serve_some h
        exact ⟨by omega, this.2⟩
      | some l' =>
        rw [hc] at h
        cases hs : serveM com need n with
        | none =>
          rw [hs] at h
          cases h
          exact ⟨by omega, hc, hn⟩
        | some b =>
          rw [hs] at h
          simp only at h
          split at h
          · cases h
            exact ⟨by omega, hc, hn⟩
          · cases h
            have := serve_some hs
            exact ⟨by omega, this.2⟩
    · have := serve_some h
      exact ⟨by omega, this.2⟩
theorem serve_none {com : Nat → Option (List CellM)} {need : Int} : ∀ {n : Nat}, serveM com need n = none ↔ ∀ x, x < n → andM x need = need → com x = none
  | 0 => ⟨fun _ x h => by omega, fun _ => rfl⟩
  | n + 1 => by
    rw [serve_succ, stepM]
    have ih := serve_none (com := com) (need := need) (n := n)
    by_cases hn : andM (n : Int) need = need
    · rw [if_pos hn]
      cases hc : com n with
      | none =>
        simp only
        rw [ih]
        refine ⟨fun h x hx ha => ?_, fun h x hx ha => h x (by omega) ha⟩
        by_cases e : x = n
        · subst e; exact hc
        · exact h x (by omega) ha
      | some l =>
        have hne : (match serveM com need n with | none => some (n, l) | some b => if l.length < b.2.length then some (n, l) else some b) ≠ none := by
          cases serveM com need n with
          | none => simp
          | some b => simp only; split <;> simp
        refine ⟨fun h => absurd h hne, fun h => ?_⟩
        have := h n (by omega) hn
        rw [hc] at this
        cases this
    · rw [if_neg hn, ih]
      refine ⟨fun h x hx ha => ?_, fun h x hx ha => h x (by omega) ha⟩
      by_cases e : x = n
      · subst e; exact absurd ha hn
      · exact h x (by omega) ha
end Go.HC

/-
  Queries that may be; what they need: both.
-/
namespace Go.HC
theorem shl_int {k : Nat} (hk : k ≤ 62) : intRes .shl .i64 1 (k : Int) = some (.int .i64 (2 ^ k)) := by
  have h2 : min ((k : Int).toNat) IntKind.i64.bits = k := by
    show min ((k : Int).toNat) 64 = k
    omega
  have h3 : (2 : Int) ^ k ≤ 2 ^ 62 := pow2_le hk
  have h4 := pow2_pos k
  have h5 : (2 : Int) ^ 62 = 4611686018427387904 := by decide
  rw [intRes_shl _ _ _ (by omega), h2, Int.one_mul, wrap_i64 (by omega) (by omega)]
end Go.HC
namespace Go.Proofs
open Go Go.HC

set_option maxHeartbeats 8000000 in
set_option maxRecDepth 10000 in
theorem pqright_spec {h : Heap} {cv fv : Value} {s : SchM} {a : Int} {fs : List FilM} (hcv : SlRep rInt (Old h) h cv s.cards) (hf : SlRep rFil (Old h) h fv fs) (hd : s.cards.length ≤ 4) :
    CallH Tryz.prog 81 #[.agg #[cv, .int .i64 s.ms], .agg #[.int .i64 a, fv]] h fun r h' => r = .bool (rightM s.cards a fs) ∧ Keep none_ h h' := by
  refine callH_by fun K hK => ?_
  refine enter [.tmp 4] Tryz.func81 rfl rfl (by kernel_rfl) rfl ?_
  have hcv0 := hcv
  have hf0 := hf
  obtain ⟨a0, c0, rfl, _, _⟩ := hcv.val
  obtain ⟨fa, fc, rfl, hfc, hfc'⟩ := hf.val
  simp -dsimp [boxS_eq]
  generalize hB : Array.push (Array.push h _) _ = h1
  have k1 : Keep none_ h h1 := by rw [← hB]; exact ((Keep.refl none_ h).pushed _).pushed _
  have z1 : h1.size = h.size + 2 := by rw [← hB]; simp
  have w1 : h1[h.size]? = some (.cells #[.slice a0 s.cards.length c0, .int .i64 s.ms] 30 (0, 0)) := by rw [← hB]; exact push_at (push_new _ _)
  have w2 : h1[h.size + 1]? = some (.cells #[.int .i64 a, .slice fa fs.length fc] 27 (0, 0)) := by rw [← hB]; exact push_get (by simp)
  have hsh := shl_int (k := s.cards.length) (by omega)
  by_cases q1 : a < 0
  · have e : rightM s.cards a fs = false := by unfold rightM; rw [if_pos (.inl q1)]
    rw [e] at hK
    simp -dsimp [w1]
    refine drawn_by [⟨0, true, []⟩, ⟨1, true, []⟩, ⟨2, true, []⟩, ⟨3, true, []⟩, ⟨4, true, []⟩, ⟨5, true, []⟩, ⟨6, true, []⟩, ⟨7, true, []⟩, ⟨8, true, []⟩, ⟨9, true, []⟩] (by kernel_rfl) (by kernel_rfl) ?_
    simp -dsimp [w2, q1]
    exact hK _ _ ⟨rfl, k1⟩
  by_cases q2 : 2 ^ s.cards.length ≤ a
  · have e : rightM s.cards a fs = false := by unfold rightM; rw [if_pos (.inr q2)]
    rw [e] at hK
    simp -dsimp [w1]
    refine drawn_by [⟨0, true, []⟩, ⟨1, true, []⟩, ⟨2, true, []⟩, ⟨3, true, []⟩, ⟨4, true, []⟩, ⟨5, true, []⟩, ⟨6, true, []⟩, ⟨7, true, []⟩, ⟨8, true, []⟩, ⟨9, true, []⟩] (by kernel_rfl) (by kernel_rfl) ?_
    simp -dsimp [-intRes_shl, w2, q1, hsh, q2]
    exact hK _ _ ⟨rfl, k1⟩
  have e : rightM s.cards a fs = rightF s.cards 0 fs := by unfold rightM; rw [if_neg (by omega)]
  rw [e] at hK
  simp -dsimp [w1]
  refine drawn_by [⟨0, true, []⟩, ⟨1, true, []⟩, ⟨2, true, []⟩, ⟨3, true, []⟩, ⟨4, true, []⟩, ⟨5, true, []⟩, ⟨6, true, []⟩, ⟨7, true, []⟩, ⟨8, true, []⟩, ⟨9, true, []⟩] (by kernel_rfl) (by kernel_rfl) ?_
  simp -dsimp [-intRes_shl, w2, q1, hsh, q2]
  refine loopc (σ := Nat × Int) (fun t => [(2, .pointer (some ⟨h.size, 0, none⟩)), (5, .int .i64 s.cards.length), (6, .int .i64 t.2), (23, .slice fa fs.length fc), (24, .int .i64 fs.length), (25, .int .i64 t.1)])
    (fun t y => Keep none_ h1 y ∧ t.1 ≤ fs.length ∧ (0 ≤ t.2 ∧ t.2 < 16) ∧ rightF s.cards t.2 (fs.drop t.1) = rightF s.cards 0 fs) (fun t => fs.length - t.1) (0, 0) 0 (fun t _ => t.1 = fs.length) (endR Tryz.prog [.tmp 4] K).rt (fun _ _ _ h => h) (by simp) ⟨.refl _ _, Nat.zero_le _, by decide, rfl⟩ (by kernel_rfl) ?_ ?_
  case refine_1 =>
    rintro ⟨i, sn⟩ y g ⟨ky, hi, hsn, hr⟩
    simp only at hi hsn hr
    have v1 := ky.at w1 (fun h => h)
    have v2 := ky.at w2 (fun h => h)
    have k0y : Keep none_ h y := k1.trans ky fun _ _ h => h
    by_cases hil : i < fs.length
    · have wi := wrap_succ (k := i) (by omega)
      obtain ⟨bk, off, cs, rfl, hfb, hrep, hcs⟩ := (hf0.mono ((Tr.of k0y).ft (Nat.le_refl 0))).get i hil
      obtain rfl : cs = [.int .i64 fs[i].dim, .int .i64 fs[i].lo, .int .i64 fs[i].hi] := hrep
      have hcs : HC.cellsIn y[bk]? (off + i * 3) 3 = some [.int .i64 fs[i].dim, .int .i64 fs[i].lo, .int .i64 fs[i].hi] := hcs
      rw [List.drop_eq_getElem_cons hil, rightF] at hr
      obtain ⟨f, ef⟩ : ∃ f, f = fs[i] := ⟨_, rfl⟩
      rw [← ef] at hcs hr
      simp -dsimp [hil, idxA_nat hil, hcs]
      rw [push_set rfl]
      generalize hP : Array.push y _ = y2
      have k2 : Keep none_ y y2 := by rw [← hP]; exact .push _ _ _
      have wF : y2[y.size]? = some (.cells #[.int .i64 f.dim, .int .i64 f.lo, .int .i64 f.hi] 57 (0, 0)) := by rw [← hP]; exact push_new _ _
      have u1 := k2.at v1 (fun h => h)
      have u2 := k2.at v2 (fun h => h)
      have k02 : Keep none_ h y2 := k0y.trans k2 fun _ _ h => h
      refine drawn_by [⟨0, true, []⟩, ⟨1, true, []⟩, ⟨2, true, []⟩, ⟨3, true, []⟩, ⟨4, true, []⟩, ⟨5, true, []⟩, ⟨6, true, []⟩, ⟨7, true, []⟩, ⟨8, true, []⟩, ⟨9, true, []⟩, ⟨10, true, []⟩, ⟨11, true, []⟩, ⟨12, true, []⟩, ⟨13, true, []⟩, ⟨14, true, []⟩, ⟨15, true, []⟩, ⟨16, true, []⟩, ⟨17, true, []⟩, ⟨18, true, []⟩, ⟨19, true, []⟩, ⟨20, true, []⟩, ⟨21, true, []⟩, ⟨22, true, []⟩, ⟨23, true, []⟩, ⟨24, true, []⟩, ⟨25, true, []⟩, ⟨26, true, []⟩, ⟨27, true, []⟩, ⟨28, true, []⟩, ⟨29, true, []⟩, ⟨30, true, []⟩, ⟨31, true, []⟩, ⟨32, true, []⟩, ⟨33, true, []⟩, ⟨34, true, []⟩, ⟨35, true, []⟩, ⟨36, true, []⟩, ⟨37, true, []⟩, ⟨38, true, []⟩, ⟨39, true, []⟩] (by kernel_rfl) (by kernel_rfl) ?_
      by_cases c1 : f.dim < 0
      · rw [if_pos (by omega)] at hr
        simp -dsimp [wF, c1]
        exact hK _ _ ⟨by rw [← hr], k02⟩
      by_cases c2 : (s.cards.length : Int) ≤ f.dim
      · rw [if_pos (by omega)] at hr
        simp -dsimp [wF, c1, c2]
        exact hK _ _ ⟨by rw [← hr], k02⟩
      by_cases c3 : f.lo < 0
      · rw [if_pos (by omega)] at hr
        simp -dsimp [wF, c1, c2, c3]
        exact hK _ _ ⟨by rw [← hr], k02⟩
      by_cases c4 : f.hi < f.lo
      · rw [if_pos (by omega)] at hr
        simp -dsimp [wF, c1, c2, c3, c4]
        exact hK _ _ ⟨by rw [← hr], k02⟩
      obtain ⟨D, eD⟩ : ∃ D : Nat, f.dim = D := ⟨f.dim.toNat, by omega⟩
      have hDl : D < s.cards.length := by omega
      have ca : cardAt s.cards f.dim = s.cards[D] := by unfold cardAt; rw [eD, Int.toNat_natCast, List.getElem?_eq_getElem hDl]; rfl
      obtain ⟨b5, o5, e5, _, hc5⟩ := (hcv0.mono ((Tr.of k02).ft (Nat.le_refl 0))).int_at D hDl
      subst e5
      rw [ca] at hr
      rw [eD] at wF hr
      have c1' : ¬ ((D : Int) < 0) := by omega
      have c2' : ¬ ((s.cards.length : Int) ≤ (D : Int)) := by omega
      have c2'' : ¬ (s.cards.length ≤ D) := by omega
      have eT : ((D : Int)).toNat = D := Int.toNat_natCast D
      rw [eT] at hr
      have ix : ∀ sz ar, idxV sz ar (.slice (some ⟨b5, o5, none⟩) s.cards.length c0) (.int .i64 (D : Int)) = sz.map fun s => .pointer (some ⟨b5, o5 + D * s, none⟩) := fun sz ar => idxV_nat hDl
      by_cases c5 : s.cards[D] ≤ f.hi
      · rw [if_pos (by omega)] at hr
        simp -dsimp [wF, u1, c1', c2', c3, c4, ix, elSz_eq, hc5, c5]
        exact hK _ _ ⟨by rw [← hr], k02⟩
      have hshr := shr_i (s := sn) (k := D) (by omega)
      have hshl := shl_int (k := D) (by omega)
      by_cases c6 : bitM sn D = true
      · rw [if_pos (.inr (.inr (.inr (.inr (.inr c6)))))] at hr
        simp -dsimp [-intRes_shr, wF, u1, c1', c2', c3, c4, ix, elSz_eq, hc5, c5, hshr, bit_op, c6]
        exact hK _ _ ⟨by rw [← hr], k02⟩
      have c6' : bitM sn D = false := by simpa using c6
      rw [if_neg (fun hh => by rcases hh with hh | hh | hh | hh | hh | hh; all_goals first | omega | exact c6 hh)] at hr
      simp -dsimp [-intRes_shr, -intRes_shl, -intRes_or, wF, u1, c1', c2', c3, c4, ix, elSz_eq, hc5, c5, hshr, hshl, or_op, bit_op, c6', wi]
      have ho := or_ok hsn (pow_lt16 (d := D) (by omega))
      exact ⟨(i + 1, orM sn (2 ^ D)), by simp, rfl, ⟨ky.trans k2 fun _ _ h => h, hil, ho.1, hr⟩, by show fs.length - (i + 1) < fs.length - i; omega⟩
    · simp -dsimp [hil]
      exact ⟨rfl, (i, sn), by simp, rfl, ⟨ky, hi, hsn, hr⟩, by show i = _; omega⟩
  rintro ⟨i, sn⟩ y g ⟨ky, hi, hsn, hr⟩ hil
  simp only at hi hsn hr hil
  rw [hil, List.drop_length, rightF] at hr
  simp -dsimp
  exact hK _ _ ⟨by rw [← hr], k1.trans ky fun _ _ h => h⟩

set_option maxHeartbeats 8000000 in
set_option maxRecDepth 10000 in
theorem pneeds_spec {h : Heap} {fv : Value} {a : Int} {fs : List FilM} (hf : SlRep rFil (Old h) h fv fs) (hfs : ∀ f ∈ fs, 0 ≤ f.dim ∧ f.dim < 4) :
    CallH Tryz.prog 86 #[.agg #[.int .i64 a, fv]] h fun r h' => r = .int .i64 (needM a fs) ∧ Keep none_ h h' := by
  refine callH_by fun K hK => ?_
  refine enter [.tmp 2] Tryz.func86 rfl rfl (by kernel_rfl) rfl ?_
  have hf0 := hf
  obtain ⟨fa, fc, rfl, hfc, hfc'⟩ := hf.val
  simp -dsimp [boxS_eq]
  generalize hB : Array.push h _ = h1
  have k1 : Keep none_ h h1 := by rw [← hB]; exact .push _ _ _
  have w1 : h1[h.size]? = some (.cells #[.int .i64 a, .slice fa fs.length fc] 27 (0, 0)) := by rw [← hB]; exact push_new _ _
  try simp -dsimp [w1]
  refine loopc (σ := Nat) (fun i => [(3, .int .i64 (needM a (fs.take i))), (9, .slice fa fs.length fc), (10, .int .i64 fs.length), (11, .int .i64 i)])
    (fun i y => Keep none_ h1 y ∧ i ≤ fs.length) (fun i => fs.length - i) 0 0 (fun i _ => i = fs.length) noRet noRet_le (by simp [needM]) ⟨.refl _ _, Nat.zero_le _⟩ (by kernel_rfl) ?_ ?_
  case refine_1 =>
    rintro i y g ⟨ky, hi⟩
    have v1 := ky.at w1 (fun h => h)
    have k0y : Keep none_ h y := k1.trans ky fun _ _ h => h
    by_cases hil : i < fs.length
    · have wi := wrap_succ (k := i) (by omega)
      obtain ⟨bk, off, cs, rfl, hfb, hrep, hcs⟩ := (hf0.mono ((Tr.of k0y).ft (Nat.le_refl 0))).get i hil
      obtain rfl : cs = [.int .i64 fs[i].dim, .int .i64 fs[i].lo, .int .i64 fs[i].hi] := hrep
      have hcs : HC.cellsIn y[bk]? (off + i * 3) 3 = some [.int .i64 fs[i].dim, .int .i64 fs[i].lo, .int .i64 fs[i].hi] := hcs
      have hd := hfs _ (List.getElem_mem hil)
      have hnx : needM a (fs.take (i + 1)) = orM (needM a (fs.take i)) (2 ^ fs[i].dim.toNat) := by
        unfold needM
        rw [List.take_add_one, List.getElem?_eq_getElem hil, Option.toList_some, List.foldl_append]
        rfl
      obtain ⟨D, eD⟩ : ∃ D : Nat, fs[i].dim = D := ⟨fs[i].dim.toNat, by omega⟩
      have hshl := shl_int (k := D) (by omega)
      have c0 : HC.cellIn y[bk]? (off + i * 3) = some (.int .i64 fs[i].dim) := by
        have := cellsIn_cell (d := 0) hcs (by decide)
        simpa using this
      rw [eD] at hcs
      simp -dsimp [-intRes_shl, -intRes_or, hil, idxA_nat hil, hcs]
      rw [push_set rfl]
      generalize hP : Array.push y _ = y2
      have k2 : Keep none_ y y2 := by rw [← hP]; exact .push _ _ _
      have wF : y2[y.size]? = some (.cells #[.int .i64 D, .int .i64 fs[i].lo, .int .i64 fs[i].hi] 57 (0, 0)) := by rw [← hP]; exact push_new _ _
      simp -dsimp [-intRes_shl, -intRes_or, hshl, or_op, wi]
      exact ⟨i + 1, by simp [hnx, eD], rfl, ⟨ky.trans k2 fun _ _ h => h, hil⟩, by show fs.length - (i + 1) < fs.length - i; omega⟩
    · simp -dsimp [hil]
      exact ⟨rfl, i, by simp, rfl, ⟨ky, hi⟩, by show i = _; omega⟩
  rintro i y g ⟨ky, hi⟩ hil
  have hil : i = fs.length := hil
  subst hil
  simp -dsimp
  exact hK _ _ ⟨rfl, k1.trans ky fun _ _ h => h⟩

end Go.Proofs

/-
  The program's sets that would serve, one by one.
-/
namespace Go.Proofs
open Go Go.HC

set_option maxHeartbeats 2000000 in
set_option maxRecDepth 10000 in
theorem pkeep_spec {h : Heap} {bq : Nat} {fv : Value} {x a : Int} {fs : List FilM} (hbq : h[bq]? = some (.cells #[.int .i64 a, fv] 27 (0, 0))) (hf : SlRep rFil (Old h) h fv fs) (hfs : ∀ f ∈ fs, 0 ≤ f.dim ∧ f.dim < 4) :
    CallH Tryz.prog 85 #[.int .i64 x, .pointer (some ⟨bq, 0, none⟩)] h fun r h' => r = .bool (decide (andM x (needM a fs) = needM a fs)) ∧ Keep none_ h h' := by
  refine callH_by fun K hK => ?_
  refine enter [.tmp 3] Tryz.func85 rfl rfl (by kernel_rfl) rfl ?_
  have hf0 := hf
  obtain ⟨fa, fc, rfl, hfc, hfc'⟩ := hf.val
  simp -dsimp
  refine drawn_by [⟨0, true, []⟩, ⟨1, true, []⟩, ⟨4, true, []⟩, ⟨2, false, [0, 4]⟩, ⟨3, true, []⟩, ⟨5, false, [0, 3]⟩, ⟨6, true, []⟩, ⟨7, true, []⟩] (by kernel_rfl) (by kernel_rfl) ?_
  simp -dsimp [hbq]
  refine call_by (pneeds_spec hf0 hfs) ?_
  rintro _ h1 ⟨rfl, k1⟩
  have w1 := k1.at hbq (fun h => h)
  simp -dsimp [-intRes_and, again_cons, w1, and_op]
  refine call_by (pneeds_spec (hf0.mono ((Tr.of k1).ft (Nat.le_refl 0))) hfs) ?_
  rintro _ h2 ⟨rfl, k2⟩
  have w2 := k2.at w1 (fun h => h)
  simp -dsimp [-intRes_and, again_cons, w2, and_op]
  exact hK _ _ ⟨congrArg Value.bool (by rw [Bool.eq_iff_iff, beq_iff_eq, decide_eq_true_iff]), k1.trans k2 fun _ _ h => h⟩

set_option maxHeartbeats 2000000 in
set_option maxRecDepth 10000 in
theorem keptI_iter {h0 : Heap} {b1 b2 bq n : Nat} {lv fv : Value} {a : Int} {fs : List FilM} {F G : Nat → Prop} (hb1 : h0[b1]? = some (.cells #[lv] 22 (0, 0))) (hl : SlRep rInt F h0 lv (numsL n)) (hb2 : h0[b2]? = some (.cells #[.func (.func 85) #[] #[.pointer (some ⟨bq, 0, none⟩)]] 150 (0, 0)))
    (hbq : h0[bq]? = some (.cells #[.int .i64 a, fv] 27 (0, 0))) (hf : SlRep rFil G h0 fv fs) (hfs : ∀ f ∈ fs, 0 ≤ f.dim ∧ f.dim < 4) (hn : n < 1000) :
    IterM Tryz.prog 123 #[] #[.pointer (some ⟨b1, 0, none⟩), .pointer (some ⟨b2, 0, none⟩)] (fun i : Nat => #[.int .i64 (i : Int)]) (fun xs i _ _ => xs = (List.range i).filter (fun (j : Nat) => decide (andM (j : Int) (needM a fs) = needM a fs)) ∧ i < n ∧ andM (i : Int) (needM a fs) = needM a fs)
      (fun xs => xs = (List.range n).filter (fun (j : Nat) => decide (andM (j : Int) (needM a fs) = needM a fs))) (fun b => b = b1 ∨ b = b2 ∨ b = bq ∨ F b ∨ G b) h0 := by
  intro y J M0 h ⟨yf, yu, yv', hyf⟩ hy hJ hsz hFp
  subst hyf
  obtain ⟨p, ep⟩ : ∃ p : Nat → Bool, p = fun (j : Nat) => decide (andM (j : Int) (needM a fs) = needM a fs) := ⟨_, rfl⟩
  rw [← ep]
  have hp : ∀ j : Nat, p j = true ↔ andM (j : Int) (needM a fs) = needM a fs := fun j => by rw [ep]; exact decide_eq_true_iff
  have w1 := (hFp b1 (.inl rfl)).2.2.trans hb1
  have w2 := (hFp b2 (.inr (.inl rfl))).2.2.trans hb2
  have w3 := (hFp bq (.inr (.inr (.inl rfl)))).2.2.trans hbq
  have n1 := (hFp b1 (.inl rfl)).2.1
  have n2 := (hFp b2 (.inr (.inl rfl))).2.1
  have n3 := (hFp bq (.inr (.inr (.inl rfl)))).2.1
  have hlh : SlRep rInt (Ft 0 M0 h) h lv (numsL n) := hl.mono fun x hx => by
    obtain ⟨g1, g2, g3⟩ := hFp x (.inr (.inr (.inr (.inl hx))))
    exact ⟨⟨nz, by omega, g2⟩, g3⟩
  have hfh : SlRep rFil (Ft 0 M0 h) h fv fs := hf.mono fun x hx => by
    obtain ⟨g1, g2, g3⟩ := hFp x (.inr (.inr (.inr (.inr hx))))
    exact ⟨⟨nz, by omega, g2⟩, g3⟩
  have hnl := numsL_len n
  obtain ⟨a0, c0, rfl, _, _⟩ := hl.val
  rw [hnl] at w1
  refine callH_by fun K hK => ?_
  refine enter [] Tryz.func123 rfl rfl (by kernel_rfl) rfl ?_
  simp -dsimp [w1]
  refine loopc (σ := Nat) (fun i => [(0, .func yf yu yv'), (1, .pointer (some ⟨b1, 0, none⟩)), (2, .pointer (some ⟨b2, 0, none⟩)), (6, .slice a0 n c0), (7, .int .i64 n), (8, .int .i64 i)]) (fun i h1 => i ≤ n ∧ ∃ M, J ((List.range i).filter p) M h1 ∧ Tr M0 M h h1) (fun i => n - i) 0 0 (fun i _ => i = n) noRet noRet_le (by simp)
    ⟨by omega, M0, hJ, ⟨.refl _ _, fun _ h => .inl h, fun b hb => hy.lt hJ b hb⟩⟩ (by kernel_rfl) ?_ ?_
  · rintro i h1 g ⟨hi, M, hJ1, t⟩
    have v2 := t.at w2 n2
    have v3 := t.at w3 n3
    have hrs := range_snoc p i
    by_cases hl' : i < n
    · have wk := wrap_succ (k := i) (by omega)
      have hil : i < (numsL n).length := by omega
      obtain ⟨b5, o5, e5, _, hc5⟩ := (hlh.mono (t.ft (Nat.le_refl 0))).int_at i hil
      have ev : (numsL n)[i] = (i : Int) := by simp [numsL]
      rw [ev] at hc5
      subst e5
      simp -dsimp [hl', idxA_nat hl', hc5, v2]
      refine call_by (pkeep_spec v3 ((hfh.mono (t.ft (Nat.le_refl 0))).mono (Ft.free (Nat.le_refl 0))) hfs) ?_
      rintro _ h2 ⟨rfl, k2⟩
      have hJ2 := hy.call hJ1 k2
      by_cases hk : andM (i : Int) (needM a fs) = needM a fs
      · rw [(hp i).2 hk, if_pos rfl] at hrs
        simp -dsimp [hk]
        refine callV_by (hy.step (x := i) hJ2 ⟨by rw [ep], hl', hk⟩) ?_
        rintro _ h3 ⟨rfl, M', hJ3, t3⟩
        simp -dsimp [wk]
        exact ⟨i + 1, by simp, rfl, ⟨by omega, M', by rw [hrs]; exact hJ3, (t.call k2).trans t3⟩, by show n - (i + 1) < n - i; omega⟩
      · have hpf : p i = false := by
          cases hpi : p i with
          | false => rfl
          | true => exact absurd ((hp i).1 hpi) hk
        rw [hpf, if_neg (by decide), List.append_nil] at hrs
        simp -dsimp [hk, wk]
        exact ⟨i + 1, by simp, rfl, ⟨by omega, M, by rw [hrs]; exact hJ2, t.call k2⟩, by show n - (i + 1) < n - i; omega⟩
    · simp -dsimp [hl']
      exact ⟨rfl, i, by simp, rfl, ⟨hi, M, hJ1, t⟩, by show i = n; omega⟩
  · rintro i h1 g ⟨hi, M, hJ1, t⟩ rfl
    simp -dsimp
    exact hK _ _ ⟨_, M, rfl, hJ1, t⟩
end Go.Proofs

/-
  The program's reader, plainly.
-/
namespace Go.HC
theorem take_step {α : Type} {l : List α} {k : Nat} (hk : k < l.length) : l.take (k + 1) = l.take k ++ [l[k]] := by
  rw [List.take_add_one, List.getElem?_eq_getElem hk]
  rfl
/-- What a reader takes. -/
def tkX (n : Nat) (left : List UInt8) : Int := if left.length < n then 0 else backM (left.take n)
def tkL (n : Nat) (left : List UInt8) : List UInt8 := if left.length < n then [] else left.drop n
def tkB (n : Nat) (left : List UInt8) (bad : Bool) : Bool := bad || decide (left.length < n)
/-- What a reader lists. -/
def lsX (c n : Nat) (left : List UInt8) : List Int := (List.range c).map fun i => backM ((left.drop (i * n)).take n)

theorem lsX_succ (c n : Nat) (left : List UInt8) : lsX (c + 1) n left = lsX c n left ++ [backM ((left.drop (c * n)).take n)] := by
  unfold lsX
  rw [List.range_succ, List.map_append]
  rfl

/-- A reader behind a list. -/
structure LsAt (c n : Nat) (left : List UInt8) (bad : Bool) (xs : List Int) (left' : List UInt8) (bad' : Bool) : Prop where
  good : bad' = false → bad = false ∧ c * n ≤ left.length ∧ left' = left.drop (c * n) ∧ xs = lsX c n left
  ill : bad' = true → bad = true ∨ left.length < c * n

theorem bytes_ints {n : Nat} {l : List UInt8} (h : n ≤ l.length) : lsX n 1 l = (l.take n).map intB := by
  unfold lsX
  apply List.ext_getElem
  · simp; omega
  · intro i h1 h2
    have hi : i < n := by simpa using h1
    have hil : i < l.length := by omega
    rw [List.getElem_map, List.getElem_range, List.getElem_map, List.getElem_take, Nat.mul_one, List.drop_eq_getElem_cons hil, List.take_succ_cons, List.take_zero]
    unfold backM intB
    rw [List.foldl_cons, List.foldl_nil]
    have := l[i].toNat_lt
    rw [wrap_i64 (by omega) (by omega)]
    omega
theorem tkX_one {l : List UInt8} (h : 1 ≤ l.length) : tkX 1 l = intB (l.getD 0 0) := by
  obtain ⟨c, l, rfl⟩ : ∃ c m, l = c :: m := by
    cases l with
    | nil => simp at h
    | cons c m => exact ⟨c, m, rfl⟩
  unfold tkX backM intB
  rw [if_neg (by omega)]
  have := c.toNat_lt
  simp only [List.take_succ_cons, List.take_zero, List.foldl_cons, List.foldl_nil, List.getD_cons_zero]
  rw [wrap_i64 (by omega) (by omega)]
  omega
theorem tkX_two {l : List UInt8} (h : 2 ≤ l.length) : tkX 2 l = ((l.getD 0 0).toNat * 256 + (l.getD 1 0).toNat : Nat) := by
  obtain ⟨c, d, l, rfl⟩ : ∃ c d m, l = c :: d :: m := by
    match l, h with
    | c :: d :: m, _ => exact ⟨c, d, m, rfl⟩
  unfold tkX backM
  rw [if_neg (by omega)]
  have := c.toNat_lt
  have := d.toNat_lt
  simp only [List.take_succ_cons, List.take_zero, List.foldl_cons, List.foldl_nil, List.getD_cons_zero, List.getD_cons_succ]
  rw [wrap_i64 (x := 0 * 256 + (c.toNat : Int)) (by omega) (by omega), wrap_i64 (by omega) (by omega)]
  omega
theorem getD_drop {l : List UInt8} (k i : Nat) : (l.drop k).getD i 0 = l.getD (k + i) 0 := by
  rw [List.getD_eq_getElem?_getD, List.getD_eq_getElem?_getD, List.getElem?_drop]
/-- What a reader takes of a head. -/
theorem head_read {b l2 : List UInt8} {c : Nat} {xs : List Int} {bad2 bad4 : Bool} (hl : 4 ≤ b.length) (hc : tkX 1 (b.drop 4) = c)
    (ls : LsAt c 1 (tkL 1 (b.drop 4)) (tkB 1 (b.drop 4) false) xs l2 bad2) (h4 : bad4 = tkB 2 (tkL 1 l2) (tkB 1 l2 bad2)) :
    (bad4 = false → 8 + dimB b ≤ b.length ∧ xs = (schB b).cards ∧ tkX 1 l2 = (schB b).ms ∧ tkX 2 (tkL 1 l2) = cntB b ∧ tkL 2 (tkL 1 l2) = restB b) ∧ (bad4 = true → ¬ 8 + dimB b ≤ b.length) := by
  have hdl : (b.drop 4).length = b.length - 4 := List.length_drop ..
  by_cases h1 : (b.drop 4).length < 1
  · have e0 : tkB 1 (b.drop 4) false = true := by unfold tkB; rw [decide_eq_true h1]; rfl
    have e2 : bad2 = true := by
      cases hb : bad2 with
      | true => rfl
      | false =>
        have := (ls.good hb).1
        rw [e0] at this
        cases this
    refine ⟨fun h => ?_, fun _ => by omega⟩
    rw [h4, e2] at h
    unfold tkB at h
    simp at h
  · have ec : c = dimB b := by
      have := tkX_one (l := b.drop 4) (by omega)
      rw [hc, getD_drop] at this
      unfold intB at this
      unfold dimB
      exact Int.ofNat_inj.1 this
    have e0 : tkB 1 (b.drop 4) false = false := by unfold tkB; rw [decide_eq_false h1]; rfl
    have e1 : tkL 1 (b.drop 4) = b.drop 5 := by unfold tkL; rw [if_neg h1, List.drop_drop]
    rw [e0, e1, ec] at ls
    have hd5 : (b.drop 5).length = b.length - 5 := List.length_drop ..
    by_cases h2 : bad2 = true
    · rcases ls.ill h2 with h | h
      · cases h
      · refine ⟨fun h' => ?_, fun _ => by omega⟩
        rw [h4, h2] at h'
        unfold tkB at h'
        simp at h'
    · have h2 : bad2 = false := by simpa using h2
      obtain ⟨_, g1, g2, g3⟩ := ls.good h2
      rw [Nat.mul_one] at g1 g2
      rw [List.drop_drop] at g2
      have hl2 : l2.length = b.length - (5 + dimB b) := by rw [g2, List.length_drop]
      by_cases h3 : l2.length < 1
      · refine ⟨fun h' => ?_, fun _ => by omega⟩
        rw [h4, h2] at h'
        unfold tkB at h'
        simp [h3] at h'
      · have e3 : tkL 1 l2 = b.drop (6 + dimB b) := by
          unfold tkL
          rw [if_neg h3, g2, List.drop_drop]
          congr 1
          omega
        have hl3 : (tkL 1 l2).length = b.length - (6 + dimB b) := by rw [e3, List.length_drop]
        by_cases h5 : (tkL 1 l2).length < 2
        · refine ⟨fun h' => ?_, fun _ => by omega⟩
          rw [h4, h2] at h'
          unfold tkB at h'
          simp [h5] at h'
        · refine ⟨fun _ => ⟨by omega, ?_, ?_, ?_, ?_⟩, fun h' => ?_⟩
          · rw [g3, bytes_ints (by omega)]
            rfl
          · rw [tkX_one (by omega), g2, getD_drop]
            rfl
          · rw [tkX_two (by omega), e3, getD_drop, getD_drop]
            unfold cntB
            rw [Nat.add_zero, show 6 + dimB b + 1 = 7 + dimB b by omega]
          · unfold tkL at h5 ⊢
            rw [if_neg h3] at h5 ⊢
            rw [if_neg h5, g2, List.drop_drop, List.drop_drop]
            unfold restB
            congr 1
            omega
          · rw [h4, h2] at h'
            unfold tkB at h'
            simp [h3, h5] at h'
/-- What a reader takes of a row. -/
theorem row_read {rest l1 l2 : List UInt8} {d m w i : Nat} {xs ys : List Int} {bad1 bad2 : Bool} (hw : w = d + 8 * m) (hi : i * w ≤ rest.length)
    (h1 : LsAt d 1 (rest.drop (i * w)) false xs l1 bad1) (h2 : LsAt m 8 l1 bad1 ys l2 bad2) :
    (bad2 = false → xs = (rowX d m ((rest.drop (i * w)).take w)).key ∧ ys = (rowX d m ((rest.drop (i * w)).take w)).m ∧ l2 = rest.drop ((i + 1) * w) ∧ (i + 1) * w ≤ rest.length) ∧ (bad2 = true → rest.length < (i + 1) * w) := by
  have hs : (i + 1) * w = i * w + w := Nat.succ_mul i w
  have hdl : (rest.drop (i * w)).length = rest.length - i * w := List.length_drop ..
  refine ⟨fun hb => ?_, fun hb => ?_⟩
  · obtain ⟨e1, g1, g2, g3⟩ := h2.good hb
    obtain ⟨_, f1, f2, f3⟩ := h1.good e1
    rw [Nat.mul_one] at f1 f2
    rw [f2, List.length_drop] at g1
    refine ⟨?_, ?_, ?_, by omega⟩
    · rw [f3, bytes_ints f1]
      unfold rowX
      rw [List.take_take, Nat.min_eq_left (by omega)]
    · rw [g3, f2]
      unfold rowX lsX
      apply List.map_congr_left
      intro k hk
      have hk := List.mem_range.1 hk
      rw [List.drop_drop]
      congr 1
      rw [List.drop_take, List.take_take, Nat.min_eq_left (by omega), List.drop_drop, List.drop_drop, Nat.mul_comm 8 k]
    · rw [g2, f2, List.drop_drop, List.drop_drop]
      congr 1
      omega
  · rcases h2.ill hb with e | e
    · rcases h1.ill e with e | e
      · cases e
      · omega
    · cases hb1 : bad1 with
      | true =>
        rcases h1.ill hb1 with e | e
        · cases e
        · omega
      | false =>
        obtain ⟨_, f1, f2, f3⟩ := h1.good hb1
        rw [f2, List.length_drop] at e
        omega
end Go.HC

/-
  The program's reader of facts: take, list.
-/
namespace Go.Proofs
open Go Go.HC

set_option maxHeartbeats 4000000 in
set_option maxRecDepth 10000 in
theorem take_spec {h : Heap} {bp n : Nat} {v : Value} {left : List UInt8} {bad : Bool} {F : Nat → Prop} (hb : h[bp]? = some (.cells #[v, .bool bad] 169 (0, 0))) (hs : SlRep rByte F h v left) (hF : ∀ b, F b → b ≠ bp) (hn : n ≤ 8) :
    CallH Tryz.prog 110 #[.pointer (some ⟨bp, 0, none⟩), .int .i64 n] h fun r h' => r = .int .i64 (tkX n left) ∧ ∃ v', h' = h.setIfInBounds bp (.cells #[v', .bool (tkB n left bad)] 169 (0, 0)) ∧ SlRep rByte F h' v' (tkL n left) := by
  refine callH_by fun K hK => ?_
  refine enter [.tmp 4] Tryz.func110 rfl rfl (by kernel_rfl) rfl ?_
  obtain ⟨a0, c0, rfl, hc0, hc1⟩ := hs.val
  have hlb := lt_of_blk hb
  by_cases hlt : left.length < n
  · have q1 : ((left.length : Int) < n) := by omega
    simp -dsimp [hb, q1, set_same _ hlb, Array.setIfInBounds_setIfInBounds]
    refine hK _ _ ⟨by unfold tkX; rw [if_pos hlt], .slice none 0 0, by unfold tkB; rw [decide_eq_true hlt, Bool.or_true], ?_⟩
    unfold tkL
    rw [if_pos hlt]
    exact SlRep.nil _ _ _
  · have q1 : ¬ ((left.length : Int) < n) := by omega
    have hT : ((elS Tryz.prog 66).bind (szS Tryz.prog)).isSome = true := by kernel_rfl
    have hsl : ∀ {y : Heap} K, sliceS Tryz.prog 66 (.slice a0 left.length c0) none (some (.int .i64 n)) none y K = K (.slice (piece a0 0 c0 1) n c0) y := fun K => sliceS_to (P := Tryz.prog) (T := 66) (k := .i64) hT (by omega)
    have hsf : ∀ {y : Heap} K, sliceS Tryz.prog 66 (.slice a0 left.length c0) (some (.int .i64 n)) none none y K = K (.slice (piece a0 n c0 1) (left.length - n) (c0 - n)) y := fun K => sliceS_from (P := Tryz.prog) (T := 66) (k := .i64) hT (by omega) hc0
    have hcut := hs.cut (i := 0) (j := n) (m := c0) (by omega) (by omega) (by omega) (Nat.le_refl _)
    rw [List.drop_zero, Nat.sub_zero] at hcut
    have hnl : (left.take n).length = n := by rw [List.length_take]; omega
    obtain ⟨a1, ea⟩ : ∃ a1, a1 = piece a0 0 c0 1 := ⟨_, rfl⟩
    have hcut : SlRep rByte F h (.slice a1 n (c0 - 0)) (left.take n) := by rw [ea]; exact hcut
    simp -dsimp [hb, q1, hsl]
    rw [← ea]
    refine loopc (σ := Nat) (fun i => [(0, .pointer (some ⟨bp, 0, none⟩)), (1, .int .i64 n), (5, .int .i64 (backM ((left.take n).take i))), (26, .slice a1 n c0), (27, .int .i64 n), (28, .int .i64 i)])
      (fun i y => y = h ∧ i ≤ n) (fun i => n - i) 0 0 (fun i _ => i = n) noRet noRet_le (by simp [backM]) ⟨rfl, Nat.zero_le _⟩ (by kernel_rfl) ?_ ?_
    · rintro i y g ⟨rfl, hi⟩
      have wi := wrap_succ (k := i) (by omega)
      by_cases hil : i < n
      · have hib : i < (left.take n).length := by omega
        obtain ⟨bk, off, rfl, _, hc⟩ := hcut.byte_at i hib
        have hlt8 : (left.take n)[i].toNat < 256 := (left.take n)[i].toNat_lt
        have hcw : IntKind.i64.wrap ((left.take n)[i].toNat : Int) = ((left.take n)[i].toNat : Int) := wrap_i64 (by omega) (by omega)
        simp -dsimp [-intRes_shl, -intRes_or, -List.getElem_take, hil, idxA_nat hil, hc, hcw, shl8, or8 _ hlt8, wi]
        exact ⟨i + 1, by simp [-List.getElem_take, back_snoc hib], rfl, ⟨rfl, by omega⟩, by show n - (i + 1) < n - i; omega⟩
      · simp -dsimp [hil]
        exact ⟨rfl, i, by simp, rfl, ⟨rfl, hi⟩, by show i = n; omega⟩
    · rintro i y g ⟨rfl, hi⟩ hil
      have hil : i = n := hil
      subst hil
      simp -dsimp [hb, hsf]
      refine hK _ _ ⟨by unfold tkX; rw [if_neg hlt, List.take_take, Nat.min_self], _, by unfold tkB; rw [decide_eq_false hlt, Bool.or_false], ?_⟩
      have hcut2 := hs.cut (i := i) (j := left.length) (m := c0) (by omega) (Nat.le_refl _) hc0 (Nat.le_refl _)
      rw [List.take_of_length_le (by rw [List.length_drop]; omega)] at hcut2
      unfold tkL
      rw [if_neg hlt]
      exact hcut2.mono fun b hb' => ⟨hb', set_other _ fun e => hF b hb' e.symm⟩

/-- What stands in a reader. -/
structure RdAt (h : Heap) (bp : Nat) (F : Nat → Prop) (left : List UInt8) (bad : Bool) : Prop where
  ex : ∃ v, h[bp]? = some (.cells #[v, .bool bad] 169 (0, 0)) ∧ SlRep rByte F h v left

theorem RdAt.keep {h h' : Heap} {bp : Nat} {F S : Nat → Prop} {left : List UInt8} {bad : Bool} (r : RdAt h bp F left bad) (k : Keep S h h') (hF : ∀ b, F b → b < h.size ∧ ¬ S b) (hS : ¬ S bp) : RdAt h' bp F left bad := by
  obtain ⟨v, h1, h2⟩ := r.ex
  exact ⟨v, k.at h1 hS, h2.mono fun b hb => ⟨hb, k.blk b (hF b hb).1 (hF b hb).2⟩⟩

theorem take_at {h : Heap} {bp n : Nat} {left : List UInt8} {bad : Bool} {F : Nat → Prop} (r : RdAt h bp F left bad) (hF : ∀ b, F b → b ≠ bp) (hn : n ≤ 8) :
    CallH Tryz.prog 110 #[.pointer (some ⟨bp, 0, none⟩), .int .i64 n] h fun r h' => r = .int .i64 (tkX n left) ∧ RdAt h' bp F (tkL n left) (tkB n left bad) ∧ Keep (fun b => b = bp) h h' ∧ h'.size = h.size := by
  obtain ⟨v, h1, h2⟩ := r.ex
  refine (take_spec h1 h2 hF hn).mono ?_
  rintro _ h' ⟨rfl, v', rfl, h3⟩
  exact ⟨rfl, ⟨v', set_same _ (lt_of_blk h1), h3⟩, (Keep.refl _ _).setted _ fun _ => rfl, by simp⟩

set_option maxHeartbeats 4000000 in
set_option maxRecDepth 10000 in
theorem list_spec {h : Heap} {bp c n : Nat} {left : List UInt8} {bad : Bool} {F : Nat → Prop} (r : RdAt h bp F left bad) (hF : ∀ b, F b → b ≠ bp ∧ b < h.size) (hn : n ≤ 8) (hc : c < 1000) :
    CallH Tryz.prog 109 #[.pointer (some ⟨bp, 0, none⟩), .int .i64 c, .int .i64 n] h fun r h' => ∃ xs left' bad', SlRep rInt (Ft h.size none_ h') h' r xs ∧ RdAt h' bp F left' bad' ∧ LsAt c n left bad xs left' bad' ∧ xs.length ≤ c ∧ Keep (fun b => b = bp) h h' := by
  refine callH_by fun K hK => ?_
  refine enter [.tmp 6] Tryz.func109 rfl rfl (by kernel_rfl) rfl ?_
  have hlb : bp < h.size := by obtain ⟨v, h1, _⟩ := r.ex; exact lt_of_blk h1
  obtain ⟨M1, eM⟩ : ∃ M1 : Nat → Prop, M1 = fun b => b = bp := ⟨_, rfl⟩
  have hM1 : ∀ b, M1 b ↔ b = bp := fun b => by rw [eM]
  simp -dsimp
  refine loopc (σ := Nat × Value) (fun t => [(0, .pointer (some ⟨bp, 0, none⟩)), (2, .int .i64 n), (7, t.2), (8, .int .i64 c), (9, .int .i64 t.1)])
    (fun t y => ∃ M own xs left' bad', Tr M1 M h y ∧ M bp ∧ (∀ b, own = some b → h.size ≤ b) ∧ t.1 ≤ c ∧ xs.length = t.1 ∧ Gr rInt 3 h.size M y t.2 xs own ∧ RdAt y bp F left' bad' ∧ LsAt t.1 n left bad xs left' bad')
    (fun t => c - t.1) (0, .slice none 0 0) 0 (fun t _ => t.1 = c) (endR Tryz.prog [.tmp 6] K).rt (fun _ _ _ h => h) (by simp) ⟨M1, none, [], left, bad, ⟨.refl _ _, fun b hb => .inl hb, fun b hb => by rw [(hM1 b).1 hb]; exact hlb⟩, (hM1 _).2 rfl, (fun _ h => by cases h), Nat.zero_le _, rfl, .nil _ _ _ _ _, r, ⟨fun e => ⟨e, by omega, by simp, rfl⟩, fun e => .inl e⟩⟩ (by kernel_rfl) ?_ ?_
  · rintro ⟨d, v⟩ y g ⟨M, own, xs, left', bad', t, hM, ho, hd, hl, gv, hr, hls⟩
    simp only at hd hl gv hls
    by_cases hlt : d < c
    · obtain ⟨v1, hv1, hv2⟩ := hr.ex
      have wd := wrap_succ (k := d) (by omega)
      have hKp : Keep (fun b => b = bp) h y := t.keep.weaken fun b _ hb => (hM1 b).1 hb
      cases bad' with
      | true =>
        simp -dsimp [hlt, hv1]
        refine hK _ _ ⟨[], left', true, .nil _ _ _, hr, ⟨(by intro e; cases e), fun _ => ?_⟩, Nat.zero_le _, hKp⟩
        rcases hls.ill rfl with e | e
        · exact .inl e
        · exact .inr (Nat.lt_of_lt_of_le e (Nat.mul_le_mul hd (Nat.le_refl _)))
      | false =>
        obtain ⟨e1, e2, e3, e4⟩ := hls.good rfl
        have hFy : ∀ b, F b → b < y.size ∧ ¬ (b = bp) := fun b hb => ⟨by have := (hF b hb).2; have := t.size; omega, (hF b hb).1⟩
        simp -dsimp [hlt, hv1]
        refine call_by (take_at hr (fun b hb => (hF b hb).1) hn) ?_
        rintro _ y2 ⟨rfl, hr2, k2, z2⟩
        have hob : own ≠ some bp := fun e => by have := ho _ e; omega
        have t2 : Tr M M y y2 := Tr.lp t.lt hM k2
        have gv2 := gv.lp t.lt hM hob k2
        simp -dsimp
        refine gr_app1 rfl intT gv2 t2.lt rfl rfl (by omega) (by omega) ?_
        intro v5 h5 own5 g5 t5 k5 ho5
        simp -dsimp [wd]
        refine ⟨(d + 1, v5), by simp, rfl, ⟨_, own5, _, _, _, (t.trans t2).trans t5, .inl hM, (fun b e => (ho5 b e).elim (ho b) (by have := t.size; omega)), by omega, by simp [hl], g5, hr2.keep k5 (fun b hb => ⟨by have := (hFy b hb).1; omega, fun e => by have := ho _ e; have := (hF b hb).2; omega⟩) hob, ?_⟩, by show c - (d + 1) < c - d; omega⟩
        have hdn : (d + 1) * n = d * n + n := Nat.succ_mul d n
        have hll : left'.length = left.length - d * n := by rw [e3, List.length_drop]
        by_cases hw : left'.length < n
        · refine ⟨fun e => ?_, fun _ => .inr (by show left.length < (d + 1) * n; omega)⟩
          unfold tkB at e
          rw [decide_eq_true hw] at e
          cases e
        · refine ⟨fun _ => ⟨e1, by show (d + 1) * n ≤ left.length; omega, ?_, ?_⟩, fun e => ?_⟩
          · unfold tkL
            rw [if_neg hw, e3, List.drop_drop]
            show _ = List.drop ((d + 1) * n) left
            rw [hdn]
          · show _ = lsX (d + 1) n left
            rw [lsX_succ, e4]
            unfold tkX
            rw [if_neg hw, e3]
          · unfold tkB at e
            rw [decide_eq_false hw] at e
            cases e
    · simp -dsimp [hlt]
      exact ⟨rfl, (d, v), by simp, rfl, ⟨M, own, xs, left', bad', t, hM, ho, hd, hl, gv, hr, hls⟩, by show d = c; omega⟩
  · rintro ⟨d, v⟩ y g ⟨M, own, xs, left', bad', t, hM, ho, hd, hl, gv, hr, hls⟩ hdc
    simp only at hd hl gv hls hdc
    subst hdc
    have hKp : Keep (fun b => b = bp) h y := t.keep.weaken fun b _ hb => (hM1 b).1 hb
    obtain ⟨va, vc, rfl⟩ := gv.val
    have hv : SlRep rInt (Ft h.size none_ y) y (.slice va xs.length vc) xs := gv.rep (Nat.le_refl _) ho
    obtain ⟨cs, _, q2, q3, q4, q5⟩ := hv.open_
    simp -dsimp
    refine gr_append (R := rInt) (e := 3) (n := h.size) (M := fun b => b = bp) (xs := []) (own := none) intT (.nil _ _ _ _ _) (fun b hb => by have := t.size; omega) rfl q4 (ints_map.2 (ints_map.1 q5)) (by simp; omega) (by simp; omega) ?_
    intro v' h' own' g' t' k' ho'
    simp -dsimp
    rw [List.nil_append] at g'
    have hr' := hr.keep k' (fun b hb => ⟨by have := (hF b hb).2; have := t.size; omega, by simp⟩) (by simp)
    exact hK _ _ ⟨xs, left', bad', g'.rep (Nat.le_refl _) (fun b e => (ho' b e).elim (by simp) (by have := t.size; omega)), hr', hls, by omega, hKp.trans k' (by simp)⟩
end Go.Proofs

/-
  The program's schemas, rows that may be.
-/
namespace Go.Proofs
open Go Go.HC

set_option maxRecDepth 10000 in
theorem outside_spec {h : Heap} {b1 b2 : Nat} {lo hi : Int} {fz fz' : Nat × Nat} (x : Int) (h1 : h[b1]? = some (.cells #[.int .i64 lo] 3 fz)) (h2 : h[b2]? = some (.cells #[.int .i64 hi] 3 fz')) :
    CallH Tryz.prog 170 #[.int .i64 x, .pointer (some ⟨b1, 0, none⟩), .pointer (some ⟨b2, 0, none⟩)] h fun r h' => r = .bool (decide (x < lo ∨ hi < x)) ∧ h' = h := by
  refine callH_by fun K hK => ?_
  refine enter [.tmp 4] Tryz.func170 rfl rfl (by kernel_rfl) rfl ?_
  by_cases q1 : x < lo
  · simp -dsimp [h1, q1]
    exact hK _ _ ⟨by simp [q1], rfl⟩
  · by_cases q2 : hi < x
    · simp -dsimp [h1, h2, q1, q2]
      exact hK _ _ ⟨by simp [q2], rfl⟩
    · simp -dsimp [h1, h2, q1, q2]
      exact hK _ _ ⟨by simp [q1, q2], rfl⟩

set_option maxHeartbeats 4000000 in
set_option maxRecDepth 10000 in
theorem indexOut_spec {h : Heap} {b1 b2 : Nat} {lo hi : Int} {fz fz' : Nat × Nat} {v : Value} {xs : List Int} {F : Nat → Prop} (h1 : h[b1]? = some (.cells #[.int .i64 lo] 3 fz)) (h2 : h[b2]? = some (.cells #[.int .i64 hi] 3 fz')) (hs : SlRep rInt F h v xs) :
    CallH Tryz.prog 184 #[v, .func (.func 170) #[] #[.pointer (some ⟨b1, 0, none⟩), .pointer (some ⟨b2, 0, none⟩)]] h fun r h' => (∃ k : Int, r = .int .i64 k ∧ (0 ≤ k ↔ ∃ x ∈ xs, x < lo ∨ hi < x)) ∧ h' = h := by
  refine callH_by fun K hK => ?_
  refine enter [.tmp 4] Tryz.func184 rfl rfl (by kernel_rfl) rfl ?_
  obtain ⟨a0, c0, rfl, hc0, hc1⟩ := hs.val
  simp -dsimp
  refine loopc (σ := Nat) (fun i => [(0, .slice a0 xs.length c0), (1, .func (.func 170) #[] #[.pointer (some ⟨b1, 0, none⟩), .pointer (some ⟨b2, 0, none⟩)]), (7, .int .i64 xs.length), (8, .int .i64 i)])
    (fun i y => y = h ∧ i ≤ xs.length ∧ ∀ x ∈ xs.take i, ¬ (x < lo ∨ hi < x)) (fun i => xs.length - i) 0 0 (fun i _ => i = xs.length) (endR Tryz.prog [.tmp 4] K).rt (fun _ _ _ h => h) (by simp) ⟨rfl, Nat.zero_le _, fun x hx => by simp at hx⟩ (by kernel_rfl) ?_ ?_
  · rintro i y g ⟨rfl, hi', hno⟩
    by_cases hil : i < xs.length
    · have wi := wrap_succ (k := i) (by omega)
      obtain ⟨b5, o5, rfl, _, hc5⟩ := hs.int_at i hil
      simp -dsimp [hil, idxA_nat hil, hc5]
      refine call_by (outside_spec xs[i] h1 h2) ?_
      rintro _ h2' ⟨rfl, hh⟩
      obtain rfl := hh.symm
      by_cases hx : xs[i] < lo ∨ hi < xs[i]
      · simp -dsimp [hx]
        exact hK _ _ ⟨⟨_, rfl, ⟨fun _ => ⟨_, List.getElem_mem hil, hx⟩, fun _ => by omega⟩⟩, rfl⟩
      · simp -dsimp [hx, wi]
        refine ⟨i + 1, by simp, rfl, ⟨rfl, by omega, fun x hx' => ?_⟩, by show xs.length - (i + 1) < xs.length - i; omega⟩
        rw [take_step hil] at hx'
        rcases List.mem_append.1 hx' with hd | hd
        · exact hno x hd
        · rw [List.mem_singleton] at hd
          rw [hd]
          exact hx
    · simp -dsimp [hil]
      exact ⟨rfl, i, by simp, rfl, ⟨rfl, hi', hno⟩, by show i = xs.length; omega⟩
  · rintro i y g ⟨rfl, hi', hno⟩ hil
    have hil : i = xs.length := hil
    subst hil
    rw [List.take_length] at hno
    simp -dsimp
    exact hK _ _ ⟨⟨_, rfl, ⟨(fun h => by omega), fun ⟨x, hx, h⟩ => absurd h (hno x hx)⟩⟩, rfl⟩

set_option maxHeartbeats 4000000 in
set_option maxRecDepth 10000 in
theorem pwithin_spec {h : Heap} {lo hi : Int} {v : Value} {xs : List Int} (hs : SlRep rInt (Old h) h v xs) :
    CallH Tryz.prog 139 #[v, .int .i64 lo, .int .i64 hi] h fun r h' => (∃ t : Bool, r = .bool t ∧ (t = true ↔ ∀ x ∈ xs, lo ≤ x ∧ x ≤ hi)) ∧ Keep none_ h h' := by
  refine callH_by fun K hK => ?_
  refine enter [.tmp 6] Tryz.func139 rfl rfl (by kernel_rfl) rfl ?_
  have hs0 := hs
  obtain ⟨a0, c0, rfl, hc0, hc1⟩ := hs.val
  simp -dsimp [boxS_eq]
  generalize hB : Array.push (Array.push h _) _ = h1
  have k1 : Keep none_ h h1 := by rw [← hB]; exact ((Keep.refl none_ h).pushed _).pushed _
  have w1 : h1[h.size]? = some (.cells #[.int .i64 lo] 3 (0, 0)) := by rw [← hB]; exact push_at (push_new _ _)
  have w2 : h1[h.size + 1]? = some (.cells #[.int .i64 hi] 3 (0, 0)) := by rw [← hB]; exact push_get (by simp)
  have hs1 := hs0.mono ((Tr.of k1).ft (Nat.le_refl 0))
  refine call_by (K' := fun r h' => (∃ t : Bool, r = .bool t ∧ (t = true ↔ ∃ x ∈ xs, x < lo ∨ hi < x)) ∧ h' = h1) ?_ ?_
  · refine callH_by fun K hK => ?_
    refine enter [.tmp 4] Tryz.func169 rfl rfl (by kernel_rfl) rfl ?_
    simp -dsimp
    refine call_by (indexOut_spec w1 w2 hs1) ?_
    rintro _ y ⟨⟨k, rfl, hk⟩, hh⟩
    obtain rfl := hh.symm
    simp -dsimp
    refine hK _ _ ⟨⟨_, rfl, ?_⟩, rfl⟩
    rw [decide_eq_true_iff]
    exact hk
  · rintro _ y ⟨⟨t, rfl, ht⟩, hh⟩
    obtain rfl := hh.symm
    simp -dsimp
    refine hK _ _ ⟨⟨_, rfl, ?_⟩, k1⟩
    cases t with
    | true =>
      obtain ⟨x, hx, h⟩ := ht.1 rfl
      refine ⟨(fun h => nomatch h), fun h' => ?_⟩
      have := h' x hx
      omega
    | false =>
      refine ⟨fun _ x hx => ?_, fun _ => rfl⟩
      have : ¬ (x < lo ∨ hi < x) := fun h => by have := ht.2 ⟨x, hx, h⟩; cases this
      omega

set_option maxHeartbeats 4000000 in
set_option maxRecDepth 10000 in
theorem pcheck_spec {h : Heap} {cv : Value} {s : SchM} (hc : SlRep rInt (Old h) h cv s.cards) :
    CallH Tryz.prog 111 #[.agg #[cv, .int .i64 s.ms]] h fun r h' => (∃ t : Bool, r = .bool t ∧ (t = true ↔ SchOk s)) ∧ Keep none_ h h' := by
  refine callH_by fun K hK => ?_
  refine enter [.tmp 2] Tryz.func111 rfl rfl (by kernel_rfl) rfl ?_
  have hc0 := hc
  obtain ⟨a0, c0, rfl, _, _⟩ := hc.val
  simp -dsimp [boxS_eq]
  generalize hB : Array.push h _ = h1
  have k1 : Keep none_ h h1 := by rw [← hB]; exact .push _ _ _
  have w1 : h1[h.size]? = some (.cells #[.slice a0 s.cards.length c0, .int .i64 s.ms] 30 (0, 0)) := by rw [← hB]; exact push_new _ _
  have hc1 := hc0.mono ((Tr.of k1).ft (Nat.le_refl 0))
  by_cases p1 : (1 : Int) ≤ s.cards.length
  · by_cases p2 : (s.cards.length : Int) ≤ 4
    · simp -dsimp [w1, p1, p2]
      refine call_by (pwithin_spec hc1) ?_
      rintro _ y ⟨⟨t, rfl, ht⟩, ky⟩
      have w2 := ky.at w1 (fun h => h)
      cases t with
      | true =>
        by_cases p3 : 0 ≤ s.ms
        · by_cases p4 : s.ms ≤ 2
          · simp -dsimp [w2, p3, p4]
            exact hK _ _ ⟨⟨_, rfl, ⟨fun _ => ⟨by omega, ht.1 rfl, by omega⟩, fun _ => rfl⟩⟩, k1.trans ky fun _ _ h => h⟩
          · simp -dsimp [w2, p3, p4]
            exact hK _ _ ⟨⟨_, rfl, ⟨(fun h => nomatch h), fun h => absurd h.ms.2 p4⟩⟩, k1.trans ky fun _ _ h => h⟩
        · simp -dsimp [w2, p3]
          exact hK _ _ ⟨⟨_, rfl, ⟨(fun h => nomatch h), fun h => absurd h.ms.1 p3⟩⟩, k1.trans ky fun _ _ h => h⟩
      | false =>
        simp -dsimp
        exact hK _ _ ⟨⟨_, rfl, ⟨(fun h => nomatch h), fun h => ht.2 h.cards⟩⟩, k1.trans ky fun _ _ h => h⟩
    · simp -dsimp [w1, p1, p2]
      exact hK _ _ ⟨⟨_, rfl, ⟨(fun h => nomatch h), fun h => by have := h.dims.2; omega⟩⟩, k1⟩
  · simp -dsimp [p1]
    exact hK _ _ ⟨⟨_, rfl, ⟨(fun h => nomatch h), fun h => by have := h.dims.1; omega⟩⟩, k1⟩

set_option maxHeartbeats 4000000 in
set_option maxRecDepth 10000 in
theorem pright_spec {h : Heap} {cv kv mv : Value} {cards key m : List Int} {ms : Int} (hc : SlRep rInt (Old h) h cv cards) (hk : SlRep rInt (Old h) h kv key) (hm : SlRep rInt (Old h) h mv m) (hl : key.length = cards.length) (hl4 : cards.length ≤ 4) (hml : (m.length : Int) = ms) :
    CallH Tryz.prog 112 #[.agg #[cv, .int .i64 ms], .agg #[kv, mv]] h fun r h' => (∃ t : Bool, r = .bool t ∧ (t = true ↔ FitR cards key)) ∧ Keep none_ h h' := by
  refine callH_by fun K hK => ?_
  refine enter [.tmp 4] Tryz.func112 rfl rfl (by kernel_rfl) rfl ?_
  have hc0 := hc
  have hk0 := hk
  obtain ⟨a0, c0, rfl, _, _⟩ := hc.val
  obtain ⟨a1, c1, rfl, _, _⟩ := hk.val
  obtain ⟨a2, c2, rfl, _, _⟩ := hm.val
  subst hml
  rw [hl]
  simp -dsimp [boxS_eq]
  generalize hB : Array.push (Array.push h _) _ = h1
  have k1 : Keep none_ h h1 := by rw [← hB]; exact ((Keep.refl none_ h).pushed _).pushed _
  have w1 : h1[h.size]? = some (.cells #[.slice a0 cards.length c0, .int .i64 m.length] 30 (0, 0)) := by rw [← hB]; exact push_at (push_new _ _)
  have w2 : h1[h.size + 1]? = some (.cells #[.slice a1 cards.length c1, .slice a2 m.length c2] 62 (0, 0)) := by rw [← hB]; exact push_get (by simp)
  have hc1 := hc0.mono ((Tr.of k1).ft (Nat.le_refl 0))
  have hk1 := hk0.mono ((Tr.of k1).ft (Nat.le_refl 0))
  simp -dsimp [w1, w2]
  refine loopc (σ := Nat) (fun i => [(2, .pointer (some ⟨h.size, 0, none⟩)), (23, .slice a1 cards.length c1), (24, .int .i64 cards.length), (25, .int .i64 i)])
    (fun i y => y = h1 ∧ i ≤ cards.length ∧ ∀ (j : Nat) (h : j < key.length) (h' : j < cards.length), j < i → 0 ≤ key[j] ∧ key[j] < cards[j]) (fun i => cards.length - i) 0 0 (fun i _ => i = cards.length) (endR Tryz.prog [.tmp 4] K).rt (fun _ _ _ h => h) (by simp) ⟨rfl, Nat.zero_le _, fun j _ _ h => by omega⟩ (by kernel_rfl) ?_ ?_
  · rintro i y g ⟨rfl, hi, hno⟩
    have wi := wrap_succ (k := i) (by omega)
    by_cases hil : i < cards.length
    · have hik : i < key.length := by omega
      obtain ⟨b5, o5, rfl, _, hc5⟩ := hc1.int_at i hil
      obtain ⟨b6, o6, rfl, _, hc6⟩ := hk1.int_at i hik
      by_cases r1 : key[i] < 0
      · simp -dsimp [hil, idxA_nat hil, hc6, r1]
        exact hK _ _ ⟨⟨_, rfl, ⟨(fun h => nomatch h), fun h => by have := h i hik hil; omega⟩⟩, k1⟩
      · by_cases r2 : cards[i] ≤ key[i]
        · simp -dsimp [w1, hil, idxA_nat hil, hc5, hc6, r1, r2]
          exact hK _ _ ⟨⟨_, rfl, ⟨(fun h => nomatch h), fun h => by have := h i hik hil; omega⟩⟩, k1⟩
        · simp -dsimp [w1, hil, idxA_nat hil, hc5, hc6, r1, r2, wi]
          refine ⟨i + 1, by simp, rfl, ⟨rfl, by omega, fun j hj hj' hji => ?_⟩, by show cards.length - (i + 1) < cards.length - i; omega⟩
          by_cases e : j = i
          · subst e; omega
          · exact hno j hj hj' (by omega)
    · simp -dsimp [hil]
      exact ⟨rfl, i, by simp, rfl, ⟨rfl, hi, hno⟩, by show i = cards.length; omega⟩
  · rintro i y g ⟨rfl, hi, hno⟩ hil
    have hil : i = cards.length := hil
    subst hil
    simp -dsimp
    exact hK _ _ ⟨⟨_, rfl, ⟨fun _ j h h' => hno j h h' (by omega), fun _ => rfl⟩⟩, k1⟩
end Go.Proofs

/-
  The program's facts out of bytes.
-/
namespace Go.Proofs
open Go Go.HC

set_option maxHeartbeats 4000000 in
set_option maxRecDepth 10000 in
theorem cloneRow_spec {n : Nat} {M : Nat → Prop} {h : Heap} {v : Value} {xs : List RowM} {own : Option Nat} (g : Gr rRow 62 n M h v xs own) (hM : ∀ b, M b → b < h.size) (hn0 : n ≤ h.size) (hn : xs.length < 1000000) :
    CallH Tryz.prog 113 #[v] h fun r h' => SlRep rRow (Ft n M h') h' r xs ∧ Keep none_ h h' := by
  refine enter [.tmp 2] Tryz.func113 rfl rfl (by kernel_rfl) rfl ?_
  have gg := g.grow
  rcases g.grow with ⟨rfl, rfl, rfl⟩ | ⟨bk, c, arr, cs, rfl, rfl, h1, h2, h3, h4, h5, h6, h7⟩
  · simp -dsimp
    exact ⟨.nil _ _ _, .refl _ _⟩
  · obtain ⟨cs', _, hq1, hq2, hcel, hel⟩ := gg.cells
    simp -dsimp
    refine clone_cells (F := Ft n M h) (F2 := fun b => some bk = some b) rowT (fun b hb => hb.lt) gg.own_lt rfl hcel hel (by omega) (by omega) ?_
    intro v' h' own' hg' hk ho hz
    obtain ⟨a', c', rfl⟩ := hg'.val
    simp -dsimp
    have tt : Tr M M h h' := (⟨.refl _ _, fun _ h => .inl h, hM⟩ : Tr M M h h).call hk
    refine ⟨hg'.rep.mono fun b hb => ?_, hk⟩
    rcases hb with hb | hb
    · exact ⟨(tt.ft (Nat.le_refl _) b hb).1, rfl⟩
    · have h1 := ho b hb
      exact ⟨⟨⟨by omega, fun _ => hg'.thaw b hb⟩, hg'.own_lt b hb, fun hm => by have := hM b hm; omega⟩, rfl⟩

set_option maxHeartbeats 8000000 in
set_option maxRecDepth 10000 in
theorem pdecode_spec {h : Heap} {bv : Value} {b : List UInt8} (hb : SlRep rByte (Old h) h bv b) (hbl : b.length < 1000000) :
    CallH Tryz.prog 80 #[bv] h fun r h' => ∃ cv ms rv e, r = .tuple #[.agg #[cv, .int .i64 ms], rv, .int .i64 e] ∧ Keep none_ h h' ∧
      ((DecOk b ∧ e = 0 ∧ ms = (schB b).ms ∧ SlRep rInt (Ft h.size none_ h') h' cv (schB b).cards ∧ SlRep rRow (Ft h.size none_ h') h' rv (rowsB b)) ∨ (¬ DecOk b ∧ e = 1 ∧ cv = .slice none 0 0 ∧ ms = 0 ∧ rv = .slice none 0 0)) := by
  refine callH_by fun K hK => ?_
  refine enter [.cell 2 30, .tmp 3, .tmp 4] Tryz.func80 rfl rfl (by kernel_rfl) rfl ?_
  obtain ⟨a0, c0, rfl, hc0, hc1⟩ := hb.val
  simp -dsimp
  generalize hB : Array.push h _ = h1
  have k1 : Keep none_ h h1 := by rw [← hB]; exact .push _ _ _
  have z1 : h1.size = h.size + 1 := by rw [← hB]; simp
  have wR : h1[h.size]? = some (.cells #[.slice none 0 0, .int .i64 0] 30 (0, 0)) := by rw [← hB]; exact push_new _ _
  have hb1 := hb.mono ((Tr.of k1).ft (Nat.le_refl 0))
  have hlz := lt_of_blk wR
  have hfail : ¬ DecOk b → ∀ (y : Heap), Keep none_ h y → K (.tuple #[.agg #[.slice none 0 0, .int .i64 0], .slice none 0 0, .int .i64 1]) (y.setIfInBounds h.size (.cells #[.slice none 0 0, .int .i64 0] 30 (0, 0))) := fun hno y ky =>
    hK _ _ ⟨_, _, _, _, rfl, ky.setted _ fun hh => absurd hh (Nat.lt_irrefl _), .inr ⟨hno, rfl, rfl, rfl, rfl⟩⟩
  by_cases q1 : (b.length : Int) < 4
  · simp -dsimp [q1, wR, set_same _ hlz]
    refine hfail (fun hd => ?_) _ k1
    have := hd.head.len
    omega
  · have hT : ((elS Tryz.prog 66).bind (szS Tryz.prog)).isSome = true := by kernel_rfl
    have hsl : ∀ {y : Heap} K, sliceS Tryz.prog 66 (.slice a0 b.length c0) none (some (.int .i64 4)) none y K = K (.slice (piece a0 0 c0 1) 4 c0) y := fun K => sliceS_to (P := Tryz.prog) (T := 66) (j := 4) (k := .i64) hT (by omega)
    have hsf : ∀ {y : Heap} K, sliceS Tryz.prog 66 (.slice a0 b.length c0) (some (.int .i64 4)) none none y K = K (.slice (piece a0 4 c0 1) (b.length - 4) (c0 - 4)) y := fun K => sliceS_from (P := Tryz.prog) (T := 66) (i := 4) (k := .i64) hT (by omega) hc0
    have hcut : SlRep rByte (Old h1) h1 (.slice (piece a0 0 c0 1) 4 c0) (b.take 4) := by
      have := hb1.cut (i := 0) (j := 4) (m := c0) (by omega) (by omega) (by omega) (Nat.le_refl _)
      rw [List.drop_zero, Nat.sub_zero] at this
      exact this
    simp -dsimp [q1, hsl]
    rw [conv_bytes_str Tryz.elS66 (by kernel_rfl) (by kernel_rfl) hcut]
    by_cases hm : b.take 4 = [67, 85, 66, 49]
    · have e1 := strOf_mark.2 hm
      obtain ⟨bp, ebp⟩ : ∃ bp, bp = h1.size := ⟨_, rfl⟩
      simp -dsimp [e1, hsf, boxS_eq]
      rw [← ebp]
      generalize hC : Array.push h1 _ = h2
      have k2 : Keep none_ h1 h2 := by rw [← hC]; exact .push _ _ _
      have z2 : h2.size = h1.size + 1 := by rw [← hC]; simp
      have k02 : Keep none_ h h2 := k1.trans k2 fun _ _ h => h
      have wS2 := k2.at wR (fun h => h)
      have r2 : RdAt h2 bp (Old h) (b.drop 4) false := by
        refine ⟨.slice (piece a0 4 c0 1) (b.length - 4) (c0 - 4), by rw [← hC, ebp]; exact push_new _ _, ?_⟩
        have := hb.cut (i := 4) (j := b.length) (m := c0) (by omega) (Nat.le_refl _) hc0 (Nat.le_refl _)
        rw [List.take_of_length_le (by rw [List.length_drop]; exact Nat.le_refl _)] at this
        exact this.mono fun b hb => ⟨hb, k02.blk b hb.2.1 (fun h => h)⟩
      have hFb : ∀ b, Old h b → b ≠ bp := fun b hb => by have := hb.2.1; omega
      obtain ⟨M2, eM⟩ : ∃ M2 : Nat → Prop, M2 = fun b => b = h.size ∨ b = bp := ⟨_, rfl⟩
      have hM2 : ∀ b, M2 b ↔ b = h.size ∨ b = bp := fun b => by rw [eM]
      have mR : M2 h.size := (hM2 _).2 (.inl rfl)
      have mB : M2 bp := (hM2 _).2 (.inr rfl)
      have t2 : Tr none_ M2 h h2 := ⟨k02, fun b hb => .inr (by rcases (hM2 b).1 hb with e | e <;> omega), fun b hb => by rcases (hM2 b).1 hb with e | e <;> omega⟩
      have hFk : ∀ {y y' : Heap} {M : Nat → Prop}, Tr none_ M h y → Keep M y y' → ∀ b, Old h b → b < y.size ∧ ¬ M b := fun t _ b hb => ⟨by have := t.size; have := hb.2.1; omega, fun hm => by have := t.fresh b hm; have := hb.2.1; omega⟩
      refine call_by (take_at (n := 1) r2 hFb (by omega)) ?_
      rintro _ h3 ⟨rfl, r3, k3, z3⟩
      have t3 := t2.trans (Tr.lp t2.lt mB k3)
      obtain ⟨c, ec, hcb⟩ : ∃ c : Nat, tkX 1 (b.drop 4) = c ∧ c < 256 := by
        unfold tkX
        split
        · exact ⟨0, rfl, by omega⟩
        · rename_i hn
          have := tkX_one (l := b.drop 4) (by omega)
          unfold tkX at this
          rw [if_neg hn] at this
          exact ⟨((b.drop 4).getD 0 0).toNat, this, UInt8.toNat_lt _⟩
      rw [ec]
      simp -dsimp
      refine call_by (list_spec (c := c) (n := 1) r3 (fun b hb => ⟨hFb b hb, by have := hb.2.1; omega⟩) (by omega) (by omega)) ?_
      rintro cv h4 ⟨xs, l4, bad4, hcv, r4, ls, hxl, k4⟩
      obtain ⟨ca, cc, rfl, _, _⟩ := hcv.val
      have t4 := t3.trans (Tr.lp t3.lt mB k4)
      have hcv4 : SlRep rInt (Ft h.size M2 h4) h4 (.slice ca xs.length cc) xs := hcv.mono (t3.ret (by have := t3.size; omega))
      have wS4 := k4.at (k3.at wS2 (by omega)) (by omega)
      simp -dsimp [wS4]
      generalize hD : Array.setIfInBounds h4 h.size _ = h5
      have k5 : Tr M2 M2 h4 h5 := by rw [← hD]; exact t4.here.set _ mR
      have t5 := t4.trans k5
      have wS5 : h5[h.size]? = some (.cells #[.slice ca xs.length cc, .int .i64 0] 30 (0, 0)) := by rw [← hD]; exact set_same _ (lt_of_blk wS4)
      have r5 : RdAt h5 bp (Old h) l4 bad4 := by
        refine r4.keep (S := fun b => b = h.size) (by rw [← hD]; exact (Keep.refl _ _).setted _ fun _ => rfl) (fun b hb => ⟨by have := t4.size; have := hb.2.1; omega, by have := hb.2.1; omega⟩) (by omega)
      have hcv5 := hcv4.mono (k5.ft (Nat.le_refl _))
      refine call_by (take_at (n := 1) r5 hFb (by omega)) ?_
      rintro _ h6 ⟨rfl, r6, k6, z6⟩
      have t6 := t5.trans (Tr.lp t5.lt mB k6)
      have wS6 := k6.at wS5 (by omega)
      have hcv6 := hcv5.mono ((Tr.lp t5.lt mB k6).ft (Nat.le_refl _))
      simp -dsimp [wS6]
      generalize hE : Array.setIfInBounds h6 h.size _ = h7
      have k7 : Tr M2 M2 h6 h7 := by rw [← hE]; exact t6.here.set _ mR
      have t7 := t6.trans k7
      have wS7 : h7[h.size]? = some (.cells #[.slice ca xs.length cc, .int .i64 (tkX 1 l4)] 30 (0, 0)) := by rw [← hE]; exact set_same _ (lt_of_blk wS6)
      have r7 : RdAt h7 bp (Old h) (tkL 1 l4) (tkB 1 l4 bad4) := by
        refine r6.keep (S := fun b => b = h.size) (by rw [← hE]; exact (Keep.refl _ _).setted _ fun _ => rfl) (fun b hb => ⟨by have := t6.size; have := hb.2.1; omega, by have := hb.2.1; omega⟩) (by omega)
      have hcv7 := hcv6.mono (k7.ft (Nat.le_refl _))
      refine call_by (take_at (n := 2) r7 hFb (by omega)) ?_
      rintro _ h8 ⟨rfl, r8, k8, z8⟩
      have t8 := t7.trans (Tr.lp t7.lt mB k8)
      have wS8 := k8.at wS7 (by omega)
      have hcv8 := hcv7.mono ((Tr.lp t7.lt mB k8).ft (Nat.le_refl _))
      obtain ⟨bad, eb⟩ : ∃ bad, bad = tkB 2 (tkL 1 l4) (tkB 1 l4 bad4) := ⟨_, rfl⟩
      have hread := head_read (by omega) ec ls eb
      rw [← eb] at r8
      obtain ⟨v8, hv8, hv8s⟩ := r8.ex
      cases bad with
      | true =>
        simp -dsimp [hv8, wS8, set_same _ (lt_of_blk wS8)]
        exact hfail (fun hd => hread.2 rfl hd.head.len) _ t8.keep
      | false =>
        obtain ⟨g1, g2, g3, g4, g5⟩ := hread.1 rfl
        rw [g2, g3] at wS8
        rw [g2] at hcv8
        rw [g5] at r8 hv8s
        simp -dsimp [hv8, wS8]
        refine call_by (pcheck_spec (s := schB b) (hcv8.mono (Ft.free (Nat.zero_le _)))) ?_
        rintro _ h9 ⟨⟨t, rfl, ht⟩, k9⟩
        have wS9 := k9.at wS8 (fun h => h)
        have t9 := t8.call k9
        cases t with
        | false =>
          simp -dsimp [wS9, set_same _ (lt_of_blk wS9)]
          exact hfail (fun hd => nomatch (ht.2 hd.head.sch)) _ t9.keep
        | true =>
          have hsch := ht.1 rfl
          have hhead : HeadOk b := ⟨hm, g1, hsch⟩
          have hcl := hhead.cards_len
          have hd4 := hsch.dims.2
          have hms := hsch.ms
          rw [g4]
          by_cases hn : cntB b ≤ 300
          · have q3 : ¬ ((300 : Int) < cntB b) := by omega
            have hcv9 := hcv8.mono ((t8.here.call k9).ft (Nat.le_refl h.size))
            have r9 : RdAt h9 bp (Old h) (restB b) false := r8.keep k9 (fun b hb => ⟨by have := t8.size; have := hb.2.1; omega, fun h => h⟩) (fun h => h)
            obtain ⟨m, em⟩ : ∃ m : Nat, (schB b).ms = m := ⟨(schB b).ms.toNat, by omega⟩
            have emn : (schB b).ms.toNat = m := by omega
            obtain ⟨w, ew⟩ : ∃ w, w = widB b := ⟨_, rfl⟩
            have ew2 : w = dimB b + 8 * m := by rw [ew]; unfold widB; rw [emn]
            obtain ⟨cards, ecards⟩ : ∃ cards, cards = (schB b).cards := ⟨_, rfl⟩
            rw [← ecards] at wS9 hcv9 hcl hd4 ⊢
            rw [em] at wS9
            have mR9 : (fun b => b = h.size ∨ b = bp) h.size := .inl rfl
            simp -dsimp [q3]
            refine loopc (σ := Nat × Value) (fun t => [(2, .pointer (some ⟨h.size, 0, none⟩)), (3, t.2), (5, .pointer (some ⟨bp, 0, none⟩)), (46, .int .i64 (cntB b)), (47, .int .i64 t.1)])
              (fun t y => ∃ M own, Tr M2 M h9 y ∧ M h.size ∧ M bp ∧ (∀ b, own = some b → h9.size ≤ b) ∧ t.1 ≤ cntB b ∧ t.1 * w ≤ (restB b).length ∧ (∀ j, j < t.1 → FitR cards (rowB1 b j).key) ∧ y[h.size]? = some (.cells #[.slice ca cards.length cc, .int .i64 m] 30 (0, 0)) ∧ RdAt y bp (Old h) ((restB b).drop (t.1 * w)) false ∧ Gr rRow 62 h.size M y t.2 ((List.range t.1).map (rowB1 b)) own)
              (fun t => cntB b - t.1) (0, .slice none 0 0) 0 (fun t _ => t.1 = cntB b) (endR Tryz.prog [.cell 2 30, .tmp 3, .tmp 4] K).rt (fun _ _ _ h => h) (by simp) ⟨M2, none, t9.here, mR, mB, (fun _ h => by cases h), Nat.zero_le _, by omega, (fun j hj => by simp at hj), wS9, by simpa using r9, .nil _ _ _ _ _⟩ (by kernel_rfl) ?_ ?_
            case refine_1 =>
              rintro ⟨i, v⟩ y g ⟨M, own, t, mR', mB', ho, hin, hiw, hfit, wSy, ry, gv⟩
              simp only at hin hiw hfit ry gv
              by_cases hlt : i < cntB b
              · have wi := wrap_succ (k := i) (by omega)
                have t0 := t9.trans t
                simp -dsimp [hlt, wSy]
                refine call_by (list_spec (c := cards.length) (n := 1) ry (fun b hb => ⟨hFb b hb, by have := t0.size; have := hb.2.1; omega⟩) (by omega) (by omega)) ?_
                rintro kv y1 ⟨xs1, l1, bad1, hkv, ry1, ls1, hx1, ky1⟩
                have tt1 : Tr M M y y1 := Tr.lp t.lt mB' ky1
                obtain ⟨ka, kc, rfl, _, _⟩ := hkv.val
                have tt1 : Tr M M y y1 := Tr.lp t.lt mB' ky1
                have wS1 := ky1.at wSy (by omega)
                simp -dsimp
                rw [push_set rfl]
                obtain ⟨bx, ebx⟩ : ∃ bx, bx = y1.size := ⟨_, rfl⟩
                rw [← ebx]
                generalize hF : Array.push y1 _ = y2
                have kk2 : Keep none_ y1 y2 := by rw [← hF]; exact .push _ _ _
                have zz2 : y2.size = y1.size + 1 := by rw [← hF]; simp
                have wX2 : y2[bx]? = some (.cells #[.slice ka xs1.length kc, .slice none 0 0] 62 (0, 0)) := by rw [← hF, ebx]; exact push_new _ _
                have wS2' := kk2.at wS1 (fun h => h)
                have u2 : Tr M (fun b => M b ∨ b = y1.size) y1 y2 := by rw [← hF]; exact tt1.here.pushM _
                have tt2 := tt1.trans u2
                have ry2 : RdAt y2 bp (Old h) l1 bad1 := ry1.keep kk2 (fun b hb => ⟨by have := t0.size; have := tt1.size; have := hb.2.1; omega, fun h => h⟩) (fun h => h)
                simp -dsimp [wS2']
                refine call_by (list_spec (c := m) (n := 8) ry2 (fun b hb => ⟨hFb b hb, by have := t0.size; have := tt2.size; have := hb.2.1; omega⟩) (by omega) (by omega)) ?_
                rintro mv y3 ⟨ys1, l2, bad2, hmv, ry3, ls2, hy1, ky3⟩
                obtain ⟨ma, mc, rfl, _, _⟩ := hmv.val
                have hbpx : bx ≠ bp := by have := lt_of_blk (r9.ex.choose_spec.1); have := t.size; have := tt1.size; omega
                have hxR : bx ≠ h.size := by have := lt_of_blk wS1; omega
                have u23 := Tr.lp u2.lt (.inl mB') ky3
                have u3 := u2.trans u23
                have tt3 := tt1.trans u3
                have wX3 := ky3.at wX2 hbpx
                have wS3' := ky3.at wS2' (by omega)
                simp -dsimp [wX3]
                generalize hG : Array.setIfInBounds y3 bx _ = y4
                have kk4 : Keep (fun b => b = bx) y3 y4 := by rw [← hG]; exact (Keep.refl _ _).setted _ fun _ => rfl
                have wX4 : y4[bx]? = some (.cells #[.slice ka xs1.length kc, .slice ma ys1.length mc] 62 (0, 0)) := by rw [← hG]; exact set_same _ (lt_of_blk wX3)
                have wS4' := kk4.at wS3' (by omega)
                have u34 : Tr (fun b => M b ∨ b = y1.size) (fun b => M b ∨ b = y1.size) y3 y4 := by rw [← hG]; exact u3.here.set _ (.inr ebx)
                have u4 := u3.trans u34
                have tt4 := tt1.trans u4
                have ry4 : RdAt y4 bp (Old h) l2 bad2 := ry3.keep kk4 (fun b hb => ⟨by have := t0.size; have := tt3.size; have := hb.2.1; omega, by have := t0.size; have := tt1.size; have := hb.2.1; omega⟩) (by omega)
                have hrr := row_read ew2 hiw (by rw [hcl] at ls1; exact ls1) ls2
                obtain ⟨v4, hv4, hv4s⟩ := ry4.ex
                have t04 := t0.trans tt4
                have hnn : (i + 1) * w ≤ cntB b * w := Nat.mul_le_mul hlt (Nat.le_refl _)
                cases bad2 with
                | true =>
                  simp -dsimp [hv4, wS4', set_same _ (lt_of_blk wS4')]
                  refine hfail (fun hd => ?_) _ t04.keep
                  have := hrr.2 rfl
                  have h2 := hd.len
                  rw [← ew] at h2
                  omega
                | false =>
                  obtain ⟨f1, f2, f3, f4⟩ := hrr.1 rfl
                  have hrow : rowB1 b i = ⟨xs1, ys1⟩ := by
                    unfold rowB1
                    rw [emn, ← ew, f1, f2]
                  have hxl1 : xs1.length = cards.length := by
                    have := (ls1.good (ls2.good rfl).1).2.2.2
                    rw [this]
                    unfold lsX
                    simp
                  have hyl1 : ys1.length = m := by
                    have := (ls2.good rfl).2.2.2
                    rw [this]
                    unfold lsX
                    simp
                  have hcvy : SlRep rInt (Ft h.size M y) y (.slice ca cards.length cc) cards := hcv9.mono (t.ft (Nat.le_refl _))
                  have hcv4 := hcvy.mono (tt4.ft (Nat.le_refl _))
                  have hk1 : SlRep rInt (Ft h.size M y1) y1 (.slice ka xs1.length kc) xs1 := hkv.mono (t.here.ret (by have := t0.size; omega))
                  have hk4 := hk1.mono (u4.ft (Nat.le_refl _))
                  have hm3 : SlRep rInt (Ft h.size (fun b => M b ∨ b = y1.size) y3) y3 (.slice ma ys1.length mc) ys1 := hmv.mono (u2.ret (by have := t0.size; have := tt2.size; omega))
                  have hm4 := hm3.mono (u34.ft (Nat.le_refl _))
                  simp -dsimp [hv4, wS4', wX4]
                  refine call_by (pright_spec (hcv4.mono (Ft.free (Nat.zero_le _))) (hk4.mono (Ft.free (Nat.zero_le _))) (hm4.mono (Ft.free (Nat.zero_le _))) hxl1 hd4 (by omega)) ?_
                  rintro _ y5 ⟨⟨tf, rfl, htf⟩, k5'⟩
                  have wS5' := k5'.at wS4' (fun h => h)
                  have wX5 := k5'.at wX4 (fun h => h)
                  cases tf with
                  | false =>
                    simp -dsimp [wS5', set_same _ (lt_of_blk wS5')]
                    refine hfail (fun hd => ?_) _ (t04.call k5').keep
                    have := hd.fit i hlt
                    rw [hrow, ← ecards] at this
                    exact nomatch (htf.2 this)
                  | true =>
                    have hob : ∀ b, own = some b → b ≠ bp ∧ b < y.size := fun b e => ⟨by have := ho b e; have := lt_of_blk (r9.ex.choose_spec.1); omega, gv.own_lt b e⟩
                    have gv4 := (gv.lp t.lt mB' (fun e => (hob _ e).1 rfl) ky1).mono u4 (Nat.le_refl _) (fun b e => ⟨.inl (gv.mu b e), by
                      have h1 := hob b e
                      have h2 := tt1.size
                      rw [kk4.blk b (by have := u3.size; omega) (by omega), ky3.blk b (by have := u2.size; omega) h1.1, kk2.blk b (by omega) (fun h => h)]⟩)
                    have gv5 := gv4.call k5'
                    have hk5 := hk4.mono ((u4.here.call k5').ft (Nat.le_refl _))
                    have hm5 := hm4.mono ((u4.here.call k5').ft (Nat.le_refl _))
                    simp -dsimp [wX5]
                    have hll : ((List.range i).map (rowB1 b)).length = i := by simp
                    refine gr_app1 rfl rowT gv5 (u4.here.call k5').lt (x := rowB1 b i) (c := [.slice ka xs1.length kc, .slice ma ys1.length mc]) ?_ rfl (by omega) (by omega) ?_
                    · rw [hrow]; exact ⟨_, _, rfl, hk5, hm5⟩
                    intro v6 h6' own6 g6 t6' k6' ho6
                    simp -dsimp [wi]
                    have hoR : ∀ b, own = some b → h9.size ≤ b := ho
                    have hlz9 := lt_of_blk wS9
                    have hlb9 := lt_of_blk (r9.ex.choose_spec.1)
                    have wS6' := k6'.at wS5' (fun e => by have := ho _ e; omega)
                    have r6' := (ry4.keep k5' (fun b hb => ⟨by have := t04.size; have := hb.2.1; omega, fun h => h⟩) (fun h => h)).keep k6' (fun b hb => ⟨by have := t04.size; have := hb.2.1; have := k5'.size; omega, fun e => by have := ho _ e; have := hb.2.1; have := t9.size; omega⟩) (fun e => by have := ho _ e; omega)
                    refine ⟨(i + 1, v6), by simp, rfl, ⟨_, own6, (t.trans (tt4.call k5')).trans t6', .inl (.inl mR'), .inl (.inl mB'), (fun b e => (ho6 b e).elim (ho b) (by have := t.size; have := tt4.size; have := k5'.size; omega)), hlt, f4, ?_, wS6', ?_, ?_⟩, by show cntB b - (i + 1) < cntB b - i; omega⟩
                    · intro j hj
                      by_cases e : j = i
                      · subst e
                        rw [hrow]
                        exact htf.1 rfl
                      · exact hfit j (by omega)
                    · rw [← f3]; exact r6'
                    · rw [List.range_succ, List.map_append]
                      exact g6
              · simp -dsimp [hlt]
                exact ⟨rfl, (i, v), by simp, rfl, ⟨M, own, t, mR', mB', ho, hin, hiw, hfit, wSy, ry, gv⟩, by show i = _; omega⟩
            rintro ⟨i, v⟩ y g ⟨M, own, t, mR', mB', ho, hin, hiw, hfit, wSy, ry, gv⟩ hic
            simp only at hin hiw hfit ry gv hic
            subst hic
            obtain ⟨v4, hv4, hv4s⟩ := ry.ex
            obtain ⟨va, vc, rfl, _, _⟩ := hv4s.val
            have t0 := t9.trans t
            simp -dsimp [hv4]
            by_cases hz : (restB b).length = cntB b * w
            · have q4 : ¬ (0 < (restB b).length - cntB b * w) := by omega
              have hdec : DecOk b := ⟨hhead, hn, by rw [← ew]; exact hz, fun i hi => by rw [← ecards]; exact hfit i hi⟩
              simp -dsimp [q4]
              refine drawn_by [⟨0, true, []⟩, ⟨1, true, []⟩, ⟨2, false, [0]⟩, ⟨3, false, []⟩, ⟨4, true, []⟩, ⟨5, true, []⟩] (by kernel_rfl) (by kernel_rfl) ?_
              simp -dsimp [wSy]
              refine call_by (cloneRow_spec gv t.lt (by have := t0.size; omega) (by simp; omega)) ?_
              rintro rv y2 ⟨hrv, kz⟩
              obtain ⟨ra, rc, rfl, _, _⟩ := hrv.val
              have wS2' := kz.at wSy (fun h => h)
              simp -dsimp [wS2', again_cons, set_same _ (lt_of_blk wS2')]
              have tz := t.here.call kz
              have u5 := tz.set (.cells #[.slice ca cards.length cc, .int .i64 m] 30 (0, 0)) mR'
              have hcvz := (hcv9.mono (t.ft (Nat.le_refl _))).mono (u5.ft (Nat.le_refl _))
              have hrvz := hrv.mono ((tz.here.set (.cells #[.slice ca cards.length cc, .int .i64 m] 30 (0, 0)) mR').ft (Nat.le_refl _))
              refine hK _ _ ⟨_, _, _, _, rfl, (t0.call kz).keep.setted _ fun hh => absurd hh (Nat.lt_irrefl _), .inl ⟨hdec, rfl, em.symm, ?_, ?_⟩⟩
              · rw [← ecards]; exact hcvz.mono (Ft.free (Nat.le_refl _))
              · have := hrvz.mono (Ft.free (Nat.le_refl _))
                rw [List.length_map, List.length_range] at this
                exact this
            · have q4 : (0 < (restB b).length - cntB b * w) := by omega
              simp -dsimp [q4, wSy, set_same _ (lt_of_blk wSy)]
              exact hfail (fun hd => hz (by rw [ew]; exact hd.len)) _ t0.keep
          · have q3 : ((300 : Int) < cntB b) := by omega
            simp -dsimp [wS9, q3, set_same _ (lt_of_blk wS9)]
            exact hfail (fun hd => hn hd.cnt) _ t9.keep
    · have e1 : strOf (b.take 4) ≠ ⟨#[67, 85, 66, 49]⟩ := fun e => hm (strOf_mark.1 e)
      simp -dsimp [e1, wR, set_same _ hlz]
      refine hfail (fun hd => hm hd.head.mark) _ k1
end Go.Proofs

/-
  The program's cell out of bytes.
-/
namespace Go.Proofs
open Go Go.HC

set_option maxHeartbeats 4000000 in
set_option maxRecDepth 10000 in
theorem get_spec {h : Heap} {bv : Value} {bs : List UInt8} {F : Nat → Prop} {n : Nat} (hs : SlRep rByte F h bv bs) (hn : n ≤ 8) (hl : n ≤ bs.length) :
    CallH Tryz.prog 125 #[bv, .int .i64 n] h fun r h' => (∃ v', r = .tuple #[.int .i64 (backM (bs.take n)), v'] ∧ SlRep rByte F h v' (bs.drop n)) ∧ h' = h := by
  refine callH_by fun K hK => ?_
  refine enter [.tmp 4, .tmp 5] Tryz.func125 rfl rfl (by kernel_rfl) rfl ?_
  obtain ⟨a0, c0, rfl, hc0, hc1⟩ := hs.val
  have hT : ((elS Tryz.prog 66).bind (szS Tryz.prog)).isSome = true := by kernel_rfl
  have hsl : ∀ {y : Heap} K, sliceS Tryz.prog 66 (.slice a0 bs.length c0) none (some (.int .i64 n)) none y K = K (.slice (piece a0 0 c0 1) n c0) y := fun K => sliceS_to (P := Tryz.prog) (T := 66) (k := .i64) hT (by omega)
  have hcut := hs.cut (i := 0) (j := n) (m := c0) (by omega) (by omega) (by omega) (Nat.le_refl _)
  rw [List.drop_zero, Nat.sub_zero] at hcut
  have hnl : (bs.take n).length = n := by rw [List.length_take]; omega
  obtain ⟨a1, ea⟩ : ∃ a1, a1 = piece a0 0 c0 1 := ⟨_, rfl⟩
  have hcut : SlRep rByte F h (.slice a1 n (c0 - 0)) (bs.take n) := by rw [ea]; exact hcut
  simp -dsimp [hsl]
  rw [← ea]
  refine loopc (σ := Nat) (fun i => [(0, .slice a0 bs.length c0), (1, .int .i64 n), (6, .int .i64 (backM ((bs.take n).take i))), (11, .slice a1 n c0), (12, .int .i64 n), (13, .int .i64 i)])
    (fun i y => y = h ∧ i ≤ n) (fun i => n - i) 0 0 (fun i _ => i = n) noRet noRet_le (by simp [backM]) ⟨rfl, Nat.zero_le _⟩ (by kernel_rfl) ?_ ?_
  · rintro i y g ⟨rfl, hi⟩
    have wi := wrap_succ (k := i) (by omega)
    by_cases hil : i < n
    · have hib : i < (bs.take n).length := by omega
      obtain ⟨bk, off, rfl, _, hc⟩ := hcut.byte_at i hib
      have hlt8 : (bs.take n)[i].toNat < 256 := (bs.take n)[i].toNat_lt
      have hcw : IntKind.i64.wrap ((bs.take n)[i].toNat : Int) = ((bs.take n)[i].toNat : Int) := wrap_i64 (by omega) (by omega)
      simp -dsimp [-intRes_shl, -intRes_or, -List.getElem_take, hil, idxA_nat hil, hc, hcw, shl8, or8 _ hlt8, wi]
      exact ⟨i + 1, by simp [-List.getElem_take, back_snoc hib], rfl, ⟨rfl, by omega⟩, by show n - (i + 1) < n - i; omega⟩
    · simp -dsimp [hil]
      exact ⟨rfl, i, by simp, rfl, ⟨rfl, hi⟩, by show i = n; omega⟩
  · rintro i y g ⟨rfl, hi⟩ hil
    have hil : i = n := hil
    subst hil
    have hpc : pieceV (some 1) (some (.int .i64 (i : Int))) none (.slice a0 bs.length c0) = some (.slice (piece a0 i c0 1) (bs.length - i) (c0 - i)) := by
      have e3 : (0 : Int) ≤ (i : Int) := by omega
      unfold pieceV
      simp only [natV, e3, Option.bind_some, if_true, Int.toNat_natCast]
      rw [if_pos ⟨by omega, by omega⟩]
    simp -dsimp
    refine drawn_by [⟨0, true, []⟩, ⟨1, true, []⟩, ⟨2, true, []⟩, ⟨3, true, []⟩, ⟨4, true, []⟩, ⟨5, true, []⟩] (by kernel_rfl) (by kernel_rfl) ?_
    simp -dsimp [elSz_eq, hpc]
    have hcut2 := hs.cut (i := i) (j := bs.length) (m := c0) (by omega) (Nat.le_refl _) hc0 (Nat.le_refl _)
    rw [List.take_of_length_le (by rw [List.length_drop]; exact Nat.le_refl _)] at hcut2
    exact hK _ _ ⟨⟨_, by rw [List.take_take, Nat.min_self]; rfl, hcut2⟩, rfl⟩

set_option maxHeartbeats 8000000 in
set_option maxRecDepth 10000 in
theorem pone_spec {h : Heap} {cv bv : Value} {s : SchM} {k : Int} {c : CellM} {bs : List UInt8} {w : Nat} (hcv : SlRep rInt (Old h) h cv s.cards) {F : Nat → Prop} (hF : ∀ b, F b → b < h.size) (hb : SlRep rByte F h bv bs) (hs : SchOk s) (hk : 0 ≤ k ∧ k < 2 ^ s.cards.length) (hc : CelOk s k c) (hn : 1 ≤ c.count ∧ c.count ≤ 300) (hw : w = (dimsM k).length + 2 + 24 * s.ms.toNat) (hwl : w ≤ bs.length) (hB : bs.take w = cellB c) :
    CallH Tryz.prog 127 #[.agg #[cv, .int .i64 s.ms], .int .i64 k, bv] h fun r h' => ∃ ds bv', r = .tuple #[.agg ds.toArray, bv', .bool true] ∧ rCell.rep (Ft h.size none_ h') h' ds c ∧ SlRep rByte F h' bv' (bs.drop w) ∧ Keep none_ h h' := by
  refine callH_by fun K hK => ?_
  refine enter [.cell 6 65, .cell 7 66, .cell 8 4] Tryz.func127 rfl rfl (by kernel_rfl) rfl ?_
  have C := cel_at c
  rw [← hB] at C
  have hcv0 := hcv
  have hb0 := hb
  obtain ⟨a0, c0, rfl, _, _⟩ := hcv.val
  obtain ⟨xa, xc, rfl, hxc, _⟩ := hb.val
  have hd4 := hs.dims.2
  have hms := hs.ms
  obtain ⟨m, em⟩ : ∃ m : Nat, s.ms = m := ⟨s.ms.toNat, by omega⟩
  have emn : s.ms.toNat = m := by omega
  have hsl : c.sum.length = m := by rw [hc.sum, emn]
  have hdl : (dimsM k).length ≤ 4 := cntD_le k 4
  have hkl := hc.klen
  rw [emn, ← hkl] at hw
  -- a piece of what is left
  have hpe : ∀ (q n : Nat), q + n ≤ w → (bs.drop q).take n = ((bs.take w).drop q).take n := fun q n hq => by
    rw [List.drop_take, List.take_take, Nat.min_eq_left (by omega)]
  rw [em]
  simp -dsimp [boxS_eq]
  rw [show h.size + 1 + 1 + 1 + 1 = h.size + 4 from rfl, show h.size + 1 + 1 + 1 = h.size + 3 from rfl, show h.size + 1 + 1 = h.size + 2 from rfl]
  generalize hH : Array.push (Array.push (Array.push (Array.push (Array.push h _) _) _) _) _ = h0
  have k0 : Keep none_ h h0 := by rw [← hH]; exact (((((Keep.refl none_ h).pushed _).pushed _).pushed _).pushed _).pushed _
  have z0 : h0.size = h.size + 5 := by rw [← hH]; simp
  have wS : h0[h.size]? = some (.cells #[.slice a0 s.cards.length c0, .int .i64 m] 30 (0, 0)) := by rw [← hH]; exact push_at (push_at (push_at (push_at (push_new _ _))))
  have wB : h0[h.size + 1]? = some (.cells #[.slice xa bs.length xc] 66 (0, 0)) := by rw [← hH]; exact push_at (push_at (push_at (push_get (by simp))))
  have wC : h0[h.size + 2]? = some (.cells #[.slice none 0 0, .int .i64 0, .slice none 0 0, .slice none 0 0, .slice none 0 0] 65 (0, 0)) := by rw [← hH]; exact push_at (push_at (push_get (by simp)))
  have wL : h0[h.size + 3]? = some (.cells #[.slice none 0 0] 66 (0, 0)) := by rw [← hH]; exact push_at (push_get (by simp))
  have wT : h0[h.size + 4]? = some (.cells #[.bool false] 4 (0, 0)) := by rw [← hH]; exact push_get (by simp)
  refine call_by (dims_spec k h0) ?_
  rintro _ h3 ⟨rfl, e3⟩
  simp -dsimp
  have k3 : Keep none_ h0 h3 := by rw [e3]; exact .push _ _ _
  have hz3 : h3.size = h0.size + 1 := by rw [e3]; simp
  have hD : h3[h0.size]? = some (.cells #[.int .i64 k] 3 (0, 0)) := by rw [e3]; exact push_new _ _
  clear e3
  have k03 : Keep none_ h h3 := k0.trans k3 fun _ _ h => h
  have wS3 := k3.at wS (fun h => h)
  obtain ⟨N, eN⟩ : ∃ N : Nat → Prop, N = fun b => b = h.size + 1 ∨ b = h.size + 2 := ⟨_, rfl⟩
  have hN : ∀ b, N b ↔ b = h.size + 1 ∨ b = h.size + 2 := fun b => by rw [eN]
  obtain ⟨I, hI⟩ : ∃ I : List Nat → (Nat → Prop) → Heap → Prop, ∀ xs M h', I xs M h' ↔ ((∀ b, N b → M b) ∧ (∀ b, M b → b < h'.size ∧ h.size + 1 ≤ b) ∧ ∃ bv kv own, h'[h.size + 1]? = some (.cells #[bv] 66 (0, 0)) ∧ SlRep rByte F h' bv (bs.drop xs.length) ∧
      h'[h.size + 2]? = some (.cells #[kv, .int .i64 0, .slice none 0 0, .slice none 0 0, .slice none 0 0] 65 (0, 0)) ∧ h'[h.size + 3]? = some (.cells #[.slice none 0 0] 66 (0, 0)) ∧ h'[h.size + 4]? = some (.cells #[.bool false] 4 (0, 0)) ∧
      Gr rInt 3 h.size M h' kv (c.key.take xs.length) own ∧ ∀ bk, own = some bk → h3.size + 2 ≤ bk) := ⟨_, fun _ _ _ => Iff.rfl⟩
  refine range_m (val := fun i : Nat => #[.int .i64 (i : Int)]) (first := #[]) (by simp) (by simp) (dims_iter hD) I
    ?_ ?_ N ?_ ?_ (by kernel_rfl) (by kernel_rfl) (fun _ => rfl) (by intro p hp; simp at hp; subst hp; decide) ?_ ?_
  · exact fun hi b hb => (((hI _ _ _).1 hi).2.1 b hb).1
  · intro xs M h4 h5 hi m1 m2 kk
    obtain ⟨hM, hlt, bv, kv, own, w1, r1, w2, w3, w4, g, ho⟩ := (hI _ _ _).1 hi
    exact (hI _ _ _).2 ⟨hM, fun b hb => ⟨Nat.lt_of_lt_of_le (hlt b hb).1 kk.size, (hlt b hb).2⟩, bv, kv, own, kk.at w1 (by omega), r1.mono (fun b hb => ⟨hb, kk.blk b (by have := (hlt _ m2).1; have := hF _ hb; omega) (by have := hF _ hb; omega)⟩), kk.at w2 (by omega), kk.at w3 (by omega), kk.at w4 (by omega), g.lp (fun b hb => (hlt b hb).1) m2 (fun e => by have := ho _ e; omega) kk, ho⟩
  · rintro b rfl
    exact ⟨by omega, fun e => by have := (hN _).1 e; omega⟩
  · intro h4 k4 hz4
    refine (hI _ _ _).2 ⟨fun b hb => .inl hb, fun b hb => ?_, .slice xa bs.length xc, .slice none 0 0, none, k4.at (k3.at wB (fun h => h)) (fun h => h), ?_, k4.at (k3.at wC (fun h => h)) (fun h => h), k4.at (k3.at wL (fun h => h)) (fun h => h), k4.at (k3.at wT (fun h => h)) (fun h => h), .nil _ _ _ _ _, fun b hb => by cases hb⟩
    · rcases hb with hb | hb | hb
      · have := (hN _).1 hb; omega
      · omega
      · omega
    · exact hb0.mono fun b hb => ⟨hb, (k03.trans k4 fun _ _ h => h).blk b (hF _ hb) (fun h => h)⟩
  · rintro xs i M h4 hi4 ⟨hxs, hi, hbi⟩ hz4 m1 m2 t
    simp -dsimp
    refine ⟨.refl _ _, fun h5 k5 e5 => ?_⟩
    obtain ⟨hM, hlt, bv, kv, own, w1, r1, w2, w3, w4, g, ho⟩ := (hI _ _ _).1 hi4
    have hlt' : ∀ b, M b → b < h4.size := fun b hb => (hlt b hb).1
    have t5 := Tr.lp hlt' m2 k5
    have u5 := t.trans t5
    have T5 := Tr.from_ k03 u5 (fun b hb => by have := (hN _).1 hb; omega)
    have g5 := g.lp hlt' m2 (fun e => by have := ho _ e; omega) k5
    have w1' := k5.at w1 (by omega)
    have w2' := k5.at w2 (by omega)
    have w3' := k5.at w3 (by omega)
    have w4' := k5.at w4 (by omega)
    have wS5 := u5.at wS3 (fun hb => by have := (hN _).1 hb; omega)
    have r1' : SlRep rByte F h5 bv (bs.drop xs.length) := r1.mono fun b hb => ⟨hb, k5.blk b (by have := (hlt _ m2).1; have := hF _ hb; omega) (by have := hF _ hb; omega)⟩
    have mB := hM _ ((hN (h.size + 1)).2 (.inl rfl))
    have mC := hM _ ((hN (h.size + 2)).2 (.inr rfl))
    have hid : i < s.cards.length := by
      rcases Nat.lt_or_ge i s.cards.length with h' | h'
      · exact h'
      · rw [bit_high hk.1 hk.2 h'] at hbi; cases hbi
    have hdi : (dimsM k)[xs.length]? = some i := by
      rw [hxs]
      unfold dimsM
      exact filter_at (by omega) hbi
    obtain ⟨hcj, hdv⟩ := List.getElem?_eq_some_iff.1 hdi
    have hjk : xs.length < c.key.length := by omega
    have hkv := hc.key _ hjk hcj
    rw [hdv, List.getD_eq_getElem?_getD, List.getElem?_eq_getElem hid, Option.getD_some] at hkv
    have hv16 := hs.cards _ (List.getElem_mem hid)
    have hb1 : (bs.drop xs.length).take 1 = [byteM c.key[xs.length]] := by
      have h1 := C.key xs.length hjk
      rw [List.getElem?_take_of_lt (by omega)] at h1
      obtain ⟨hlt1, e1⟩ := List.getElem?_eq_some_iff.1 h1
      rw [List.drop_eq_getElem_cons hlt1, List.take_succ_cons, List.take_zero, e1]
    have hx1 : backM [byteM c.key[xs.length]] = c.key[xs.length] := by
      unfold backM
      rw [List.foldl_cons, List.foldl_nil, byteM_small (by omega) (by omega), wrap_i64 (by omega) (by omega)]
      omega
    obtain ⟨b5, o5, rfl, hf5, hc5⟩ := (hcv0.mono (T5.ft (Nat.le_refl 0))).int_at i hid
    have hnlt : ¬ (s.cards[i] ≤ c.key[xs.length]) := by omega
    obtain ⟨va, vn, vc, rfl, hvn⟩ := g5.vals
    simp -dsimp [w1']
    refine call_by (get_spec (n := 1) r1' (by omega) (by rw [List.length_drop]; omega)) ?_
    rintro _ h6 ⟨⟨v', rfl, r6⟩, hh⟩
    subst h6
    rw [hb1, hx1]
    rw [List.drop_drop] at r6
    obtain ⟨va6, vn6, vc6, rfl⟩ : ∃ a n c, v' = .slice a n c := by obtain ⟨a, c, e, _⟩ := r6.val; exact ⟨_, _, _, e⟩
    simp -dsimp [w1']
    generalize hE : Array.setIfInBounds h5 (h.size + 1) _ = h6
    have u6 : Tr M M h5 h6 := by
      rw [← hE]
      exact (⟨.refl _ _, fun _ h => .inl h, fun b hb => by have := hlt' b hb; omega⟩ : Tr M M h5 h5).set _ mB
    have hold : ∀ b, b ≠ h.size + 1 → h6[b]? = h5[b]? := fun b hb => by rw [← hE]; exact set_other _ (fun e => hb e.symm)
    have w6 : h6[h.size + 1]? = some (.cells #[.slice va6 vn6 vc6] 66 (0, 0)) := by rw [← hE]; exact set_same _ (lt_of_blk w1')
    have wS6 := (hold _ (by omega)).trans wS5
    have w2'' := (hold _ (by omega)).trans w2'
    have hne5 : b5 ≠ h.size + 1 := fun e => hf5.2.2 (e ▸ mB)
    have hc6 := hc5
    rw [← hold _ hne5] at hc6
    have g6 : Gr rInt 3 h.size M h6 (.slice va vn vc) (c.key.take xs.length) own := by rw [← hE]; exact g5.set _ mB (fun e => by have := ho _ e; omega)
    simp -dsimp [wS5, idxA_nat hid, hc6, hnlt, w2'']
    have hlk : (c.key.take xs.length).length = xs.length := by rw [List.length_take]; omega
    refine gr_app1 rfl intT g6 u6.lt rfl rfl (by omega) (by omega) ?_
    intro v7 h7 own7 g7 t7 k7 ho7
    have w27 := k7.at w2'' (fun e => by have := ho _ e; omega)
    obtain ⟨va7, vn7, vc7, ev7, _⟩ := g7.vals
    subst ev7
    have s6 := u6.size
    have ho7' : ∀ b, own7 = some b → h3.size + 2 ≤ b := fun b e => (ho7 _ e).elim (ho b) (by omega)
    have k7' : ∀ b, b < h6.size → own ≠ some b → h7[b]? = h6[b]? := fun b hb hno => k7.blk b hb hno
    simp -dsimp [w27]
    have hl7 := t7.size
    have tk : c.key.take (xs ++ [i]).length = c.key.take xs.length ++ [c.key[xs.length]] := by
      rw [List.length_append, List.length_singleton, List.take_add_one, List.getElem?_eq_getElem hjk]
      rfl
    have ho_ne : ∀ b, b < h3.size + 2 → own ≠ some b := fun b hb e => by have := ho _ e; omega
    have ne2 : ∀ {b : Nat} (o : Obj), b ≠ h.size + 2 → (h7.setIfInBounds (h.size + 2) o)[b]? = h7[b]? := fun o hb => set_other o (fun e => hb e.symm)
    refine ⟨fun b => M b ∨ own7 = some b, (hI _ _ _).2 ⟨fun b hb => .inl (hM b hb), fun b hb => ?_, .slice va6 vn6 vc6, .slice va7 vn7 vc7, own7, ?_, ?_, set_same _ (lt_of_blk w27), ?_, ?_, ?_, ho7'⟩, ((t5.trans u6).trans t7).set _ (.inl mC), .inl m1, .inl m2, ?_, ?_⟩
    · have e : (h7.setIfInBounds (h.size + 2) (.cells #[.slice va7 vn7 vc7, .int .i64 0, .slice none 0 0, .slice none 0 0, .slice none 0 0] 65)).size = h7.size := by simp
      rw [e]
      refine ⟨t7.lt b hb, ?_⟩
      rcases hb with hb | hb
      · exact (hlt b hb).2
      · have := ho7' b hb; omega
    · rw [ne2 _ (by omega), k7' _ (by omega) (ho_ne _ (by omega))]; exact w6
    · rw [List.length_append, List.length_singleton]
      refine r6.mono fun b hb => ⟨hb, ?_⟩
      have h1 := hF _ hb
      rw [ne2 _ (by omega), k7' _ (by omega) (ho_ne _ (by omega)), hold _ (by omega)]
    · rw [ne2 _ (by omega), k7' _ (by omega) (ho_ne _ (by omega)), hold _ (by omega)]; exact w3'
    · rw [ne2 _ (by omega), k7' _ (by omega) (ho_ne _ (by omega)), hold _ (by omega)]; exact w4'
    · rw [tk]
      exact g7.set _ (.inl mC) (fun e => by have := ho7' _ e; omega)
    · rw [ne2 _ (by omega), k7' _ (by omega) (ho_ne _ (by omega)), hold _ (by omega)]
    · rw [ne2 _ (by omega), k7' _ (by omega) (ho_ne _ (by omega)), hold _ (by omega)]
  · rintro xs M h4 rfl hi4 hdm hz4 m1 m2 t
    obtain ⟨hM, hlt, bv, kv, own, x1, r1, x2, x3, x4, g, ho⟩ := (hI _ _ _).1 hi4
    have T4 := Tr.from_ k03 t (fun b hb => by have := (hN _).1 hb; omega)
    have mB := hM _ ((hN (h.size + 1)).2 (.inl rfl))
    have mC := hM _ ((hN (h.size + 2)).2 (.inr rfl))
    rw [← hkl] at r1 g
    rw [List.take_length] at g
    have wS4 := t.at wS3 (fun hb => by have := (hN _).1 hb; omega)
    obtain ⟨va, vc, rfl⟩ := g.val
    have hc2 : (bs.drop c.key.length).take 2 = w2 c.count := by rw [hpe _ _ (by omega)]; exact C.count
    simp -dsimp [x1]
    refine call_by (get_spec (n := 2) r1 (by omega) (by rw [List.length_drop]; omega)) ?_
    rintro _ h5 ⟨⟨v', rfl, r5⟩, hh⟩
    subst h5
    rw [hc2, back2 (by omega) (by omega)]
    rw [List.drop_drop] at r5
    obtain ⟨va5, vn5, vc5, rfl⟩ : ∃ a n c, v' = .slice a n c := by obtain ⟨a, c, e, _⟩ := r5.val; exact ⟨_, _, _, e⟩
    have hne21 : h.size + 2 ≠ h.size + 1 := by omega
    have hne12 : h.size + 1 ≠ h.size + 2 := by omega
    simp -dsimp [x1, x2, set_other _ hne21, wS4]
    generalize hE : Array.setIfInBounds (Array.setIfInBounds h4 _ _) _ _ = y0
    have tN : Tr M M h4 h4 := ⟨.refl _ _, fun _ h => .inl h, fun b hb => (hlt b hb).1⟩
    have u0 : Tr M N h4 y0 := by
      have := ((tN.set (.cells #[.slice va c.key.length vc, .int .i64 c.count, .slice none 0 0, .slice none 0 0, .slice none 0 0] 65) mC).set (.cells #[.slice va5 vn5 vc5] 66) mB).less hM
      rw [← hE]; exact this
    have hold : ∀ b, b ≠ h.size + 1 → b ≠ h.size + 2 → y0[b]? = h4[b]? := fun b n1 n2 => by rw [← hE, set_other _ (fun e => n1 e.symm), set_other _ (fun e => n2 e.symm)]
    have tt0 : Tr none_ N h y0 := Tr.from_ k03 (t.trans u0) (fun b hb => by have := (hN _).1 hb; omega)
    have wB0 : y0[h.size + 1]? = some (.cells #[.slice va5 vn5 vc5] 66 (0, 0)) := by rw [← hE]; exact set_same _ (by have := lt_of_blk x1; simpa using this)
    have wC0 : y0[h.size + 2]? = some (.cells #[.slice va c.key.length vc, .int .i64 c.count, .slice none 0 0, .slice none 0 0, .slice none 0 0] 65 (0, 0)) := by rw [← hE, set_other _ hne12]; exact set_same _ (lt_of_blk x2)
    have wL0 := (hold (h.size + 3) (by omega) (by omega)).trans x3
    have wT0 := (hold (h.size + 4) (by omega) (by omega)).trans x4
    have wD0 := (hold h3.size (by omega) (by omega)).trans hdm
    have r0 : SlRep rByte F y0 (.slice va5 vn5 vc5) (bs.drop (c.key.length + 2)) := r5.mono fun b hb => ⟨hb, by have := hF _ hb; exact hold b (by omega) (by omega)⟩
    have gk : SlRep rInt (Ft h.size N y0) y0 (.slice va c.key.length vc) c.key := g.grow.ints.mono fun b hb => by
      have h1 := ho b hb
      have h2 := g.own_lt b hb
      have e := hold b (by omega) (by omega)
      exact ⟨⟨⟨by omega, fun _ => (g.thaw b hb).at e⟩, by have := u0.size; omega, fun hm => by have := (hN _).1 hm; omega⟩, e⟩
    have hs3 : h3.size + 2 ≤ y0.size := by have := u0.size; omega
    have l8 : ∀ q, q + 8 ≤ w → ((bs.drop q).take 8).length = 8 := fun q hq => by rw [List.length_take, List.length_drop]; omega
    refine loopc (σ := Nat × Value × Value × Value) (fun t => [(5, .pointer (some ⟨h.size + 1, 0, none⟩)), (6, .pointer (some ⟨h.size + 2, 0, none⟩)), (7, .pointer (some ⟨h.size + 3, 0, none⟩)), (8, .pointer (some ⟨h.size + 4, 0, none⟩)), (42, .int .i64 m), (43, .int .i64 t.1)])
      (fun t z => ∃ N1 bv o2 o3 o4, Tr N N1 y0 z ∧ (∀ b, N b → N1 b) ∧ t.1 ≤ m ∧ z[h.size + 1]? = some (.cells #[bv] 66 (0, 0)) ∧ SlRep rByte F z bv (bs.drop (c.key.length + 2 + 24 * t.1)) ∧
        z[h.size + 2]? = some (.cells #[.slice va c.key.length vc, .int .i64 c.count, t.2.1, t.2.2.1, t.2.2.2] 65 (0, 0)) ∧
        Grs rInt 3 h.size N1 z N [⟨t.2.1, c.sum.take t.1, o2⟩, ⟨t.2.2.1, c.mn.take t.1, o3⟩, ⟨t.2.2.2, c.mx.take t.1, o4⟩])
      (fun t => m - t.1) (0, .slice none 0 0, .slice none 0 0, .slice none 0 0) 2 (fun t _ => t.1 = m) noRet noRet_le (by simp) ⟨N, _, none, none, none, u0.here, fun _ h => h, Nat.zero_le _, wB0, r0, wC0, Grs.nils 3⟩ (by kernel_rfl) ?_ ?_
    case refine_1 =>
      rintro ⟨j, v2, v3, v4⟩ z g ⟨N1, bv, o2, o3, o4, tz, hN1, hj, wBz, rz, wCz, gg⟩
      simp only at hj rz wCz gg
      have wj := wrap_succ (k := j) (by omega)
      obtain ⟨va2, vn2, vc2, rfl, _⟩ := (gg.at (i := 0) rfl).vals
      obtain ⟨va3, vn3, vc3, rfl, _⟩ := (gg.at (i := 1) rfl).vals
      obtain ⟨va4, vn4, vc4, rfl, _⟩ := (gg.at (i := 2) rfl).vals
      by_cases hjl : j < m
      · have hjl' : (j : Int) < m := by omega
        obtain ⟨q, eq⟩ : ∃ q, q = c.key.length + 2 + 24 * j := ⟨_, rfl⟩
        have hqw : q + 24 ≤ w := by omega
        rw [← eq] at rz
        have b0 : backM ((bs.drop q).take 8) = c.sum.getD j 0 := by
          rw [hpe _ _ (by omega), eq, C.sum j (by omega)]; exact back8 (hc.i64 j).1.1 (hc.i64 j).1.2
        have b1 : backM ((bs.drop (q + 8)).take 8) = c.mn.getD j 0 := by
          rw [hpe _ _ (by omega), eq, C.mn j (by omega)]; exact back8 (hc.i64 j).2.1.1 (hc.i64 j).2.1.2
        have b2 : backM ((bs.drop (q + 16)).take 8) = c.mx.getD j 0 := by
          rw [hpe _ _ (by omega), eq, C.mx j (by omega)]; exact back8 (hc.i64 j).2.2.1 (hc.i64 j).2.2.2
        obtain ⟨vS, evS⟩ : ∃ x, x = c.sum.getD j 0 := ⟨_, rfl⟩
        obtain ⟨vN, evN⟩ : ∃ x, x = c.mn.getD j 0 := ⟨_, rfl⟩
        obtain ⟨vX, evX⟩ : ∃ x, x = c.mx.getD j 0 := ⟨_, rfl⟩
        rw [← evS] at b0
        rw [← evN] at b1
        rw [← evX] at b2
        simp -dsimp [hjl']
        obtain ⟨ba, eba⟩ : ∃ ba, ba = z.size := ⟨_, rfl⟩
        rw [← eba]
        generalize hPz : Array.push z _ = z1
        have kz1 : Keep none_ z z1 := by rw [← hPz]; exact .push _ _ _
        have zz1 : z1.size = z.size + 1 := by rw [← hPz]; simp
        have wA : z1[ba]? = some (.cells #[.int .i64 0, .int .i64 0, .int .i64 0] 202 (0, 0)) := by rw [← hPz, eba]; exact push_new _ _
        have wB1 := kz1.at wBz (fun h => h)
        have r1z : SlRep rByte F z1 bv (bs.drop (q + 8 * 0)) := rz.mono fun b hb => ⟨hb, kz1.blk b (by have := hF _ hb; have := tt0.size; have := tz.size; omega) (fun h => h)⟩
        have hbl := lt_of_blk wBz
        have hab : ba ≠ h.size + 1 := by omega
        have hba : h.size + 1 ≠ ba := by omega
        have harT := fun (i : Int) (h0 : 0 ≤ i) (h1 : i < (3 : Nat)) (K : Value → Heap → Prop) (hh : Heap) => indexAddrS_array (P := Tryz.prog) (T := 202) (bk := ba) (off := 0) (n := 3) (s := 1) (k := .i64) (i := i) (K := K) (h := hh) (by simp) h0 h1
        refine loopc (σ := Nat) (fun i => [(5, .pointer (some ⟨h.size + 1, 0, none⟩)), (6, .pointer (some ⟨h.size + 2, 0, none⟩)), (7, .pointer (some ⟨h.size + 3, 0, none⟩)), (8, .pointer (some ⟨h.size + 4, 0, none⟩)), (11, .pointer (some ⟨ba, 0, none⟩)), (42, .int .i64 m), (43, .int .i64 j), (45, .int .i64 i)])
          (fun i y => ∃ bv, Keep (fun b => b = h.size + 1 ∨ b = ba) z1 y ∧ i ≤ 3 ∧ y[h.size + 1]? = some (.cells #[bv] 66 (0, 0)) ∧ SlRep rByte F y bv (bs.drop (q + 8 * i)) ∧
            y[ba]? = some (.cells #[.int .i64 (if 0 < i then vS else 0), .int .i64 (if 1 < i then vN else 0), .int .i64 (if 2 < i then vX else 0)] 202 (0, 0)))
          (fun i => 3 - i) 0 4 (fun i _ => i = 3) noRet noRet_le (by simp) ⟨bv, .refl _ _, by omega, wB1, r1z, by simpa using wA⟩ (by kernel_rfl) ?_ ?_
        case refine_1 =>
          rintro i y g ⟨bv, ky, hi3, wBy, ry, wAy⟩
          have wi := wrap_succ (k := i) (by omega)
          have fin : ∀ (va6 : Option Addr) (vn6 vc6 : Nat) (arr : Array Value), i < 3 → SlRep rByte F y (.slice va6 vn6 vc6) (bs.drop (q + 8 * (i + 1))) → arr = #[.int .i64 (if 0 < i + 1 then vS else 0), .int .i64 (if 1 < i + 1 then vN else 0), .int .i64 (if 2 < i + 1 then vX else 0)] →
              ∃ bv, Keep (fun b => b = h.size + 1 ∨ b = ba) z1 ((y.setIfInBounds ba (.cells arr 202 (0, 0))).setIfInBounds (h.size + 1) (.cells #[.slice va6 vn6 vc6] 66 (0, 0))) ∧ i + 1 ≤ 3 ∧ ((y.setIfInBounds ba (.cells arr 202 (0, 0))).setIfInBounds (h.size + 1) (.cells #[.slice va6 vn6 vc6] 66 (0, 0)))[h.size + 1]? = some (.cells #[bv] 66 (0, 0)) ∧
                SlRep rByte F ((y.setIfInBounds ba (.cells arr 202 (0, 0))).setIfInBounds (h.size + 1) (.cells #[.slice va6 vn6 vc6] 66 (0, 0))) bv (bs.drop (q + 8 * (i + 1))) ∧
                ((y.setIfInBounds ba (.cells arr 202 (0, 0))).setIfInBounds (h.size + 1) (.cells #[.slice va6 vn6 vc6] 66 (0, 0)))[ba]? = some (.cells #[.int .i64 (if 0 < i + 1 then vS else 0), .int .i64 (if 1 < i + 1 then vN else 0), .int .i64 (if 2 < i + 1 then vX else 0)] 202 (0, 0)) := by
            intro va6 vn6 vc6 arr hi r6 ea
            have h1 := lt_of_blk wBy
            have h2 := lt_of_blk wAy
            refine ⟨_, (ky.setted _ fun _ => .inr rfl).setted _ fun _ => .inl rfl, hi, set_same _ (by simpa using h1), r6.mono fun b hb => ⟨hb, ?_⟩, ?_⟩
            · have := hF _ hb
              have := tt0.size
              have := tz.size
              rw [set_other _ (by omega), set_other _ (by omega)]
            · rw [set_other _ hba, set_same _ h2, ea]
          by_cases e0 : i = 0
          · subst e0
            replace ry : SlRep rByte F y bv (bs.drop (q)) := ry
            simp -dsimp [wBy]
            refine call_by (get_spec (n := 8) ry (by omega) (by rw [List.length_drop]; omega)) ?_
            rintro _ y2 ⟨⟨v', rfl, r6⟩, hh⟩
            subst y2
            rw [b0]
            rw [List.drop_drop] at r6
            obtain ⟨va6, vn6, vc6, rfl⟩ : ∃ a n c, v' = .slice a n c := by obtain ⟨a, c, e, _⟩ := r6.val; exact ⟨_, _, _, e⟩
            simp -dsimp [harT 0 (by omega) (by omega), wAy, wBy, set_other _ hab]
            exact ⟨1, by simp, rfl, fin va6 vn6 vc6 _ (by omega) r6 (by simp), by show 3 - (1) < 3 - 0; omega⟩
          by_cases e1 : i = 1
          · subst e1
            replace ry : SlRep rByte F y bv (bs.drop (q + 8)) := ry
            simp -dsimp [wBy]
            refine call_by (get_spec (n := 8) ry (by omega) (by rw [List.length_drop]; omega)) ?_
            rintro _ y2 ⟨⟨v', rfl, r6⟩, hh⟩
            subst y2
            rw [b1]
            rw [List.drop_drop] at r6
            obtain ⟨va6, vn6, vc6, rfl⟩ : ∃ a n c, v' = .slice a n c := by obtain ⟨a, c, e, _⟩ := r6.val; exact ⟨_, _, _, e⟩
            simp -dsimp [harT 1 (by omega) (by omega), wAy, wBy, set_other _ hab]
            exact ⟨2, by simp, rfl, fin va6 vn6 vc6 _ (by omega) r6 (by simp), by show 3 - (2) < 3 - 1; omega⟩
          by_cases e2 : i = 2
          · subst e2
            replace ry : SlRep rByte F y bv (bs.drop (q + 16)) := ry
            simp -dsimp [wBy]
            refine call_by (get_spec (n := 8) ry (by omega) (by rw [List.length_drop]; omega)) ?_
            rintro _ y2 ⟨⟨v', rfl, r6⟩, hh⟩
            subst y2
            rw [b2]
            rw [List.drop_drop] at r6
            obtain ⟨va6, vn6, vc6, rfl⟩ : ∃ a n c, v' = .slice a n c := by obtain ⟨a, c, e, _⟩ := r6.val; exact ⟨_, _, _, e⟩
            simp -dsimp [harT 2 (by omega) (by omega), wAy, wBy, set_other _ hab]
            exact ⟨3, by simp, rfl, fin va6 vn6 vc6 _ (by omega) r6 (by simp), by show 3 - (3) < 3 - 2; omega⟩
          have hi' : ¬ (i : Int) < 3 := by omega
          simp -dsimp [hi']
          exact ⟨rfl, i, by simp, rfl, ⟨bv, ky, hi3, wBy, ry, wAy⟩, by show i = 3; omega⟩
        rintro i y g ⟨bv, ky, hi3, wBy, ry, wAy⟩ hi
        have hi : i = 3 := hi
        subst hi
        obtain ⟨Y, eY⟩ : ∃ Y, Y = y := ⟨_, rfl⟩
        rw [← eY] at ky wBy ry wAy ⊢
        have wAY : Y[ba]? = some (.cells #[.int .i64 vS, .int .i64 vN, .int .i64 vX] 202 (0, 0)) := wAy
        have wBY := wBy
        have ry : SlRep rByte F Y bv (bs.drop (q + 24)) := ry
        obtain ⟨N2, eN2⟩ : ∃ N2 : Nat → Prop, N2 = fun b => N1 b ∨ b = z.size := ⟨_, rfl⟩
        have hN2' : ∀ b, N2 b ↔ N1 b ∨ b = z.size := fun b => by rw [eN2]
        have tz1 : Tr N1 N2 z z1 := by rw [eN2, ← hPz]; exact tz.here.pushM _
        have t1Y : Tr N2 N2 z1 Y := ⟨ky.weaken fun b _ hb => (hN2' b).2 (hb.elim (fun e => .inl (hN1 _ ((hN _).2 (.inl e)))) (fun e => .inr (e.trans eba))), fun _ h => .inl h, fun b hb => Nat.lt_of_lt_of_le (tz1.lt b hb) ky.size⟩
        have tY := tz1.trans t1Y
        have kzY : Keep (fun b => b = h.size + 1 ∨ b = ba) z Y := (kz1.none : Keep (fun b => b = h.size + 1 ∨ b = ba) z z1).trans ky fun b _ hb => hb
        have wCY := kzY.at wCz (by have := lt_of_blk wCz; omega)
        have GY : Grs rInt 3 h.size N2 Y N [⟨.slice va2 vn2 vc2, c.sum.take j, o2⟩, ⟨.slice va3 vn3 vc3, c.mn.take j, o3⟩, ⟨.slice va4 vn4 vc4, c.mx.take j, o4⟩] := gg.over tY kzY (fun b hb hbz => hb.elim (fun e => (hN _).2 (.inl e)) (fun e => by omega)) fun b hb => (hN2' b).2 (.inl hb)
        have hNlt : ∀ b, N b → b < z.size := fun b hb => tz.lt b (hN1 b hb)
        have hN2 : ∀ b, N2 b → N2 b := fun _ h => h
        have hoz := fun (i : Nat) (t : GI Int) (hi : [(⟨.slice va2 vn2 vc2, c.sum.take j, o2⟩ : GI Int), ⟨.slice va3 vn3 vc3, c.mn.take j, o3⟩, ⟨.slice va4 vn4 vc4, c.mx.take j, o4⟩][i]? = some t) (b : Nat) (hb : (b = h.size + 1 ∨ b = h.size + 2) ∨ z.size ≤ b) => show t.o ≠ some b from fun e => by
          have h1 := (gg.gr t (List.mem_of_getElem? hi)).2 b e
          have h2 := (gg.at hi).own_lt b e
          rcases hb with (hb | hb) | hb
          · exact h1.1 ((hN b).2 (.inl hb))
          · exact h1.1 ((hN b).2 (.inr hb))
          · omega
        have hno0 : ∀ b, (b = h.size + 1 ∨ b = h.size + 2) ∨ z.size ≤ b → o2 ≠ some b := hoz 0 _ rfl
        have hno1 : ∀ b, (b = h.size + 1 ∨ b = h.size + 2) ∨ z.size ≤ b → o3 ≠ some b := hoz 1 _ rfl
        have hno2 : ∀ b, (b = h.size + 1 ∨ b = h.size + 2) ∨ z.size ≤ b → o4 ≠ some b := hoz 2 _ rfl
        have ll : ∀ f : List Int, (f.take j).length ≤ j := fun f => by rw [List.length_take]; omega
        have wCp1 : ∀ {y : Heap} {b : Nat} {ob : Obj}, y[b]? = some ob → ∀ o, (y.push o)[b]? = some ob := fun w o => push_at w
        have wCp2 : ∀ {y : Heap} {b : Nat} {ob : Obj}, y[b]? = some ob → ∀ o o', ((y.push o).push o')[b]? = some ob := fun w o o' => push_at (push_at w)
        have wCp3 : ∀ {y : Heap} {b : Nat} {ob : Obj}, y[b]? = some ob → ∀ o o' o'', (((y.push o).push o').push o'')[b]? = some ob := fun w o o' o'' => push_at (push_at (push_at w))
        have hgt : ¬ (vX < vN) := by rw [evX, evN]; have := hc.le j; omega
        have htk : ∀ (l : List Int), j < l.length → l.take (j + 1) = l.take j ++ [l.getD j 0] := fun l hl => by
          rw [List.take_add_one, List.getElem?_eq_getElem hl, List.getD_eq_getElem?_getD, List.getElem?_eq_getElem hl]
          rfl
        simp -dsimp [harT 1 (by omega) (by omega), harT 2 (by omega) (by omega), wAY, hgt]
        have idA0 : ∀ sz, idxV sz (some (3, 1)) (.pointer (some ⟨ba, 0, none⟩)) (.int .i64 0) = some (.pointer (some ⟨ba, 0, none⟩)) := fun sz => by simp [idxV]
        have idA1 : ∀ sz, idxV sz (some (3, 1)) (.pointer (some ⟨ba, 0, none⟩)) (.int .i64 1) = some (.pointer (some ⟨ba, 1, none⟩)) := fun sz => by simp [idxV]
        have idA2 : ∀ sz, idxV sz (some (3, 1)) (.pointer (some ⟨ba, 0, none⟩)) (.int .i64 2) = some (.pointer (some ⟨ba, 2, none⟩)) := fun sz => by simp [idxV]
        have hb1 : h.size + 1 < Y.size := lt_of_blk wBY
        have fin : ∀ (y : Heap) (M : Nat → Prop) (r0 : Option Addr) (n0 c0' : Nat) (r1 : Option Addr) (n1 c1 : Nat) (r2 : Option Addr) (n2 c2 : Nat) (p0 p1 p2 : Option Nat), Tr N1 M z y → (∀ b, N2 b → M b) → Grs rInt 3 h.size M y N [⟨.slice r0 n0 c0', c.sum.take j ++ [vS], p0⟩, ⟨.slice r1 n1 c1, c.mn.take j ++ [vN], p1⟩, ⟨.slice r2 n2 c2, c.mx.take j ++ [vX], p2⟩] →
            y[h.size + 1]? = some (.cells #[bv] 66 (0, 0)) → y[h.size + 2]? = some (.cells #[.slice va c.key.length vc, .int .i64 c.count, .slice va2 vn2 vc2, .slice va3 vn3 vc3, .slice va4 vn4 vc4] 65 (0, 0)) → Tr N2 M Y y →
            ∃ N1 bv o2 o3 o4, Tr N N1 y0 (y.setIfInBounds (h.size + 2) (.cells #[.slice va c.key.length vc, .int .i64 c.count, .slice r0 n0 c0', .slice r1 n1 c1, .slice r2 n2 c2] 65 (0, 0))) ∧ (∀ b, N b → N1 b) ∧ j + 1 ≤ m ∧ (y.setIfInBounds (h.size + 2) (.cells #[.slice va c.key.length vc, .int .i64 c.count, .slice r0 n0 c0', .slice r1 n1 c1, .slice r2 n2 c2] 65 (0, 0)))[h.size + 1]? = some (.cells #[bv] 66 (0, 0)) ∧
              SlRep rByte F (y.setIfInBounds (h.size + 2) (.cells #[.slice va c.key.length vc, .int .i64 c.count, .slice r0 n0 c0', .slice r1 n1 c1, .slice r2 n2 c2] 65 (0, 0))) bv (bs.drop (c.key.length + 2 + 24 * (j + 1))) ∧
              (y.setIfInBounds (h.size + 2) (.cells #[.slice va c.key.length vc, .int .i64 c.count, .slice r0 n0 c0', .slice r1 n1 c1, .slice r2 n2 c2] 65 (0, 0)))[h.size + 2]? = some (.cells #[.slice va c.key.length vc, .int .i64 c.count, .slice r0 n0 c0', .slice r1 n1 c1, .slice r2 n2 c2] 65 (0, 0)) ∧
              Grs rInt 3 h.size N1 (y.setIfInBounds (h.size + 2) (.cells #[.slice va c.key.length vc, .int .i64 c.count, .slice r0 n0 c0', .slice r1 n1 c1, .slice r2 n2 c2] 65 (0, 0))) N [⟨.slice r0 n0 c0', c.sum.take (j + 1), o2⟩, ⟨.slice r1 n1 c1, c.mn.take (j + 1), o3⟩, ⟨.slice r2 n2 c2, c.mx.take (j + 1), o4⟩] := by
          intro y M r0 n0 c0' r1 n1 c1 r2 n2 c2 p0 p1 p2 tr hm G wB wC tYy
          have hNM : ∀ b, N b → M b := fun b hb => hm b ((hN2' b).2 (.inl (hN1 b hb)))
          have hNC := (hN (h.size + 2)).2 (.inr rfl)
          refine ⟨M, bv, p0, p1, p2, (tz.trans tr).set _ (hNM _ hNC), hNM, hjl, (set_other _ (by omega)).trans wB, ?_, set_same _ (lt_of_blk wC), ?_⟩
          · have e : c.key.length + 2 + 24 * (j + 1) = q + 24 := by omega
            rw [e]
            refine ry.mono fun b hb => ⟨hb, ?_⟩
            have h1 := hF _ hb
            have h2 := tt0.size
            have h3 := tz.size
            have h4 := tY.size
            rw [set_other _ (by omega), tYy.keep.blk b (by omega) fun h5 => ?_]
            rcases (hN2' b).1 h5 with h6 | h6
            · have := (tt0.trans tz).fresh b h6; omega
            · omega
          · rw [htk c.sum (by omega), htk c.mn (by rw [hc.mn]; omega), htk c.mx (by rw [hc.mx]; omega), ← evS, ← evN, ← evX]
            exact G.wr _ (hNM _ hNC) hNC
        refine drawn_byT (.node 4 10 (.node 4 16 (.node 5 10 (.node 5 16 (.node 10 16 (.node 11 16 (.leaf [⟨0, true, []⟩, ⟨1, true, []⟩, ⟨2, true, []⟩, ⟨3, true, []⟩, ⟨6, true, []⟩, ⟨7, true, []⟩, ⟨8, true, []⟩, ⟨9, true, []⟩, ⟨12, true, []⟩, ⟨13, true, []⟩, ⟨14, true, []⟩, ⟨15, true, []⟩, ⟨4, false, [0, 1, 6, 7, 8, 9, 12, 13, 14, 15]⟩, ⟨5, false, [6, 7, 8, 9, 12, 13, 14, 15]⟩, ⟨18, true, []⟩, ⟨10, false, [6, 7, 12, 13, 14, 15, 18]⟩, ⟨11, false, [12, 13, 14, 15, 18]⟩, ⟨16, false, [12, 13, 18]⟩, ⟨17, false, [18]⟩, ⟨19, false, []⟩, ⟨20, true, []⟩, ⟨21, false, []⟩, ⟨22, true, []⟩, ⟨23, false, []⟩]) (.leaf [⟨0, true, []⟩, ⟨1, true, []⟩, ⟨2, true, []⟩, ⟨3, true, []⟩, ⟨6, true, []⟩, ⟨7, true, []⟩, ⟨8, true, []⟩, ⟨9, true, []⟩, ⟨12, true, []⟩, ⟨13, true, []⟩, ⟨14, true, []⟩, ⟨15, true, []⟩, ⟨4, false, [0, 1, 6, 7, 8, 9, 12, 13, 14, 15]⟩, ⟨5, false, [6, 7, 8, 9, 12, 13, 14, 15]⟩, ⟨18, true, []⟩, ⟨10, false, [6, 7, 12, 13, 14, 15, 18]⟩, ⟨16, false, [6, 7, 12, 13, 18]⟩, ⟨11, false, [12, 13, 18]⟩, ⟨17, false, [18]⟩, ⟨19, false, []⟩, ⟨20, true, []⟩, ⟨21, false, []⟩, ⟨22, true, []⟩, ⟨23, false, []⟩])) (.leaf [⟨0, true, []⟩, ⟨1, true, []⟩, ⟨2, true, []⟩, ⟨3, true, []⟩, ⟨6, true, []⟩, ⟨7, true, []⟩, ⟨8, true, []⟩, ⟨9, true, []⟩, ⟨12, true, []⟩, ⟨13, true, []⟩, ⟨14, true, []⟩, ⟨15, true, []⟩, ⟨4, false, [0, 1, 6, 7, 8, 9, 12, 13, 14, 15]⟩, ⟨5, false, [6, 7, 8, 9, 12, 13, 14, 15]⟩, ⟨18, true, []⟩, ⟨16, false, [6, 7, 8, 9, 12, 13, 18]⟩, ⟨10, false, [6, 7, 12, 13, 18]⟩, ⟨11, false, [12, 13, 18]⟩, ⟨17, false, [18]⟩, ⟨19, false, []⟩, ⟨20, true, []⟩, ⟨21, false, []⟩, ⟨22, true, []⟩, ⟨23, false, []⟩])) (.leaf [⟨0, true, []⟩, ⟨1, true, []⟩, ⟨2, true, []⟩, ⟨3, true, []⟩, ⟨6, true, []⟩, ⟨7, true, []⟩, ⟨8, true, []⟩, ⟨9, true, []⟩, ⟨12, true, []⟩, ⟨13, true, []⟩, ⟨14, true, []⟩, ⟨15, true, []⟩, ⟨4, false, [0, 1, 6, 7, 8, 9, 12, 13, 14, 15]⟩, ⟨16, false, [0, 1, 6, 7, 8, 9, 12, 13]⟩, ⟨5, false, [6, 7, 8, 9, 12, 13]⟩, ⟨18, true, []⟩, ⟨10, false, [6, 7, 12, 13, 18]⟩, ⟨11, false, [12, 13, 18]⟩, ⟨17, false, [18]⟩, ⟨19, false, []⟩, ⟨20, true, []⟩, ⟨21, false, []⟩, ⟨22, true, []⟩, ⟨23, false, []⟩])) (.node 10 16 (.node 5 16 (.node 11 16 (.leaf [⟨0, true, []⟩, ⟨1, true, []⟩, ⟨2, true, []⟩, ⟨3, true, []⟩, ⟨6, true, []⟩, ⟨7, true, []⟩, ⟨8, true, []⟩, ⟨9, true, []⟩, ⟨12, true, []⟩, ⟨13, true, []⟩, ⟨14, true, []⟩, ⟨15, true, []⟩, ⟨4, false, [0, 1, 6, 7, 8, 9, 12, 13, 14, 15]⟩, ⟨10, false, [0, 1, 6, 7, 12, 13, 14, 15]⟩, ⟨5, false, [6, 7, 12, 13, 14, 15]⟩, ⟨18, true, []⟩, ⟨11, false, [12, 13, 14, 15, 18]⟩, ⟨16, false, [12, 13, 18]⟩, ⟨17, false, [18]⟩, ⟨19, false, []⟩, ⟨20, true, []⟩, ⟨21, false, []⟩, ⟨22, true, []⟩, ⟨23, false, []⟩]) (.leaf [⟨0, true, []⟩, ⟨1, true, []⟩, ⟨2, true, []⟩, ⟨3, true, []⟩, ⟨6, true, []⟩, ⟨7, true, []⟩, ⟨8, true, []⟩, ⟨9, true, []⟩, ⟨12, true, []⟩, ⟨13, true, []⟩, ⟨14, true, []⟩, ⟨15, true, []⟩, ⟨4, false, [0, 1, 6, 7, 8, 9, 12, 13, 14, 15]⟩, ⟨10, false, [0, 1, 6, 7, 12, 13, 14, 15]⟩, ⟨5, false, [6, 7, 12, 13, 14, 15]⟩, ⟨18, true, []⟩, ⟨16, false, [6, 7, 12, 13, 18]⟩, ⟨11, false, [12, 13, 18]⟩, ⟨17, false, [18]⟩, ⟨19, false, []⟩, ⟨20, true, []⟩, ⟨21, false, []⟩, ⟨22, true, []⟩, ⟨23, false, []⟩])) (.leaf [⟨0, true, []⟩, ⟨1, true, []⟩, ⟨2, true, []⟩, ⟨3, true, []⟩, ⟨6, true, []⟩, ⟨7, true, []⟩, ⟨8, true, []⟩, ⟨9, true, []⟩, ⟨12, true, []⟩, ⟨13, true, []⟩, ⟨14, true, []⟩, ⟨15, true, []⟩, ⟨4, false, [0, 1, 6, 7, 8, 9, 12, 13, 14, 15]⟩, ⟨10, false, [0, 1, 6, 7, 12, 13, 14, 15]⟩, ⟨16, false, [0, 1, 6, 7, 12, 13]⟩, ⟨5, false, [6, 7, 12, 13]⟩, ⟨18, true, []⟩, ⟨11, false, [12, 13, 18]⟩, ⟨17, false, [18]⟩, ⟨19, false, []⟩, ⟨20, true, []⟩, ⟨21, false, []⟩, ⟨22, true, []⟩, ⟨23, false, []⟩])) (.leaf [⟨0, true, []⟩, ⟨1, true, []⟩, ⟨2, true, []⟩, ⟨3, true, []⟩, ⟨6, true, []⟩, ⟨7, true, []⟩, ⟨8, true, []⟩, ⟨9, true, []⟩, ⟨12, true, []⟩, ⟨13, true, []⟩, ⟨14, true, []⟩, ⟨15, true, []⟩, ⟨4, false, [0, 1, 6, 7, 8, 9, 12, 13, 14, 15]⟩, ⟨16, false, [0, 1, 6, 7, 8, 9, 12, 13]⟩, ⟨10, false, [0, 1, 6, 7, 12, 13]⟩, ⟨5, false, [6, 7, 12, 13]⟩, ⟨18, true, []⟩, ⟨11, false, [12, 13, 18]⟩, ⟨17, false, [18]⟩, ⟨19, false, []⟩, ⟨20, true, []⟩, ⟨21, false, []⟩, ⟨22, true, []⟩, ⟨23, false, []⟩]))) (.node 5 10 (.leaf [⟨0, true, []⟩, ⟨1, true, []⟩, ⟨2, true, []⟩, ⟨3, true, []⟩, ⟨6, true, []⟩, ⟨7, true, []⟩, ⟨8, true, []⟩, ⟨9, true, []⟩, ⟨12, true, []⟩, ⟨13, true, []⟩, ⟨14, true, []⟩, ⟨15, true, []⟩, ⟨16, false, [0, 1, 2, 3, 6, 7, 8, 9, 12, 13]⟩, ⟨4, false, [0, 1, 6, 7, 8, 9, 12, 13]⟩, ⟨5, false, [6, 7, 8, 9, 12, 13]⟩, ⟨18, true, []⟩, ⟨10, false, [6, 7, 12, 13, 18]⟩, ⟨11, false, [12, 13, 18]⟩, ⟨17, false, [18]⟩, ⟨19, false, []⟩, ⟨20, true, []⟩, ⟨21, false, []⟩, ⟨22, true, []⟩, ⟨23, false, []⟩]) (.leaf [⟨0, true, []⟩, ⟨1, true, []⟩, ⟨2, true, []⟩, ⟨3, true, []⟩, ⟨6, true, []⟩, ⟨7, true, []⟩, ⟨8, true, []⟩, ⟨9, true, []⟩, ⟨12, true, []⟩, ⟨13, true, []⟩, ⟨14, true, []⟩, ⟨15, true, []⟩, ⟨16, false, [0, 1, 2, 3, 6, 7, 8, 9, 12, 13]⟩, ⟨4, false, [0, 1, 6, 7, 8, 9, 12, 13]⟩, ⟨10, false, [0, 1, 6, 7, 12, 13]⟩, ⟨5, false, [6, 7, 12, 13]⟩, ⟨18, true, []⟩, ⟨11, false, [12, 13, 18]⟩, ⟨17, false, [18]⟩, ⟨19, false, []⟩, ⟨20, true, []⟩, ⟨21, false, []⟩, ⟨22, true, []⟩, ⟨23, false, []⟩]))) (.node 10 16 (.node 4 16 (.node 5 16 (.node 11 16 (.leaf [⟨0, true, []⟩, ⟨1, true, []⟩, ⟨2, true, []⟩, ⟨3, true, []⟩, ⟨6, true, []⟩, ⟨7, true, []⟩, ⟨8, true, []⟩, ⟨9, true, []⟩, ⟨12, true, []⟩, ⟨13, true, []⟩, ⟨14, true, []⟩, ⟨15, true, []⟩, ⟨10, false, [0, 1, 2, 3, 6, 7, 12, 13, 14, 15]⟩, ⟨4, false, [0, 1, 6, 7, 12, 13, 14, 15]⟩, ⟨5, false, [6, 7, 12, 13, 14, 15]⟩, ⟨18, true, []⟩, ⟨11, false, [12, 13, 14, 15, 18]⟩, ⟨16, false, [12, 13, 18]⟩, ⟨17, false, [18]⟩, ⟨19, false, []⟩, ⟨20, true, []⟩, ⟨21, false, []⟩, ⟨22, true, []⟩, ⟨23, false, []⟩]) (.leaf [⟨0, true, []⟩, ⟨1, true, []⟩, ⟨2, true, []⟩, ⟨3, true, []⟩, ⟨6, true, []⟩, ⟨7, true, []⟩, ⟨8, true, []⟩, ⟨9, true, []⟩, ⟨12, true, []⟩, ⟨13, true, []⟩, ⟨14, true, []⟩, ⟨15, true, []⟩, ⟨10, false, [0, 1, 2, 3, 6, 7, 12, 13, 14, 15]⟩, ⟨4, false, [0, 1, 6, 7, 12, 13, 14, 15]⟩, ⟨5, false, [6, 7, 12, 13, 14, 15]⟩, ⟨18, true, []⟩, ⟨16, false, [6, 7, 12, 13, 18]⟩, ⟨11, false, [12, 13, 18]⟩, ⟨17, false, [18]⟩, ⟨19, false, []⟩, ⟨20, true, []⟩, ⟨21, false, []⟩, ⟨22, true, []⟩, ⟨23, false, []⟩])) (.leaf [⟨0, true, []⟩, ⟨1, true, []⟩, ⟨2, true, []⟩, ⟨3, true, []⟩, ⟨6, true, []⟩, ⟨7, true, []⟩, ⟨8, true, []⟩, ⟨9, true, []⟩, ⟨12, true, []⟩, ⟨13, true, []⟩, ⟨14, true, []⟩, ⟨15, true, []⟩, ⟨10, false, [0, 1, 2, 3, 6, 7, 12, 13, 14, 15]⟩, ⟨4, false, [0, 1, 6, 7, 12, 13, 14, 15]⟩, ⟨16, false, [0, 1, 6, 7, 12, 13]⟩, ⟨5, false, [6, 7, 12, 13]⟩, ⟨18, true, []⟩, ⟨11, false, [12, 13, 18]⟩, ⟨17, false, [18]⟩, ⟨19, false, []⟩, ⟨20, true, []⟩, ⟨21, false, []⟩, ⟨22, true, []⟩, ⟨23, false, []⟩])) (.leaf [⟨0, true, []⟩, ⟨1, true, []⟩, ⟨2, true, []⟩, ⟨3, true, []⟩, ⟨6, true, []⟩, ⟨7, true, []⟩, ⟨8, true, []⟩, ⟨9, true, []⟩, ⟨12, true, []⟩, ⟨13, true, []⟩, ⟨14, true, []⟩, ⟨15, true, []⟩, ⟨10, false, [0, 1, 2, 3, 6, 7, 12, 13, 14, 15]⟩, ⟨16, false, [0, 1, 2, 3, 6, 7, 12, 13]⟩, ⟨4, false, [0, 1, 6, 7, 12, 13]⟩, ⟨5, false, [6, 7, 12, 13]⟩, ⟨18, true, []⟩, ⟨11, false, [12, 13, 18]⟩, ⟨17, false, [18]⟩, ⟨19, false, []⟩, ⟨20, true, []⟩, ⟨21, false, []⟩, ⟨22, true, []⟩, ⟨23, false, []⟩])) (.leaf [⟨0, true, []⟩, ⟨1, true, []⟩, ⟨2, true, []⟩, ⟨3, true, []⟩, ⟨6, true, []⟩, ⟨7, true, []⟩, ⟨8, true, []⟩, ⟨9, true, []⟩, ⟨12, true, []⟩, ⟨13, true, []⟩, ⟨14, true, []⟩, ⟨15, true, []⟩, ⟨16, false, [0, 1, 2, 3, 6, 7, 8, 9, 12, 13]⟩, ⟨10, false, [0, 1, 2, 3, 6, 7, 12, 13]⟩, ⟨4, false, [0, 1, 6, 7, 12, 13]⟩, ⟨5, false, [6, 7, 12, 13]⟩, ⟨18, true, []⟩, ⟨11, false, [12, 13, 18]⟩, ⟨17, false, [18]⟩, ⟨19, false, []⟩, ⟨20, true, []⟩, ⟨21, false, []⟩, ⟨22, true, []⟩, ⟨23, false, []⟩]))) (by kernel_rfl) (by kernel_rfl) ⟨⟨⟨⟨⟨⟨?L0, ?L1⟩, ?L2⟩, ?L3⟩, ⟨⟨⟨?L4, ?L5⟩, ?L6⟩, ?L7⟩⟩, ⟨?L8, ?L9⟩⟩, ⟨⟨⟨⟨?L10, ?L11⟩, ?L12⟩, ?L13⟩, ?L14⟩⟩
        case' L0 =>
          rw [treeW_leaf]
          simp -dsimp [wCY, wCp1 wCY, wAY, wCp1 wAY, idA0, idA1, idA2, again_cons]
          generalize hP1 : Array.push Y _ = Y1
          have kp1 : Keep none_ Y Y1 := by rw [← hP1]; exact (Keep.refl none_ Y).pushed _
          have wE0 : Y1[Y.size]? = some (.cells #[.int .i64 vS] 3 (0, 0)) := by rw [← hP1]; exact push_new _ _
          have wB1 := kp1.at wBY (fun h => h)
          have wC1 := kp1.at wCY (fun h => h)
          have wA1 := kp1.at wAY (fun h => h)
          have t1 := tY.call kp1
          have v1 := tY.here.call kp1
          have G1 := GY.call kp1
          refine grs_at (i := 0) (t := ⟨.slice va2 vn2 vc2, c.sum.take j, o2⟩) (x := vS) (c := [.int .i64 vS]) wE0 intT G1 rfl t1.lt rfl rfl (by show ((c.sum.take j).length + 1) * 8 ≤ _; have := ll c.sum; omega) (by show (c.sum.take j).length + 1 < _; have := ll c.sum; omega) (fun b hb => by have := t1.size; have := hNlt b hb; omega) (by have := t1.size; omega) ?_
          intro ra0 rn0 rc0 Y2 M2 p0 kp2 u2 G2 n2
          have t2 := t1.trans u2
          have v2 := v1.trans u2
          have wB2 := kp2.at wB1 (hno0 _ (by omega))
          have wC2 := kp2.at wC1 (hno0 _ (by omega))
          have wA2 := kp2.at wA1 (hno0 _ (by omega))
          have m2 : ∀ b, N2 b → M2 b := fun b hb => n2 b (hN2 b hb)
          simp -dsimp [wC2, wCp1 wC2, wA2, wCp1 wA2, idA0, idA1, idA2, again_cons]
          generalize hP3 : Array.push Y2 _ = Y3
          have kp3 : Keep none_ Y2 Y3 := by rw [← hP3]; exact (Keep.refl none_ Y2).pushed _
          have wE1 : Y3[Y2.size]? = some (.cells #[.int .i64 vN] 3 (0, 0)) := by rw [← hP3]; exact push_new _ _
          have wB3 := kp3.at wB2 (fun h => h)
          have wC3 := kp3.at wC2 (fun h => h)
          have wA3 := kp3.at wA2 (fun h => h)
          have t3 := t2.call kp3
          have v3 := v2.call kp3
          have G3 := G2.call kp3
          refine grs_at (i := 1) (t := ⟨.slice va3 vn3 vc3, c.mn.take j, o3⟩) (x := vN) (c := [.int .i64 vN]) wE1 intT G3 rfl t3.lt rfl rfl (by show ((c.mn.take j).length + 1) * 8 ≤ _; have := ll c.mn; omega) (by show (c.mn.take j).length + 1 < _; have := ll c.mn; omega) (fun b hb => by have := t3.size; have := hNlt b hb; omega) (by have := t3.size; omega) ?_
          intro ra1 rn1 rc1 Y4 M4 p1 kp4 u4 G4 n4
          have t4 := t3.trans u4
          have v4 := v3.trans u4
          have wB4 := kp4.at wB3 (hno1 _ (by omega))
          have wC4 := kp4.at wC3 (hno1 _ (by omega))
          have wA4 := kp4.at wA3 (hno1 _ (by omega))
          have m4 : ∀ b, N2 b → M4 b := fun b hb => n4 b (m2 b hb)
          simp -dsimp [wC4, wCp1 wC4, wA4, wCp1 wA4, idA0, idA1, idA2, again_cons]
          generalize hP5 : Array.push Y4 _ = Y5
          have kp5 : Keep none_ Y4 Y5 := by rw [← hP5]; exact (Keep.refl none_ Y4).pushed _
          have wE2 : Y5[Y4.size]? = some (.cells #[.int .i64 vX] 3 (0, 0)) := by rw [← hP5]; exact push_new _ _
          have wB5 := kp5.at wB4 (fun h => h)
          have wC5 := kp5.at wC4 (fun h => h)
          have wA5 := kp5.at wA4 (fun h => h)
          have t5 := t4.call kp5
          have v5 := v4.call kp5
          have G5 := G4.call kp5
          refine grs_at (i := 2) (t := ⟨.slice va4 vn4 vc4, c.mx.take j, o4⟩) (x := vX) (c := [.int .i64 vX]) wE2 intT G5 rfl t5.lt rfl rfl (by show ((c.mx.take j).length + 1) * 8 ≤ _; have := ll c.mx; omega) (by show (c.mx.take j).length + 1 < _; have := ll c.mx; omega) (fun b hb => by have := t5.size; have := hNlt b hb; omega) (by have := t5.size; omega) ?_
          intro ra2 rn2 rc2 Y6 M6 p2 kp6 u6 G6 n6
          have t6 := t5.trans u6
          have v6 := v5.trans u6
          have wB6 := kp6.at wB5 (hno2 _ (by omega))
          have wC6 := kp6.at wC5 (hno2 _ (by omega))
          have wA6 := kp6.at wA5 (hno2 _ (by omega))
          have m6 : ∀ b, N2 b → M6 b := fun b hb => n6 b (m4 b hb)
          simp -dsimp [wC6, set_same _ (lt_of_blk wC6), Array.setIfInBounds_setIfInBounds, wj, again_cons]
          exact ⟨(j + 1, _, _, _), by simp, rfl, fin Y6 M6 _ _ _ _ _ _ _ _ _ p0 p1 p2 t6 m6 G6 wB6 wC6 v6, by show m - (j + 1) < m - j; omega⟩
        case' L1 =>
          rw [treeW_leaf]
          simp -dsimp [wCY, wCp1 wCY, wAY, wCp1 wAY, idA0, idA1, idA2, again_cons]
          generalize hP1 : Array.push Y _ = Y1
          have kp1 : Keep none_ Y Y1 := by rw [← hP1]; exact (Keep.refl none_ Y).pushed _
          have wE0 : Y1[Y.size]? = some (.cells #[.int .i64 vS] 3 (0, 0)) := by rw [← hP1]; exact push_new _ _
          have wB1 := kp1.at wBY (fun h => h)
          have wC1 := kp1.at wCY (fun h => h)
          have wA1 := kp1.at wAY (fun h => h)
          have t1 := tY.call kp1
          have v1 := tY.here.call kp1
          have G1 := GY.call kp1
          refine grs_at (i := 0) (t := ⟨.slice va2 vn2 vc2, c.sum.take j, o2⟩) (x := vS) (c := [.int .i64 vS]) wE0 intT G1 rfl t1.lt rfl rfl (by show ((c.sum.take j).length + 1) * 8 ≤ _; have := ll c.sum; omega) (by show (c.sum.take j).length + 1 < _; have := ll c.sum; omega) (fun b hb => by have := t1.size; have := hNlt b hb; omega) (by have := t1.size; omega) ?_
          intro ra0 rn0 rc0 Y2 M2 p0 kp2 u2 G2 n2
          have t2 := t1.trans u2
          have v2 := v1.trans u2
          have wB2 := kp2.at wB1 (hno0 _ (by omega))
          have wC2 := kp2.at wC1 (hno0 _ (by omega))
          have wA2 := kp2.at wA1 (hno0 _ (by omega))
          have m2 : ∀ b, N2 b → M2 b := fun b hb => n2 b (hN2 b hb)
          simp -dsimp [wC2, wCp1 wC2, wCp2 wC2, wA2, wCp1 wA2, wCp2 wA2, idA0, idA1, idA2, again_cons]
          generalize hP3 : Array.push (Array.push Y2 _) _ = Y3
          have kp3 : Keep none_ Y2 Y3 := by rw [← hP3]; exact ((Keep.refl none_ Y2).pushed _).pushed _
          have wE1 : Y3[Y2.size]? = some (.cells #[.int .i64 vN] 3 (0, 0)) := by rw [← hP3]; exact push_at (push_new _ _)
          have wE2 : Y3[Y2.size + 1]? = some (.cells #[.int .i64 vX] 3 (0, 0)) := by rw [← hP3]; exact push_get (by simp)
          have wB3 := kp3.at wB2 (fun h => h)
          have wC3 := kp3.at wC2 (fun h => h)
          have wA3 := kp3.at wA2 (fun h => h)
          have t3 := t2.call kp3
          have v3 := v2.call kp3
          have G3 := G2.call kp3
          refine grs_at (i := 1) (t := ⟨.slice va3 vn3 vc3, c.mn.take j, o3⟩) (x := vN) (c := [.int .i64 vN]) wE1 intT G3 rfl t3.lt rfl rfl (by show ((c.mn.take j).length + 1) * 8 ≤ _; have := ll c.mn; omega) (by show (c.mn.take j).length + 1 < _; have := ll c.mn; omega) (fun b hb => by have := t3.size; have := hNlt b hb; omega) (by have := t3.size; omega) ?_
          intro ra1 rn1 rc1 Y4 M4 p1 kp4 u4 G4 n4
          have t4 := t3.trans u4
          have v4 := v3.trans u4
          have wB4 := kp4.at wB3 (hno1 _ (by omega))
          have wC4 := kp4.at wC3 (hno1 _ (by omega))
          have wA4 := kp4.at wA3 (hno1 _ (by omega))
          replace wE2 := kp4.at wE2 (hno1 _ (by have := t2.size; omega))
          have m4 : ∀ b, N2 b → M4 b := fun b hb => n4 b (m2 b hb)
          simp -dsimp [wC4, wA4, idA0, idA1, idA2, again_cons]
          refine grs_at (i := 2) (t := ⟨.slice va4 vn4 vc4, c.mx.take j, o4⟩) (x := vX) (c := [.int .i64 vX]) wE2 intT G4 rfl t4.lt rfl rfl (by show ((c.mx.take j).length + 1) * 8 ≤ _; have := ll c.mx; omega) (by show (c.mx.take j).length + 1 < _; have := ll c.mx; omega) (fun b hb => by have := t4.size; have := hNlt b hb; omega) (by have := t4.size; omega) ?_
          intro ra2 rn2 rc2 Y5 M5 p2 kp5 u5 G5 n5
          have t5 := t4.trans u5
          have v5 := v4.trans u5
          have wB5 := kp5.at wB4 (hno2 _ (by omega))
          have wC5 := kp5.at wC4 (hno2 _ (by omega))
          have wA5 := kp5.at wA4 (hno2 _ (by omega))
          have m5 : ∀ b, N2 b → M5 b := fun b hb => n5 b (m4 b hb)
          simp -dsimp [wC5, set_same _ (lt_of_blk wC5), Array.setIfInBounds_setIfInBounds, wj, again_cons]
          exact ⟨(j + 1, _, _, _), by simp, rfl, fin Y5 M5 _ _ _ _ _ _ _ _ _ p0 p1 p2 t5 m5 G5 wB5 wC5 v5, by show m - (j + 1) < m - j; omega⟩
        case' L2 =>
          rw [treeW_leaf]
          simp -dsimp [wCY, wCp1 wCY, wAY, wCp1 wAY, idA0, idA1, idA2, again_cons]
          generalize hP1 : Array.push Y _ = Y1
          have kp1 : Keep none_ Y Y1 := by rw [← hP1]; exact (Keep.refl none_ Y).pushed _
          have wE0 : Y1[Y.size]? = some (.cells #[.int .i64 vS] 3 (0, 0)) := by rw [← hP1]; exact push_new _ _
          have wB1 := kp1.at wBY (fun h => h)
          have wC1 := kp1.at wCY (fun h => h)
          have wA1 := kp1.at wAY (fun h => h)
          have t1 := tY.call kp1
          have v1 := tY.here.call kp1
          have G1 := GY.call kp1
          refine grs_at (i := 0) (t := ⟨.slice va2 vn2 vc2, c.sum.take j, o2⟩) (x := vS) (c := [.int .i64 vS]) wE0 intT G1 rfl t1.lt rfl rfl (by show ((c.sum.take j).length + 1) * 8 ≤ _; have := ll c.sum; omega) (by show (c.sum.take j).length + 1 < _; have := ll c.sum; omega) (fun b hb => by have := t1.size; have := hNlt b hb; omega) (by have := t1.size; omega) ?_
          intro ra0 rn0 rc0 Y2 M2 p0 kp2 u2 G2 n2
          have t2 := t1.trans u2
          have v2 := v1.trans u2
          have wB2 := kp2.at wB1 (hno0 _ (by omega))
          have wC2 := kp2.at wC1 (hno0 _ (by omega))
          have wA2 := kp2.at wA1 (hno0 _ (by omega))
          have m2 : ∀ b, N2 b → M2 b := fun b hb => n2 b (hN2 b hb)
          simp -dsimp [wC2, wCp1 wC2, wCp2 wC2, wA2, wCp1 wA2, wCp2 wA2, idA0, idA1, idA2, again_cons]
          generalize hP3 : Array.push (Array.push Y2 _) _ = Y3
          have kp3 : Keep none_ Y2 Y3 := by rw [← hP3]; exact ((Keep.refl none_ Y2).pushed _).pushed _
          have wE2 : Y3[Y2.size]? = some (.cells #[.int .i64 vX] 3 (0, 0)) := by rw [← hP3]; exact push_at (push_new _ _)
          have wE1 : Y3[Y2.size + 1]? = some (.cells #[.int .i64 vN] 3 (0, 0)) := by rw [← hP3]; exact push_get (by simp)
          have wB3 := kp3.at wB2 (fun h => h)
          have wC3 := kp3.at wC2 (fun h => h)
          have wA3 := kp3.at wA2 (fun h => h)
          have t3 := t2.call kp3
          have v3 := v2.call kp3
          have G3 := G2.call kp3
          refine grs_at (i := 1) (t := ⟨.slice va3 vn3 vc3, c.mn.take j, o3⟩) (x := vN) (c := [.int .i64 vN]) wE1 intT G3 rfl t3.lt rfl rfl (by show ((c.mn.take j).length + 1) * 8 ≤ _; have := ll c.mn; omega) (by show (c.mn.take j).length + 1 < _; have := ll c.mn; omega) (fun b hb => by have := t3.size; have := hNlt b hb; omega) (by have := t3.size; omega) ?_
          intro ra1 rn1 rc1 Y4 M4 p1 kp4 u4 G4 n4
          have t4 := t3.trans u4
          have v4 := v3.trans u4
          have wB4 := kp4.at wB3 (hno1 _ (by omega))
          have wC4 := kp4.at wC3 (hno1 _ (by omega))
          have wA4 := kp4.at wA3 (hno1 _ (by omega))
          replace wE2 := kp4.at wE2 (hno1 _ (by have := t2.size; omega))
          have m4 : ∀ b, N2 b → M4 b := fun b hb => n4 b (m2 b hb)
          simp -dsimp [wC4, wA4, idA0, idA1, idA2, again_cons]
          refine grs_at (i := 2) (t := ⟨.slice va4 vn4 vc4, c.mx.take j, o4⟩) (x := vX) (c := [.int .i64 vX]) wE2 intT G4 rfl t4.lt rfl rfl (by show ((c.mx.take j).length + 1) * 8 ≤ _; have := ll c.mx; omega) (by show (c.mx.take j).length + 1 < _; have := ll c.mx; omega) (fun b hb => by have := t4.size; have := hNlt b hb; omega) (by have := t4.size; omega) ?_
          intro ra2 rn2 rc2 Y5 M5 p2 kp5 u5 G5 n5
          have t5 := t4.trans u5
          have v5 := v4.trans u5
          have wB5 := kp5.at wB4 (hno2 _ (by omega))
          have wC5 := kp5.at wC4 (hno2 _ (by omega))
          have wA5 := kp5.at wA4 (hno2 _ (by omega))
          have m5 : ∀ b, N2 b → M5 b := fun b hb => n5 b (m4 b hb)
          simp -dsimp [wC5, set_same _ (lt_of_blk wC5), Array.setIfInBounds_setIfInBounds, wj, again_cons]
          exact ⟨(j + 1, _, _, _), by simp, rfl, fin Y5 M5 _ _ _ _ _ _ _ _ _ p0 p1 p2 t5 m5 G5 wB5 wC5 v5, by show m - (j + 1) < m - j; omega⟩
        case' L3 =>
          rw [treeW_leaf]
          simp -dsimp [wCY, wCp1 wCY, wCp2 wCY, wAY, wCp1 wAY, wCp2 wAY, idA0, idA1, idA2, again_cons]
          generalize hP1 : Array.push (Array.push Y _) _ = Y1
          have kp1 : Keep none_ Y Y1 := by rw [← hP1]; exact ((Keep.refl none_ Y).pushed _).pushed _
          have wE0 : Y1[Y.size]? = some (.cells #[.int .i64 vS] 3 (0, 0)) := by rw [← hP1]; exact push_at (push_new _ _)
          have wE2 : Y1[Y.size + 1]? = some (.cells #[.int .i64 vX] 3 (0, 0)) := by rw [← hP1]; exact push_get (by simp)
          have wB1 := kp1.at wBY (fun h => h)
          have wC1 := kp1.at wCY (fun h => h)
          have wA1 := kp1.at wAY (fun h => h)
          have t1 := tY.call kp1
          have v1 := tY.here.call kp1
          have G1 := GY.call kp1
          refine grs_at (i := 0) (t := ⟨.slice va2 vn2 vc2, c.sum.take j, o2⟩) (x := vS) (c := [.int .i64 vS]) wE0 intT G1 rfl t1.lt rfl rfl (by show ((c.sum.take j).length + 1) * 8 ≤ _; have := ll c.sum; omega) (by show (c.sum.take j).length + 1 < _; have := ll c.sum; omega) (fun b hb => by have := t1.size; have := hNlt b hb; omega) (by have := t1.size; omega) ?_
          intro ra0 rn0 rc0 Y2 M2 p0 kp2 u2 G2 n2
          have t2 := t1.trans u2
          have v2 := v1.trans u2
          have wB2 := kp2.at wB1 (hno0 _ (by omega))
          have wC2 := kp2.at wC1 (hno0 _ (by omega))
          have wA2 := kp2.at wA1 (hno0 _ (by omega))
          replace wE2 := kp2.at wE2 (hno0 _ (by have := tY.size; omega))
          have m2 : ∀ b, N2 b → M2 b := fun b hb => n2 b (hN2 b hb)
          simp -dsimp [wC2, wCp1 wC2, wA2, wCp1 wA2, idA0, idA1, idA2, again_cons]
          generalize hP3 : Array.push Y2 _ = Y3
          have kp3 : Keep none_ Y2 Y3 := by rw [← hP3]; exact (Keep.refl none_ Y2).pushed _
          have wE1 : Y3[Y2.size]? = some (.cells #[.int .i64 vN] 3 (0, 0)) := by rw [← hP3]; exact push_new _ _
          replace wE2 := kp3.at wE2 (fun h => h)
          have wB3 := kp3.at wB2 (fun h => h)
          have wC3 := kp3.at wC2 (fun h => h)
          have wA3 := kp3.at wA2 (fun h => h)
          have t3 := t2.call kp3
          have v3 := v2.call kp3
          have G3 := G2.call kp3
          refine grs_at (i := 1) (t := ⟨.slice va3 vn3 vc3, c.mn.take j, o3⟩) (x := vN) (c := [.int .i64 vN]) wE1 intT G3 rfl t3.lt rfl rfl (by show ((c.mn.take j).length + 1) * 8 ≤ _; have := ll c.mn; omega) (by show (c.mn.take j).length + 1 < _; have := ll c.mn; omega) (fun b hb => by have := t3.size; have := hNlt b hb; omega) (by have := t3.size; omega) ?_
          intro ra1 rn1 rc1 Y4 M4 p1 kp4 u4 G4 n4
          have t4 := t3.trans u4
          have v4 := v3.trans u4
          have wB4 := kp4.at wB3 (hno1 _ (by omega))
          have wC4 := kp4.at wC3 (hno1 _ (by omega))
          have wA4 := kp4.at wA3 (hno1 _ (by omega))
          replace wE2 := kp4.at wE2 (hno1 _ (by have := tY.size; omega))
          have m4 : ∀ b, N2 b → M4 b := fun b hb => n4 b (m2 b hb)
          simp -dsimp [wC4, wA4, idA0, idA1, idA2, again_cons]
          refine grs_at (i := 2) (t := ⟨.slice va4 vn4 vc4, c.mx.take j, o4⟩) (x := vX) (c := [.int .i64 vX]) wE2 intT G4 rfl t4.lt rfl rfl (by show ((c.mx.take j).length + 1) * 8 ≤ _; have := ll c.mx; omega) (by show (c.mx.take j).length + 1 < _; have := ll c.mx; omega) (fun b hb => by have := t4.size; have := hNlt b hb; omega) (by have := t4.size; omega) ?_
          intro ra2 rn2 rc2 Y5 M5 p2 kp5 u5 G5 n5
          have t5 := t4.trans u5
          have v5 := v4.trans u5
          have wB5 := kp5.at wB4 (hno2 _ (by omega))
          have wC5 := kp5.at wC4 (hno2 _ (by omega))
          have wA5 := kp5.at wA4 (hno2 _ (by omega))
          have m5 : ∀ b, N2 b → M5 b := fun b hb => n5 b (m4 b hb)
          simp -dsimp [wC5, set_same _ (lt_of_blk wC5), Array.setIfInBounds_setIfInBounds, wj, again_cons]
          exact ⟨(j + 1, _, _, _), by simp, rfl, fin Y5 M5 _ _ _ _ _ _ _ _ _ p0 p1 p2 t5 m5 G5 wB5 wC5 v5, by show m - (j + 1) < m - j; omega⟩
        case' L4 =>
          rw [treeW_leaf]
          simp -dsimp [wCY, wCp1 wCY, wCp2 wCY, wAY, wCp1 wAY, wCp2 wAY, idA0, idA1, idA2, again_cons]
          generalize hP1 : Array.push (Array.push Y _) _ = Y1
          have kp1 : Keep none_ Y Y1 := by rw [← hP1]; exact ((Keep.refl none_ Y).pushed _).pushed _
          have wE0 : Y1[Y.size]? = some (.cells #[.int .i64 vS] 3 (0, 0)) := by rw [← hP1]; exact push_at (push_new _ _)
          have wE1 : Y1[Y.size + 1]? = some (.cells #[.int .i64 vN] 3 (0, 0)) := by rw [← hP1]; exact push_get (by simp)
          have wB1 := kp1.at wBY (fun h => h)
          have wC1 := kp1.at wCY (fun h => h)
          have wA1 := kp1.at wAY (fun h => h)
          have t1 := tY.call kp1
          have v1 := tY.here.call kp1
          have G1 := GY.call kp1
          refine grs_at (i := 0) (t := ⟨.slice va2 vn2 vc2, c.sum.take j, o2⟩) (x := vS) (c := [.int .i64 vS]) wE0 intT G1 rfl t1.lt rfl rfl (by show ((c.sum.take j).length + 1) * 8 ≤ _; have := ll c.sum; omega) (by show (c.sum.take j).length + 1 < _; have := ll c.sum; omega) (fun b hb => by have := t1.size; have := hNlt b hb; omega) (by have := t1.size; omega) ?_
          intro ra0 rn0 rc0 Y2 M2 p0 kp2 u2 G2 n2
          have t2 := t1.trans u2
          have v2 := v1.trans u2
          have wB2 := kp2.at wB1 (hno0 _ (by omega))
          have wC2 := kp2.at wC1 (hno0 _ (by omega))
          have wA2 := kp2.at wA1 (hno0 _ (by omega))
          replace wE1 := kp2.at wE1 (hno0 _ (by have := tY.size; omega))
          have m2 : ∀ b, N2 b → M2 b := fun b hb => n2 b (hN2 b hb)
          simp -dsimp [wC2, wA2, idA0, idA1, idA2, again_cons]
          refine grs_at (i := 1) (t := ⟨.slice va3 vn3 vc3, c.mn.take j, o3⟩) (x := vN) (c := [.int .i64 vN]) wE1 intT G2 rfl t2.lt rfl rfl (by show ((c.mn.take j).length + 1) * 8 ≤ _; have := ll c.mn; omega) (by show (c.mn.take j).length + 1 < _; have := ll c.mn; omega) (fun b hb => by have := t2.size; have := hNlt b hb; omega) (by have := t2.size; omega) ?_
          intro ra1 rn1 rc1 Y3 M3 p1 kp3 u3 G3 n3
          have t3 := t2.trans u3
          have v3 := v2.trans u3
          have wB3 := kp3.at wB2 (hno1 _ (by omega))
          have wC3 := kp3.at wC2 (hno1 _ (by omega))
          have wA3 := kp3.at wA2 (hno1 _ (by omega))
          have m3 : ∀ b, N2 b → M3 b := fun b hb => n3 b (m2 b hb)
          simp -dsimp [wC3, wCp1 wC3, wA3, wCp1 wA3, idA0, idA1, idA2, again_cons]
          generalize hP4 : Array.push Y3 _ = Y4
          have kp4 : Keep none_ Y3 Y4 := by rw [← hP4]; exact (Keep.refl none_ Y3).pushed _
          have wE2 : Y4[Y3.size]? = some (.cells #[.int .i64 vX] 3 (0, 0)) := by rw [← hP4]; exact push_new _ _
          have wB4 := kp4.at wB3 (fun h => h)
          have wC4 := kp4.at wC3 (fun h => h)
          have wA4 := kp4.at wA3 (fun h => h)
          have t4 := t3.call kp4
          have v4 := v3.call kp4
          have G4 := G3.call kp4
          refine grs_at (i := 2) (t := ⟨.slice va4 vn4 vc4, c.mx.take j, o4⟩) (x := vX) (c := [.int .i64 vX]) wE2 intT G4 rfl t4.lt rfl rfl (by show ((c.mx.take j).length + 1) * 8 ≤ _; have := ll c.mx; omega) (by show (c.mx.take j).length + 1 < _; have := ll c.mx; omega) (fun b hb => by have := t4.size; have := hNlt b hb; omega) (by have := t4.size; omega) ?_
          intro ra2 rn2 rc2 Y5 M5 p2 kp5 u5 G5 n5
          have t5 := t4.trans u5
          have v5 := v4.trans u5
          have wB5 := kp5.at wB4 (hno2 _ (by omega))
          have wC5 := kp5.at wC4 (hno2 _ (by omega))
          have wA5 := kp5.at wA4 (hno2 _ (by omega))
          have m5 : ∀ b, N2 b → M5 b := fun b hb => n5 b (m3 b hb)
          simp -dsimp [wC5, set_same _ (lt_of_blk wC5), Array.setIfInBounds_setIfInBounds, wj, again_cons]
          exact ⟨(j + 1, _, _, _), by simp, rfl, fin Y5 M5 _ _ _ _ _ _ _ _ _ p0 p1 p2 t5 m5 G5 wB5 wC5 v5, by show m - (j + 1) < m - j; omega⟩
        case' L5 =>
          rw [treeW_leaf]
          simp -dsimp [wCY, wCp1 wCY, wCp2 wCY, wAY, wCp1 wAY, wCp2 wAY, idA0, idA1, idA2, again_cons]
          generalize hP1 : Array.push (Array.push Y _) _ = Y1
          have kp1 : Keep none_ Y Y1 := by rw [← hP1]; exact ((Keep.refl none_ Y).pushed _).pushed _
          have wE0 : Y1[Y.size]? = some (.cells #[.int .i64 vS] 3 (0, 0)) := by rw [← hP1]; exact push_at (push_new _ _)
          have wE1 : Y1[Y.size + 1]? = some (.cells #[.int .i64 vN] 3 (0, 0)) := by rw [← hP1]; exact push_get (by simp)
          have wB1 := kp1.at wBY (fun h => h)
          have wC1 := kp1.at wCY (fun h => h)
          have wA1 := kp1.at wAY (fun h => h)
          have t1 := tY.call kp1
          have v1 := tY.here.call kp1
          have G1 := GY.call kp1
          refine grs_at (i := 0) (t := ⟨.slice va2 vn2 vc2, c.sum.take j, o2⟩) (x := vS) (c := [.int .i64 vS]) wE0 intT G1 rfl t1.lt rfl rfl (by show ((c.sum.take j).length + 1) * 8 ≤ _; have := ll c.sum; omega) (by show (c.sum.take j).length + 1 < _; have := ll c.sum; omega) (fun b hb => by have := t1.size; have := hNlt b hb; omega) (by have := t1.size; omega) ?_
          intro ra0 rn0 rc0 Y2 M2 p0 kp2 u2 G2 n2
          have t2 := t1.trans u2
          have v2 := v1.trans u2
          have wB2 := kp2.at wB1 (hno0 _ (by omega))
          have wC2 := kp2.at wC1 (hno0 _ (by omega))
          have wA2 := kp2.at wA1 (hno0 _ (by omega))
          replace wE1 := kp2.at wE1 (hno0 _ (by have := tY.size; omega))
          have m2 : ∀ b, N2 b → M2 b := fun b hb => n2 b (hN2 b hb)
          simp -dsimp [wC2, wCp1 wC2, wA2, wCp1 wA2, idA0, idA1, idA2, again_cons]
          generalize hP3 : Array.push Y2 _ = Y3
          have kp3 : Keep none_ Y2 Y3 := by rw [← hP3]; exact (Keep.refl none_ Y2).pushed _
          have wE2 : Y3[Y2.size]? = some (.cells #[.int .i64 vX] 3 (0, 0)) := by rw [← hP3]; exact push_new _ _
          replace wE1 := kp3.at wE1 (fun h => h)
          have wB3 := kp3.at wB2 (fun h => h)
          have wC3 := kp3.at wC2 (fun h => h)
          have wA3 := kp3.at wA2 (fun h => h)
          have t3 := t2.call kp3
          have v3 := v2.call kp3
          have G3 := G2.call kp3
          refine grs_at (i := 1) (t := ⟨.slice va3 vn3 vc3, c.mn.take j, o3⟩) (x := vN) (c := [.int .i64 vN]) wE1 intT G3 rfl t3.lt rfl rfl (by show ((c.mn.take j).length + 1) * 8 ≤ _; have := ll c.mn; omega) (by show (c.mn.take j).length + 1 < _; have := ll c.mn; omega) (fun b hb => by have := t3.size; have := hNlt b hb; omega) (by have := t3.size; omega) ?_
          intro ra1 rn1 rc1 Y4 M4 p1 kp4 u4 G4 n4
          have t4 := t3.trans u4
          have v4 := v3.trans u4
          have wB4 := kp4.at wB3 (hno1 _ (by omega))
          have wC4 := kp4.at wC3 (hno1 _ (by omega))
          have wA4 := kp4.at wA3 (hno1 _ (by omega))
          replace wE2 := kp4.at wE2 (hno1 _ (by have := t2.size; omega))
          have m4 : ∀ b, N2 b → M4 b := fun b hb => n4 b (m2 b hb)
          simp -dsimp [wC4, wA4, idA0, idA1, idA2, again_cons]
          refine grs_at (i := 2) (t := ⟨.slice va4 vn4 vc4, c.mx.take j, o4⟩) (x := vX) (c := [.int .i64 vX]) wE2 intT G4 rfl t4.lt rfl rfl (by show ((c.mx.take j).length + 1) * 8 ≤ _; have := ll c.mx; omega) (by show (c.mx.take j).length + 1 < _; have := ll c.mx; omega) (fun b hb => by have := t4.size; have := hNlt b hb; omega) (by have := t4.size; omega) ?_
          intro ra2 rn2 rc2 Y5 M5 p2 kp5 u5 G5 n5
          have t5 := t4.trans u5
          have v5 := v4.trans u5
          have wB5 := kp5.at wB4 (hno2 _ (by omega))
          have wC5 := kp5.at wC4 (hno2 _ (by omega))
          have wA5 := kp5.at wA4 (hno2 _ (by omega))
          have m5 : ∀ b, N2 b → M5 b := fun b hb => n5 b (m4 b hb)
          simp -dsimp [wC5, set_same _ (lt_of_blk wC5), Array.setIfInBounds_setIfInBounds, wj, again_cons]
          exact ⟨(j + 1, _, _, _), by simp, rfl, fin Y5 M5 _ _ _ _ _ _ _ _ _ p0 p1 p2 t5 m5 G5 wB5 wC5 v5, by show m - (j + 1) < m - j; omega⟩
        case' L6 =>
          rw [treeW_leaf]
          simp -dsimp [wCY, wCp1 wCY, wCp2 wCY, wCp3 wCY, wAY, wCp1 wAY, wCp2 wAY, wCp3 wAY, idA0, idA1, idA2, again_cons]
          generalize hP1 : Array.push (Array.push (Array.push Y _) _) _ = Y1
          have kp1 : Keep none_ Y Y1 := by rw [← hP1]; exact (((Keep.refl none_ Y).pushed _).pushed _).pushed _
          have wE0 : Y1[Y.size]? = some (.cells #[.int .i64 vS] 3 (0, 0)) := by rw [← hP1]; exact push_at (push_at (push_new _ _))
          have wE1 : Y1[Y.size + 1]? = some (.cells #[.int .i64 vN] 3 (0, 0)) := by rw [← hP1]; exact push_at (push_get (by simp))
          have wE2 : Y1[Y.size + 1 + 1]? = some (.cells #[.int .i64 vX] 3 (0, 0)) := by rw [← hP1]; exact push_get (by simp)
          have wB1 := kp1.at wBY (fun h => h)
          have wC1 := kp1.at wCY (fun h => h)
          have wA1 := kp1.at wAY (fun h => h)
          have t1 := tY.call kp1
          have v1 := tY.here.call kp1
          have G1 := GY.call kp1
          refine grs_at (i := 0) (t := ⟨.slice va2 vn2 vc2, c.sum.take j, o2⟩) (x := vS) (c := [.int .i64 vS]) wE0 intT G1 rfl t1.lt rfl rfl (by show ((c.sum.take j).length + 1) * 8 ≤ _; have := ll c.sum; omega) (by show (c.sum.take j).length + 1 < _; have := ll c.sum; omega) (fun b hb => by have := t1.size; have := hNlt b hb; omega) (by have := t1.size; omega) ?_
          intro ra0 rn0 rc0 Y2 M2 p0 kp2 u2 G2 n2
          have t2 := t1.trans u2
          have v2 := v1.trans u2
          have wB2 := kp2.at wB1 (hno0 _ (by omega))
          have wC2 := kp2.at wC1 (hno0 _ (by omega))
          have wA2 := kp2.at wA1 (hno0 _ (by omega))
          replace wE1 := kp2.at wE1 (hno0 _ (by have := tY.size; omega))
          replace wE2 := kp2.at wE2 (hno0 _ (by have := tY.size; omega))
          have m2 : ∀ b, N2 b → M2 b := fun b hb => n2 b (hN2 b hb)
          simp -dsimp [wC2, wA2, idA0, idA1, idA2, again_cons]
          refine grs_at (i := 1) (t := ⟨.slice va3 vn3 vc3, c.mn.take j, o3⟩) (x := vN) (c := [.int .i64 vN]) wE1 intT G2 rfl t2.lt rfl rfl (by show ((c.mn.take j).length + 1) * 8 ≤ _; have := ll c.mn; omega) (by show (c.mn.take j).length + 1 < _; have := ll c.mn; omega) (fun b hb => by have := t2.size; have := hNlt b hb; omega) (by have := t2.size; omega) ?_
          intro ra1 rn1 rc1 Y3 M3 p1 kp3 u3 G3 n3
          have t3 := t2.trans u3
          have v3 := v2.trans u3
          have wB3 := kp3.at wB2 (hno1 _ (by omega))
          have wC3 := kp3.at wC2 (hno1 _ (by omega))
          have wA3 := kp3.at wA2 (hno1 _ (by omega))
          replace wE2 := kp3.at wE2 (hno1 _ (by have := tY.size; omega))
          have m3 : ∀ b, N2 b → M3 b := fun b hb => n3 b (m2 b hb)
          simp -dsimp [wC3, wA3, idA0, idA1, idA2, again_cons]
          refine grs_at (i := 2) (t := ⟨.slice va4 vn4 vc4, c.mx.take j, o4⟩) (x := vX) (c := [.int .i64 vX]) wE2 intT G3 rfl t3.lt rfl rfl (by show ((c.mx.take j).length + 1) * 8 ≤ _; have := ll c.mx; omega) (by show (c.mx.take j).length + 1 < _; have := ll c.mx; omega) (fun b hb => by have := t3.size; have := hNlt b hb; omega) (by have := t3.size; omega) ?_
          intro ra2 rn2 rc2 Y4 M4 p2 kp4 u4 G4 n4
          have t4 := t3.trans u4
          have v4 := v3.trans u4
          have wB4 := kp4.at wB3 (hno2 _ (by omega))
          have wC4 := kp4.at wC3 (hno2 _ (by omega))
          have wA4 := kp4.at wA3 (hno2 _ (by omega))
          have m4 : ∀ b, N2 b → M4 b := fun b hb => n4 b (m3 b hb)
          simp -dsimp [wC4, set_same _ (lt_of_blk wC4), Array.setIfInBounds_setIfInBounds, wj, again_cons]
          exact ⟨(j + 1, _, _, _), by simp, rfl, fin Y4 M4 _ _ _ _ _ _ _ _ _ p0 p1 p2 t4 m4 G4 wB4 wC4 v4, by show m - (j + 1) < m - j; omega⟩
        case' L7 =>
          rw [treeW_leaf]
          simp -dsimp [wCY, wCp1 wCY, wCp2 wCY, wCp3 wCY, wAY, wCp1 wAY, wCp2 wAY, wCp3 wAY, idA0, idA1, idA2, again_cons]
          generalize hP1 : Array.push (Array.push (Array.push Y _) _) _ = Y1
          have kp1 : Keep none_ Y Y1 := by rw [← hP1]; exact (((Keep.refl none_ Y).pushed _).pushed _).pushed _
          have wE0 : Y1[Y.size]? = some (.cells #[.int .i64 vS] 3 (0, 0)) := by rw [← hP1]; exact push_at (push_at (push_new _ _))
          have wE2 : Y1[Y.size + 1]? = some (.cells #[.int .i64 vX] 3 (0, 0)) := by rw [← hP1]; exact push_at (push_get (by simp))
          have wE1 : Y1[Y.size + 1 + 1]? = some (.cells #[.int .i64 vN] 3 (0, 0)) := by rw [← hP1]; exact push_get (by simp)
          have wB1 := kp1.at wBY (fun h => h)
          have wC1 := kp1.at wCY (fun h => h)
          have wA1 := kp1.at wAY (fun h => h)
          have t1 := tY.call kp1
          have v1 := tY.here.call kp1
          have G1 := GY.call kp1
          refine grs_at (i := 0) (t := ⟨.slice va2 vn2 vc2, c.sum.take j, o2⟩) (x := vS) (c := [.int .i64 vS]) wE0 intT G1 rfl t1.lt rfl rfl (by show ((c.sum.take j).length + 1) * 8 ≤ _; have := ll c.sum; omega) (by show (c.sum.take j).length + 1 < _; have := ll c.sum; omega) (fun b hb => by have := t1.size; have := hNlt b hb; omega) (by have := t1.size; omega) ?_
          intro ra0 rn0 rc0 Y2 M2 p0 kp2 u2 G2 n2
          have t2 := t1.trans u2
          have v2 := v1.trans u2
          have wB2 := kp2.at wB1 (hno0 _ (by omega))
          have wC2 := kp2.at wC1 (hno0 _ (by omega))
          have wA2 := kp2.at wA1 (hno0 _ (by omega))
          replace wE2 := kp2.at wE2 (hno0 _ (by have := tY.size; omega))
          replace wE1 := kp2.at wE1 (hno0 _ (by have := tY.size; omega))
          have m2 : ∀ b, N2 b → M2 b := fun b hb => n2 b (hN2 b hb)
          simp -dsimp [wC2, wA2, idA0, idA1, idA2, again_cons]
          refine grs_at (i := 1) (t := ⟨.slice va3 vn3 vc3, c.mn.take j, o3⟩) (x := vN) (c := [.int .i64 vN]) wE1 intT G2 rfl t2.lt rfl rfl (by show ((c.mn.take j).length + 1) * 8 ≤ _; have := ll c.mn; omega) (by show (c.mn.take j).length + 1 < _; have := ll c.mn; omega) (fun b hb => by have := t2.size; have := hNlt b hb; omega) (by have := t2.size; omega) ?_
          intro ra1 rn1 rc1 Y3 M3 p1 kp3 u3 G3 n3
          have t3 := t2.trans u3
          have v3 := v2.trans u3
          have wB3 := kp3.at wB2 (hno1 _ (by omega))
          have wC3 := kp3.at wC2 (hno1 _ (by omega))
          have wA3 := kp3.at wA2 (hno1 _ (by omega))
          replace wE2 := kp3.at wE2 (hno1 _ (by have := tY.size; omega))
          have m3 : ∀ b, N2 b → M3 b := fun b hb => n3 b (m2 b hb)
          simp -dsimp [wC3, wA3, idA0, idA1, idA2, again_cons]
          refine grs_at (i := 2) (t := ⟨.slice va4 vn4 vc4, c.mx.take j, o4⟩) (x := vX) (c := [.int .i64 vX]) wE2 intT G3 rfl t3.lt rfl rfl (by show ((c.mx.take j).length + 1) * 8 ≤ _; have := ll c.mx; omega) (by show (c.mx.take j).length + 1 < _; have := ll c.mx; omega) (fun b hb => by have := t3.size; have := hNlt b hb; omega) (by have := t3.size; omega) ?_
          intro ra2 rn2 rc2 Y4 M4 p2 kp4 u4 G4 n4
          have t4 := t3.trans u4
          have v4 := v3.trans u4
          have wB4 := kp4.at wB3 (hno2 _ (by omega))
          have wC4 := kp4.at wC3 (hno2 _ (by omega))
          have wA4 := kp4.at wA3 (hno2 _ (by omega))
          have m4 : ∀ b, N2 b → M4 b := fun b hb => n4 b (m3 b hb)
          simp -dsimp [wC4, set_same _ (lt_of_blk wC4), Array.setIfInBounds_setIfInBounds, wj, again_cons]
          exact ⟨(j + 1, _, _, _), by simp, rfl, fin Y4 M4 _ _ _ _ _ _ _ _ _ p0 p1 p2 t4 m4 G4 wB4 wC4 v4, by show m - (j + 1) < m - j; omega⟩
        case' L8 =>
          rw [treeW_leaf]
          simp -dsimp [wCY, wCp1 wCY, wCp2 wCY, wAY, wCp1 wAY, wCp2 wAY, idA0, idA1, idA2, again_cons]
          generalize hP1 : Array.push (Array.push Y _) _ = Y1
          have kp1 : Keep none_ Y Y1 := by rw [← hP1]; exact ((Keep.refl none_ Y).pushed _).pushed _
          have wE2 : Y1[Y.size]? = some (.cells #[.int .i64 vX] 3 (0, 0)) := by rw [← hP1]; exact push_at (push_new _ _)
          have wE0 : Y1[Y.size + 1]? = some (.cells #[.int .i64 vS] 3 (0, 0)) := by rw [← hP1]; exact push_get (by simp)
          have wB1 := kp1.at wBY (fun h => h)
          have wC1 := kp1.at wCY (fun h => h)
          have wA1 := kp1.at wAY (fun h => h)
          have t1 := tY.call kp1
          have v1 := tY.here.call kp1
          have G1 := GY.call kp1
          refine grs_at (i := 0) (t := ⟨.slice va2 vn2 vc2, c.sum.take j, o2⟩) (x := vS) (c := [.int .i64 vS]) wE0 intT G1 rfl t1.lt rfl rfl (by show ((c.sum.take j).length + 1) * 8 ≤ _; have := ll c.sum; omega) (by show (c.sum.take j).length + 1 < _; have := ll c.sum; omega) (fun b hb => by have := t1.size; have := hNlt b hb; omega) (by have := t1.size; omega) ?_
          intro ra0 rn0 rc0 Y2 M2 p0 kp2 u2 G2 n2
          have t2 := t1.trans u2
          have v2 := v1.trans u2
          have wB2 := kp2.at wB1 (hno0 _ (by omega))
          have wC2 := kp2.at wC1 (hno0 _ (by omega))
          have wA2 := kp2.at wA1 (hno0 _ (by omega))
          replace wE2 := kp2.at wE2 (hno0 _ (by have := tY.size; omega))
          have m2 : ∀ b, N2 b → M2 b := fun b hb => n2 b (hN2 b hb)
          simp -dsimp [wC2, wCp1 wC2, wA2, wCp1 wA2, idA0, idA1, idA2, again_cons]
          generalize hP3 : Array.push Y2 _ = Y3
          have kp3 : Keep none_ Y2 Y3 := by rw [← hP3]; exact (Keep.refl none_ Y2).pushed _
          have wE1 : Y3[Y2.size]? = some (.cells #[.int .i64 vN] 3 (0, 0)) := by rw [← hP3]; exact push_new _ _
          replace wE2 := kp3.at wE2 (fun h => h)
          have wB3 := kp3.at wB2 (fun h => h)
          have wC3 := kp3.at wC2 (fun h => h)
          have wA3 := kp3.at wA2 (fun h => h)
          have t3 := t2.call kp3
          have v3 := v2.call kp3
          have G3 := G2.call kp3
          refine grs_at (i := 1) (t := ⟨.slice va3 vn3 vc3, c.mn.take j, o3⟩) (x := vN) (c := [.int .i64 vN]) wE1 intT G3 rfl t3.lt rfl rfl (by show ((c.mn.take j).length + 1) * 8 ≤ _; have := ll c.mn; omega) (by show (c.mn.take j).length + 1 < _; have := ll c.mn; omega) (fun b hb => by have := t3.size; have := hNlt b hb; omega) (by have := t3.size; omega) ?_
          intro ra1 rn1 rc1 Y4 M4 p1 kp4 u4 G4 n4
          have t4 := t3.trans u4
          have v4 := v3.trans u4
          have wB4 := kp4.at wB3 (hno1 _ (by omega))
          have wC4 := kp4.at wC3 (hno1 _ (by omega))
          have wA4 := kp4.at wA3 (hno1 _ (by omega))
          replace wE2 := kp4.at wE2 (hno1 _ (by have := tY.size; omega))
          have m4 : ∀ b, N2 b → M4 b := fun b hb => n4 b (m2 b hb)
          simp -dsimp [wC4, wA4, idA0, idA1, idA2, again_cons]
          refine grs_at (i := 2) (t := ⟨.slice va4 vn4 vc4, c.mx.take j, o4⟩) (x := vX) (c := [.int .i64 vX]) wE2 intT G4 rfl t4.lt rfl rfl (by show ((c.mx.take j).length + 1) * 8 ≤ _; have := ll c.mx; omega) (by show (c.mx.take j).length + 1 < _; have := ll c.mx; omega) (fun b hb => by have := t4.size; have := hNlt b hb; omega) (by have := t4.size; omega) ?_
          intro ra2 rn2 rc2 Y5 M5 p2 kp5 u5 G5 n5
          have t5 := t4.trans u5
          have v5 := v4.trans u5
          have wB5 := kp5.at wB4 (hno2 _ (by omega))
          have wC5 := kp5.at wC4 (hno2 _ (by omega))
          have wA5 := kp5.at wA4 (hno2 _ (by omega))
          have m5 : ∀ b, N2 b → M5 b := fun b hb => n5 b (m4 b hb)
          simp -dsimp [wC5, set_same _ (lt_of_blk wC5), Array.setIfInBounds_setIfInBounds, wj, again_cons]
          exact ⟨(j + 1, _, _, _), by simp, rfl, fin Y5 M5 _ _ _ _ _ _ _ _ _ p0 p1 p2 t5 m5 G5 wB5 wC5 v5, by show m - (j + 1) < m - j; omega⟩
        case' L9 =>
          rw [treeW_leaf]
          simp -dsimp [wCY, wCp1 wCY, wCp2 wCY, wCp3 wCY, wAY, wCp1 wAY, wCp2 wAY, wCp3 wAY, idA0, idA1, idA2, again_cons]
          generalize hP1 : Array.push (Array.push (Array.push Y _) _) _ = Y1
          have kp1 : Keep none_ Y Y1 := by rw [← hP1]; exact (((Keep.refl none_ Y).pushed _).pushed _).pushed _
          have wE2 : Y1[Y.size]? = some (.cells #[.int .i64 vX] 3 (0, 0)) := by rw [← hP1]; exact push_at (push_at (push_new _ _))
          have wE0 : Y1[Y.size + 1]? = some (.cells #[.int .i64 vS] 3 (0, 0)) := by rw [← hP1]; exact push_at (push_get (by simp))
          have wE1 : Y1[Y.size + 1 + 1]? = some (.cells #[.int .i64 vN] 3 (0, 0)) := by rw [← hP1]; exact push_get (by simp)
          have wB1 := kp1.at wBY (fun h => h)
          have wC1 := kp1.at wCY (fun h => h)
          have wA1 := kp1.at wAY (fun h => h)
          have t1 := tY.call kp1
          have v1 := tY.here.call kp1
          have G1 := GY.call kp1
          refine grs_at (i := 0) (t := ⟨.slice va2 vn2 vc2, c.sum.take j, o2⟩) (x := vS) (c := [.int .i64 vS]) wE0 intT G1 rfl t1.lt rfl rfl (by show ((c.sum.take j).length + 1) * 8 ≤ _; have := ll c.sum; omega) (by show (c.sum.take j).length + 1 < _; have := ll c.sum; omega) (fun b hb => by have := t1.size; have := hNlt b hb; omega) (by have := t1.size; omega) ?_
          intro ra0 rn0 rc0 Y2 M2 p0 kp2 u2 G2 n2
          have t2 := t1.trans u2
          have v2 := v1.trans u2
          have wB2 := kp2.at wB1 (hno0 _ (by omega))
          have wC2 := kp2.at wC1 (hno0 _ (by omega))
          have wA2 := kp2.at wA1 (hno0 _ (by omega))
          replace wE2 := kp2.at wE2 (hno0 _ (by have := tY.size; omega))
          replace wE1 := kp2.at wE1 (hno0 _ (by have := tY.size; omega))
          have m2 : ∀ b, N2 b → M2 b := fun b hb => n2 b (hN2 b hb)
          simp -dsimp [wC2, wA2, idA0, idA1, idA2, again_cons]
          refine grs_at (i := 1) (t := ⟨.slice va3 vn3 vc3, c.mn.take j, o3⟩) (x := vN) (c := [.int .i64 vN]) wE1 intT G2 rfl t2.lt rfl rfl (by show ((c.mn.take j).length + 1) * 8 ≤ _; have := ll c.mn; omega) (by show (c.mn.take j).length + 1 < _; have := ll c.mn; omega) (fun b hb => by have := t2.size; have := hNlt b hb; omega) (by have := t2.size; omega) ?_
          intro ra1 rn1 rc1 Y3 M3 p1 kp3 u3 G3 n3
          have t3 := t2.trans u3
          have v3 := v2.trans u3
          have wB3 := kp3.at wB2 (hno1 _ (by omega))
          have wC3 := kp3.at wC2 (hno1 _ (by omega))
          have wA3 := kp3.at wA2 (hno1 _ (by omega))
          replace wE2 := kp3.at wE2 (hno1 _ (by have := tY.size; omega))
          have m3 : ∀ b, N2 b → M3 b := fun b hb => n3 b (m2 b hb)
          simp -dsimp [wC3, wA3, idA0, idA1, idA2, again_cons]
          refine grs_at (i := 2) (t := ⟨.slice va4 vn4 vc4, c.mx.take j, o4⟩) (x := vX) (c := [.int .i64 vX]) wE2 intT G3 rfl t3.lt rfl rfl (by show ((c.mx.take j).length + 1) * 8 ≤ _; have := ll c.mx; omega) (by show (c.mx.take j).length + 1 < _; have := ll c.mx; omega) (fun b hb => by have := t3.size; have := hNlt b hb; omega) (by have := t3.size; omega) ?_
          intro ra2 rn2 rc2 Y4 M4 p2 kp4 u4 G4 n4
          have t4 := t3.trans u4
          have v4 := v3.trans u4
          have wB4 := kp4.at wB3 (hno2 _ (by omega))
          have wC4 := kp4.at wC3 (hno2 _ (by omega))
          have wA4 := kp4.at wA3 (hno2 _ (by omega))
          have m4 : ∀ b, N2 b → M4 b := fun b hb => n4 b (m3 b hb)
          simp -dsimp [wC4, set_same _ (lt_of_blk wC4), Array.setIfInBounds_setIfInBounds, wj, again_cons]
          exact ⟨(j + 1, _, _, _), by simp, rfl, fin Y4 M4 _ _ _ _ _ _ _ _ _ p0 p1 p2 t4 m4 G4 wB4 wC4 v4, by show m - (j + 1) < m - j; omega⟩
        case' L10 =>
          rw [treeW_leaf]
          simp -dsimp [wCY, wCp1 wCY, wCp2 wCY, wAY, wCp1 wAY, wCp2 wAY, idA0, idA1, idA2, again_cons]
          generalize hP1 : Array.push (Array.push Y _) _ = Y1
          have kp1 : Keep none_ Y Y1 := by rw [← hP1]; exact ((Keep.refl none_ Y).pushed _).pushed _
          have wE1 : Y1[Y.size]? = some (.cells #[.int .i64 vN] 3 (0, 0)) := by rw [← hP1]; exact push_at (push_new _ _)
          have wE0 : Y1[Y.size + 1]? = some (.cells #[.int .i64 vS] 3 (0, 0)) := by rw [← hP1]; exact push_get (by simp)
          have wB1 := kp1.at wBY (fun h => h)
          have wC1 := kp1.at wCY (fun h => h)
          have wA1 := kp1.at wAY (fun h => h)
          have t1 := tY.call kp1
          have v1 := tY.here.call kp1
          have G1 := GY.call kp1
          refine grs_at (i := 0) (t := ⟨.slice va2 vn2 vc2, c.sum.take j, o2⟩) (x := vS) (c := [.int .i64 vS]) wE0 intT G1 rfl t1.lt rfl rfl (by show ((c.sum.take j).length + 1) * 8 ≤ _; have := ll c.sum; omega) (by show (c.sum.take j).length + 1 < _; have := ll c.sum; omega) (fun b hb => by have := t1.size; have := hNlt b hb; omega) (by have := t1.size; omega) ?_
          intro ra0 rn0 rc0 Y2 M2 p0 kp2 u2 G2 n2
          have t2 := t1.trans u2
          have v2 := v1.trans u2
          have wB2 := kp2.at wB1 (hno0 _ (by omega))
          have wC2 := kp2.at wC1 (hno0 _ (by omega))
          have wA2 := kp2.at wA1 (hno0 _ (by omega))
          replace wE1 := kp2.at wE1 (hno0 _ (by have := tY.size; omega))
          have m2 : ∀ b, N2 b → M2 b := fun b hb => n2 b (hN2 b hb)
          simp -dsimp [wC2, wA2, idA0, idA1, idA2, again_cons]
          refine grs_at (i := 1) (t := ⟨.slice va3 vn3 vc3, c.mn.take j, o3⟩) (x := vN) (c := [.int .i64 vN]) wE1 intT G2 rfl t2.lt rfl rfl (by show ((c.mn.take j).length + 1) * 8 ≤ _; have := ll c.mn; omega) (by show (c.mn.take j).length + 1 < _; have := ll c.mn; omega) (fun b hb => by have := t2.size; have := hNlt b hb; omega) (by have := t2.size; omega) ?_
          intro ra1 rn1 rc1 Y3 M3 p1 kp3 u3 G3 n3
          have t3 := t2.trans u3
          have v3 := v2.trans u3
          have wB3 := kp3.at wB2 (hno1 _ (by omega))
          have wC3 := kp3.at wC2 (hno1 _ (by omega))
          have wA3 := kp3.at wA2 (hno1 _ (by omega))
          have m3 : ∀ b, N2 b → M3 b := fun b hb => n3 b (m2 b hb)
          simp -dsimp [wC3, wCp1 wC3, wA3, wCp1 wA3, idA0, idA1, idA2, again_cons]
          generalize hP4 : Array.push Y3 _ = Y4
          have kp4 : Keep none_ Y3 Y4 := by rw [← hP4]; exact (Keep.refl none_ Y3).pushed _
          have wE2 : Y4[Y3.size]? = some (.cells #[.int .i64 vX] 3 (0, 0)) := by rw [← hP4]; exact push_new _ _
          have wB4 := kp4.at wB3 (fun h => h)
          have wC4 := kp4.at wC3 (fun h => h)
          have wA4 := kp4.at wA3 (fun h => h)
          have t4 := t3.call kp4
          have v4 := v3.call kp4
          have G4 := G3.call kp4
          refine grs_at (i := 2) (t := ⟨.slice va4 vn4 vc4, c.mx.take j, o4⟩) (x := vX) (c := [.int .i64 vX]) wE2 intT G4 rfl t4.lt rfl rfl (by show ((c.mx.take j).length + 1) * 8 ≤ _; have := ll c.mx; omega) (by show (c.mx.take j).length + 1 < _; have := ll c.mx; omega) (fun b hb => by have := t4.size; have := hNlt b hb; omega) (by have := t4.size; omega) ?_
          intro ra2 rn2 rc2 Y5 M5 p2 kp5 u5 G5 n5
          have t5 := t4.trans u5
          have v5 := v4.trans u5
          have wB5 := kp5.at wB4 (hno2 _ (by omega))
          have wC5 := kp5.at wC4 (hno2 _ (by omega))
          have wA5 := kp5.at wA4 (hno2 _ (by omega))
          have m5 : ∀ b, N2 b → M5 b := fun b hb => n5 b (m3 b hb)
          simp -dsimp [wC5, set_same _ (lt_of_blk wC5), Array.setIfInBounds_setIfInBounds, wj, again_cons]
          exact ⟨(j + 1, _, _, _), by simp, rfl, fin Y5 M5 _ _ _ _ _ _ _ _ _ p0 p1 p2 t5 m5 G5 wB5 wC5 v5, by show m - (j + 1) < m - j; omega⟩
        case' L11 =>
          rw [treeW_leaf]
          simp -dsimp [wCY, wCp1 wCY, wCp2 wCY, wAY, wCp1 wAY, wCp2 wAY, idA0, idA1, idA2, again_cons]
          generalize hP1 : Array.push (Array.push Y _) _ = Y1
          have kp1 : Keep none_ Y Y1 := by rw [← hP1]; exact ((Keep.refl none_ Y).pushed _).pushed _
          have wE1 : Y1[Y.size]? = some (.cells #[.int .i64 vN] 3 (0, 0)) := by rw [← hP1]; exact push_at (push_new _ _)
          have wE0 : Y1[Y.size + 1]? = some (.cells #[.int .i64 vS] 3 (0, 0)) := by rw [← hP1]; exact push_get (by simp)
          have wB1 := kp1.at wBY (fun h => h)
          have wC1 := kp1.at wCY (fun h => h)
          have wA1 := kp1.at wAY (fun h => h)
          have t1 := tY.call kp1
          have v1 := tY.here.call kp1
          have G1 := GY.call kp1
          refine grs_at (i := 0) (t := ⟨.slice va2 vn2 vc2, c.sum.take j, o2⟩) (x := vS) (c := [.int .i64 vS]) wE0 intT G1 rfl t1.lt rfl rfl (by show ((c.sum.take j).length + 1) * 8 ≤ _; have := ll c.sum; omega) (by show (c.sum.take j).length + 1 < _; have := ll c.sum; omega) (fun b hb => by have := t1.size; have := hNlt b hb; omega) (by have := t1.size; omega) ?_
          intro ra0 rn0 rc0 Y2 M2 p0 kp2 u2 G2 n2
          have t2 := t1.trans u2
          have v2 := v1.trans u2
          have wB2 := kp2.at wB1 (hno0 _ (by omega))
          have wC2 := kp2.at wC1 (hno0 _ (by omega))
          have wA2 := kp2.at wA1 (hno0 _ (by omega))
          replace wE1 := kp2.at wE1 (hno0 _ (by have := tY.size; omega))
          have m2 : ∀ b, N2 b → M2 b := fun b hb => n2 b (hN2 b hb)
          simp -dsimp [wC2, wCp1 wC2, wA2, wCp1 wA2, idA0, idA1, idA2, again_cons]
          generalize hP3 : Array.push Y2 _ = Y3
          have kp3 : Keep none_ Y2 Y3 := by rw [← hP3]; exact (Keep.refl none_ Y2).pushed _
          have wE2 : Y3[Y2.size]? = some (.cells #[.int .i64 vX] 3 (0, 0)) := by rw [← hP3]; exact push_new _ _
          replace wE1 := kp3.at wE1 (fun h => h)
          have wB3 := kp3.at wB2 (fun h => h)
          have wC3 := kp3.at wC2 (fun h => h)
          have wA3 := kp3.at wA2 (fun h => h)
          have t3 := t2.call kp3
          have v3 := v2.call kp3
          have G3 := G2.call kp3
          refine grs_at (i := 1) (t := ⟨.slice va3 vn3 vc3, c.mn.take j, o3⟩) (x := vN) (c := [.int .i64 vN]) wE1 intT G3 rfl t3.lt rfl rfl (by show ((c.mn.take j).length + 1) * 8 ≤ _; have := ll c.mn; omega) (by show (c.mn.take j).length + 1 < _; have := ll c.mn; omega) (fun b hb => by have := t3.size; have := hNlt b hb; omega) (by have := t3.size; omega) ?_
          intro ra1 rn1 rc1 Y4 M4 p1 kp4 u4 G4 n4
          have t4 := t3.trans u4
          have v4 := v3.trans u4
          have wB4 := kp4.at wB3 (hno1 _ (by omega))
          have wC4 := kp4.at wC3 (hno1 _ (by omega))
          have wA4 := kp4.at wA3 (hno1 _ (by omega))
          replace wE2 := kp4.at wE2 (hno1 _ (by have := t2.size; omega))
          have m4 : ∀ b, N2 b → M4 b := fun b hb => n4 b (m2 b hb)
          simp -dsimp [wC4, wA4, idA0, idA1, idA2, again_cons]
          refine grs_at (i := 2) (t := ⟨.slice va4 vn4 vc4, c.mx.take j, o4⟩) (x := vX) (c := [.int .i64 vX]) wE2 intT G4 rfl t4.lt rfl rfl (by show ((c.mx.take j).length + 1) * 8 ≤ _; have := ll c.mx; omega) (by show (c.mx.take j).length + 1 < _; have := ll c.mx; omega) (fun b hb => by have := t4.size; have := hNlt b hb; omega) (by have := t4.size; omega) ?_
          intro ra2 rn2 rc2 Y5 M5 p2 kp5 u5 G5 n5
          have t5 := t4.trans u5
          have v5 := v4.trans u5
          have wB5 := kp5.at wB4 (hno2 _ (by omega))
          have wC5 := kp5.at wC4 (hno2 _ (by omega))
          have wA5 := kp5.at wA4 (hno2 _ (by omega))
          have m5 : ∀ b, N2 b → M5 b := fun b hb => n5 b (m4 b hb)
          simp -dsimp [wC5, set_same _ (lt_of_blk wC5), Array.setIfInBounds_setIfInBounds, wj, again_cons]
          exact ⟨(j + 1, _, _, _), by simp, rfl, fin Y5 M5 _ _ _ _ _ _ _ _ _ p0 p1 p2 t5 m5 G5 wB5 wC5 v5, by show m - (j + 1) < m - j; omega⟩
        case' L12 =>
          rw [treeW_leaf]
          simp -dsimp [wCY, wCp1 wCY, wCp2 wCY, wCp3 wCY, wAY, wCp1 wAY, wCp2 wAY, wCp3 wAY, idA0, idA1, idA2, again_cons]
          generalize hP1 : Array.push (Array.push (Array.push Y _) _) _ = Y1
          have kp1 : Keep none_ Y Y1 := by rw [← hP1]; exact (((Keep.refl none_ Y).pushed _).pushed _).pushed _
          have wE1 : Y1[Y.size]? = some (.cells #[.int .i64 vN] 3 (0, 0)) := by rw [← hP1]; exact push_at (push_at (push_new _ _))
          have wE0 : Y1[Y.size + 1]? = some (.cells #[.int .i64 vS] 3 (0, 0)) := by rw [← hP1]; exact push_at (push_get (by simp))
          have wE2 : Y1[Y.size + 1 + 1]? = some (.cells #[.int .i64 vX] 3 (0, 0)) := by rw [← hP1]; exact push_get (by simp)
          have wB1 := kp1.at wBY (fun h => h)
          have wC1 := kp1.at wCY (fun h => h)
          have wA1 := kp1.at wAY (fun h => h)
          have t1 := tY.call kp1
          have v1 := tY.here.call kp1
          have G1 := GY.call kp1
          refine grs_at (i := 0) (t := ⟨.slice va2 vn2 vc2, c.sum.take j, o2⟩) (x := vS) (c := [.int .i64 vS]) wE0 intT G1 rfl t1.lt rfl rfl (by show ((c.sum.take j).length + 1) * 8 ≤ _; have := ll c.sum; omega) (by show (c.sum.take j).length + 1 < _; have := ll c.sum; omega) (fun b hb => by have := t1.size; have := hNlt b hb; omega) (by have := t1.size; omega) ?_
          intro ra0 rn0 rc0 Y2 M2 p0 kp2 u2 G2 n2
          have t2 := t1.trans u2
          have v2 := v1.trans u2
          have wB2 := kp2.at wB1 (hno0 _ (by omega))
          have wC2 := kp2.at wC1 (hno0 _ (by omega))
          have wA2 := kp2.at wA1 (hno0 _ (by omega))
          replace wE1 := kp2.at wE1 (hno0 _ (by have := tY.size; omega))
          replace wE2 := kp2.at wE2 (hno0 _ (by have := tY.size; omega))
          have m2 : ∀ b, N2 b → M2 b := fun b hb => n2 b (hN2 b hb)
          simp -dsimp [wC2, wA2, idA0, idA1, idA2, again_cons]
          refine grs_at (i := 1) (t := ⟨.slice va3 vn3 vc3, c.mn.take j, o3⟩) (x := vN) (c := [.int .i64 vN]) wE1 intT G2 rfl t2.lt rfl rfl (by show ((c.mn.take j).length + 1) * 8 ≤ _; have := ll c.mn; omega) (by show (c.mn.take j).length + 1 < _; have := ll c.mn; omega) (fun b hb => by have := t2.size; have := hNlt b hb; omega) (by have := t2.size; omega) ?_
          intro ra1 rn1 rc1 Y3 M3 p1 kp3 u3 G3 n3
          have t3 := t2.trans u3
          have v3 := v2.trans u3
          have wB3 := kp3.at wB2 (hno1 _ (by omega))
          have wC3 := kp3.at wC2 (hno1 _ (by omega))
          have wA3 := kp3.at wA2 (hno1 _ (by omega))
          replace wE2 := kp3.at wE2 (hno1 _ (by have := tY.size; omega))
          have m3 : ∀ b, N2 b → M3 b := fun b hb => n3 b (m2 b hb)
          simp -dsimp [wC3, wA3, idA0, idA1, idA2, again_cons]
          refine grs_at (i := 2) (t := ⟨.slice va4 vn4 vc4, c.mx.take j, o4⟩) (x := vX) (c := [.int .i64 vX]) wE2 intT G3 rfl t3.lt rfl rfl (by show ((c.mx.take j).length + 1) * 8 ≤ _; have := ll c.mx; omega) (by show (c.mx.take j).length + 1 < _; have := ll c.mx; omega) (fun b hb => by have := t3.size; have := hNlt b hb; omega) (by have := t3.size; omega) ?_
          intro ra2 rn2 rc2 Y4 M4 p2 kp4 u4 G4 n4
          have t4 := t3.trans u4
          have v4 := v3.trans u4
          have wB4 := kp4.at wB3 (hno2 _ (by omega))
          have wC4 := kp4.at wC3 (hno2 _ (by omega))
          have wA4 := kp4.at wA3 (hno2 _ (by omega))
          have m4 : ∀ b, N2 b → M4 b := fun b hb => n4 b (m3 b hb)
          simp -dsimp [wC4, set_same _ (lt_of_blk wC4), Array.setIfInBounds_setIfInBounds, wj, again_cons]
          exact ⟨(j + 1, _, _, _), by simp, rfl, fin Y4 M4 _ _ _ _ _ _ _ _ _ p0 p1 p2 t4 m4 G4 wB4 wC4 v4, by show m - (j + 1) < m - j; omega⟩
        case' L13 =>
          rw [treeW_leaf]
          simp -dsimp [wCY, wCp1 wCY, wCp2 wCY, wCp3 wCY, wAY, wCp1 wAY, wCp2 wAY, wCp3 wAY, idA0, idA1, idA2, again_cons]
          generalize hP1 : Array.push (Array.push (Array.push Y _) _) _ = Y1
          have kp1 : Keep none_ Y Y1 := by rw [← hP1]; exact (((Keep.refl none_ Y).pushed _).pushed _).pushed _
          have wE1 : Y1[Y.size]? = some (.cells #[.int .i64 vN] 3 (0, 0)) := by rw [← hP1]; exact push_at (push_at (push_new _ _))
          have wE2 : Y1[Y.size + 1]? = some (.cells #[.int .i64 vX] 3 (0, 0)) := by rw [← hP1]; exact push_at (push_get (by simp))
          have wE0 : Y1[Y.size + 1 + 1]? = some (.cells #[.int .i64 vS] 3 (0, 0)) := by rw [← hP1]; exact push_get (by simp)
          have wB1 := kp1.at wBY (fun h => h)
          have wC1 := kp1.at wCY (fun h => h)
          have wA1 := kp1.at wAY (fun h => h)
          have t1 := tY.call kp1
          have v1 := tY.here.call kp1
          have G1 := GY.call kp1
          refine grs_at (i := 0) (t := ⟨.slice va2 vn2 vc2, c.sum.take j, o2⟩) (x := vS) (c := [.int .i64 vS]) wE0 intT G1 rfl t1.lt rfl rfl (by show ((c.sum.take j).length + 1) * 8 ≤ _; have := ll c.sum; omega) (by show (c.sum.take j).length + 1 < _; have := ll c.sum; omega) (fun b hb => by have := t1.size; have := hNlt b hb; omega) (by have := t1.size; omega) ?_
          intro ra0 rn0 rc0 Y2 M2 p0 kp2 u2 G2 n2
          have t2 := t1.trans u2
          have v2 := v1.trans u2
          have wB2 := kp2.at wB1 (hno0 _ (by omega))
          have wC2 := kp2.at wC1 (hno0 _ (by omega))
          have wA2 := kp2.at wA1 (hno0 _ (by omega))
          replace wE1 := kp2.at wE1 (hno0 _ (by have := tY.size; omega))
          replace wE2 := kp2.at wE2 (hno0 _ (by have := tY.size; omega))
          have m2 : ∀ b, N2 b → M2 b := fun b hb => n2 b (hN2 b hb)
          simp -dsimp [wC2, wA2, idA0, idA1, idA2, again_cons]
          refine grs_at (i := 1) (t := ⟨.slice va3 vn3 vc3, c.mn.take j, o3⟩) (x := vN) (c := [.int .i64 vN]) wE1 intT G2 rfl t2.lt rfl rfl (by show ((c.mn.take j).length + 1) * 8 ≤ _; have := ll c.mn; omega) (by show (c.mn.take j).length + 1 < _; have := ll c.mn; omega) (fun b hb => by have := t2.size; have := hNlt b hb; omega) (by have := t2.size; omega) ?_
          intro ra1 rn1 rc1 Y3 M3 p1 kp3 u3 G3 n3
          have t3 := t2.trans u3
          have v3 := v2.trans u3
          have wB3 := kp3.at wB2 (hno1 _ (by omega))
          have wC3 := kp3.at wC2 (hno1 _ (by omega))
          have wA3 := kp3.at wA2 (hno1 _ (by omega))
          replace wE2 := kp3.at wE2 (hno1 _ (by have := tY.size; omega))
          have m3 : ∀ b, N2 b → M3 b := fun b hb => n3 b (m2 b hb)
          simp -dsimp [wC3, wA3, idA0, idA1, idA2, again_cons]
          refine grs_at (i := 2) (t := ⟨.slice va4 vn4 vc4, c.mx.take j, o4⟩) (x := vX) (c := [.int .i64 vX]) wE2 intT G3 rfl t3.lt rfl rfl (by show ((c.mx.take j).length + 1) * 8 ≤ _; have := ll c.mx; omega) (by show (c.mx.take j).length + 1 < _; have := ll c.mx; omega) (fun b hb => by have := t3.size; have := hNlt b hb; omega) (by have := t3.size; omega) ?_
          intro ra2 rn2 rc2 Y4 M4 p2 kp4 u4 G4 n4
          have t4 := t3.trans u4
          have v4 := v3.trans u4
          have wB4 := kp4.at wB3 (hno2 _ (by omega))
          have wC4 := kp4.at wC3 (hno2 _ (by omega))
          have wA4 := kp4.at wA3 (hno2 _ (by omega))
          have m4 : ∀ b, N2 b → M4 b := fun b hb => n4 b (m3 b hb)
          simp -dsimp [wC4, set_same _ (lt_of_blk wC4), Array.setIfInBounds_setIfInBounds, wj, again_cons]
          exact ⟨(j + 1, _, _, _), by simp, rfl, fin Y4 M4 _ _ _ _ _ _ _ _ _ p0 p1 p2 t4 m4 G4 wB4 wC4 v4, by show m - (j + 1) < m - j; omega⟩
        case' L14 =>
          rw [treeW_leaf]
          simp -dsimp [wCY, wCp1 wCY, wCp2 wCY, wCp3 wCY, wAY, wCp1 wAY, wCp2 wAY, wCp3 wAY, idA0, idA1, idA2, again_cons]
          generalize hP1 : Array.push (Array.push (Array.push Y _) _) _ = Y1
          have kp1 : Keep none_ Y Y1 := by rw [← hP1]; exact (((Keep.refl none_ Y).pushed _).pushed _).pushed _
          have wE2 : Y1[Y.size]? = some (.cells #[.int .i64 vX] 3 (0, 0)) := by rw [← hP1]; exact push_at (push_at (push_new _ _))
          have wE1 : Y1[Y.size + 1]? = some (.cells #[.int .i64 vN] 3 (0, 0)) := by rw [← hP1]; exact push_at (push_get (by simp))
          have wE0 : Y1[Y.size + 1 + 1]? = some (.cells #[.int .i64 vS] 3 (0, 0)) := by rw [← hP1]; exact push_get (by simp)
          have wB1 := kp1.at wBY (fun h => h)
          have wC1 := kp1.at wCY (fun h => h)
          have wA1 := kp1.at wAY (fun h => h)
          have t1 := tY.call kp1
          have v1 := tY.here.call kp1
          have G1 := GY.call kp1
          refine grs_at (i := 0) (t := ⟨.slice va2 vn2 vc2, c.sum.take j, o2⟩) (x := vS) (c := [.int .i64 vS]) wE0 intT G1 rfl t1.lt rfl rfl (by show ((c.sum.take j).length + 1) * 8 ≤ _; have := ll c.sum; omega) (by show (c.sum.take j).length + 1 < _; have := ll c.sum; omega) (fun b hb => by have := t1.size; have := hNlt b hb; omega) (by have := t1.size; omega) ?_
          intro ra0 rn0 rc0 Y2 M2 p0 kp2 u2 G2 n2
          have t2 := t1.trans u2
          have v2 := v1.trans u2
          have wB2 := kp2.at wB1 (hno0 _ (by omega))
          have wC2 := kp2.at wC1 (hno0 _ (by omega))
          have wA2 := kp2.at wA1 (hno0 _ (by omega))
          replace wE2 := kp2.at wE2 (hno0 _ (by have := tY.size; omega))
          replace wE1 := kp2.at wE1 (hno0 _ (by have := tY.size; omega))
          have m2 : ∀ b, N2 b → M2 b := fun b hb => n2 b (hN2 b hb)
          simp -dsimp [wC2, wA2, idA0, idA1, idA2, again_cons]
          refine grs_at (i := 1) (t := ⟨.slice va3 vn3 vc3, c.mn.take j, o3⟩) (x := vN) (c := [.int .i64 vN]) wE1 intT G2 rfl t2.lt rfl rfl (by show ((c.mn.take j).length + 1) * 8 ≤ _; have := ll c.mn; omega) (by show (c.mn.take j).length + 1 < _; have := ll c.mn; omega) (fun b hb => by have := t2.size; have := hNlt b hb; omega) (by have := t2.size; omega) ?_
          intro ra1 rn1 rc1 Y3 M3 p1 kp3 u3 G3 n3
          have t3 := t2.trans u3
          have v3 := v2.trans u3
          have wB3 := kp3.at wB2 (hno1 _ (by omega))
          have wC3 := kp3.at wC2 (hno1 _ (by omega))
          have wA3 := kp3.at wA2 (hno1 _ (by omega))
          replace wE2 := kp3.at wE2 (hno1 _ (by have := tY.size; omega))
          have m3 : ∀ b, N2 b → M3 b := fun b hb => n3 b (m2 b hb)
          simp -dsimp [wC3, wA3, idA0, idA1, idA2, again_cons]
          refine grs_at (i := 2) (t := ⟨.slice va4 vn4 vc4, c.mx.take j, o4⟩) (x := vX) (c := [.int .i64 vX]) wE2 intT G3 rfl t3.lt rfl rfl (by show ((c.mx.take j).length + 1) * 8 ≤ _; have := ll c.mx; omega) (by show (c.mx.take j).length + 1 < _; have := ll c.mx; omega) (fun b hb => by have := t3.size; have := hNlt b hb; omega) (by have := t3.size; omega) ?_
          intro ra2 rn2 rc2 Y4 M4 p2 kp4 u4 G4 n4
          have t4 := t3.trans u4
          have v4 := v3.trans u4
          have wB4 := kp4.at wB3 (hno2 _ (by omega))
          have wC4 := kp4.at wC3 (hno2 _ (by omega))
          have wA4 := kp4.at wA3 (hno2 _ (by omega))
          have m4 : ∀ b, N2 b → M4 b := fun b hb => n4 b (m3 b hb)
          simp -dsimp [wC4, set_same _ (lt_of_blk wC4), Array.setIfInBounds_setIfInBounds, wj, again_cons]
          exact ⟨(j + 1, _, _, _), by simp, rfl, fin Y4 M4 _ _ _ _ _ _ _ _ _ p0 p1 p2 t4 m4 G4 wB4 wC4 v4, by show m - (j + 1) < m - j; omega⟩
      · have hjl' : ¬ (j : Int) < m := by omega
        simp -dsimp [hjl']
        exact ⟨rfl, (j, _, _, _), by simp, rfl, ⟨N1, bv, o2, o3, o4, tz, hN1, hj, wBz, rz, wCz, gg⟩, by show j = m; omega⟩
    rintro ⟨j, v2, v3, v4⟩ z g' ⟨N1, bv, o2, o3, o4, tz, hN1, hj, wBz, rz, wCz, gg⟩ hjm
    simp only at hj rz wCz gg hjm
    have tk : ∀ l : List Int, l.length = m → l.take j = l := fun l hl => List.take_of_length_le (by omega)
    rw [tk c.sum hsl, tk c.mn (by rw [hc.mn]; omega), tk c.mx (by rw [hc.mx]; omega)] at gg
    obtain ⟨va2, vn2, vc2, rfl, _⟩ := (gg.at (i := 0) rfl).vals
    obtain ⟨va3, vn3, vc3, rfl, _⟩ := (gg.at (i := 1) rfl).vals
    obtain ⟨va4, vn4, vc4, rfl, _⟩ := (gg.at (i := 2) rfl).vals
    have hnN : ∀ b, b ≠ h.size + 1 → b ≠ h.size + 2 → ¬ N b := fun b n1 n2 hb => by have := (hN b).1 hb; omega
    have wLz := tz.at wL0 (hnN _ (by omega) (by omega))
    have wTz := tz.at wT0 (hnN _ (by omega) (by omega))
    have wDz := tz.at wD0 (hnN _ (by omega) (by omega))
    have hr := fun (i : Nat) (t : GI Int) (hi : [(⟨.slice va2 vn2 vc2, c.sum, o2⟩ : GI Int), ⟨.slice va3 vn3 vc3, c.mn, o3⟩, ⟨.slice va4 vn4 vc4, c.mx, o4⟩][i]? = some t) => (gg.at hi).rep (n' := h.size) (Nat.le_refl _) fun b hb => ((gg.gr t (List.mem_of_getElem? hi)).2 b hb).2
    have hrep : rCell.rep (Ft h.size none_ z) z [.slice va c.key.length vc, .int .i64 c.count, .slice va2 vn2 vc2, .slice va3 vn3 vc3, .slice va4 vn4 vc4] c := ⟨_, _, _, _, rfl, (gk.mono (tz.ft (Nat.le_refl _))).mono (Ft.free (Nat.le_refl _)), hr 0 _ rfl, hr 1 _ rfl, hr 2 _ rfl⟩
    have hsmall : CellSmall c := ⟨by omega, by omega, by rw [hc.mn]; omega, by rw [hc.mx]; omega⟩
    obtain ⟨bva, bvn, bvc, rfl⟩ : ∃ a n c, bv = .slice a n c := by obtain ⟨a, c, e, _⟩ := rz.val; exact ⟨_, _, _, e⟩
    have q1 : (1 : Int) ≤ c.count := hn.1
    have q2 : c.count ≤ (300 : Int) := hn.2
    have tzz := tt0.trans tz
    simp -dsimp
    refine drawn_by [⟨0, true, []⟩, ⟨2, true, []⟩, ⟨3, true, []⟩, ⟨4, true, []⟩, ⟨5, true, []⟩, ⟨1, false, [2, 3, 4, 5]⟩, ⟨6, true, []⟩, ⟨7, true, []⟩, ⟨8, true, []⟩, ⟨9, true, []⟩, ⟨10, true, []⟩, ⟨11, false, [2, 9, 10]⟩, ⟨12, false, [9, 10]⟩, ⟨13, false, []⟩] (by kernel_rfl) (by kernel_rfl) ?_
    simp -dsimp [wCz, wBz, q1]
    refine call_by (own_new (rCell.mono hrep (Ft.free (Nat.zero_le _))) hsmall) ?_
    rintro _ z6 ⟨ds, rfl, rd, k6⟩
    obtain ⟨ka', kc', sa', sc', na', nc', xa', xc', rfl, s1, s2, s3, s4⟩ := cell_open rd
    have wC6 := k6.at wCz (fun h => h)
    have wB6 := k6.at wBz (fun h => h)
    have wL6 := k6.at wLz (fun h => h)
    have wT6 := k6.at wTz (fun h => h)
    have wD6 := k6.at wDz (fun h => h)
    have ne1 : h.size + 2 ≠ h.size + 1 := by omega
    have ne2 : h.size + 2 ≠ h.size + 3 := by omega
    have ne3 : h.size + 2 ≠ h.size + 4 := by omega
    have ne4 : h.size + 3 ≠ h.size + 4 := by omega
    simp -dsimp [again_cons, wC6, wB6, q1, q2, wL6, wT6, set_same _ (lt_of_blk wC6), set_other _ ne1, set_other _ ne2, set_other _ ne3, set_other _ ne4]
    generalize hH2 : Array.setIfInBounds (Array.setIfInBounds (Array.setIfInBounds z6 _ _) _ _) _ _ = z7
    have hold7 : ∀ b, b ≠ h.size + 2 → b ≠ h.size + 3 → b ≠ h.size + 4 → z7[b]? = z6[b]? := fun b n1 n2 n3 => by rw [← hH2, set_other _ (fun e => n3 e.symm), set_other _ (fun e => n2 e.symm), set_other _ (fun e => n1 e.symm)]
    have hz7 : z7.size = z6.size := by rw [← hH2]; simp
    have l2 := lt_of_blk wC6
    have l3 := lt_of_blk wL6
    have l4 := lt_of_blk wT6
    have l5 := lt_of_blk wD6
    have v2 : z7[h.size + 2]? = some (.cells #[.slice ka' c.key.length kc', .int .i64 c.count, .slice sa' c.sum.length sc', .slice na' c.mn.length nc', .slice xa' c.mx.length xc'] 65 (0, 0)) := by rw [← hH2, set_other _ (by omega), set_other _ (by omega)]; exact set_same _ l2
    have v3 : z7[h.size + 3]? = some (.cells #[.slice bva bvn bvc] 66 (0, 0)) := by rw [← hH2, set_other _ (by omega)]; exact set_same _ (by simpa using l3)
    have v4 : z7[h.size + 4]? = some (.cells #[.bool true] 4 (0, 0)) := by rw [← hH2]; exact set_same _ (by simpa using l4)
    rw [takeS_cons ((hold7 _ (by omega) (by omega) (by omega)).trans wD6)]
    have nn2 : h3.size ≠ h.size + 2 := by omega
    have nn3 : h3.size ≠ h.size + 3 := by omega
    have nn4 : h3.size ≠ h.size + 4 := by omega
    simp -dsimp [set_other _ nn2, set_other _ nn3, set_other _ nn4, v2, v3, v4]
    have hold8 : ∀ b, b < z.size → b ≠ h.size + 2 → b ≠ h.size + 3 → b ≠ h.size + 4 → b ≠ h3.size → (z7.setIfInBounds h3.size (.deferred none))[b]? = z[b]? := fun b hb n1 n2 n3 n4 => by rw [set_other _ (fun e => n4 e.symm), hold7 b n1 n2 n3, k6.blk b hb (fun h => h)]
    have hz8 : (z7.setIfInBounds h3.size (.deferred none)).size = z6.size := by simp [hz7]
    refine hK _ _ ⟨[.slice ka' c.key.length kc', .int .i64 c.count, .slice sa' c.sum.length sc', .slice na' c.mn.length nc', .slice xa' c.mx.length xc'], _, rfl, ?_, ?_, ⟨?_, ?_⟩⟩
    · refine rCell.mono rd fun b hb => ?_
      have h1 := hb.1.1
      have h2 := tzz.size
      have h3' := tz.size
      have e : (z7.setIfInBounds h3.size (.deferred none))[b]? = z6[b]? := by rw [set_other _ (by omega), hold7 b (by omega) (by omega) (by omega)]
      exact ⟨⟨hb.1.at (by omega) e, by have := hb.2.1; omega, fun h => h⟩, e⟩
    · have hwd : c.key.length + 2 + 24 * j = w := by omega
      rw [hwd] at rz
      refine rz.mono fun b hb => ?_
      have h1 := hF _ hb
      have h2 := tzz.size
      have e := hold8 b (by omega) (by omega) (by omega) (by omega) (by omega)
      exact ⟨hb, e⟩
    · have := tzz.size
      have := k6.size
      omega
    · intro b hb _
      have := tzz.size
      rw [hold8 b (by omega) (by omega) (by omega) (by omega) (by omega)]
      exact tzz.keep.blk b hb (fun h => h)
end Go.Proofs

/-
  The document's cell out of bytes.
-/
namespace Go.Proofs
open Go Go.HC

end Go.Proofs

/-
  The document's cuboid out of bytes.
-/
namespace Go.HC
/-- What stands where in a cuboid's bytes. -/
structure CubAt (k : Int) (l : List CellM) (w : Nat) (b : List UInt8) : Prop where
  set : b[0]? = some (byteM k)
  hi : b[1]? = some (byteM ((l.length : Int).fdiv 256))
  lo : b[2]? = some (byteM l.length)
  cell : ∀ (i : Nat) (h : i < l.length), (b.drop (3 + i * w)).take w = cellB l[i]
  len : b.length = 3 + l.length * w
theorem cub_at {s : SchM} {k : Int} {l : List CellM} (ok : CubOk s k l) : CubAt k l ((dimsM k).length + 2 + 24 * s.ms.toNat) (encC k l) := by
  have hl : ∀ c ∈ l, (cellB c).length = (dimsM k).length + 2 + 24 * s.ms.toNat := fun c hc => cellB_len (ok.cel c hc)
  have e : encC k l = byteM k :: byteM ((l.length : Int).fdiv 256) :: byteM l.length :: l.flatMap cellB := by
    rw [encC_eq]
    unfold w2
    simp
  refine ⟨by rw [e]; rfl, by rw [e]; rfl, by rw [e]; rfl, fun i hi => ?_, ?_⟩
  · rw [e, show 3 + i * ((dimsM k).length + 2 + 24 * s.ms.toNat) = i * ((dimsM k).length + 2 + 24 * s.ms.toNat) + 1 + 1 + 1 by omega]
    simp only [List.drop_succ_cons]
    exact flat_piece hl i hi
  · rw [e]
    simp only [List.length_cons]
    rw [flat_size hl]
    omega
end Go.HC
namespace Go.Proofs
open Go Go.HC

end Go.Proofs

/-
  The program's cuboid out of bytes.
-/
namespace Go.Proofs
open Go Go.HC

set_option maxHeartbeats 2000000 in
set_option maxRecDepth 10000 in
theorem pcdecode_spec {h : Heap} {cv bv : Value} {s : SchM} {k : Int} {l : List CellM} (hcv : SlRep rInt (Old h) h cv s.cards) (hb : SlRep rByte (Old h) h bv (encC k l)) (ok : CubOk s k l) :
    CallH Tryz.prog 88 #[.agg #[cv, .int .i64 s.ms], bv] h fun r h' => ∃ rv, r = .tuple #[.int .i64 k, rv, .bool true] ∧ SlRep rCell (Ft h.size none_ h') h' rv l ∧ Keep none_ h h' := by
  refine callH_by fun K hK => ?_
  refine enter [.tmp 4, .tmp 5, .tmp 6] Tryz.func88 rfl rfl (by kernel_rfl) rfl ?_
  have C := cub_at ok
  have hcl : ∀ c ∈ l, (cellB c).length = (dimsM k).length + 2 + 24 * s.ms.toNat := fun c hc => cellB_len (ok.cel c hc)
  obtain ⟨w, ew⟩ : ∃ w, w = (dimsM k).length + 2 + 24 * s.ms.toNat := ⟨_, rfl⟩
  rw [← ew] at C
  obtain ⟨E, eE⟩ : ∃ E, E = encC k l := ⟨_, rfl⟩
  rw [← eE] at C hb
  have hcv0 := hcv
  have hb0 := hb
  obtain ⟨a0, c0, rfl, _, _⟩ := hcv.val
  obtain ⟨xa, xc, rfl, hxc, _⟩ := hb.val
  have hd4 := ok.sch.dims.2
  have hms := ok.sch.ms
  have hdl : (dimsM k).length ≤ 4 := cntD_le k 4
  have hk := ok.set
  have hp4 : (2 : Int) ^ s.cards.length ≤ 2 ^ 4 := pow2_le hd4
  have e16 : (2 : Int) ^ 4 = 16 := by decide
  have hln := ok.len
  have hw60 : w ≤ 60 := by omega
  obtain ⟨m, em⟩ : ∃ m : Nat, s.ms = m := ⟨s.ms.toNat, by omega⟩
  have ew2 : w = (dimsM k).length + 2 + 24 * m := by rw [ew]; omega
  have hEl := C.len
  have hnw : l.length * w ≤ 300 * 60 := Nat.mul_le_mul (by omega) hw60
  rw [em]
  simp -dsimp [boxS_eq]
  generalize hH : Array.push h _ = h0
  have k0 : Keep none_ h h0 := by rw [← hH]; exact .push _ _ _
  have z0 : h0.size = h.size + 1 := by rw [← hH]; simp
  have wS : h0[h.size]? = some (.cells #[.slice a0 s.cards.length c0, .int .i64 m] 30 (0, 0)) := by rw [← hH]; exact push_new _ _
  have q1 : decide ((E.length : Int) < 3) = false := decide_eq_false (by omega)
  have hcvz : ∀ {z : Heap}, Keep none_ h z → SlRep rInt (Old z) z (.slice a0 s.cards.length c0) s.cards := fun kz => hcv0.mono ((Tr.of kz).ft (Nat.le_refl 0))
  simp -dsimp [q1, wS]
  rw [← em]
  refine call_by (pcheck_spec (hcvz k0)) ?_
  rintro _ h1 ⟨⟨t, rfl, ht⟩, k1⟩
  obtain rfl := ht.2 ok.sch
  have wS1 := k1.at wS (fun h => h)
  have k01 : Keep none_ h h1 := k0.trans k1 fun _ _ h => h
  have hbF : ∀ {z : Heap}, Keep none_ h z → SlRep rByte (Old h) z (.slice xa E.length xc) E := fun kz => hb0.mono fun b hb => ⟨hb, kz.blk b hb.2.1 (fun h => h)⟩
  have b1 : E.take 1 = [byteM k] := by
    have := C.set
    obtain ⟨hl0, e0⟩ := List.getElem?_eq_some_iff.1 this
    rw [List.take_one, List.head?_eq_getElem?, this]
    rfl
  have b2 : (E.drop 1).take 2 = HC.w2 l.length := by
    have h1 := C.hi
    have h2 := C.lo
    obtain ⟨hl1, e1⟩ := List.getElem?_eq_some_iff.1 h1
    obtain ⟨hl2, e2⟩ := List.getElem?_eq_some_iff.1 h2
    rw [List.drop_eq_getElem_cons hl1, List.drop_eq_getElem_cons hl2, List.take_succ_cons, List.take_succ_cons, List.take_zero, e1, e2]
    rfl
  have v1 : backM [byteM k] = k := by
    unfold backM
    rw [List.foldl_cons, List.foldl_nil, byteM_small (by omega) (by omega), wrap_i64 (by omega) (by omega)]
    omega
  simp -dsimp
  refine call_by (get_spec (n := 1) (hbF k01) (by omega) (by omega)) ?_
  rintro _ h2 ⟨⟨v', rfl, r2⟩, hh⟩
  subst h2
  rw [b1, v1]
  obtain ⟨va2, vn2, vc2, rfl⟩ : ∃ a n c, v' = .slice a n c := by obtain ⟨a, c, e, _⟩ := r2.val; exact ⟨_, _, _, e⟩
  simp -dsimp
  refine call_by (get_spec (n := 2) r2 (by omega) (by rw [List.length_drop]; omega)) ?_
  rintro _ h2 ⟨⟨v', rfl, r3⟩, hh⟩
  subst h2
  rw [b2, back2 (by omega) (by omega)]
  rw [List.drop_drop] at r3
  obtain ⟨va3, vc3, rfl, _, _⟩ := r3.val
  have hEd : (E.drop (1 + 2)).length = l.length * w := by rw [List.length_drop]; omega
  rw [hEd] at r3 ⊢
  have hsh : k.fdiv (2 ^ s.cards.length) = 0 := by rw [Int.fdiv_eq_ediv_of_nonneg _ (by omega)]; exact Int.ediv_eq_zero_of_lt hk.1 hk.2
  have q2 : ¬ (16 : Int) ≤ k := by omega
  have q3 : decide ((300 : Int) < (l.length : Int)) = false := decide_eq_false (by omega)
  have wu : IntKind.u64.wrap k = k := by simp [IntKind.wrap, IntKind.bits, IntKind.signed]; omega
  have w1 : IntKind.i64.wrap (24 * (m : Int)) = 24 * (m : Int) := wrap_i64 (by omega) (by omega)
  have w2' : IntKind.i64.wrap (((dimsM k).length : Int) + 2) = ((dimsM k).length : Int) + 2 := wrap_i64 (by omega) (by omega)
  have w3 : IntKind.i64.wrap (((dimsM k).length : Int) + 2 + 24 * (m : Int)) = (w : Int) := by rw [wrap_i64 (by omega) (by omega), ew2]; omega
  have w4 : IntKind.i64.wrap ((l.length : Int) * (w : Int)) = (l.length : Int) * (w : Int) := by rw [← Int.natCast_mul]; exact wrap_i64 (by omega) (by omega)
  have hz' : (((l.length * w : Nat) : Int) != (l.length : Int) * (w : Int)) = false := by rw [bne_eq_false_iff_eq, Int.natCast_mul]
  simp -dsimp
  refine drawn_by [⟨0, true, []⟩, ⟨1, true, []⟩, ⟨2, true, []⟩, ⟨3, true, []⟩, ⟨4, true, []⟩, ⟨5, true, []⟩, ⟨6, true, []⟩, ⟨7, true, []⟩, ⟨8, true, []⟩, ⟨9, true, []⟩, ⟨10, true, []⟩, ⟨11, true, []⟩, ⟨12, true, []⟩, ⟨13, true, []⟩, ⟨14, true, []⟩, ⟨15, true, []⟩, ⟨16, true, []⟩, ⟨17, true, []⟩, ⟨18, true, []⟩, ⟨19, true, []⟩, ⟨22, true, []⟩, ⟨23, true, []⟩, ⟨24, true, []⟩, ⟨20, false, [15, 16, 17, 22, 23, 24]⟩, ⟨21, true, []⟩, ⟨25, true, []⟩, ⟨26, true, []⟩, ⟨27, true, []⟩, ⟨28, true, []⟩] (by kernel_rfl) (by kernel_rfl) ?_
  simp -dsimp [q2, wS1, shr_i (s := k) (k := s.cards.length) (by omega), hsh, q3, wu, w1]
  refine call_by (ones_spec (by omega) (by omega) h1) ?_
  rintro _ h2 ⟨rfl, hh⟩
  subst h2
  simp -dsimp [again_cons, q2, wS1, shr_i (s := k) (k := s.cards.length) (by omega), hsh, q3, wu, w1, w2', w3, w4]
  have hpe : ∀ (i : Nat) (h : i < l.length), ((E.drop (3 + i * w)).take w) = cellB l[i] := C.cell
  have r3' : SlRep rByte (Old h) h1 (.slice va3 (l.length * w) vc3) (E.drop (3 + 0 * w)) := by rw [Nat.zero_mul]; exact r3
  refine loopc (σ := Nat × Value × Value) (fun t => [(1, t.2.2), (2, .pointer (some ⟨h.size, 0, none⟩)), (4, .int .i64 k), (5, t.2.1), (56, .int .i64 l.length), (57, .int .i64 t.1)])
    (fun t y => ∃ M own, Tr none_ M h1 y ∧ (∀ b, own = some b → h1.size ≤ b) ∧ t.1 ≤ l.length ∧ SlRep rByte (Old h) y t.2.2 (E.drop (3 + t.1 * w)) ∧ Gr rCell 65 h.size M y t.2.1 (l.take t.1) own)
    (fun t => l.length - t.1) (0, .slice none 0 0, .slice va3 (l.length * w) vc3) 0 (fun t _ => t.1 = l.length) noRet noRet_le (by simp) ⟨none_, none, .start _, (fun _ h => by cases h), Nat.zero_le _, r3', .nil _ _ _ _ _⟩ (by kernel_rfl) ?_ ?_
  case refine_1 =>
    rintro ⟨i, v, bv⟩ y g ⟨M, own, t, ho, hi, ry, gv⟩
    simp only at hi ry gv
    have wSy := t.at wS1 (fun h => h)
    have sy := t.size
    by_cases hil : i < l.length
    · have wi := wrap_succ (k := i) (by omega)
      have hiw : (i + 1) * w ≤ l.length * w := Nat.mul_le_mul hil (Nat.le_refl _)
      rw [Nat.succ_mul] at hiw
      have k0y : Keep none_ h y := k01.trans t.keep fun _ _ h => h
      have hci := List.getElem_mem hil
      simp -dsimp [hil]
      obtain ⟨bc, ebc⟩ : ∃ bc, bc = y.size := ⟨_, rfl⟩
      rw [← ebc]
      generalize hP : Array.push y _ = yp
      have kp : Keep none_ y yp := by rw [← hP]; exact .push _ _ _
      have zp : yp.size = y.size + 1 := by rw [← hP]; simp
      have wp0 : yp[bc]? = some (.cells #[.slice none 0 0, .int .i64 0, .slice none 0 0, .slice none 0 0, .slice none 0 0] 65 (0, 0)) := by rw [← hP, ebc]; exact push_new _ _
      have wSp := kp.at wSy (fun h => h)
      have k0p : Keep none_ h yp := k0y.trans kp fun _ _ h => h
      have rp : SlRep rByte (Old h) yp bv (E.drop (3 + i * w)) := ry.mono fun b hb => ⟨hb, kp.blk b (by have := hb.2.1; have := k0y.size; omega) (fun h => h)⟩
      simp -dsimp [wSp]
      rw [← em]
      refine call_by (pone_spec (w := w) (hcvz k0p) (fun b hb => by have := hb.2.1; have := k0p.size; omega) rp ok.sch ok.set (ok.cel _ hci) (ok.count _ hci) (by rw [ew]) (by rw [List.length_drop]; omega) (hpe i hil)) ?_
      rintro _ z1 ⟨ds, bv', rfl, hds, rz, kz1⟩
      obtain ⟨ka, kc, sa, sc, na, nc, xa', xc', rfl, r1, r2', r3'', r4⟩ := cell_open hds
      have wp1 := kz1.at wp0 (fun h => h)
      have sz1 := kz1.size
      simp -dsimp [wp1]
      generalize hZ : Array.setIfInBounds z1 bc _ = z
      have kyz : Keep none_ y z := by rw [← hZ]; exact (kp.trans kz1 fun _ _ h => h).setted _ fun hh => by omega
      have wC : z[bc]? = some (.cells #[.slice ka l[i].key.length kc, .int .i64 l[i].count, .slice sa l[i].sum.length sc, .slice na l[i].mn.length nc, .slice xa' l[i].mx.length xc'] 65 (0, 0)) := by rw [← hZ]; exact set_same _ (lt_of_blk wp1)
      have holdz : ∀ b, b ≠ bc → z[b]? = z1[b]? := fun b hb => by rw [← hZ]; exact set_other _ (fun e => hb e.symm)
      have hrep : rCell.rep (Ft y.size none_ z) z [.slice ka l[i].key.length kc, .int .i64 l[i].count, .slice sa l[i].sum.length sc, .slice na l[i].mn.length nc, .slice xa' l[i].mx.length xc'] l[i] := rCell.mono hds fun b hb => by
        have h1 := hb.1.1
        have e := holdz b (by omega)
        exact ⟨⟨hb.1.at (by omega) e, by rw [← hZ]; simpa using hb.2.1, fun h => h⟩, e⟩
      have k0z : Keep none_ h z := k0y.trans kyz fun _ _ h => h
      have rzz : SlRep rByte (Old h) z bv' (E.drop (3 + (i + 1) * w)) := by
        rw [List.drop_drop] at rz
        have e : 3 + (i + 1) * w = 3 + i * w + w := by rw [Nat.succ_mul]; omega
        rw [e]
        exact rz.mono fun b hb => ⟨hb, holdz b (by have := hb.2.1; have := k0y.size; omega)⟩
      have wSz := kyz.at wSy (fun h => h)
      have gz := gv.call kyz
      obtain ⟨va, vn, vc, rfl, hvn⟩ := gz.vals
      have hlt : (l.take i).length = i := by rw [List.length_take]; omega
      have sz := kyz.size
      refine drawn_by [⟨0, true, []⟩, ⟨1, true, []⟩, ⟨2, true, []⟩, ⟨3, true, []⟩, ⟨4, true, []⟩, ⟨5, true, []⟩, ⟨6, true, []⟩, ⟨7, true, []⟩, ⟨8, true, []⟩, ⟨9, true, []⟩, ⟨10, true, []⟩, ⟨11, true, []⟩, ⟨12, true, []⟩, ⟨13, true, []⟩, ⟨14, true, []⟩, ⟨15, true, []⟩, ⟨16, false, []⟩, ⟨17, true, []⟩, ⟨18, true, []⟩, ⟨19, true, []⟩] (by kernel_rfl) (by kernel_rfl) ?_
      by_cases hi0 : (i : Int) = 0
      · have hvn0 : vn = 0 := by omega
        subst hvn0
        simp -dsimp [wC]
        refine gr_app1 rfl cellT gz (t.call kyz).lt (x := l[i]) (c := [.slice ka l[i].key.length kc, .int .i64 l[i].count, .slice sa l[i].sum.length sc, .slice na l[i].mn.length nc, .slice xa' l[i].mx.length xc']) ?_ rfl (by omega) (by omega) ?_
        · exact rCell.mono hrep fun b hb => ⟨⟨hb.1.less (by have := k0y.size; omega), hb.2.1, fun hm => by have := t.lt b hm; have := hb.1.1; omega⟩, rfl⟩
        intro v7 h7 own7 g7 t7 k7 ho7
        simp -dsimp [wi]
        refine ⟨(i + 1, v7, bv'), by simp, rfl, ⟨_, own7, (t.call kyz).trans t7, (fun b e => (ho7 _ e).elim (ho b) (by omega)), hil, rzz.mono fun b hb => ⟨hb, k7.blk b (by have := hb.2.1; have := k0z.size; omega) (fun e => by have := ho _ e; have := hb.2.1; have := k01.size; omega)⟩, ?_⟩, by show l.length - (i + 1) < l.length - i; omega⟩
        show Gr rCell _ _ _ _ _ (l.take (i + 1)) own7
        rw [List.take_add_one, List.getElem?_eq_getElem hil]
        exact g7
      · have hig' : 0 < vn := by omega
        have w7 : IntKind.i64.wrap ((vn : Int) - 1) = ((i - 1 : Nat) : Int) := by rw [wrap_i64 (by omega) (by omega)]; omega
        have hi1 : i - 1 < (l.take i).length := by omega
        obtain ⟨bk, cs1, eva, eown, hrc, hce⟩ := gz.elem (i - 1) hi1
        subst eva
        rw [List.getElem_take] at hrc
        obtain ⟨pa, pc, _, _, _, _, _, _, rfl, rpp, _, _, _⟩ := cell_open hrc
        have hcell := cellsIn_cell (d := 0) hce (by decide)
        have hkey : HC.cellIn z[bk]? ((i - 1) * 5) = some (.slice pa (l[i - 1]).key.length pc) := hcell
        obtain ⟨_, _, _, _, _, _, _, _, ers, rk, _, _, _⟩ := cell_open hrep
        cases ers
        have hix : i - 1 < vn := by omega
        have hlsrt : lessM l[i - 1].key l[i].key < 0 := List.pairwise_iff_getElem.1 ok.srt (i - 1) i (by omega) hil (by omega)
        have hge : ¬ (0 ≤ lessM l[i - 1].key l[i].key) := by omega
        simp -dsimp [hig', w7, idxV_nat hix, elSz_eq, hkey, wC]
        refine call_by (cless_spec rpp rk) ?_
        rintro _ z9 ⟨rfl, hh⟩
        subst z9
        simp -dsimp [hge, wC, again_cons]
        refine gr_app1 rfl cellT gz (t.call kyz).lt (x := l[i]) (c := [.slice ka l[i].key.length kc, .int .i64 l[i].count, .slice sa l[i].sum.length sc, .slice na l[i].mn.length nc, .slice xa' l[i].mx.length xc']) ?_ rfl (by omega) (by omega) ?_
        · exact rCell.mono hrep fun b hb => ⟨⟨hb.1.less (by have := k0y.size; omega), hb.2.1, fun hm => by have := t.lt b hm; have := hb.1.1; omega⟩, rfl⟩
        intro v7 h7 own7 g7 t7 k7 ho7
        simp -dsimp [wi]
        refine ⟨(i + 1, v7, bv'), by simp, rfl, ⟨_, own7, (t.call kyz).trans t7, (fun b e => (ho7 _ e).elim (ho b) (by omega)), hil, rzz.mono fun b hb => ⟨hb, k7.blk b (by have := hb.2.1; have := k0z.size; omega) (fun e => by have := ho _ e; have := hb.2.1; have := k01.size; omega)⟩, ?_⟩, by show l.length - (i + 1) < l.length - i; omega⟩
        show Gr rCell _ _ _ _ _ (l.take (i + 1)) own7
        rw [List.take_add_one, List.getElem?_eq_getElem hil]
        exact g7
    · simp -dsimp [hil]
      exact ⟨rfl, (i, v, bv), by simp, rfl, ⟨M, own, t, ho, hi, ry, gv⟩, by show i = _; omega⟩
  rintro ⟨i, v, bv⟩ y g ⟨M, own, t, ho, hi, ry, gv⟩ hil
  simp only at hi gv hil
  rw [hil, List.take_length] at gv
  simp -dsimp
  refine call_by (cloneCell_spec gv.grow (fun b hb => hb.2.1) (by omega)) ?_
  rintro rv y2 ⟨own2, g2, k2, ho2⟩
  obtain ⟨ra, rc, rfl⟩ := g2.val
  simp -dsimp
  have tt : Tr M M y y2 := t.here.call k2
  have s1 := k01.size
  have s2 := t.size
  refine hK _ _ ⟨_, rfl, g2.rep.mono fun b hb => ?_, (k01.trans t.keep fun _ _ h => h).trans k2 fun _ _ h => h⟩
  rcases hb with hb | hb
  · have := (tt.ft (Nat.le_refl _) b hb).1
    exact ⟨⟨this.1, this.2.1, fun h => h⟩, rfl⟩
  · have h1 := ho2 b hb
    exact ⟨⟨⟨by omega, fun _ => g2.thaw b hb⟩, g2.own_lt b hb, fun h => h⟩, rfl⟩
end Go.Proofs

/-
  Names of sets' files: both.
-/
namespace Go.HC
def nameL : List ByteArray := [⟨#[99, 48]⟩, ⟨#[99, 49]⟩, ⟨#[99, 50]⟩, ⟨#[99, 51]⟩, ⟨#[99, 52]⟩, ⟨#[99, 53]⟩, ⟨#[99, 54]⟩, ⟨#[99, 55]⟩, ⟨#[99, 56]⟩, ⟨#[99, 57]⟩, ⟨#[99, 49, 48]⟩, ⟨#[99, 49, 49]⟩, ⟨#[99, 49, 50]⟩, ⟨#[99, 49, 51]⟩, ⟨#[99, 49, 52]⟩, ⟨#[99, 49, 53]⟩]
/-- A set's file. -/
def nameK (k : Int) : ByteArray := nameL.getD k.toNat ⟨#[]⟩
theorem nameK_inj : ∀ x y : Fin 16, nameK (x.val : Int) = nameK (y.val : Int) → x = y := by decide +kernel
end Go.HC
namespace Go.Proofs
open Go Go.HC

set_option maxHeartbeats 4000000 in
set_option maxRecDepth 10000 in
theorem small_spec (x : Fin 16) (h : Heap) : CallH Tryz.prog 187 #[.int .i64 (x.val : Int)] h fun r h' => (∃ s : ByteArray, r = .string s ∧ (⟨#[99]⟩ : ByteArray) ++ s = nameK (x.val : Int)) ∧ h' = h := by
  refine callH_by fun K hK => ?_
  refine enter [.tmp 2] Tryz.func187 rfl rfl (by kernel_rfl) rfl ?_
  obtain ⟨x, hx⟩ := x
  by_cases h10 : x < 10
  · have q1 : (x : Int) < 10 := by omega
    have w1 := wrap_succ (k := x) (by omega)
    have hs : ∀ (s : ByteArray) (K : Value → Heap → Prop), x + 1 ≤ s.size → sliceS Tryz.prog 9 (.string s) (some (.int .i64 (x : Int))) (some (.int .i64 ((x : Int) + 1))) none h K = K (.string (s.extract x (x + 1))) h := fun s K hl => by
      have := sliceS_string (P := Tryz.prog) (T := 9) (s := s) (lo := some (.int .i64 (x : Int))) (hi := some (.int .i64 ((x + 1 : Nat) : Int))) (i := x) (j := x + 1) (K := K) (h := h) Tryz.strT9 (.inr ⟨_, rfl⟩) (.inr ⟨_, rfl⟩) (by omega) hl
      exact this
    simp -dsimp [q1, w1]
    rw [hs _ _ (by show x + 1 ≤ 36; omega)]
    simp -dsimp
    refine hK _ _ ⟨⟨_, rfl, ?_⟩, rfl⟩
    clear hK hs w1 q1
    have key : ∀ x : Fin 10, (⟨#[99]⟩ : ByteArray) ++ ByteArray.extract ⟨#[48, 49, 50, 51, 52, 53, 54, 55, 56, 57, 97, 98, 99, 100, 101, 102, 103, 104, 105, 106, 107, 108, 109, 110, 111, 112, 113, 114, 115, 116, 117, 118, 119, 120, 121, 122]⟩ x.val (x.val + 1) = nameK (x.val : Int) := by decide +kernel
    exact key ⟨x, h10⟩
  · have q1 : ¬ (x : Int) < 10 := by omega
    have w1 : IntKind.i64.wrap ((x : Int) * 2) = ((2 * x : Nat) : Int) := by rw [wrap_i64 (by omega) (by omega)]; omega
    have w2 : IntKind.i64.wrap (((2 * x : Nat) : Int) + 2) = ((2 * x + 2 : Nat) : Int) := by rw [wrap_i64 (by omega) (by omega)]; omega
    have w2' : IntKind.i64.wrap (2 * (x : Int) + 2) = 2 * (x : Int) + 2 := wrap_i64 (by omega) (by omega)
    have hs : ∀ (s : ByteArray) (K : Value → Heap → Prop), 2 * x + 2 ≤ s.size → sliceS Tryz.prog 9 (.string s) (some (.int .i64 (2 * (x : Int)))) (some (.int .i64 (2 * (x : Int) + 2))) none h K = K (.string (s.extract (2 * x) (2 * x + 2))) h := fun s K hl => by
      have := sliceS_string (P := Tryz.prog) (T := 9) (s := s) (lo := some (.int .i64 ((2 * x : Nat) : Int))) (hi := some (.int .i64 ((2 * x + 2 : Nat) : Int))) (i := 2 * x) (j := 2 * x + 2) (K := K) (h := h) Tryz.strT9 (.inr ⟨_, rfl⟩) (.inr ⟨_, rfl⟩) (by omega) hl
      rw [Int.natCast_add, Int.natCast_mul] at this
      exact this
    simp -dsimp [q1, w1, w2']
    rw [hs _ _ (by show 2 * x + 2 ≤ 200; omega)]
    simp -dsimp
    refine hK _ _ ⟨⟨_, rfl, ?_⟩, rfl⟩
    clear hK hs w1 w2 w2' q1
    have hx6 : x - 10 < 6 := by omega
    obtain ⟨y, rfl⟩ : ∃ y, x = y + 10 := ⟨x - 10, by omega⟩
    have key : ∀ x : Fin 6, (⟨#[99]⟩ : ByteArray) ++ ByteArray.extract ⟨#[48, 48, 48, 49, 48, 50, 48, 51, 48, 52, 48, 53, 48, 54, 48, 55, 48, 56, 48, 57, 49, 48, 49, 49, 49, 50, 49, 51, 49, 52, 49, 53, 49, 54, 49, 55, 49, 56, 49, 57, 50, 48, 50, 49, 50, 50, 50, 51, 50, 52, 50, 53, 50, 54, 50, 55, 50, 56, 50, 57, 51, 48, 51, 49, 51, 50, 51, 51, 51, 52, 51, 53, 51, 54, 51, 55, 51, 56, 51, 57, 52, 48, 52, 49, 52, 50, 52, 51, 52, 52, 52, 53, 52, 54, 52, 55, 52, 56, 52, 57, 53, 48, 53, 49, 53, 50, 53, 51, 53, 52, 53, 53, 53, 54, 53, 55, 53, 56, 53, 57, 54, 48, 54, 49, 54, 50, 54, 51, 54, 52, 54, 53, 54, 54, 54, 55, 54, 56, 54, 57, 55, 48, 55, 49, 55, 50, 55, 51, 55, 52, 55, 53, 55, 54, 55, 55, 55, 56, 55, 57, 56, 48, 56, 49, 56, 50, 56, 51, 56, 52, 56, 53, 56, 54, 56, 55, 56, 56, 56, 57, 57, 48, 57, 49, 57, 50, 57, 51, 57, 52, 57, 53, 57, 54, 57, 55, 57, 56, 57, 57]⟩ (2 * (x.val + 10)) (2 * (x.val + 10) + 2) = nameK ((x.val + 10 : Nat) : Int) := by decide +kernel
    exact key ⟨y, by omega⟩

set_option maxHeartbeats 4000000 in
set_option maxRecDepth 10000 in
theorem rname_spec {k : Int} (h0 : 0 ≤ k) (hk : k < 16) (h : Heap) : CallH Tryz.prog 42 #[.int .i64 k] h fun r h' => r = .string (nameK k) ∧ Keep none_ h h' := by
  refine callH_by fun K hK => ?_
  refine enter [.tmp 2] Tryz.func42 rfl rfl (by kernel_rfl) rfl ?_
  by_cases h10 : (10 : Int) ≤ k
  · have w1 : IntKind.i64.wrap (48 + k) = 48 + k := wrap_i64 (by omega) (by omega)
    have w2 : IntKind.i64.wrap (48 + k - 10) = 48 + k - 10 := wrap_i64 (by omega) (by omega)
    simp -dsimp [h10, w1, w2, wrap_byte]
    have hs : SlRep rByte (fun b => b = h.size) (h.push (.cells #[.int .u8 ((byteM (48 + k - 10)).toNat : Int)] 5)) (.slice (some ⟨h.size, 0, none⟩) 1 1) [byteM (48 + k - 10)] := ⟨_, 1, [.int .u8 ((byteM (48 + k - 10)).toNat : Int)], rfl, Nat.le_refl _, by decide, .inr ⟨h.size, 0, _, _, _, rfl, rfl, push_new _ _, rfl⟩, bytes_map.2 rfl⟩
    rw [conv_bytes_str Tryz.elS66 Tryz.intK5 Tryz.strT9 hs]
    simp -dsimp
    refine hK _ _ ⟨congrArg Value.string ?_, .push _ _ _⟩
    obtain ⟨y, rfl⟩ : ∃ y : Nat, k = y + 10 := ⟨(k - 10).toNat, by omega⟩
    have key : ∀ x : Fin 6, (⟨#[99, 49]⟩ : ByteArray) ++ strOf [byteM (48 + ((x.val : Int) + 10) - 10)] = nameK ((x.val : Int) + 10) := by decide +kernel
    exact key ⟨y, by omega⟩
  · have w1 : IntKind.i64.wrap (48 + k) = 48 + k := wrap_i64 (by omega) (by omega)
    simp -dsimp [h10, w1, wrap_byte]
    have hs : SlRep rByte (fun b => b = h.size) (h.push (.cells #[.int .u8 ((byteM (48 + k)).toNat : Int)] 5)) (.slice (some ⟨h.size, 0, none⟩) 1 1) [byteM (48 + k)] := ⟨_, 1, [.int .u8 ((byteM (48 + k)).toNat : Int)], rfl, Nat.le_refl _, by decide, .inr ⟨h.size, 0, _, _, _, rfl, rfl, push_new _ _, rfl⟩, bytes_map.2 rfl⟩
    rw [conv_bytes_str Tryz.elS66 Tryz.intK5 Tryz.strT9 hs]
    simp -dsimp
    refine hK _ _ ⟨congrArg Value.string ?_, .push _ _ _⟩
    obtain ⟨y, rfl⟩ : ∃ y : Nat, k = y := ⟨k.toNat, by omega⟩
    have key : ∀ x : Fin 10, (⟨#[99]⟩ : ByteArray) ++ strOf [byteM (48 + (x.val : Int))] = nameK (x.val : Int) := by decide +kernel
    exact key ⟨y, by omega⟩

set_option maxHeartbeats 4000000 in
set_option maxRecDepth 10000 in
theorem pname_spec {k : Int} (h0 : 0 ≤ k) (hk : k < 16) (h : Heap) : CallH Tryz.prog 87 #[.int .i64 k] h fun r h' => r = .string (nameK k) ∧ h' = h := by
  obtain ⟨x, rfl⟩ : ∃ x : Fin 16, k = (x.val : Int) := ⟨⟨k.toNat, by omega⟩, by simp; omega⟩
  refine callH_by fun K hK => ?_
  refine enter [.tmp 2] Tryz.func87 rfl rfl (by kernel_rfl) rfl ?_
  simp -dsimp
  refine call_by (K' := fun r h' => (∃ s : ByteArray, r = .string s ∧ (⟨#[99]⟩ : ByteArray) ++ s = nameK (x.val : Int)) ∧ h' = h) ?_ ?_
  · refine callH_by fun K hK => ?_
    refine enter [.tmp 2] Tryz.func124 rfl rfl (by kernel_rfl) rfl ?_
    simp -dsimp
    refine call_by (K' := fun r h' => (∃ s : ByteArray, r = .string s ∧ (⟨#[99]⟩ : ByteArray) ++ s = nameK (x.val : Int)) ∧ h' = h) ?_ ?_
    · refine callH_by fun K hK => ?_
      refine enter [.tmp 2] Tryz.func155 rfl rfl (by kernel_rfl) rfl ?_
      simp -dsimp
      refine call_by (K' := fun r h' => (∃ s : ByteArray, r = .string s ∧ (⟨#[99]⟩ : ByteArray) ++ s = nameK (x.val : Int)) ∧ h' = h) ?_ ?_
      · refine callH_by fun K hK => ?_
        refine enter [.tmp 4] Tryz.func178 rfl rfl (by kernel_rfl) rfl ?_
        have q1 : (0 : Int) ≤ (x.val : Int) := by omega
        have q2 : (x.val : Int) < 100 := by omega
        simp -dsimp [q1, q2]
        refine call_by (small_spec x h) ?_
        rintro _ y ⟨⟨s, rfl, hs⟩, hh⟩
        subst y
        simp -dsimp
        exact hK _ _ ⟨⟨_, rfl, hs⟩, rfl⟩
      rintro _ y ⟨⟨s, rfl, hs⟩, hh⟩
      subst y
      simp -dsimp
      exact hK _ _ ⟨⟨_, rfl, hs⟩, rfl⟩
    rintro _ y ⟨⟨s, rfl, hs⟩, hh⟩
    subst y
    simp -dsimp
    exact hK _ _ ⟨⟨_, rfl, hs⟩, rfl⟩
  rintro _ y ⟨⟨s, rfl, hs⟩, hh⟩
  subst y
  have hsz := congrArg ByteArray.size hs
  have hs3 : ∀ x : Fin 16, (nameK (x.val : Int)).size ≤ 3 := by decide +kernel
  have hs4 := hs3 x
  rw [ByteArray.size_append] at hsz
  simp -dsimp [strRes_add (⟨#[99]⟩ : ByteArray) s (by omega)]
  exact hK _ _ ⟨congrArg Value.string hs, rfl⟩
end Go.Proofs

/-
  The program's serve.
-/
namespace Go.HC
def nmFact : Nm := ⟨#[102, 97, 99, 116]⟩
/-- A store that holds facts, and cuboids of some sets. -/
structure CubeAt (M : Mod) (s : SchM) (rows : List RowM) : Prop where
  there : (M.look nmFact).isSome = true
  fact : M.nowOf nmFact = encF s rows
  ok : FactsOk s rows
  set : ∀ k : Nat, k < 2 ^ s.cards.length → (M.look (nameK k)).isSome = true → M.nowOf (nameK k) = encC k (groupC (rows.map (ofM k)))
/-- What is committed. -/
def comM (M : Mod) (rows : List RowM) (k : Nat) : Option (List CellM) := if (M.look (nameK k)).isSome = true then some (groupC (rows.map (ofM (k : Int)))) else none
theorem fold_filter {com : Nat → Option (List CellM)} {need : Int} (l : List Nat) : ∀ b, (l.filter fun j : Nat => decide (andM (j : Int) need = need)).foldl (stepM com need) b = l.foldl (stepM com need) b := by
  induction l with
  | nil => intro b; rfl
  | cons x l ih =>
    intro b
    rw [List.filter_cons, List.foldl_cons]
    by_cases hx : andM (x : Int) need = need
    · rw [if_pos (by simpa using hx), List.foldl_cons, ih]
    · rw [if_neg (by simpa using hx), ih]
      congr 1
      unfold stepM
      rw [if_neg hx]
theorem sets_perm : ∀ d : Fin 5, (setsL d.val).isPerm (numsL (2 ^ d.val)) = true := by decide +kernel
theorem sets_sorted {d : Nat} (hd : d ≤ 4) : sortI (setsL d) = numsL (2 ^ d) := by
  have hp := (sortI_perm (setsL d)).trans (List.isPerm_iff.1 (sets_perm ⟨d, by omega⟩))
  have h1 := sortI_sorted (setsL d)
  have h2 : (numsL (2 ^ d)).Pairwise (· ≤ ·) := by
    unfold numsL
    rw [List.pairwise_map]
    exact List.pairwise_lt_range.imp fun h => by omega
  exact hp.eq_of_pairwise (fun a b _ _ h1 h2 => Int.le_antisymm h1 h2) h1 h2
end Go.HC
namespace Go.Proofs
open Go Go.HC

set_option maxHeartbeats 4000000 in
set_option maxRecDepth 10000 in
theorem pserve_spec {h : Heap} {v fv : Value} {F : Nat → Prop} {M : Mod} {s : SchM} {rows : List RowM} {a : Int} {fs : List FilM} (st : StAt v F h M) (hu : usedF M.files < 1000000) (hq : SlRep rFil (Old h) h fv fs) (C : CubeAt M s rows) :
    CallH Tryz.prog 43 #[v, .agg #[.int .i64 a, fv]] h fun r h' => ∃ x cv e, r = .tuple #[.int .i64 x, cv, .int .i64 e] ∧ Keep none_ h h' ∧
      ((rightM s.cards a fs = false ∧ x = 0 ∧ cv = .slice none 0 0 ∧ e = 7) ∨ (rightM s.cards a fs = true ∧ serveM (comM M rows) (needM a fs) (2 ^ s.cards.length) = none ∧ x = 0 ∧ cv = .slice none 0 0 ∧ e = 8) ∨
        (rightM s.cards a fs = true ∧ ∃ k l, serveM (comM M rows) (needM a fs) (2 ^ s.cards.length) = some (k, l) ∧ x = k ∧ e = 0 ∧ SlRep rCell (Ft h.size none_ h') h' cv l)) := by
  refine callH_by fun K hK => ?_
  refine enter [.cell 4 3, .cell 5 43, .tmp 6] Tryz.func43 rfl rfl (by kernel_rfl) rfl ?_
  have hq0 := hq
  obtain ⟨fa, fc, rfl, _, _⟩ := hq.val
  have hvp : ∃ p, v = .pointer p := by obtain ⟨bs, bm, es, clock, tv, own, R, rfl, _⟩ := st; exact ⟨_, rfl⟩
  obtain ⟨vp, rfl⟩ := hvp
  simp -dsimp [boxS_eq]
  rw [show h.size + 1 + 1 + 1 = h.size + 3 from rfl, show h.size + 1 + 1 = h.size + 2 from rfl]
  generalize hB : Array.push (Array.push (Array.push (Array.push h _) _) _) _ = h0
  have k0 : Keep none_ h h0 := by rw [← hB]; exact ((((Keep.refl none_ h).pushed _).pushed _).pushed _).pushed _
  have z0 : h0.size = h.size + 4 := by rw [← hB]; simp
  have wV : h0[h.size]? = some (.cells #[.pointer vp] 36 (0, 0)) := by rw [← hB]; exact push_at (push_at (push_at (push_new _ _)))
  have wQ : h0[h.size + 1]? = some (.cells #[.int .i64 a, .slice fa fs.length fc] 27 (0, 0)) := by rw [← hB]; exact push_at (push_at (push_get (by simp)))
  have wK : h0[h.size + 2]? = some (.cells #[.int .i64 0] 3 (0, 0)) := by rw [← hB]; exact push_at (push_get (by simp))
  have wL : h0[h.size + 3]? = some (.cells #[.slice none 0 0] 43 (0, 0)) := by rw [← hB]; exact push_get (by simp)
  have stz : ∀ {z : Heap}, Keep none_ h z → StAt (.pointer vp) F z M := fun kz => st.keep kz fun _ _ h => h
  have hqz : ∀ {z : Heap}, Keep none_ h z → SlRep rFil (Old z) z (.slice fa fs.length fc) fs := fun kz => hq0.mono ((Tr.of kz).ft (Nat.le_refl 0))
  simp -dsimp [wV]
  refine call_by (read_spec (stz k0) (by omega) nmFact) ?_
  rintro _ h1 ⟨u, ou, rfl, gu, k1, hou⟩
  rw [C.there]
  rw [C.fact] at gu
  have k01 : Keep none_ h h1 := k0.trans k1 fun _ _ h => h
  have hub : SlRep rByte (Old h1) h1 u (encF s rows) := gu.bytes.mono fun b hb => ⟨⟨nz, gu.own_lt b hb, fun h => h⟩, rfl⟩
  obtain ⟨ua, uc, rfl⟩ := gu.val
  obtain ⟨hdec, hsch, hrows⟩ := dec_enc C.ok
  have hsz := C.ok.dims
  simp -dsimp
  refine call_by (pdecode_spec hub (by have := now_le st.ok nmFact; rw [C.fact] at this; omega)) ?_
  rintro _ h2 ⟨cv, ms, rv, e, rfl, k2, hcase⟩
  rcases hcase with ⟨_, rfl, ems, hcv, hrv⟩ | ⟨hno, _⟩
  rotate_left
  · exact absurd hdec hno
  rw [hsch] at ems hcv
  obtain ⟨ca, cc, rfl, _, _⟩ := hcv.val
  obtain ⟨ra, rc, rfl, _, _⟩ := hrv.val
  have k02 : Keep none_ h h2 := k01.trans k2 fun _ _ h => h
  simp -dsimp
  rw [push_set rfl]
  obtain ⟨bs, ebs⟩ : ∃ bs, bs = h2.size := ⟨_, rfl⟩
  rw [← ebs]
  generalize hD : Array.push h2 _ = h3
  have hbs : h.size + 4 ≤ bs := by have := k1.size; have := k2.size; omega
  have k3 : Keep none_ h2 h3 := by rw [← hD]; exact .push _ _ _
  have k03 : Keep none_ h h3 := k02.trans k3 fun _ _ h => h
  have z3 : h3.size = h2.size + 1 := by rw [← hD]; simp
  have wS : h3[bs]? = some (.cells #[.slice ca s.cards.length cc, .int .i64 ms] 30 (0, 0)) := by rw [← hD, ebs]; exact push_new _ _
  have ka3 : Keep none_ h0 h3 := (k1.trans k2 fun _ _ h => h).trans k3 fun _ _ h => h
  have wV3 := ka3.at wV (fun h => h)
  have wQ3 := ka3.at wQ (fun h => h)
  have wK3 := ka3.at wK (fun h => h)
  have wL3 := ka3.at wL (fun h => h)
  have hcz : ∀ {z : Heap}, Keep none_ h3 z → SlRep rInt (Old z) z (.slice ca s.cards.length cc) s.cards := fun kz => ((hcv.mono ((Tr.of k3).ft (Nat.zero_le _))).mono ((Tr.of kz).ft (Nat.le_refl 0)))
  simp -dsimp [wQ3]
  rw [ems]
  refine call_by (pqright_spec (hcz (.refl _ _)) (hqz k03) hsz.2) ?_
  rintro _ h4 ⟨rfl, k4⟩
  have k04 : Keep none_ h h4 := k03.trans k4 fun _ _ h => h
  have hs44 : h.size + 4 ≤ h4.size := by have := k4.size; omega
  have wS4 := k4.at wS (fun h => h)
  have wV4 := k4.at wV3 (fun h => h)
  have wQ4 := k4.at wQ3 (fun h => h)
  have wK4 := k4.at wK3 (fun h => h)
  have wL4 := k4.at wL3 (fun h => h)
  have s04 := k04.size
  have hsetk : ∀ {z : Heap} (o o' : Obj), Keep none_ h z → Keep none_ h ((z.setIfInBounds (h.size + 2) o).setIfInBounds (h.size + 3) o') := fun o o' kz => (kz.setted _ fun hh => by omega).setted _ fun hh => by omega
  have n23 : h.size + 2 ≠ h.size + 3 := by omega
  have hget2 : ∀ (z : Heap) (o o' : Obj), h.size + 2 < z.size → ((z.setIfInBounds (h.size + 2) o).setIfInBounds (h.size + 3) o')[h.size + 2]? = some o := fun z o o' hz => (set_other _ (by omega)).trans (set_same _ hz)
  have hget3 : ∀ (z : Heap) (o o' : Obj), h.size + 3 < z.size → ((z.setIfInBounds (h.size + 2) o).setIfInBounds (h.size + 3) o')[h.size + 3]? = some o' := fun z o o' hz => set_same _ (by simpa using hz)
  cases hright : rightM s.cards a fs with
  | false =>
    simp -dsimp [wK4, wL4, set_other _ n23, hget2 _ _ _ (lt_of_blk wK4), hget3 _ _ _ (lt_of_blk wL4)]
    exact hK _ _ ⟨_, _, _, rfl, hsetk _ _ k04, .inl ⟨hright, rfl, rfl, rfl⟩⟩
  | true =>
    have hfs : ∀ f ∈ fs, 0 ≤ f.dim ∧ f.dim < 4 := fun f hf => by
      have hr := hright
      unfold rightM at hr
      split at hr
      · cases hr
      · have := rightF_ok hr f hf
        omega
    simp -dsimp [wS4]
    refine call_by (psets_spec (by omega) h4) ?_
    rintro v5 h5 ⟨own5, g5, k5, ho5⟩
    have g5' := g5
    obtain ⟨va5, vc5, rfl⟩ := g5.val
    simp -dsimp
    have hsl : (setsL s.cards.length).length = 2 ^ s.cards.length := by unfold setsL; rw [insL_len, numsL_len]
    have hp4 : 2 ^ s.cards.length ≤ 2 ^ 4 := Nat.pow_le_pow_right (by decide) hsz.2
    rw [hsl] at g5' ⊢
    refine call_by (sorti_spec g5' (fun _ h => h.elim) (by omega)) ?_
    rintro _ h6 ⟨rfl, g6, k6⟩
    rw [sets_sorted hsz.2] at g6
    have k46 : Keep (fun b => h4.size ≤ b) h4 h6 := (k5.none : Keep (fun b => h4.size ≤ b) h4 h5).trans k6 fun b hb e => by have := ho5 b e; omega
    have k06 : Keep none_ h h6 := ⟨by have := k46.size; omega, fun b hb _ => by rw [k46.blk b (by omega) (by omega), k04.blk b hb (fun h => h)]⟩
    have wS6 := k46.at wS4 (by have := lt_of_blk wS4; omega)
    have wV6 := k46.at wV4 (by have := lt_of_blk wV4; omega)
    have wQ6 := k46.at wQ4 (by have := lt_of_blk wQ4; omega)
    have wK6 := k46.at wK4 (by have := lt_of_blk wK4; omega)
    have wL6 := k46.at wL4 (by have := lt_of_blk wL4; omega)
    have s46 := k46.size
    simp -dsimp [wK6]
    generalize hE : Array.setIfInBounds h6 (h.size + 2) _ = h7
    have k7 : Keep (fun b => b = h.size + 2) h6 h7 := by rw [← hE]; exact (Keep.refl _ _).setted _ fun _ => rfl
    have z7 : h7.size = h6.size := by rw [← hE]; simp
    have wK7 : h7[h.size + 2]? = some (.cells #[.int .i64 (-1)] 3 (0, 0)) := by rw [← hE]; exact set_same _ (lt_of_blk wK6)
    have wS7 := k7.at wS6 (by omega)
    have wV7 := k7.at wV6 (by omega)
    have wQ7 := k7.at wQ6 (by omega)
    have wL7 := k7.at wL6 (by omega)
    have k07 : Keep none_ h h7 := by rw [← hE]; exact k06.setted _ fun hh => by omega
    have hlb5 : ∀ b, own5 = some b → h4.size ≤ b := ho5
    have g7 : Grow rInt 3 none_ h7 (.slice va5 (2 ^ s.cards.length) vc5) (numsL (2 ^ s.cards.length)) own5 := by
      rw [← hE]
      exact g6.mono (fun _ h => h.elim) fun b hb => ⟨fun h => h, set_other _ (by have := hlb5 b hb; omega)⟩
    refine call_by (K' := fun r h' => r = .func (.func 123) #[] #[.pointer (some ⟨h7.size, 0, none⟩), .pointer (some ⟨h7.size + 1, 0, none⟩)] ∧ h' = (h7.push (.cells #[.slice va5 (2 ^ s.cards.length) vc5] 22)).push (.cells #[.func (.func 85) #[] #[.pointer (some ⟨h.size + 1, 0, none⟩)]] 150)) ?_ ?_
    · refine callH_by fun K hK => ?_
      refine enter [.tmp 4] Tryz.func84 rfl rfl (by kernel_rfl) rfl ?_
      simp -dsimp [boxS_eq]
      exact hK _ _ ⟨rfl, rfl⟩
    rintro _ h8 ⟨rfl, e8⟩
    have k8 : Keep none_ h7 h8 := by rw [e8]; exact ((Keep.refl none_ h7).pushed _).pushed _
    have z8 : h8.size = h7.size + 2 := by rw [e8]; simp
    have wX8 : h8[h7.size]? = some (.cells #[.slice va5 (2 ^ s.cards.length) vc5] 22 (0, 0)) := by rw [e8]; exact push_at (push_new _ _)
    have wY8 : h8[h7.size + 1]? = some (.cells #[.func (.func 85) #[] #[.pointer (some ⟨h.size + 1, 0, none⟩)]] 150 (0, 0)) := by rw [e8]; exact push_get (by simp)
    clear e8
    have k08 : Keep none_ h h8 := k07.trans k8 fun _ _ h => h
    have wS8 := k8.at wS7 (fun h => h)
    have wV8 := k8.at wV7 (fun h => h)
    have wQ8 := k8.at wQ7 (fun h => h)
    have wK8 := k8.at wK7 (fun h => h)
    have wL8 := k8.at wL7 (fun h => h)
    have hg8 : SlRep rInt (fun b => own5 = some b) h8 (.slice va5 (2 ^ s.cards.length) vc5) (numsL (2 ^ s.cards.length)) := g7.ints.mono fun b hb => ⟨hb, k8.blk b (g7.own_lt b hb) (fun h => h)⟩
    have hf8 : SlRep rFil (Old h) h8 (.slice fa fs.length fc) fs := hq0.mono fun b hb => ⟨hb, k08.blk b hb.2.1 (fun h => h)⟩
    obtain ⟨com, ecom⟩ : ∃ com, com = comM M rows := ⟨_, rfl⟩
    obtain ⟨need, eneed⟩ : ∃ need, need = needM a fs := ⟨_, rfl⟩
    obtain ⟨N, eN⟩ : ∃ N : Nat → Prop, N = fun b => b = h.size + 2 ∨ b = h.size + 3 := ⟨_, rfl⟩
    have hN : ∀ b, N b ↔ b = h.size + 2 ∨ b = h.size + 3 := fun b => by rw [eN]
    obtain ⟨Best, hBest⟩ : ∃ Best : List Nat → (Nat → Prop) → Heap → Int → Value → Prop, ∀ xs M' h' x cv, Best xs M' h' x cv ↔ ((xs.foldl (stepM com need) none = none ∧ x = -1 ∧ cv = .slice none 0 0) ∨ ∃ k l, xs.foldl (stepM com need) none = some (k, l) ∧ x = (k : Int) ∧ SlRep rCell (Ft h.size M' h') h' cv l) := ⟨_, fun _ _ _ _ _ => Iff.rfl⟩
    have hBmono : ∀ {xs M1 M2 y z x cv}, Best xs M1 y x cv → Tr M1 M2 y z → Best xs M2 z x cv := fun hb tr => (hBest _ _ _ _ _).2 (((hBest _ _ _ _ _).1 hb).imp id fun ⟨k, l, e1, e2, e3⟩ => ⟨k, l, e1, e2, e3.mono (tr.ft (Nat.le_refl _))⟩)
    obtain ⟨I, hI⟩ : ∃ I : List Nat → (Nat → Prop) → Heap → Prop, ∀ xs M' h', I xs M' h' ↔ ((∀ b, N b → M' b) ∧ (∀ b, M' b → b < h'.size ∧ h.size + 2 ≤ b) ∧ ∃ x cv, h'[h.size + 2]? = some (.cells #[.int .i64 x] 3 (0, 0)) ∧ h'[h.size + 3]? = some (.cells #[cv] 43 (0, 0)) ∧ Best xs M' h' x cv) := ⟨_, fun _ _ _ => Iff.rfl⟩
    simp -dsimp
    refine range_m (val := fun i : Nat => #[.int .i64 (i : Int)]) (first := #[]) (by simp) (by simp) (keptI_iter wX8 hg8 wY8 wQ8 hf8 hfs (by omega)) I
      ?_ ?_ N ?_ ?_ (by kernel_rfl) (by kernel_rfl) (fun _ => rfl) (by intro p hp; simp at hp; subst hp; decide) ?_ ?_
    · exact fun hi b hb => (((hI _ _ _).1 hi).2.1 b hb).1
    · intro xs M' y z hi m1 m2 kk
      obtain ⟨hM, hlt, x, cv, w1, w2, hb⟩ := (hI _ _ _).1 hi
      have hne := lt_of_blk wK8
      have hne3 := lt_of_blk wL8
      exact (hI _ _ _).2 ⟨hM, fun b hb => ⟨Nat.lt_of_lt_of_le (hlt b hb).1 kk.size, (hlt b hb).2⟩, x, cv, kk.at w1 (by omega), kk.at w2 (by omega), hBmono hb (Tr.lp (fun b hb => (hlt b hb).1) m2 kk)⟩
    · intro b hb
      have hl2 := lt_of_blk wK7
      have hl3 := lt_of_blk wL7
      have hs4 : h.size + 4 ≤ h7.size := by have := k1.size; have := k2.size; have := k3.size; have := k4.size; omega
      rcases hb with rfl | rfl | rfl | hb | hb
      · exact ⟨by omega, fun e => by have := (hN _).1 e; omega⟩
      · exact ⟨by omega, fun e => by have := (hN _).1 e; omega⟩
      · exact ⟨by have := k08.size; have := lt_of_blk wQ8; omega, fun e => by have := (hN _).1 e; omega⟩
      · have h1 := hlb5 b hb
        have h2 := g7.own_lt b hb
        exact ⟨by omega, fun e => by have := (hN _).1 e; omega⟩
      · have h1 := hb.2.1
        exact ⟨by have := k08.size; omega, fun e => by have := (hN _).1 e; omega⟩
    · intro y ky zy
      refine (hI _ _ _).2 ⟨fun b hb => .inl hb, fun b hb => ?_, -1, .slice none 0 0, ky.at wK8 (fun h => h), ky.at wL8 (fun h => h), (hBest _ _ _ _ _).2 (.inl ⟨rfl, rfl, rfl⟩)⟩
      have h1 := lt_of_blk wK8
      have h2 := lt_of_blk wL8
      rcases hb with hb | hb | hb
      · have := (hN _).1 hb; omega
      · omega
      · omega
    · rintro xs i M' y hiy ⟨hxs, hin, hai⟩ hzy m1 m2 t
      simp -dsimp
      refine ⟨.refl _ _, fun y5 k5' e5' => ?_⟩
      obtain ⟨hM, hlt, x, cv', w1, w2, hb⟩ := (hI _ _ _).1 hiy
      have hlt' : ∀ b, M' b → b < y.size := fun b hb => (hlt b hb).1
      have t5 := Tr.lp hlt' m2 k5'
      have u5 := t.trans t5
      have hnN : ∀ b, b ≠ h.size + 2 → b ≠ h.size + 3 → ¬ N b := fun b n1 n2 hb => by have := (hN b).1 hb; omega
      have K05 := Tr.from_ k08 u5 (fun b hb => by have := (hN b).1 hb; omega)
      have hl2 := lt_of_blk wK8
      have hl3 := lt_of_blk wL8
      have w1' := k5'.at w1 (by omega)
      have w2' := k5'.at w2 (by omega)
      have hb5 := hBmono hb t5
      have wV5 := u5.at wV8 (hnN _ (by omega) (by omega))
      have wS5 := u5.at wS8 (hnN _ (by omega) (by omega))
      have i16 : i < 16 := by omega
      have K5 : Keep none_ h y5 := K05.keep
      refine drawn_by [⟨0, true, []⟩, ⟨1, true, []⟩, ⟨2, false, [0]⟩, ⟨3, false, []⟩, ⟨4, true, []⟩, ⟨5, true, []⟩, ⟨6, true, []⟩, ⟨7, true, []⟩, ⟨8, true, []⟩] (by kernel_rfl) (by kernel_rfl) ?_
      simp -dsimp [wV5]
      refine call_by (pname_spec (k := (i : Int)) (by omega) (by omega) y5) ?_
      rintro _ y6 ⟨rfl, ez⟩
      subst y6
      simp -dsimp [again_cons, wV5]
      refine call_by (read_spec (stz K5) (by omega) (nameK (i : Int))) ?_
      rintro _ y6 ⟨u6, ou6, rfl, gu6, k6', hou6⟩
      obtain ⟨ua6, uc6, rfl⟩ := gu6.val
      have w1'' := k6'.at w1' (fun h => h)
      have w2'' := k6'.at w2' (fun h => h)
      have t6 : Tr M' M' y y6 := t5.call k6'
      have hdm8 : y6[h8.size]? = y5[h8.size]? := k6'.blk _ (by omega) (fun h => h)
      have hdm9 : y6[h8.size + 1]? = y5[h8.size + 1]? := k6'.blk _ (by omega) (fun h => h)
      have hfo : ∀ b, (xs ++ [i]).foldl (stepM com need) b = stepM com need (xs.foldl (stepM com need) b) i := fun b => by rw [List.foldl_append]; rfl
      cases hthere : (M.look (nameK (i : Int))).isSome with
      | false =>
        have hst : ∀ b, stepM com need b i = b := fun b => by
          unfold stepM
          rw [eneed, if_pos hai, ecom]
          unfold comM
          rw [hthere]
          rfl
        simp -dsimp [again_cons]
        refine ⟨M', (hI _ _ _).2 ⟨hM, fun b hb => ⟨Nat.lt_of_lt_of_le (hlt b hb).1 t6.size, (hlt b hb).2⟩, x, cv', w1'', w2'', ?_⟩, t6, m1, m2, hdm8, hdm9⟩
        have hb6 := hBmono hb t6
        rw [hBest] at hb6 ⊢
        rw [hfo, hst]
        exact hb6
      | true =>
        rw [C.set i hin hthere] at gu6 ⊢
        have hgs : com i = some (groupC (rows.map (ofM (i : Int)))) := by rw [ecom]; unfold comM; rw [if_pos hthere]
        have hub6 : SlRep rByte (Old y6) y6 _ (encC (i : Int) (groupC (rows.map (ofM (i : Int))))) := gu6.bytes.mono fun b hb => ⟨⟨nz, gu6.own_lt b hb, fun h => h⟩, rfl⟩
        have hold6 : ∀ b, h.size + 4 ≤ b → b < h2.size → b < y6.size ∧ y6[b]? = h2[b]? := fun b h1 h2 => by
          have s3 := k3.size
          have s4 := k4.size
          have s5 := u5.size
          have s6 := k6'.size
          refine ⟨by omega, ?_⟩
          rw [k6'.blk b (by omega) (fun h => h), u5.keep.blk b (by omega) (hnN b (by omega) (by omega)), k8.blk b (by omega) (fun h => h), k7.blk b (by omega) (by omega), k46.blk b (by omega) (by omega), k4.blk b (by omega) (fun h => h), k3.blk b (by omega) (fun h => h)]
        have hc6 : SlRep rInt (Old y6) y6 (.slice ca s.cards.length cc) s.cards := hcv.mono fun b hb => by
          have s1 := k1.size
          obtain ⟨q1, q2⟩ := hold6 b (by have := hb.1.1; omega) hb.2.1
          exact ⟨⟨nz, q1, fun h => h⟩, q2⟩
        have wS6' := k6'.at wS5 (fun h => h)
        simp -dsimp [again_cons, wS6']
        rw [ems]
        refine call_by (pcdecode_spec hc6 hub6 (cub_ok C.ok (by omega) (by exact_mod_cast hin))) ?_
        rintro _ y7 ⟨rv7, rfl, r7, k7'⟩
        have t7 : Tr M' M' y y7 := t6.call k7'
        have w1t := k7'.at w1'' (fun h => h)
        have w2t := k7'.at w2'' (fun h => h)
        have hdm8' : y7[h8.size]? = y5[h8.size]? := (k7'.blk _ (by have := k6'.size; omega) (fun h => h)).trans hdm8
        have hdm9' : y7[h8.size + 1]? = y5[h8.size + 1]? := (k7'.blk _ (by have := k6'.size; omega) (fun h => h)).trans hdm9
        obtain ⟨gl, egl⟩ : ∃ gl, gl = groupC (rows.map (ofM (i : Int))) := ⟨_, rfl⟩
        rw [← egl] at r7 hgs
        have hrv7 := r7.mono (t6.ret (n := h.size) (by have := t6.size; omega))
        obtain ⟨ra7, rc7, rfl, _, _⟩ := r7.val
        have mK := hM _ ((hN (h.size + 2)).2 (.inl rfl))
        have mL := hM _ ((hN (h.size + 3)).2 (.inr rfl))
        have hb7 := hBmono hb t7
        -- it takes this one
        have htake : xs.foldl (stepM com need) none = none ∨ (∃ k l, xs.foldl (stepM com need) none = some (k, l) ∧ gl.length < l.length) → bodyM h8.size M' y y5 I (xs ++ [i]) ⟨⟩ ((y7.setIfInBounds (h.size + 2) (.cells #[.int .i64 (i : Int)] 3)).setIfInBounds (h.size + 3) (.cells #[.slice ra7 gl.length rc7] 43)) := by
          intro hx
          have hst : (xs ++ [i]).foldl (stepM com need) none = some (i, gl) := by
            rw [hfo]
            rcases hx with hx | ⟨k, l, hx, hl⟩
            · rw [hx]; unfold stepM; rw [eneed, if_pos hai, hgs]
            · rw [hx]; unfold stepM; rw [eneed, if_pos hai, hgs]; simp only; rw [if_pos hl]
          have tt : Tr M' M' y7 ((y7.setIfInBounds (h.size + 2) (.cells #[.int .i64 (i : Int)] 3)).setIfInBounds (h.size + 3) (.cells #[.slice ra7 gl.length rc7] 43)) := (t7.here.set _ mK).set _ mL
          refine ⟨M', (hI _ _ _).2 ⟨hM, fun b hb => ⟨Nat.lt_of_lt_of_le (hlt b hb).1 (t7.trans tt).size, (hlt b hb).2⟩, i, .slice ra7 gl.length rc7, (set_other _ (by omega)).trans (set_same _ (lt_of_blk w1t)), set_same _ (by have := lt_of_blk w2t; simpa using this), ?_⟩, t7.trans tt, m1, m2, ?_, ?_⟩
          · exact (hBest _ _ _ _ _).2 (.inr ⟨i, gl, hst, rfl, hrv7.mono (tt.ft (Nat.le_refl _))⟩)
          · rw [set_other _ (by omega), set_other _ (by omega)]; exact hdm8'
          · rw [set_other _ (by omega), set_other _ (by omega)]; exact hdm9'
        simp -dsimp [w1t]
        rcases (hBest _ _ _ _ _).1 hb7 with ⟨hx, rfl, rfl⟩ | ⟨k, l, hx, rfl, hl7⟩
        · have hneg : (-1 : Int) < 0 := by decide
          simp -dsimp [w1t, w2t]
          exact htake (.inl hx)
        · obtain ⟨la, lc, rfl, _, _⟩ := hl7.val
          have hneg : ¬ ((k : Int) < 0) := by omega
          by_cases hlt7 : gl.length < l.length
          · simp -dsimp [w1t, w2t, hneg, hlt7]
            exact htake (.inr ⟨k, l, hx, hlt7⟩)
          · simp -dsimp [w2t, hneg, hlt7]
            refine ⟨M', (hI _ _ _).2 ⟨hM, fun b hb => ⟨Nat.lt_of_lt_of_le (hlt b hb).1 t7.size, (hlt b hb).2⟩, _, _, w1t, w2t, ?_⟩, t7, m1, m2, hdm8', hdm9'⟩
            refine (hBest _ _ _ _ _).2 (.inr ⟨k, l, ?_, rfl, hl7⟩)
            rw [hfo, hx]
            unfold stepM
            rw [eneed, if_pos hai, hgs]
            simp only
            rw [if_neg hlt7]
    · rintro xs M' y hdn hiy hdm hzy m1 m2 t
      have T := Tr.from_ k08 t (fun b hb => by have := (hN b).1 hb; omega)
      obtain ⟨hM, hlt, x, cv', w1, w2, hb⟩ := (hI _ _ _).1 hiy
      have hfold : serveM (comM M rows) (needM a fs) (2 ^ s.cards.length) = xs.foldl (stepM com need) none := by
        unfold serveM
        rw [← ecom, ← eneed, hdn, ← eneed, fold_filter]
      have mK := hM _ ((hN (h.size + 2)).2 (.inl rfl))
      have mL := hM _ ((hN (h.size + 3)).2 (.inr rfl))
      have hiyT : Tr M' M' y y := t.here
      have hl2 := lt_of_blk w1
      have hl3 := lt_of_blk w2
      have hs8 := k08.size
      have hl8 := lt_of_blk wL8
      rcases (hBest _ _ _ _ _).1 hb with ⟨hx, rfl, rfl⟩ | ⟨k, l, hx, rfl, hl7⟩
      · simp -dsimp [w1, w2]
        rw [takeS_cons (by rw [set_other _ (by omega), set_other _ (by omega)]; exact hdm)]
        generalize hZ : Array.setIfInBounds (Array.setIfInBounds (Array.setIfInBounds y (h.size + 2) _) (h.size + 3) _) h8.size _ = z
        have kz : Tr M' M' y z := by rw [← hZ]; exact ((hiyT.set _ mK).set _ mL).set _ m1
        have z2 : z[h.size + 2]? = some (.cells #[.int .i64 0] 3 (0, 0)) := by rw [← hZ]; exact (set_other _ (by omega)).trans ((set_other _ (by omega)).trans (set_same _ hl2))
        have z3 : z[h.size + 3]? = some (.cells #[.slice none 0 0] 43 (0, 0)) := by rw [← hZ]; exact (set_other _ (by omega)).trans (set_same _ (by simpa using hl3))
        simp -dsimp [z2, z3]
        exact hK _ _ ⟨_, _, _, rfl, (T.trans kz).keep, .inr (.inl ⟨hright, hfold.trans hx, rfl, rfl, rfl⟩)⟩
      · obtain ⟨la, lc, rfl, _, _⟩ := hl7.val
        have hneg : ¬ ((k : Int) < 0) := by omega
        simp -dsimp [w1, hneg]
        refine drawn_by [⟨0, true, []⟩, ⟨1, true, []⟩, ⟨2, false, [1]⟩, ⟨3, false, []⟩, ⟨4, true, []⟩] (by kernel_rfl) (by kernel_rfl) ?_
        simp -dsimp [w1, w2]
        simp -dsimp [again_cons, w2]
        rw [takeS_cons (by rw [set_other _ (by omega), set_other _ (by omega)]; exact hdm)]
        generalize hZ : Array.setIfInBounds (Array.setIfInBounds (Array.setIfInBounds y (h.size + 2) _) (h.size + 3) _) h8.size _ = z
        have kz : Tr M' M' y z := by rw [← hZ]; exact ((hiyT.set _ mK).set _ mL).set _ m1
        have z2 : z[h.size + 2]? = some (.cells #[.int .i64 k] 3 (0, 0)) := by rw [← hZ]; exact (set_other _ (by omega)).trans ((set_other _ (by omega)).trans (set_same _ hl2))
        have z3 : z[h.size + 3]? = some (.cells #[.slice la l.length lc] 43 (0, 0)) := by rw [← hZ]; exact (set_other _ (by omega)).trans (set_same _ (by simpa using hl3))
        simp -dsimp [z2, z3]
        exact hK _ _ ⟨_, _, _, rfl, (T.trans kz).keep, .inr (.inr ⟨hright, k, l, hfold.trans hx, rfl, rfl, (hl7.mono (kz.ft (Nat.le_refl _))).mono fun b hb => ⟨⟨hb.1, hb.2.1, fun h => h⟩, rfl⟩⟩)⟩
end Go.Proofs
