/-
  HC, part 15: ranges over maps; conversions between bytes and strings; making slices.
-/
import Derived.Test.YtjkefplcbmdndaaHC14
namespace Go.HC

section
variable {P : Program} {h : Heap} {K : Value → Heap → Prop} {l : L} {b : Base} {dst : Option Tmp} {ty : TypeId} {pos : String} {aft : Array Edge} {g : Option (Nat × Bool)}

/-! ### a range over a map that stays -/
section
variable {κ : Type}
/-- A map's entries: each key once, each birth once, ahead of the clock. -/
structure EntsOk (es : Ents κ) (clock : Nat) : Prop where
  lt : ∀ e ∈ es, e.2.2 < clock
  births : (es.map (·.2.2)).Nodup
  keys : (es.map (·.1)).Nodup

theorem EntsOk.nil (c : Nat) : EntsOk ([] : Ents κ) c := ⟨by simp, by simp, by simp⟩
/-- What an iterator has seen. -/
def seenOf (done : Ents κ) : Array Nat := (done.map (·.2.2)).toArray

def unseen (done : Ents κ) (t : κ × Value × Nat) : Bool := !(seenOf done).contains t.2.2
theorem unseen_iff {es done rest : Ents κ} (hnd : (es.map (·.2.2)).Nodup) (hpm : es.Perm (done ++ rest)) {t : κ × Value × Nat} (ht : t ∈ es) : unseen done t = true ↔ t ∈ rest := by
  have hnd2 : ((done ++ rest).map (·.2.2)).Nodup := (hpm.map _).nodup_iff.1 hnd
  rw [List.map_append, List.nodup_append] at hnd2
  have hmem := hpm.mem_iff.1 ht
  unfold unseen seenOf
  simp only [List.contains_toArray, List.contains_eq_mem, Bool.not_eq_true', decide_eq_false_iff_not]
  constructor
  · intro hn
    rcases List.mem_append.1 hmem with h | h
    · exact absurd (List.mem_map_of_mem h) hn
    · exact h
  · intro hr hc
    exact hnd2.2.2 _ hc _ (List.mem_map_of_mem hr) rfl

end
section
variable {κ : Type} [DecidableEq κ] {k : KeyK κ}
def rangeS (P : Program) (T : TypeId) (v : Value) (h : Heap) (K : Value → Heap → Prop) (_t : Tag K := ⟨⟩) : Prop := hp P (Instr.range T v) K h
@[congr] theorem rangeS_congr {T : TypeId} {v v' : Value} (hv : v = v') : rangeS P T v h K = rangeS P T v' h K := by rw [hv]
@[simp] theorem os_range (T : TypeId) (x : Operand) : os P ⟨dst, .range T x, ty, pos, aft, g⟩ l b h K = rangeS P T (ev l b x) h K := by
  unfold os osem execOp rangeS; simp only [hp_bind, hp_pure]; rfl
theorem range_map {T kt et : TypeId} {r : Nat} {es : Array MapEntry} {clock : Nat} (hm : mapS P T = some (kt, et)) (hr : h[r]? = some (.map es clock)) :
    rangeS P T (.map (some r)) h K = K (.pointer (some ⟨h.size, 0, none⟩)) (h.push (.mapIter (some r) clock #[] clock)) := by
  unfold rangeS Instr.range
  simp only [hp_bind, hp_underlying, mapS_spec hm, hp_getObj, hr, isCells, true_and, hp_pure, hp_newObj]

def nextS (P : Program) (v : Value) (s : Bool) (ty : TypeId) (h : Heap) (K : Value → Heap → Prop) (_t : Tag K := ⟨⟩) : Prop := hp P (Instr.next v s ty) K h
@[congr] theorem nextS_congr {v v' : Value} {s : Bool} (hv : v = v') : nextS P v s ty h K = nextS P v' s ty h K := by rw [hv]
@[simp] theorem os_next (x : Operand) (s : Bool) : os P ⟨dst, .next x s, ty, pos, aft, g⟩ l b h K = nextS P (ev l b x) s ty h K := by
  unfold os osem execOp nextS; simp only [hp_bind, hp_pure]; rfl
def entryS (P : Program) (v : Value) (h : Heap) (K : Value → Heap → Prop) (_t : Tag K := ⟨⟩) : Prop := hp P (Instr.entry v) K h
@[congr] theorem entryS_congr {v v' : Value} (hv : v = v') : entryS P v h K = entryS P v' h K := by rw [hv]
@[simp] theorem os_entry (x : Operand) : os P ⟨dst, .entry x, ty, pos, aft, g⟩ l b h K = entryS P (ev l b x) h K := by
  unfold os osem execOp entryS; simp only [hp_bind, hp_pure]; rfl

theorem left_of (es done : Ents κ) : ((entsOf k es).filter fun e => !(seenOf done).contains e.born) = entsOf k (es.filter (unseen done)) := by
  apply Array.ext'
  unfold entsOf
  simp only [List.filter_toArray, List.filter_map]
  rfl
theorem next_map {it r : Nat} {es done rest : Ents κ} {clock : Nat} (hok : EntsOk es clock) (hi : h[it]? = some (.mapIter (some r) clock (seenOf done) clock)) (hr : h[r]? = some (.map (entsOf k es) clock))
    (hpm : es.Perm (done ++ rest)) (h0 : rest = [] → K (.tuple #[.bool false]) h)
    (h1 : ∀ e rest', rest.Perm (e :: rest') → K (.tuple #[.bool true, k.val e.1, e.2.1]) (h.setIfInBounds it (.mapIter (some r) clock (seenOf (done ++ [e])) clock))) :
    nextS P (.pointer (some ⟨it, 0, none⟩)) false ty h K := by
  unfold nextS Instr.next
  have hall : ((entsOf k es).all fun e => decide (e.born ≥ clock)) = true → es = [] := by
    intro ha
    cases es with
    | nil => rfl
    | cons t es =>
      exfalso
      have := hok.lt t (List.mem_cons_self ..)
      simp [entsOf, entOf] at ha
      omega
  have hun : (!(seenOf done).isEmpty && !(entsOf k es).isEmpty && (entsOf k es).all fun e => decide (e.born ≥ clock)) = false := by
    cases hA : (entsOf k es).all fun e => decide (e.born ≥ clock)
    · simp
    · rw [hall hA]; simp [entsOf]
  have hold : ((entsOf k (es.filter (unseen done))).filter fun e => decide (e.born < clock)) = entsOf k (es.filter (unseen done)) := by
    rw [Array.filter_eq_self]
    intro e he
    simp only [entsOf, List.mem_toArray, List.mem_map] at he
    obtain ⟨t, ht, rfl⟩ := he
    exact decide_eq_true (hok.lt t (List.mem_filter.1 ht).1)
  have hnew : ((entsOf k (es.filter (unseen done))).filter fun e => decide (e.born ≥ clock)) = #[] := by
    rw [Array.filter_eq_empty_iff]
    intro e he
    simp only [entsOf, List.mem_toArray, List.mem_map] at he
    obtain ⟨t, ht, rfl⟩ := he
    have := hok.lt t (List.mem_filter.1 ht).1
    simp only [entOf, ge_iff_le, decide_eq_true_eq]
    omega
  simp only [hp_bind, hp_getObj, hi, isCells, true_and, hr, hun, Bool.false_eq_true, if_false, left_of, hold, hnew, Array.append_empty, hp_choose]
  by_cases hrest : rest = []
  · subst hrest
    have he : es.filter (unseen done) = [] := by
      rw [List.filter_eq_nil_iff]
      intro t ht hu
      have := (unseen_iff hok.births hpm ht).1 hu
      cases this
    rw [he]
    simp only [entsOf, List.map_nil]
    simpa [Question.forced] using h0 rfl
  · have hne : (es.filter (unseen done)) ≠ [] := by
      obtain ⟨t, rest', rfl⟩ := List.exists_cons_of_ne_nil hrest
      intro he
      have hte : t ∈ es := hpm.mem_iff.2 (by simp)
      have : t ∈ es.filter (unseen done) := List.mem_filter.2 ⟨hte, (unseen_iff hok.births hpm hte).2 (by simp)⟩
      rw [he] at this
      cases this
    generalize hL : (es.filter (unseen done)) = Lf at hne ⊢
    have hemp : (entsOf k Lf).isEmpty = false := by
      cases Lf with
      | nil => exact absurd rfl hne
      | cons a b => simp [entsOf]
    simp only [hemp, Bool.false_eq_true, if_false, Array.empty_append, Array.size_map]
    have hsz : (entsOf k Lf).size = Lf.length := by simp [entsOf]
    have hpos : 0 < Lf.length := List.length_pos_iff.2 hne
    have go : ∀ n, n < Lf.length → Go.HC.hp P (match ((entsOf k Lf).map some)[n]? with
        | some (some e) => do setObj it (.mapIter (some r) clock ((seenOf done).push e.born) clock); pure (.tuple #[.bool true, e.key, e.val])
        | some none => pure (.tuple #[.bool false])
        | none => stuck "Next: no such candidate" : Sem Value) K h := by
      intro n hn
      have hget : ((entsOf k Lf).map some)[n]? = some (some (entOf k Lf[n])) := by
        simp [entsOf, hn]
      rw [hget]
      have hmem : Lf[n] ∈ rest := by
        have key : ∀ t ∈ Lf, t ∈ es.filter (unseen done) := fun t ht => by rw [hL]; exact ht
        have := key _ (List.getElem_mem hn)
        exact (unseen_iff hok.births hpm (List.mem_filter.1 this).1).1 (List.mem_filter.1 this).2
      obtain ⟨s, t, hst⟩ := List.append_of_mem hmem
      have hperm : rest.Perm (Lf[n] :: (s ++ t)) := by rw [hst]; exact List.perm_middle
      have := h1 _ _ hperm
      simp only [hp_bind, hp_setObj, hi, isCells, true_and, hp_pure]
      have hseen : (seenOf done).push (entOf k Lf[n]).born = seenOf (done ++ [Lf[n]]) := by
        simp [seenOf, entOf]
      rw [hseen]
      exact this
    split
    · exact go 0 hpos
    · intro t
      refine go _ ?_
      simp only [Question.cut, hsz]
      exact Nat.mod_lt _ hpos

theorem entry_map {it r : Nat} {es done : Ents κ} {e : κ × Value × Nat} {clock : Nat} (hok : EntsOk es clock) (hi : h[it]? = some (.mapIter (some r) clock (seenOf (done ++ [e])) clock)) (hr : h[r]? = some (.map (entsOf k es) clock))
    (he : e ∈ es) : entryS P (.pointer (some ⟨it, 0, none⟩)) h K = K (.tuple #[k.val e.1, e.2.1]) h := by
  unfold entryS Instr.entry
  have hb : (seenOf (done ++ [e])).back? = some e.2.2 := by simp [seenOf]
  have hf : (entsOf k es).find? (fun x => x.born == e.2.2) = some (entOf k e) := by
    unfold entsOf
    rw [List.find?_toArray, List.find?_map]
    have : ∀ l : Ents κ, (l.map (·.2.2)).Nodup → e ∈ l → l.find? ((fun x : MapEntry => x.born == e.2.2) ∘ entOf k) = some e := by
      intro l
      induction l with
      | nil => intro _ hm; cases hm
      | cons t l ih =>
        intro hnd hm
        rw [List.map_cons, List.nodup_cons] at hnd
        rcases List.mem_cons.1 hm with rfl | hm
        · simp [List.find?, entOf]
        · have : t.2.2 ≠ e.2.2 := fun hh => hnd.1 (hh ▸ List.mem_map_of_mem hm)
          rw [List.find?_cons_of_neg (by simpa [entOf] using this)]
          exact ih hnd.2 hm
    rw [this es hok.births he]
    rfl
  simp only [hp_bind, hp_getObj, hi, isCells, true_and, hb, hr, bne_self_eq_false, Bool.false_eq_true, if_false, hp_pure, hf]
  rfl
theorem getE_some {x : κ} {v : Value} : ∀ {l : Ents κ}, getE x l = some v → ∃ c, (x, v, c) ∈ l
  | [], h => by cases h
  | t :: l, h => by
    rw [getE_cons] at h
    split at h
    · rename_i hx
      simp only [Option.some.injEq] at h
      exact ⟨t.2.2, by rw [hx, ← h]; exact List.mem_cons_self ..⟩
    · obtain ⟨c, hc⟩ := getE_some h
      exact ⟨c, List.mem_cons_of_mem _ hc⟩
theorem getE_none {x : κ} : ∀ {l : Ents κ}, getE x l = none → x ∉ l.map (·.1)
  | [], _ => by simp
  | t :: l, h => by
    rw [getE_cons] at h
    split at h
    · cases h
    · rename_i hx
      rw [List.map_cons, List.mem_cons]
      rintro (h1 | h1)
      · exact hx h1
      · exact getE_none h h1
theorem getE_mem {x : κ} {v : Value} {c : Nat} : ∀ {l : Ents κ}, (l.map (·.1)).Nodup → (x, v, c) ∈ l → getE x l = some v
  | [], _, h => by cases h
  | t :: l, hnd, h => by
    rw [List.map_cons, List.nodup_cons] at hnd
    rw [getE_cons]
    rcases List.mem_cons.1 h with rfl | h
    · simp
    · rw [if_neg (fun hh : x = t.1 => hnd.1 (hh ▸ List.mem_map_of_mem (f := (·.1)) h))]
      exact getE_mem hnd.2 h
theorem putE_keys {x : κ} {v : Value} {c : Nat} : ∀ {l : Ents κ}, (getE x l).isSome = true → (putE x v c l).map (·.1) = l.map (·.1) ∧ (putE x v c l).map (·.2.2) = l.map (·.2.2)
  | [], h => by cases h
  | t :: l, h => by
    rw [getE_cons] at h
    rw [putE]
    split
    · exact ⟨rfl, rfl⟩
    · rename_i hx
      rw [if_neg hx] at h
      obtain ⟨h1, h2⟩ := putE_keys (v := v) (c := c) h
      exact ⟨by rw [List.map_cons, h1]; rfl, by rw [List.map_cons, h2]; rfl⟩
theorem EntsOk.put {es : Ents κ} {clock : Nat} (hok : EntsOk es clock) (x : κ) (v : Value) : EntsOk (putE x v clock es) (clockE x es clock) := by
  cases hg : getE x es with
  | none =>
    rw [putE_new hg, clockE, hg]
    refine ⟨?_, ?_, ?_⟩
    · intro e he
      rcases List.mem_append.1 he with he | he
      · have := hok.lt e he; simp; omega
      · simp only [List.mem_singleton] at he; subst he; simp
    · rw [List.map_append, List.nodup_append]
      refine ⟨hok.births, by simp, ?_⟩
      intro a ha b hb
      simp only [List.map_cons, List.map_nil, List.mem_singleton] at hb
      subst hb
      obtain ⟨e, he, rfl⟩ := List.mem_map.1 ha
      have := hok.lt e he
      omega
    · rw [List.map_append, List.nodup_append]
      refine ⟨hok.keys, by simp, ?_⟩
      intro a ha b hb
      simp only [List.map_cons, List.map_nil, List.mem_singleton] at hb
      subst hb
      rintro rfl
      exact getE_none hg ha
  | some u =>
    have hs : (getE x es).isSome = true := by rw [hg]; rfl
    obtain ⟨h1, h2⟩ := putE_keys (v := v) (c := clock) hs
    refine ⟨?_, by rw [h2]; exact hok.births, by rw [h1]; exact hok.keys⟩
    intro e he
    have : e.2.2 ∈ (putE x v clock es).map (·.2.2) := List.mem_map_of_mem he
    rw [h2] at this
    obtain ⟨e', he', heq⟩ := List.mem_map.1 this
    unfold clockE
    rw [if_pos hs, ← heq]
    exact hok.lt e' he'
theorem delE_sub (x : κ) : ∀ (l : Ents κ), (delE x l).Sublist l
  | [] => .slnil
  | t :: l => by
    rw [delE]
    split
    · exact List.sublist_cons_self ..
    · exact (delE_sub x l).cons_cons _
theorem EntsOk.del {es : Ents κ} {clock : Nat} (hok : EntsOk es clock) (x : κ) : EntsOk (delE x es) clock :=
  ⟨fun e he => hok.lt e ((delE_sub x es).subset he), hok.births.sublist ((delE_sub x es).map _), hok.keys.sublist ((delE_sub x es).map _)⟩
theorem getE_put {x y : κ} {v : Value} {c : Nat} : ∀ {l : Ents κ}, getE y (putE x v c l) = if y = x then some v else getE y l
  | [] => by
    rw [putE, getE_cons]
  | t :: l => by
    rw [putE]
    split
    · rename_i hx
      rw [getE_cons, getE_cons]
      simp only
      by_cases hy : y = t.1
      · rw [if_pos hy, if_pos (hy.trans hx.symm)]
      · rw [if_neg hy, if_neg (fun hh => hy (hh.trans hx)), if_neg hy]
    · rename_i hx
      rw [getE_cons, getE_cons, getE_put]
      by_cases hy : y = t.1
      · rw [if_pos hy, if_pos hy, if_neg (fun hh => hx (hh.symm.trans hy))]
      · rw [if_neg hy, if_neg hy]
theorem getE_del {x y : κ} : ∀ {l : Ents κ}, (l.map (·.1)).Nodup → getE y (delE x l) = if y = x then none else getE y l
  | [], _ => by simp [delE]
  | t :: l, hnd => by
    rw [List.map_cons, List.nodup_cons] at hnd
    rw [delE]
    split
    · rename_i hx
      rw [getE_cons]
      by_cases hy : y = x
      · rw [if_pos hy]
        cases hg : getE y l with
        | none => rfl
        | some v =>
          obtain ⟨c, hc⟩ := getE_some hg
          refine absurd (List.mem_map_of_mem (f := (·.1)) hc) ?_
          simp only
          rw [hy, hx]; exact hnd.1
      · rw [if_neg hy, if_neg (fun hh => hy (hh.trans hx.symm))]
    · rename_i hx
      rw [getE_cons, getE_cons, getE_del hnd.2]
      by_cases hy : y = t.1
      · rw [if_pos hy, if_pos hy, if_neg (fun hh => hx (hh.symm.trans hy))]
      · rw [if_neg hy, if_neg hy]
end

/-! ### bytes and strings -/
theorem conv_bytes_str {S D e : TypeId} {F : Nat → Prop} {v : Value} {xs : List UInt8} (hS : elS P S = some e) (he : intK P e = some .u8) (hD : strT P D = true) (hv : SlRep rByte F h v xs) :
    convS P S D v h K = K (.string (strOf xs)) h := by
  obtain ⟨a, c, rfl, _, _⟩ := hv.val
  exact conv_bytes hS he hD hv.bytesV
theorem conv_same_bytes {S e : TypeId} {a : Addr} {n c m : Nat} {arr : Array Value} {e' : TypeId} {fz : Nat × Nat} (hS : elS P S = some e) (he : intK P e = some .u8) (hb : h[a.block]? = some (.cells arr e' fz)) (hm : arr.size = m) :
    convS P S S (.slice (some a) n c) h K = K (.slice (some a) n c) (freezeH h ⟨a.block, m, none⟩ 1) := by
  have hue : P.underlying e = some (.int .u8) := by
    unfold intK at he
    cases hu : P.underlying e with
    | none => simp [hu] at he
    | some d => cases d <;> simp [hu] at he; rw [he]
  unfold convS convert
  simp only [hp_bind, hp_underlying, elS_spec hS, hue, BEq.rfl, markStringish, hp_shape, shapeH, hb, hp_freeze, hp_pure, hm]

def makeSliceS (P : Program) (T : TypeId) (v u : Value) (h : Heap) (K : Value → Heap → Prop) (_t : Tag K := ⟨⟩) : Prop := hp P (Instr.makeSlice T v u) K h
@[congr] theorem makeSliceS_congr {T : TypeId} {v v' u u' : Value} (hv : v = v') (hu : u = u') : makeSliceS P T v u h K = makeSliceS P T v' u' h K := by rw [hv, hu]
@[simp] theorem os_makeSlice (T : TypeId) (x y : Operand) : os P ⟨dst, .makeSlice T x y, ty, pos, aft, g⟩ l b h K = makeSliceS P T (ev l b x) (ev l b y) h K := by
  unfold os osem execOp makeSliceS; simp only [hp_bind, hp_pure]; rfl
def zeros (z : Value) (n : Nat) : Array Value := (Array.range (n * z.cells.size)).map (z.cells[· % z.cells.size]!)
theorem make_slice {T e s by_ : Nat} {z : Value} {k k' : IntKind} {n : Int} (hT : elS P T = some e) (hs : szS P e = some s) (hby : byS P e = some by_) (hz : zS P e = some z) (hzs : z.cells.size = s)
    (h0 : 0 ≤ n) (hbig : n < 9223372036854775808) (hn : by_ * n ≤ 281474976710656) :
    makeSliceS P T (.int k n) (.int k' n) h K = K (.slice (some ⟨h.size, 0, none⟩) n.toNat n.toNat) (h.push (.cells (zeros z n.toNat) e)) := by
  obtain ⟨i, hi, rfl⟩ : ∃ i, P.info? e = some i ∧ i.bytes = by_ := by
    unfold byS at hby
    cases hi : P.info? e with
    | none => simp [hi] at hby
    | some i => simp [hi] at hby; exact ⟨i, rfl, hby⟩
  have hw : IntKind.i64.wrap n = n := wrap_i64 (by omega) (by omega)
  have h48 : (2 : Int) ^ 48 = 281474976710656 := by decide
  unfold makeSliceS Instr.makeSlice
  simp only [hp_bind, hp_underlying, elS_spec hT, asInt, asIntOf, hp_pure, hp_typeInfo, hi, hw, h48]
  have c1 : (decide (n < 0) || decide ((i.bytes : Int) * n > 281474976710656)) = false := by
    simp only [Bool.or_eq_false_iff, decide_eq_false_iff_not]
    exact ⟨by omega, by omega⟩
  simp only [c1, Bool.false_or, hp_ite]
  rw [if_neg (by simp only [Bool.or_eq_true, decide_eq_true_eq, not_or]; omega)]
  simp only [hp_bind, hp_askRoom, hp_sizeOf, hs, hp_pure, hp_ite, newRow, hp_newObj]
  have fin : ∀ zz : Array Value, (n.toNat * s ≠ 0 → zz = z.cells) → (Array.range (n.toNat * s)).map (fun j => zz[j % zz.size]!) = zeros z n.toNat := by
    intro zz hzz
    unfold zeros
    rw [hzs]
    by_cases hne : n.toNat * s = 0
    · rw [hne]; simp
    · rw [hzz hne, hzs]
  split
  · rename_i hne
    rw [fin _ (fun h => absurd hne h)]
  · simp only [hp_zeroValue, hz]
    rw [fin _ (fun _ => rfl)]
theorem zeros_one (x : Value) (hx : x.cells = #[x]) (n : Nat) : zeros x n = Array.replicate n x := by
  unfold zeros
  rw [hx]
  apply Array.ext
  · simp
  · intro i h1 h2
    simp [Nat.mod_one]
end
end Go.HC
