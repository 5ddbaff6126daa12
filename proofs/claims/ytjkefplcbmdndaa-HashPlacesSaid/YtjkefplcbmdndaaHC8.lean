/-
  HC, part 8: composite literals, arrays, strings, comparisons.
-/
import Derived.Test.YtjkefplcbmdndaaHC7
namespace Go.HC

section
variable {P : Program} {l : L} {b : Base} {h : Heap} {K : Value → Heap → Prop} {dst : Option Tmp} {ty : TypeId} {pos : String} {aft : Array Edge} {g : Option (Nat × Bool)}

/-! ### struct literals -/
/-- A struct type all of whose fields' types are known. -/
def structOk (P : Program) (T : TypeId) : Bool :=
  match P.underlying T with
  | some (.struct fs) => fs.toList.all fun f => (P.info? f.type).isSome && (P.underlying f.type).isSome
  | _ => false
def fillF (P : Program) (T : TypeId) : Array Value → List (Nat × Value) → Option (Array Value)
  | cs, [] => some cs
  | cs, (i, v) :: rest =>
    match fldS P T i with
    | some (off, size, _) => if v.cells.size = size ∧ off + v.cells.size ≤ cs.size then fillF P T (writeC cs off v.cells.toList) rest else none
    | none => none
theorem zip_writeC (off : Nat) : ∀ (vs : List Value) (i : Nat) (cs : Array Value), (vs.zipIdx i).foldl (fun cs (c, j) => cs.setIfInBounds (off + j) c) cs = writeC cs (off + i) vs
  | [], i, cs => rfl
  | v :: vs, i, cs => by
    simp only [List.zipIdx_cons, List.foldl_cons, writeC]
    exact zip_writeC off vs (i + 1) _
theorem zip_writeC' (off : Nat) (a : Array Value) (cs : Array Value) : a.zipIdx.foldl (fun cs (c, j) => cs.setIfInBounds (off + j) c) cs = writeC cs off a.toList := by
  rw [← Array.foldl_toList, Array.toList_zipIdx]
  exact zip_writeC off a.toList 0 cs
theorem fill_eq (place : Nat → Option (Nat × Nat)) (T : TypeId) (hp1 : ∀ i, place i = (fldS P T i).map fun t => (t.1, t.2.1)) : ∀ (parts : List (Nat × Value)) (cs : Array Value),
    Instr.fill place cs parts = fillF P T cs parts
  | [], cs => rfl
  | (i, v) :: rest, cs => by
    simp only [Instr.fill, fillF, hp1]
    cases fldS P T i with
    | none => rfl
    | some t =>
      obtain ⟨off, size, ag⟩ := t
      simp only [Option.map_some, zip_writeC']
      by_cases h1 : v.cells.size = size
      · by_cases h2 : off + v.cells.size ≤ cs.size
        · rw [if_neg (by simp; omega), if_pos ⟨h1, h2⟩]
          exact fill_eq place T hp1 rest _
        · rw [if_pos (by simp; omega), if_neg (fun hh => h2 hh.2)]
      · rw [if_pos (by simp [h1]), if_neg (fun hh => h1 hh.1)]

def buildS (P : Program) (T : TypeId) (parts : List (Nat × Value)) (h : Heap) (K : Value → Heap → Prop) (_t : Tag K := ⟨⟩) : Prop := hp P (Instr.build T parts.toArray) K h
@[congr] theorem buildS_congr {T : TypeId} {p p' : List (Nat × Value)} (hv : p = p') : buildS P T p h K = buildS P T p' h K := by rw [hv]
@[simp] theorem os_build (T : TypeId) (parts : Array (Nat × Operand)) : os P ⟨dst, .build T parts, ty, pos, aft, g⟩ l b h K = buildS P T (parts.toList.map fun p => (p.1, ev l b p.2)) h K := by
  unfold os osem buildS
  show hp P (do pure (Next.value (← Instr.build T (parts.map fun (i, x) => (i, ev l b x))))) (nextK P K) h = _
  rw [hp_bind]
  rw [show (parts.toList.map fun p => (p.1, ev l b p.2)).toArray = parts.map fun p => (p.1, ev l b p.2) from by rw [← Array.toList_map, Array.toArray_toList]]
  rfl
theorem hp_places (fs : Array Field) (hfs : fs.toList.all (fun f => (P.info? f.type).isSome && (P.underlying f.type).isSome) = true) (K : Array (Nat × Nat) → Heap → Prop) :
    hp P (fs.mapM fun f => do pure (f.offset, ← sizeOf f.type)) K h = K (fs.map fun f => (f.offset, (szS P f.type).getD 0)) h := by
  rw [Array.mapM_eq_mapM_toList, hp_map]
  have key : ∀ (l : List Field) (K : List (Nat × Nat) → Heap → Prop), l.all (fun f => (P.info? f.type).isSome && (P.underlying f.type).isSome) = true →
      hp P (l.mapM fun f => do pure (f.offset, ← sizeOf f.type)) K h = K (l.map fun f => (f.offset, (szS P f.type).getD 0)) h := by
    intro l
    induction l with
    | nil => intro K _; rfl
    | cons f l ih =>
      intro K hl
      simp only [List.all_cons, Bool.and_eq_true] at hl
      obtain ⟨i, hi⟩ := Option.isSome_iff_exists.1 hl.1.1
      have hsz : szS P f.type = some i.size := by simp [szS, hi]
      rw [List.mapM_cons, hp_bind, hp_bind, hp_sizeOf, hsz]
      show hp P (do let ys ← l.mapM _; pure _) K h = _
      rw [hp_bind, ih _ (by simpa using hl.2)]
      simp [hsz]
  rw [key _ _ hfs]
  rw [← Array.toList_map, Array.toArray_toList]
@[simp] theorem buildS_struct (T : TypeId) (parts : List (Nat × Value)) (ht : structOk P T = true) :
    buildS P T parts h K = optS ((zS P T).bind fun z => fillF P T z.cells parts) (fun cs => K (.agg cs) h) := by
  unfold structOk at ht
  unfold buildS Instr.build
  simp only [hp_bind, hp_zeroValue]
  cases hz : zS P T with
  | none => rfl
  | some z =>
    simp only [hp_underlying, Option.bind_some]
    cases hu : P.underlying T with
    | none => simp [hu] at ht
    | some d =>
      cases d <;> rw [hu] at ht <;> (try (simp at ht; done))
      rename_i fs
      have ht' : fs.toList.all (fun f => (P.info? f.type).isSome && (P.underlying f.type).isSome) = true := ht
      have ht2 : ∀ f ∈ fs, (P.info? f.type).isSome = true ∧ (P.underlying f.type).isSome = true := by
        intro f hf
        have := List.all_eq_true.1 ht' f (by simpa using hf)
        simpa using this
      simp only [hp_bind, hp_places fs ht']
      rw [fill_eq (P := P) _ T]
      · cases fillF P T z.cells parts <;> simp [optS]
      · intro i
        simp only [fldS, hu]
        cases hx : fs[i]? with
        | none => simp [hx]
        | some f =>
          have hf := ht2 f (Array.mem_of_getElem? hx)
          obtain ⟨j, hj⟩ := Option.isSome_iff_exists.1 hf.1
          obtain ⟨d, hd⟩ := Option.isSome_iff_exists.1 hf.2
          simp [hx, hj, hd, szS]
@[simp] theorem fillF_nil (T : TypeId) (cs : Array Value) : fillF P T cs [] = some cs := _root_.id rfl
/-- The next part, with its place known. -/
def fillAt (P : Program) (T : TypeId) (cs : Array Value) (v : Value) (rest : List (Nat × Value)) : Option (Nat × Nat × Bool) → Option (Array Value)
  | some (off, size, _) => if v.cells.size = size ∧ off + v.cells.size ≤ cs.size then fillF P T (writeC cs off v.cells.toList) rest else none
  | none => none
@[simp] theorem fillAt_some (T : TypeId) (cs : Array Value) (v : Value) (rest : List (Nat × Value)) (off size : Nat) (ag : Bool) : fillAt P T cs v rest (some (off, size, ag)) =
    if v.cells.size = size ∧ off + v.cells.size ≤ cs.size then fillF P T (writeC cs off v.cells.toList) rest else none := _root_.id rfl
@[simp] theorem fillF_cons (T : TypeId) (cs : Array Value) (i : Nat) (v : Value) (rest : List (Nat × Value)) : fillF P T cs ((i, v) :: rest) = fillAt P T cs v rest (fldS P T i) := by
  simp only [fillF, fillAt]

/-! ### slice literals -/
def buildSliceS (P : Program) (T : TypeId) (n : Nat) (parts : List (Nat × Value)) (h : Heap) (K : Value → Heap → Prop) (_t : Tag K := ⟨⟩) : Prop := hp P (Instr.buildSlice T n parts.toArray) K h
@[congr] theorem buildSliceS_congr {T : TypeId} {n : Nat} {p p' : List (Nat × Value)} (hv : p = p') : buildSliceS P T n p h K = buildSliceS P T n p' h K := by rw [hv]
@[simp] theorem os_buildSlice (T : TypeId) (n : Nat) (parts : Array (Nat × Operand)) : os P ⟨dst, .buildSlice T n parts, ty, pos, aft, g⟩ l b h K = buildSliceS P T n (parts.toList.map fun p => (p.1, ev l b p.2)) h K := by
  unfold os osem buildSliceS
  show hp P (do pure (Next.value (← Instr.buildSlice T n (parts.map fun (i, x) => (i, ev l b x))))) (nextK P K) h = _
  rw [hp_bind]
  rw [show (parts.toList.map fun p => (p.1, ev l b p.2)).toArray = parts.map fun p => (p.1, ev l b p.2) from by rw [← Array.toList_map, Array.toArray_toList]]
  rfl
/-- All elements are given, in their order. -/
def flatParts : List (Nat × Value) → List Value
  | [] => []
  | (_, v) :: rest => v.cells.toList ++ flatParts rest
def partsOk (s : Nat) : Nat → List (Nat × Value) → Bool
  | _, [] => true
  | i, (j, v) :: rest => decide (i = j) && decide (v.cells.size = s) && partsOk s (i + 1) rest
theorem size_writeC : ∀ (vs : List Value) (cs : Array Value) (off : Nat), (writeC cs off vs).size = cs.size
  | [], _, _ => rfl
  | v :: vs, cs, off => by simp [writeC, size_writeC vs]
theorem toList_writeC : ∀ (vs : List Value) (cs : Array Value) (off : Nat), off + vs.length ≤ cs.size → (writeC cs off vs).toList = cs.toList.take off ++ vs ++ cs.toList.drop (off + vs.length)
  | [], cs, off, _ => by simp [writeC]
  | v :: vs, cs, off, hl => by
    simp only [List.length_cons] at hl
    rw [writeC, toList_writeC vs _ (off + 1) (by simp; omega)]
    rw [Array.toList_setIfInBounds, List.take_set, List.drop_set, if_pos (by omega)]
    have h1 : (cs.toList.take (off + 1)).set off v = cs.toList.take off ++ [v] := by
      have hlt : off < cs.toList.length := by rw [Array.length_toList]; omega
      have hlen : (cs.toList.take off).length = off := by rw [List.length_take]; omega
      rw [List.take_succ_eq_append_getElem hlt, List.set_append_right _ _ (by omega), hlen, Nat.sub_self]
      rfl
    rw [h1]
    simp only [List.append_assoc, List.length_cons, List.cons_append, List.nil_append]
    rw [show off + 1 + vs.length = off + (vs.length + 1) from by omega]
theorem fill_flat (s n : Nat) : ∀ (parts : List (Nat × Value)) (i : Nat) (cs : Array Value), partsOk s i parts = true → cs.size = n * s → i + parts.length = n →
    ∃ cs', Instr.fill (fun i => some (i * s, s)) cs parts = some cs' ∧ cs'.toList = cs.toList.take (i * s) ++ flatParts parts
  | [], i, cs, _, hs, hn => by
    refine ⟨cs, rfl, ?_⟩
    simp only [List.length_nil, Nat.add_zero] at hn
    rw [flatParts, List.append_nil, List.take_of_length_le (by rw [Array.length_toList, hs, hn]; exact Nat.le_refl _)]
  | (j, v) :: rest, i, cs, hp, hs, hn => by
    simp only [partsOk, Bool.and_eq_true, decide_eq_true_eq] at hp
    obtain ⟨⟨rfl, hv⟩, hr⟩ := hp
    simp only [List.length_cons] at hn
    have hle : i * s + s ≤ cs.size := by
      rw [hs, ← Nat.succ_mul]; exact Nat.mul_le_mul_right _ (by omega)
    simp only [Instr.fill, zip_writeC']
    rw [if_neg (by simp [hv]; omega)]
    obtain ⟨cs', h1, h2⟩ := fill_flat s n rest (i + 1) (writeC cs (i * s) v.cells.toList) hr (by rw [size_writeC, hs]) (by omega)
    refine ⟨cs', h1, ?_⟩
    rw [h2, toList_writeC _ _ _ (by simp [hv]; exact hle)]
    simp only [flatParts]
    have hlen : (cs.toList.take (i * s) ++ v.cells.toList).length = (i + 1) * s := by
      simp only [List.length_append, List.length_take, Array.length_toList, hv, Nat.succ_mul]
      omega
    rw [← hlen, List.take_left, List.append_assoc]
@[simp] theorem buildSliceS_all (T : TypeId) (n : Nat) (parts : List (Nat × Value)) (hn : parts.length = n) (hz : (((elS P T).bind (zS P)).isSome && ((elS P T).bind (szS P)).isSome) = true)
    (hok : partsOk (((elS P T).bind (szS P)).getD 0) 0 parts = true) (hsz : Nat.ble (n * ((elS P T).bind (szS P)).getD 0) 16777216 = true) :
    buildSliceS P T n parts h K = K (.slice (some ⟨h.size, 0, none⟩) n n) (h.push (.cells (flatParts parts).toArray ((elS P T).getD 0))) := by
  cases he : elS P T with
  | none => simp [he] at hz
  | some e =>
    have hu : P.underlying T = some (.slice e) := elS_spec he
    simp only [he, Option.bind_some] at hz hok hsz
    cases hs : szS P e with
    | none => simp [hs] at hz
    | some s =>
      cases hzv : zS P e with
      | none => simp [hzv] at hz
      | some z =>
        simp only [hs, Option.getD_some] at hok hsz
        have hsz := Nat.le_of_ble_eq_true hsz
        unfold buildSliceS Instr.buildSlice
        simp only [hp_bind, hp_underlying, hu, hp_sizeOf, hs, hp_ite, hp_pure]
        have fin : ∀ zz : Array Value, (n * s = 0 → zz = #[]) → (n * s ≠ 0 → zz = z.cells) →
            hp P (match Instr.fill (fun i => some (i * s, s)) ((Array.range (n * s)).map (zz[· % zz.size]!)) parts with
              | some cells => do pure (Value.slice (some (← newRow e cells)) n n)
              | x => stuck "buildSlice: a part of the wrong size") K h = K (.slice (some ⟨h.size, 0, none⟩) n n) (h.push (.cells (flatParts parts).toArray e)) := by
          intro zz _ _
          obtain ⟨cs', h1, h2⟩ := fill_flat s n parts 0 ((Array.range (n * s)).map (zz[· % zz.size]!)) hok (by simp) (by omega)
          rw [h1]
          simp only [hp_bind, newRow, hp_newObj, hp_pure]
          have : cs' = (flatParts parts).toArray := by
            apply Array.ext'
            rw [h2]; simp
          rw [this]
        rw [if_neg (by omega)]
        by_cases h0 : n * s = 0
        · rw [if_pos h0]
          have := fin #[] (fun _ => rfl) (fun hh => absurd h0 hh)
          simp only [Option.getD_some] at this ⊢
          exact this
        · rw [if_neg h0]
          simp only [hp_zeroValue, hzv]
          have := fin z.cells (fun hh => absurd hh h0) (fun _ => rfl)
          simp only [Option.getD_some] at this ⊢
          exact this
@[simp] theorem flatParts_nil : flatParts [] = [] := _root_.id rfl
@[simp] theorem flatParts_cons (i : Nat) (v : Value) (rest : List (Nat × Value)) : flatParts ((i, v) :: rest) = v.cells.toList ++ flatParts rest := _root_.id rfl
@[simp] theorem partsOk_nil (s i : Nat) : partsOk s i [] = true := _root_.id rfl
@[simp] theorem partsOk_cons (s i j : Nat) (v : Value) (rest : List (Nat × Value)) : partsOk s i ((j, v) :: rest) = (decide (i = j) && decide (v.cells.size = s) && partsOk s (i + 1) rest) := _root_.id rfl
end
end Go.HC
