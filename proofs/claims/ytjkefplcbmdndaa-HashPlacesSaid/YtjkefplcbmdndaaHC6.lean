/-
  HC, part 6: loads, stores, addresses, slices, calls.
-/
import Derived.Test.YtjkefplcbmdndaaHC5
namespace Go.HC

section
variable {P : Program} {l : L} {b : Base} {h : Heap} {K : Value → Heap → Prop} {dst : Option Tmp} {ty : TypeId} {pos : String} {aft : Array Edge} {g : Option (Nat × Bool)}

/-! ### nil checks -/
def nilQ (P : Program) (v : Value) (h : Heap) (K : Value → Heap → Prop) (_t : Tag K := ⟨⟩) : Prop :=
  hp P (match v with
    | .pointer none | .nilIface | .nilFunc => runtimePanic .nilDeref
    | .func (.method name) first captured =>
      match (first[0]? : Option Value) with
      | some .nilIface => runtimePanic .nilDeref
      | some (.iface t w) => do
        if (← nilAhead ((← program).types.size + Made.depth) t w name) != some false then
          unsupported (.noEntry "op/nilCheck.the method's receiver behind this interface value is a nil pointer, or cannot be seen to be none, and the arguments act or may panic (ledger 612)")
        pure (.value (.func (.method name) first captured))
      | _ => pure (.value (.func (.method name) first captured))
    | x => pure (.value x)) (nextK P K) h
@[congr] theorem nilQ_congr {v v' : Value} (hv : v = v') : nilQ P v h K = nilQ P v' h K := by rw [hv]
@[simp] theorem osem_nilCheck (x : Operand) : os P ⟨dst, .nilCheck x, ty, pos, aft, g⟩ l b h K = nilQ P (ev l b x) h K := _root_.id rfl
@[simp] theorem nilQ_ptr (a : Addr) : nilQ P (.pointer (some a)) h K = K (.pointer (some a)) h := _root_.id rfl
@[simp] theorem nilQ_func (f : Nat) (x y : Array Value) : nilQ P (.func (.func f) x y) h K = K (.func (.func f) x y) h := _root_.id rfl
@[simp] theorem nilQ_yield (f : Nat) (x y : Array Value) : nilQ P (.func (.yield f) x y) h K = K (.func (.yield f) x y) h := _root_.id rfl

/-! ### one cell, several cells -/
/-- A cell of a block. -/
def cellIn (o : Option Obj) (i : Nat) : Option Value :=
  match o with
  | some (.cells c _ _) => c[i]?
  | _ => none
def cellsIn (o : Option Obj) (i n : Nat) : Option (List Value) :=
  match o with
  | some (.cells c _ _) => if i + n ≤ c.size then some ((c.toList.drop i).take n) else none
  | _ => none
@[simp] theorem cellIn_some (c : Array Value) (e : TypeId) (fz : Nat × Nat) (i : Nat) : cellIn (some (.cells c e fz)) i = c[i]? := _root_.id rfl
@[simp] theorem cellsIn_some (c : Array Value) (e : TypeId) (fz : Nat × Nat) (i n : Nat) : cellsIn (some (.cells c e fz)) i n = if i + n ≤ c.size then some ((c.toList.drop i).take n) else none := _root_.id rfl
theorem cellH_mk (h : Heap) (bk off : Nat) : cellH h ⟨bk, off, none⟩ = cellIn h[bk]? off := by
  unfold cellH cellIn
  cases h[bk]? with
  | none => rfl
  | some o => cases o <;> rfl

theorem add_mk (bk off n : Nat) : (⟨bk, off, none⟩ : Addr).add n = ⟨bk, off + n, none⟩ := by
  unfold Addr.add; split <;> simp_all

def cellsFrom (h : Heap) (a : Addr) : Nat → Nat → Option (List Value)
  | _, 0 => some []
  | i, n + 1 => (cellH h (a.add i)).bind fun v => (cellsFrom h a (i + 1) n).map (v :: ·)

theorem hp_loadCellsFrom (a : Addr) : ∀ (n i : Nat) (acc : Array Value) (K : Array Value → Heap → Prop) (h : Heap),
    hp P (loadCellsFrom a i n acc) K h = optS (cellsFrom h a i n) (fun cs => K (acc ++ cs.toArray) h)
  | 0, i, acc, K, h => by simp [loadCellsFrom, cellsFrom]
  | n + 1, i, acc, K, h => by
    simp only [loadCellsFrom, hp_bind, hp_load, cellsFrom]
    cases hc : cellH h (a.add i) with
    | none => rfl
    | some v =>
      simp only [Option.bind_some, hp_loadCellsFrom a n (i + 1) (acc.push v) K h]
      cases cellsFrom h a (i + 1) n with
      | none => rfl
      | some cs => simp

theorem cellsFrom_mk (h : Heap) (bk off : Nat) : ∀ (n i : Nat), n ≠ 0 → cellsFrom h ⟨bk, off, none⟩ i n = cellsIn h[bk]? (off + i) n
  | 0, i, hn => absurd rfl hn
  | n + 1, i, _ => by
    simp only [cellsFrom, add_mk, cellH_mk]
    cases hb : h[bk]? with
    | none => rfl
    | some o =>
      cases o with
      | cells c e fz =>
        simp only [cellIn_some, cellsIn_some]
        cases hc : c[off + i]? with
        | none =>
          have : c.size ≤ off + i := by simpa using hc
          rw [if_neg (by omega)]
          rfl
        | some v =>
          have hlt : off + i < c.size := (Array.getElem?_eq_some_iff.1 hc).1
          have hd : c.toList.drop (off + i) = v :: c.toList.drop (off + (i + 1)) := by
            rw [List.drop_eq_getElem_cons (by simpa using hlt)]
            have := (Array.getElem?_eq_some_iff.1 hc).2
            simp only [List.cons.injEq]
            exact ⟨by simpa using this, rfl⟩
          simp only [Option.bind_some]
          by_cases hn : n = 0
          · subst hn
            rw [if_pos (by omega), hd]
            simp [cellsFrom]
          · rw [cellsFrom_mk h bk off n (i + 1) hn, hb, cellsIn_some]
            by_cases hle : off + i + (n + 1) ≤ c.size
            · rw [if_pos hle, if_pos (by omega), hd]
              simp
            · rw [if_neg hle, if_neg (by omega)]
              rfl
      | _ => rfl

/-! ### load -/
def loadS (P : Program) (T : TypeId) (v : Value) (h : Heap) (K : Value → Heap → Prop) (_t : Tag K := ⟨⟩) : Prop := hp P (Instr.loadAt T v) K h
@[congr] theorem loadS_congr {T : TypeId} {v v' : Value} (hv : v = v') : loadS P T v h K = loadS P T v' h K := by rw [hv]
@[simp] theorem osem_load (T : TypeId) (x : Operand) : os P ⟨dst, .load T x, ty, pos, aft, g⟩ l b h K = loadS P T (ev l b x) h K := by
  unfold os osem execOp loadS; simp only [hp_bind, hp_pure]; rfl
/-- The value of a variable of this type at this place. -/
def valAt (P : Program) (T : TypeId) (h : Heap) (a : Addr) : Option Value :=
  match aggS P T with
  | some true => (match szS P T with | some n => (cellsFrom h a 0 n).map fun cs => .agg cs.toArray | none => none)
  | some false => cellH h a
  | none => none
@[simp] theorem loadS_ptr (T : TypeId) (a : Addr) : loadS P T (.pointer (some a)) h K = optS (valAt P T h a) (K · h) := by
  unfold loadS Instr.loadAt loadVar valAt
  simp only [hp_bind, Instr.sureAddr, hp_pure, hp_isAgg]
  cases aggS P T with
  | none => rfl
  | some t =>
    cases t with
    | true =>
      simp only [if_true, hp_bind, hp_sizeOf, loadCells]
      cases szS P T with
      | none => rfl
      | some n =>
        simp only [hp_loadCellsFrom, hp_pure]
        cases cellsFrom h a 0 n <;> simp [optS]
    | false => simp only [Bool.false_eq_true, if_false, hp_load, optS]; cases cellH h a <;> rfl
/-- The same, in a block that is looked up. -/
def valIn (agg : Option Bool) (sz : Option Nat) (o : Option Obj) (off : Nat) : Option Value :=
  match agg with
  | some true => (match sz with | some n => if n = 0 then some (.agg #[]) else (cellsIn o off n).map fun cs => .agg cs.toArray | none => none)
  | some false => cellIn o off
  | none => none
@[simp] theorem valAt_mk (T : TypeId) (h : Heap) (bk off : Nat) : valAt P T h ⟨bk, off, none⟩ = valIn (aggS P T) (szS P T) h[bk]? off := by
  unfold valAt valIn
  cases aggS P T with
  | none => rfl
  | some t =>
    cases t with
    | true =>
      simp only
      cases szS P T with
      | none => rfl
      | some n =>
        simp only
        by_cases hn : n = 0
        · subst hn; simp [cellsFrom]
        · rw [cellsFrom_mk h bk off n 0 hn, if_neg hn]; rfl
    | false => exact cellH_mk h bk off
@[simp] theorem valIn_one (sz : Option Nat) (o : Option Obj) (off : Nat) : valIn (some false) sz o off = cellIn o off := _root_.id rfl
@[simp] theorem valIn_agg (n : Nat) (o : Option Obj) (off : Nat) : valIn (some true) (some n) o off = if n = 0 then some (.agg #[]) else (cellsIn o off n).map fun cs => .agg cs.toArray := _root_.id rfl

/-! ### store -/
def frozenIn (fz : Nat × Nat) (off n : Nat) : Bool := (List.range n).any fun i => decide (fz.1 ≤ off + i) && decide (off + i < fz.2)
/-- A block with some cells written anew. -/
def writeC (c : Array Value) (off : Nat) : List Value → Array Value
  | [] => c
  | v :: vs => writeC (c.setIfInBounds off v) (off + 1) vs
def writeIn (o : Option Obj) (off : Nat) (vs : List Value) : Option Obj :=
  match o with
  | some (.cells c e fz) => if vs.all Value.oneCell' && decide (off + vs.length ≤ c.size) && !frozenIn fz off vs.length then some (.cells (writeC c off vs) e fz) else none
  | _ => none

theorem setCellH_mk {c : Array Value} {e : TypeId} {fz : Nat × Nat} {bk off : Nat} (hb : h[bk]? = some (.cells c e fz)) (v : Value) :
    setCellH h ⟨bk, off, none⟩ v = h.setIfInBounds bk (.cells (c.setIfInBounds off v) e fz) := by
  unfold setCellH
  apply Array.ext_getElem?
  intro i
  rw [Array.getElem?_modify, Array.getElem?_setIfInBounds]
  by_cases hi : bk = i
  · subst hi
    have : bk < h.size := (Array.getElem?_eq_some_iff.1 hb).1
    rw [if_pos rfl, if_pos rfl, if_pos this, hb]
    rfl
  · simp [hi]
theorem optS_ite {α : Type} (t : Bool) (o : α) (K : α → Prop) : optS (if t = true then some o else none) K = (t = true ∧ K o) := by
  cases t <;> simp [optS]
theorem frozenH_mk {c : Array Value} {e : TypeId} {fz : Nat × Nat} {bk off : Nat} (hb : h[bk]? = some (.cells c e fz)) : frozenH h ⟨bk, off, none⟩ = (decide (fz.1 ≤ off) && decide (off < fz.2)) := by
  unfold frozenH; rw [hb]
theorem frozenIn_succ (fz : Nat × Nat) (off n : Nat) : frozenIn fz off (n + 1) = ((decide (fz.1 ≤ off) && decide (off < fz.2)) || frozenIn fz (off + 1) n) := by
  unfold frozenIn
  rw [List.range_succ_eq_map, List.any_cons, List.any_map]
  congr 1
  congr 1
  funext i
  simp only [Function.comp, Nat.succ_eq_add_one]
  rw [show off + 1 + i = off + (i + 1) from by omega]

theorem hp_storeCells (bk off : Nat) : ∀ (vs : List Value) (i : Nat) (K : Unit → Heap → Prop) (h : Heap), vs ≠ [] →
    hp P (storeCells ⟨bk, off, none⟩ vs i) K h = optS (writeIn h[bk]? (off + i) vs) (fun o => K () (h.setIfInBounds bk o))
  | [], i, K, h, hn => absurd rfl hn
  | v :: rest, i, K, h, _ => by
    simp only [storeCells, hp_bind, hp_store, add_mk, cellH_mk]
    cases hb : h[bk]? with
    | none => simp [cellIn, writeIn, optS]
    | some o =>
      cases o with
      | cells c e fz =>
        rw [frozenH_mk hb, setCellH_mk hb]
        have hlt : bk < h.size := (Array.getElem?_eq_some_iff.1 hb).1
        have hb2 : (h.setIfInBounds bk (.cells (c.setIfInBounds (off + i) v) e fz))[bk]? = some (.cells (c.setIfInBounds (off + i) v) e fz) := by simp [hlt]
        have hsome : (c[off + i]?).isSome = decide (off + i < c.size) := by
          by_cases hx : off + i < c.size <;> simp [hx]
        simp only [cellIn_some, writeIn, List.all_cons, List.length_cons, frozenIn_succ, writeC, optS_ite, hsome]
        by_cases hr : rest = []
        · subst hr
          simp only [storeCells, hp_pure, List.all_nil, List.length_nil, writeC, frozenIn, List.range_zero, List.any_nil, Bool.and_true, Bool.or_false, Nat.zero_add, Bool.and_eq_true, Bool.not_eq_true',
            decide_eq_true_eq, Nat.add_one_le_iff, and_assoc]
        · rw [hp_storeCells bk off rest (i + 1) K _ hr, hb2]
          have hpos : 0 < rest.length := by cases rest with | nil => exact absurd rfl hr | cons a r => simp
          have hset : ∀ o', (h.setIfInBounds bk (.cells (c.setIfInBounds (off + i) v) e fz)).setIfInBounds bk o' = h.setIfInBounds bk o' := by
            intro o'; simp
          simp only [writeIn, Array.size_setIfInBounds, optS_ite, hset, show off + (i + 1) = off + i + 1 from by omega]
          simp only [Bool.and_eq_true, Bool.not_eq_true', decide_eq_true_eq, Bool.or_eq_false_iff, and_assoc]
          apply propext
          constructor
          · rintro ⟨h1, h2, h3, h4, h5, h6, h7⟩
            exact ⟨h1, h4, by omega, h3, h6, h7⟩
          · rintro ⟨h1, h4, h5, h3, h6, h7⟩
            exact ⟨h1, by omega, h3, h4, by omega, h6, h7⟩
      | _ => simp [cellIn, writeIn, optS]

def storeS (P : Program) (T : TypeId) (a v : Value) (h : Heap) (K : Value → Heap → Prop) (_t : Tag K := ⟨⟩) : Prop := hp P (Instr.storeAt T a v) (fun _ h' => K undef h') h
@[congr] theorem storeS_congr {T : TypeId} {a a' v v' : Value} (ha : a = a') (hv : v = v') : storeS P T a v h K = storeS P T a' v' h K := by rw [ha, hv]
@[simp] theorem osem_store (T : TypeId) (x y : Operand) : os P ⟨dst, .store T x y, ty, pos, aft, g⟩ l b h K = storeS P T (ev l b x) (ev l b y) h K := by
  unfold os osem execOp storeS; simp only [hp_bind, hp_pure]; rfl
/-- Are these as many cells as the type has? -/
def fitsB (sz : Option Nat) (n : Nat) : Bool := sz == some n
@[simp] theorem storeS_mk (T : TypeId) (bk off : Nat) (v : Value) (hv : v.cells.toList ≠ []) : storeS P T (.pointer (some ⟨bk, off, none⟩)) v h K =
    optS (if fitsB (szS P T) v.cells.size = true then writeIn h[bk]? off v.cells.toList else none) (fun o => K undef (h.setIfInBounds bk o)) := by
  unfold storeS Instr.storeAt storeVar fitsB
  simp only [hp_bind, Instr.sureAddr, hp_pure, hp_sizeOf]
  cases szS P T with
  | none => rfl
  | some n =>
    simp only [hp_ite]
    by_cases hn : v.cells.size = n
    · rw [if_neg (by simp [hn]), if_pos (by simp [hn]), hp_storeCells _ _ _ _ _ _ hv]
      rfl
    · rw [if_pos hn, if_neg (by simp; exact fun e => hn e.symm)]
      rfl

/-! ### addresses -/
def fieldAddrS (P : Program) (S : TypeId) (v : Value) (f : Nat) (h : Heap) (K : Value → Heap → Prop) (_t : Tag K := ⟨⟩) : Prop := hp P (Instr.fieldAt S v f) K h
@[congr] theorem fieldAddrS_congr {S : TypeId} {v v' : Value} {f : Nat} (hv : v = v') : fieldAddrS P S v f h K = fieldAddrS P S v' f h K := by rw [hv]
@[simp] theorem osem_fieldAddr (S : TypeId) (x : Operand) (f : Nat) : os P ⟨dst, .fieldAddr S x f, ty, pos, aft, g⟩ l b h K = fieldAddrS P S (ev l b x) f h K := by
  unfold os osem execOp fieldAddrS; simp only [hp_bind, hp_pure]; rfl
/-- The place of a field that has cells. -/
theorem fieldAddrS_mk (S : TypeId) (bk off f : Nat) {o : Nat} {s : Nat} {ag : Bool} (hf : fldS P S f = some (o, s, ag)) (hs : s ≠ 0) :
    fieldAddrS P S (.pointer (some ⟨bk, off, none⟩)) f h K = K (.pointer (some ⟨bk, off + o, none⟩)) h := by
  unfold fieldAddrS Instr.fieldAt
  unfold fldS at hf
  simp only [hp_bind, hp_underlying]
  cases hu : P.underlying S with
  | none => simp [hu] at hf
  | some d =>
    cases d with
    | struct fs =>
      simp only [hu] at hf ⊢
      cases hx : fs[f]? with
      | none => simp [hx] at hf
      | some x =>
        simp only [hx, Option.bind_some] at hf ⊢
        cases hi : P.info? x.type with
        | none => simp [hi] at hf
        | some i =>
          simp only [hi, Option.bind_some] at hf
          cases hd : P.underlying x.type with
          | none => simp [hd] at hf
          | some d =>
            simp only [hd, Option.map_some, Option.some.injEq, Prod.mk.injEq] at hf
            obtain ⟨rfl, rfl, rfl⟩ := hf
            simp only [Instr.sureAddr, hp_bind, hp_pure, fieldPlace, hp_sizeOf, szS, hi, Option.map_some, hp_ite, if_neg hs, add_mk]
    | _ => simp [hu] at hf
/-- Where a field begins, if it has cells. -/
def fldOff (o : Option (Nat × Nat × Bool)) : Option Nat := match o with | some (o, s, _) => if s = 0 then none else some o | none => none
@[simp] theorem fldOff_some (o s : Nat) (ag : Bool) : fldOff (some (o, s, ag)) = if s = 0 then none else some o := _root_.id rfl

@[simp] theorem fieldAddrS_off (S : TypeId) (bk off f : Nat) (hf : (fldOff (fldS P S f)).isSome = true) :
    fieldAddrS P S (.pointer (some ⟨bk, off, none⟩)) f h K = forceV (.pointer (some ⟨bk, off + (fldOff (fldS P S f)).getD 0, none⟩)) (K · h) := by
  cases hx : fldS P S f with
  | none => simp [hx, fldOff] at hf
  | some t =>
    obtain ⟨o, s, ag⟩ := t
    by_cases hs : s = 0
    · simp [hx, fldOff, hs] at hf
    · rw [fieldAddrS_mk S bk off f hx hs]
      simp [hs]

def fieldVS (P : Program) (T : TypeId) (v : Value) (f : Nat) (h : Heap) (K : Value → Heap → Prop) (_t : Tag K := ⟨⟩) : Prop := hp P (Instr.field T v f) K h
@[congr] theorem fieldVS_congr {T : TypeId} {v v' : Value} {f : Nat} (hv : v = v') : fieldVS P T v f h K = fieldVS P T v' f h K := by rw [hv]
@[simp] theorem osem_field (T : TypeId) (x : Operand) (f : Nat) : os P ⟨dst, .field T x f, ty, pos, aft, g⟩ l b h K = fieldVS P T (ev l b x) f h K := by
  unfold os osem execOp fieldVS; simp only [hp_bind, hp_pure]; rfl
def partOf (o : Option (Nat × Nat × Bool)) (cs : Array Value) : Option Value :=
  match o with
  | some (o, s, true) => some (.agg (cs.extract o (o + s)))
  | some (o, _, false) => cs[o]?
  | none => none
@[simp] theorem partOf_agg (o s : Nat) (cs : Array Value) : partOf (some (o, s, true)) cs = some (.agg (cs.extract o (o + s))) := _root_.id rfl
@[simp] theorem partOf_one (o s : Nat) (cs : Array Value) : partOf (some (o, s, false)) cs = cs[o]? := _root_.id rfl
@[simp] theorem fieldVS_agg (T : TypeId) (cs : Array Value) (f : Nat) (hf : (fldS P T f).isSome = true) : fieldVS P T (.agg cs) f h K = optS (partOf (fldS P T f) cs) (K · h) := by
  unfold fieldVS Instr.field
  unfold fldS at hf ⊢
  simp only [hp_bind, hp_underlying]
  cases hu : P.underlying T with
  | none => simp [hu] at hf
  | some d =>
    cases d with
    | struct fs =>
      simp only [hu] at hf ⊢
      cases hx : fs[f]? with
      | none => simp [hx] at hf
      | some x =>
        simp only [hx, Option.bind_some] at hf ⊢
        cases hi : P.info? x.type with
        | none => simp [hi] at hf
        | some i =>
          simp only [hi, Option.bind_some] at hf ⊢
          cases hd : P.underlying x.type with
          | none => simp [hd] at hf
          | some d =>
            simp only [Option.map_some, asAgg, hp_bind, hp_pure, part, hp_isAgg, aggS, hd, partOf]
            cases hag : aggD d with
            | true => simp [hp_sizeOf, szS, hi]
            | false =>
              simp only [Bool.false_eq_true, if_false]
              cases cs[x.offset]? <;> rfl
    | _ => simp [hu] at hf

def extractS (P : Program) (v : Value) (i : Nat) (h : Heap) (K : Value → Heap → Prop) (_t : Tag K := ⟨⟩) : Prop := hp P (Instr.extract v i) K h
@[congr] theorem extractS_congr {v v' : Value} {i : Nat} (hv : v = v') : extractS P v i h K = extractS P v' i h K := by rw [hv]
@[simp] theorem osem_extract (x : Operand) (i : Nat) : os P ⟨dst, .extract x i, ty, pos, aft, g⟩ l b h K = extractS P (ev l b x) i h K := by
  unfold os osem execOp extractS; simp only [hp_bind, hp_pure]; rfl
@[simp] theorem extractS_tuple (vs : Array Value) (i : Nat) : extractS P (.tuple vs) i h K = optS vs[i]? (K · h) := by
  unfold extractS Instr.extract
  simp only
  cases vs[i]? <;> rfl

/-! ### slices -/
def offs (a : Option Addr) (n : Nat) : Option Addr := a.map (·.add n)
@[simp] theorem offs_mk (bk off n : Nat) : offs (some ⟨bk, off, none⟩) n = some ⟨bk, off + n, none⟩ := by simp [offs, add_mk]
def indexAddrS (P : Program) (T : TypeId) (v u : Value) (h : Heap) (K : Value → Heap → Prop) (_t : Tag K := ⟨⟩) : Prop := hp P (Instr.indexAt T v u) K h
@[congr] theorem indexAddrS_congr {T : TypeId} {v v' u u' : Value} (hv : v = v') (hu : u = u') : indexAddrS P T v u h K = indexAddrS P T v' u' h K := by rw [hv, hu]
@[simp] theorem osem_indexAddr (T : TypeId) (x y : Operand) : os P ⟨dst, .indexAddr T x y, ty, pos, aft, g⟩ l b h K = indexAddrS P T (ev l b x) (ev l b y) h K := by
  unfold os osem execOp indexAddrS; simp only [hp_bind, hp_pure]; rfl
/-- The size of a slice type's elements. -/
def elSz (P : Program) (T : TypeId) : Option Nat := (elS P T).bind (szS P)
theorem indexAddrS_slice (T : TypeId) (a : Option Addr) (n c : Nat) (k : IntKind) (i : Int) (h0 : 0 ≤ i) (h1 : i < n) (ha : a.isSome = true) :
    indexAddrS P T (.slice a n c) (.int k i) h K = optS (elSz P T) (fun s => K (.pointer (offs a (i.toNat * s))) h) := by
  unfold indexAddrS Instr.indexAt elSz elS
  obtain ⟨a, rfl⟩ := Option.isSome_iff_exists.1 ha
  simp only [hp_bind, asIntOf, hp_pure, hp_underlying]
  cases hu : P.underlying T with
  | none => rfl
  | some d =>
    cases d <;> simp only [hp_stuck, optS, Option.bind_none, hp_bind, hp_pure, Option.bind_some, hp_ite, hp_sizeOf, offs, Option.map_some]
    case slice e =>
      simp only [hp_underlying, hu, if_pos (And.intro h0 h1)]
      cases szS P e <;> rfl
    case array n e =>
      simp [Instr.sureAddr]

def sliceS (P : Program) (T : TypeId) (v : Value) (lo hi mx : Option Value) (h : Heap) (K : Value → Heap → Prop) (_t : Tag K := ⟨⟩) : Prop := hp P (Instr.sliceAt T v lo hi mx) K h
@[congr] theorem sliceS_congr {T : TypeId} {v v' : Value} {lo lo' hi hi' mx mx' : Option Value} (hv : v = v') (h1 : lo = lo') (h2 : hi = hi') (h3 : mx = mx') : sliceS P T v lo hi mx h K = sliceS P T v' lo' hi' mx' h K := by rw [hv, h1, h2, h3]
@[simp] theorem osem_slice (T : TypeId) (x : Operand) (lo hi mx : Option Operand) : os P ⟨dst, .slice T x lo hi mx, ty, pos, aft, g⟩ l b h K = sliceS P T (ev l b x) (lo.map (ev l b)) (hi.map (ev l b)) (mx.map (ev l b)) h K := by
  unfold os osem execOp sliceS; simp only [hp_bind, hp_pure]; rfl
/-- A bound of a slice expression: as a number, if it is one and not below 0. -/
def bnd (v : Option Value) (dflt : Nat) : Option Nat :=
  match v with
  | none => some dflt
  | some (.int _ i) => if 0 ≤ i then some i.toNat else none
  | _ => none
@[simp] theorem bnd_none (d : Nat) : bnd none d = some d := _root_.id rfl
@[simp] theorem bnd_int (k : IntKind) (i : Int) (d : Nat) (hi : 0 ≤ i) : bnd (some (.int k i)) d = some i.toNat := by simp [bnd, hi]
theorem sliceBound_eq {k : IntKind} {i : Int} {y : Nat} {code : BoundsCode} {K : Nat → Heap → Prop} (h0 : 0 ≤ i) (h1 : i ≤ y) : hp P (Instr.sliceBound (.int k i) y code) K h = K i.toNat h := by
  unfold Instr.sliceBound
  simp only [hp_bind, asIntOf, hp_pure, hp_ite, if_pos (And.intro h0 h1)]
/-- The base of a piece of a slice. -/
def piece (a : Option Addr) (l m s : Nat) : Option Addr := if m = l then a else offs a (l * s)
theorem sliceBounds_eq {n c : Nat} {lo hi mx : Option Value} {i j m : Nat} {K : Nat × Nat × Nat → Heap → Prop}
    (hm : mx = none ∧ m = c ∨ ∃ k, mx = some (.int k m) ∧ hi ≠ none)
    (hj : hi = none ∧ j = n ∨ ∃ k, hi = some (.int k j)) (hi' : lo = none ∧ i = 0 ∨ ∃ k, lo = some (.int k i)) (h1 : i ≤ j) (h2 : j ≤ m) (h3 : m ≤ c) :
    hp P (Instr.sliceBounds true n c lo hi mx) K h = K (i, j, m) h := by
  have ci : ∀ x : Nat, ((x : Int)).toNat = x := fun x => Int.toNat_natCast x
  have b1 := fun (k : IntKind) (code : BoundsCode) (K' : Nat → Heap → Prop) => sliceBound_eq (P := P) (h := h) (k := k) (code := code) (K := K') (Int.natCast_nonneg i) (Int.ofNat_le.2 h1)
  have b2 := fun (k : IntKind) (code : BoundsCode) (K' : Nat → Heap → Prop) => sliceBound_eq (P := P) (h := h) (k := k) (code := code) (K := K') (Int.natCast_nonneg j) (Int.ofNat_le.2 h2)
  have b3 := fun (k : IntKind) (code : BoundsCode) (K' : Nat → Heap → Prop) => sliceBound_eq (P := P) (h := h) (k := k) (code := code) (K := K') (Int.natCast_nonneg m) (Int.ofNat_le.2 h3)
  rcases hm with ⟨rfl, rfl⟩ | ⟨k, rfl, hne⟩
  · rcases hj with ⟨rfl, rfl⟩ | ⟨k2, rfl⟩
    · rcases hi' with ⟨rfl, rfl⟩ | ⟨k3, rfl⟩
      · simp [Instr.sliceBounds]
      · simp [Instr.sliceBounds, b1, ci]
    · rcases hi' with ⟨rfl, rfl⟩ | ⟨k3, rfl⟩
      · simp [Instr.sliceBounds, b2, ci]
      · simp [Instr.sliceBounds, b1, b2, ci]
  · rcases hj with ⟨rfl, rfl⟩ | ⟨k2, rfl⟩
    · exact absurd rfl hne
    · rcases hi' with ⟨rfl, rfl⟩ | ⟨k3, rfl⟩
      · simp [Instr.sliceBounds, b2, b3, ci]
      · simp [Instr.sliceBounds, b1, b2, b3, ci]
theorem elS_spec {T e : TypeId} (he : elS P T = some e) : P.underlying T = some (.slice e) := by
  unfold elS at he
  cases hx : P.underlying T with
  | none => simp [hx] at he
  | some d => cases d <;> simp [hx] at he; subst he; rfl
theorem sliceS_slice {T : TypeId} {a : Option Addr} {n c : Nat} {lo hi mx : Option Value} {e s : Nat} {i j m : Nat}
    (he : elS P T = some e) (hs : szS P e = some s) (hm : mx = none ∧ m = c ∨ ∃ k, mx = some (.int k m) ∧ hi ≠ none)
    (hj : hi = none ∧ j = n ∨ ∃ k, hi = some (.int k j)) (hi' : lo = none ∧ i = 0 ∨ ∃ k, lo = some (.int k i)) (h1 : i ≤ j) (h2 : j ≤ m) (h3 : m ≤ c) :
    sliceS P T (.slice a n c) lo hi mx h K = K (.slice (piece a i m s) (j - i) (m - i)) h := by
  have hu := elS_spec he
  unfold sliceS Instr.sliceAt
  simp only [hp_bind, hp_underlying, hu, Instr.slice, sliceBounds_eq hm hj hi' h1 h2 h3, hp_sizeOf, hs, hp_pure]
  rfl

/-! ### unary, conversions, function values, maps -/
def unS (P : Program) (op : UnOp) (v : Value) (h : Heap) (K : Value → Heap → Prop) (_t : Tag K := ⟨⟩) : Prop := hp P (Op.unary op v) K h
@[congr] theorem unS_congr {op : UnOp} {v v' : Value} (hv : v = v') : unS P op v h K = unS P op v' h K := by rw [hv]
@[simp] theorem osem_un (op : UnOp) (T : TypeId) (x : Operand) : os P ⟨dst, .unOp op T x, ty, pos, aft, g⟩ l b h K = unS P op (ev l b x) h K := by
  unfold os osem execOp unS; simp only [hp_bind, hp_pure]; rfl
@[simp] theorem unS_not (t : Bool) : unS P .not (.bool t) h K = forceV (.bool (!t)) (K · h) := _root_.id rfl
@[simp] theorem unS_neg (k : IntKind) (i : Int) : unS P .neg (.int k i) h K = forceV (.int k (k.wrap (0 - i))) (K · h) := _root_.id rfl

def convS (P : Program) (S D : TypeId) (v : Value) (h : Heap) (K : Value → Heap → Prop) (_t : Tag K := ⟨⟩) : Prop := hp P (convert S D v) K h
@[congr] theorem convS_congr {S D : TypeId} {v v' : Value} (hv : v = v') : convS P S D v h K = convS P S D v' h K := by rw [hv]
@[simp] theorem osem_conv (S D : TypeId) (x : Operand) : os P ⟨dst, .convert S D x, ty, pos, aft, g⟩ l b h K = convS P S D (ev l b x) h K := by
  unfold os osem execOp convS; simp only [hp_bind, hp_pure]; rfl
/-- The kind of an integer type. -/
def intK (P : Program) (T : TypeId) : Option IntKind := match P.underlying T with | some (.int k) => some k | _ => none
theorem convS_int {S D : TypeId} {k k' : IntKind} {i : Int} {k2 : IntKind} (hs : intK P S = some k2) (hd : intK P D = some k') : convS P S D (.int k i) h K = K (.int k' (k'.wrap i)) h := by
  unfold convS convert
  unfold intK at hs hd
  simp only [hp_bind, hp_underlying]
  cases h1 : P.underlying S with
  | none => simp [h1] at hs
  | some d1 =>
    cases h2 : P.underlying D with
    | none => simp [h2] at hd
    | some d2 =>
      cases d1 <;> simp [h1] at hs
      cases d2 <;> simp [h2] at hd
      subst hs; subst hd
      rfl
@[simp] theorem convS_int' {S D : TypeId} {k : IntKind} {i : Int} (hs : (intK P S).isSome = true) (hd : (intK P D).isSome = true) :
    convS P S D (.int k i) h K = optS (intK P D) (fun k' => forceV (.int k' (k'.wrap i)) (K · h)) := by
  obtain ⟨k2, hs⟩ := Option.isSome_iff_exists.1 hs
  obtain ⟨k3, hd⟩ := Option.isSome_iff_exists.1 hd
  rw [convS_int hs hd, hd]
  rfl

@[simp] theorem osem_makeFunc (fn : Fn) (x y : Array Operand) : os P ⟨dst, .makeFunc fn x y, ty, pos, aft, g⟩ l b h K = forceV (.func fn (x.map (ev l b)) (y.map (ev l b))) (K · h) := _root_.id rfl
def newMap (h : Heap) : Heap := h.push (.map #[] 0)
@[simp] theorem osem_makeMap (T : TypeId) : os P ⟨dst, .makeMap T none, ty, pos, aft, g⟩ l b h K = K (.map (some h.size)) (h.push (.map #[] 0)) := by
  unfold os osem execOp; simp [Instr.makeMap, nextK]

/-! ### calls -/
def callS (P : Program) (f : Value) (args : Array Value) (h : Heap) (K : Value → Heap → Prop) (_t : Tag K := ⟨⟩) : Prop := callV P f args h K
@[congr] theorem callS_congr {f f' : Value} {args args' : Array Value} (hf : f = f') (ha : args = args') : callS P f args h K = callS P f' args' h K := by rw [hf, ha]
@[simp] theorem osem_call (f : Operand) (args : Array Operand) (ats : Array TypeId) : os P ⟨dst, .call ⟨.value f, args, ats⟩, ty, pos, aft, g⟩ l b h K =
    callS P (ev l b f) (args.map (ev l b)) h K := by
  unfold os osem execOp callS callV resolve; rfl
/-- A call, marked. -/
def call (P : Program) (f : FuncId) (args : Array Value) (h : Heap) (K : Value → Heap → Prop) (_t : Tag K := ⟨⟩) : Prop := CallH P f args h K
theorem call_mono {f : FuncId} {args : Array Value} {K' : Value → Heap → Prop} (hc : CallH P f args h K') (hk : ∀ v h, K' v h → K v h) : call P f args h K := hc.mono hk
@[simp] theorem callS_func (f : Nat) (hf : FnOk P f) (x y args : Array Value) : callS P (.func (.func f) x y) args h K = call P f (x ++ args ++ y) h K := callV_func hf x y args h K

def builtinS (P : Program) (bi : Builtin) (ats : Array TypeId) (ty : TypeId) (cs : Array Bool) (args : Array Value) (h : Heap) (K : Value → Heap → Prop) (_t : Tag K := ⟨⟩) : Prop := hp P (builtin bi ats ty cs args) (nextK P K) h
@[congr] theorem builtinS_congr {bi : Builtin} {ats : Array TypeId} {cs : Array Bool} {args args' : Array Value} (ha : args = args') : builtinS P bi ats ty cs args h K = builtinS P bi ats ty cs args' h K := by rw [ha]
@[simp] theorem osem_builtin (bi : Builtin) (args : Array Operand) (ats : Array TypeId) : os P ⟨dst, .call ⟨.builtin bi, args, ats⟩, ty, pos, aft, g⟩ l b h K =
    builtinS P bi ats ty (args.map fun | .const _ => true | _ => false) (args.map (ev l b)) h K := by
  unfold os osem execOp builtinS resolve; rfl
@[simp] theorem len_slice (T : TypeId) (cs : Array Bool) (a : Option Addr) (n c : Nat) (he : (elS P T).isSome = true) : builtinS P .len #[T] ty cs #[.slice a n c] h K = K (.int .i64 n) h := by
  unfold elS at he
  unfold builtinS builtin Builtin.len_
  simp only [hp_bind, hp_pure]
  cases hu : P.underlying T with
  | none => simp [hu] at he
  | some d => cases d <;> simp [hu] at he <;> simp [hu, nextK, goInt]
def strT (P : Program) (T : TypeId) : Bool := match P.underlying T with | some .string => true | _ => false
@[simp] theorem len_string (T : TypeId) (cs : Array Bool) (s : ByteArray) (he : strT P T = true) : builtinS P .len #[T] ty cs #[.string s] h K = K (.int .i64 s.size) h := by
  unfold strT at he
  unfold builtinS builtin Builtin.len_
  simp only [hp_bind, hp_pure]
  cases hu : P.underlying T with
  | none => simp [hu] at he
  | some d => cases d <;> simp [hu] at he <;> simp [hu, nextK, goInt]
end
end Go.HC
