/-
  HC, part 9: strings, bools, nil, arrays, makes, conversions of bytes.
-/
import Derived.Test.YtjkefplcbmdndaaHC8
import Derived.Laws.Strings
namespace Go.HC

section
variable {P : Program} {l : L} {b : Base} {h : Heap} {K : Value → Heap → Prop} {dst : Option Tmp} {ty : TypeId} {pos : String} {aft : Array Edge} {g : Option (Nat × Bool)}

/-! ### strings -/
def sLt (x y : ByteArray) : Bool := Op.bytesLess x.data.toList y.data.toList
theorem ba_beq (x y : ByteArray) : (x == y) = decide (x = y) := by
  have : (x == y) = (x.data == y.data) := rfl
  rw [this]
  by_cases h : x = y
  · subst h; simp
  · simp only [h, decide_false, beq_eq_false_iff_ne]
    intro e
    exact h (by cases x; cases y; simp at e; simp [e])
theorem ba_list (x y : ByteArray) : (x.data.toList == y.data.toList) = decide (x = y) := by
  by_cases h : x = y
  · subst h; simp
  · simp only [h, decide_false, beq_eq_false_iff_ne]
    intro e
    exact h (by cases x; cases y; simp at e; simp [e])
def strRes (op : BinOp) (x y : ByteArray) : Option Value :=
  match op with
  | .add => if x.size + y.size ≤ 9223372036854775807 then some (.string (x ++ y)) else none
  | .eql => some (.bool (decide (x = y)))
  | .neq => some (.bool (!decide (x = y)))
  | .lss => some (.bool (sLt x y))
  | .leq => some (.bool (sLt x y || decide (x = y)))
  | .gtr => some (.bool (!(sLt x y || decide (x = y))))
  | .geq => some (.bool (!sLt x y))
  | _ => none
@[simp] theorem binS_string (op : BinOp) (T : TypeId) (x y : Operand) (s t : ByteArray) : binS P op T x y (.string s) (.string t) h K = optS (strRes op s t) (K · h) := by
  unfold binS
  have hg : ∀ K', hp P (eqGuard op T x y (.string s) (.string t)) K' h = K' () h := by intro K'; unfold eqGuard; cases op <;> rfl
  simp only [hp_bind, hg]
  have hm : IntKind.i64.max = 9223372036854775807 := by decide
  cases op <;> simp only [binOp, Op.stringOp, strRes, optS, hp_stuck, hp_pure, sLt, ByteArray.toList_eq, ba_list] <;> (try rfl)
  · rw [hm]
    by_cases hs : s.size + t.size ≤ 9223372036854775807
    · rw [if_pos hs, if_neg (by omega)]; rfl
    · rw [if_neg hs, if_pos (by omega)]; rfl
@[simp] theorem strRes_eql (x y : ByteArray) : strRes .eql x y = some (.bool (decide (x = y))) := _root_.id rfl
@[simp] theorem strRes_neq (x y : ByteArray) : strRes .neq x y = some (.bool (!decide (x = y))) := _root_.id rfl
@[simp] theorem strRes_lss (x y : ByteArray) : strRes .lss x y = some (.bool (sLt x y)) := _root_.id rfl
@[simp] theorem strRes_leq (x y : ByteArray) : strRes .leq x y = some (.bool (sLt x y || decide (x = y))) := _root_.id rfl
@[simp] theorem strRes_gtr (x y : ByteArray) : strRes .gtr x y = some (.bool (!(sLt x y || decide (x = y)))) := _root_.id rfl
@[simp] theorem strRes_geq (x y : ByteArray) : strRes .geq x y = some (.bool (!sLt x y)) := _root_.id rfl
@[simp] theorem strRes_add (x y : ByteArray) (hs : x.size + y.size ≤ 9223372036854775807) : strRes .add x y = some (.string (x ++ y)) := by simp [strRes, hs]

/-! ### bools -/
def boolT (P : Program) (T : TypeId) : Bool := match P.underlying T with | some .bool => true | _ => false
theorem hp_equal_bool {T : TypeId} (ht : boolT P T = true) (s t : Bool) (K' : Bool → Heap → Prop) : hp P (Op.equal T (.bool s) (.bool t)) K' h = K' (s == t) h := by
  unfold boolT at ht
  unfold Op.equal Op.maxDepth Op.equalIn
  simp only [hp_bind, hp_underlying]
  cases hu : P.underlying T with
  | none => simp [hu] at ht
  | some d => cases d <;> simp [hu] at ht; rfl
@[simp] theorem binS_bool_eql (T : TypeId) (x y : Operand) (s t : Bool) (ht : boolT P T = true) : binS P .eql T x y (.bool s) (.bool t) h K = forceV (.bool (s == t)) (K · h) := by
  unfold binS
  simp only [hp_bind]
  show hp P (eqGuard .eql T x y (.bool s) (.bool t)) _ h = _
  simp only [eqGuard]
  show hp P (binOp .eql T (.bool s) (.bool t)) K h = _
  simp only [binOp, hp_bind, hp_equal_bool ht, hp_pure]
  rfl
@[simp] theorem binS_bool_neq (T : TypeId) (x y : Operand) (s t : Bool) (ht : boolT P T = true) : binS P .neq T x y (.bool s) (.bool t) h K = forceV (.bool (!(s == t))) (K · h) := by
  unfold binS
  simp only [hp_bind]
  show hp P (eqGuard .neq T x y (.bool s) (.bool t)) _ h = _
  simp only [eqGuard]
  show hp P (binOp .neq T (.bool s) (.bool t)) K h = _
  simp only [binOp, hp_bind, hp_equal_bool ht, hp_pure]
  rfl

/-! ### nil -/
/-- What a value of these kinds is held against nil by. -/
def nilKind (P : Program) (T : TypeId) : Nat :=
  match P.underlying T with
  | some (.slice _) => 1
  | some (.pointer _) => 2
  | some (.map _ _) => 3
  | _ => 0
theorem binS_eq_of {op : BinOp} {T : TypeId} {x y : Operand} {v u : Value} {r : Bool} (hop : op = .eql ∨ op = .neq)
    (hv : (∀ k n, v ≠ .int k n) ∧ (∀ s, v ≠ .string s) ∧ (∀ k n, v ≠ .float k n) ∧ (∀ k n m, v ≠ .complex k n m) ∧ v ≠ .nilIface ∧ (∀ cs, v ≠ .agg cs))
    (he : ∀ K' : Bool → Heap → Prop, hp P (Op.equal T v u) K' h = K' r h) :
    binS P op T x y v u h K = forceV (.bool (if op = .eql then r else !r)) (K · h) := by
  unfold binS
  obtain ⟨h1, h2, h3, h4, h5, h6⟩ := hv
  have hg : ∀ K', hp P (eqGuard op T x y v u) K' h = K' () h := by
    intro K'
    unfold eqGuard
    rcases hop with rfl | rfl <;> cases v <;> first | rfl | exact absurd rfl h5 | exact absurd rfl (h6 _)
  simp only [hp_bind, hg]
  rcases hop with rfl | rfl <;> cases v <;> (first
    | exact absurd rfl (h1 _ _) | exact absurd rfl (h2 _) | exact absurd rfl (h3 _ _) | exact absurd rfl (h4 _ _ _) | exact absurd rfl (h6 _)
    | (simp only [binOp, hp_bind, he, hp_pure]; simp [forceV]))
theorem hp_equal_slice {T : TypeId} (ht : nilKind P T = 1) (a : Option Addr) (n c n' c' : Nat) (K' : Bool → Heap → Prop) :
    hp P (Op.equal T (.slice a n c) (.slice none n' c')) K' h = K' a.isNone h := by
  unfold nilKind at ht
  unfold Op.equal Op.maxDepth Op.equalIn
  simp only [hp_bind, hp_underlying]
  cases hu : P.underlying T with
  | none => simp [hu] at ht
  | some d => cases d <;> simp [hu] at ht; cases a <;> rfl
@[simp] theorem binS_slice_nil (T : TypeId) (x y : Operand) (a : Option Addr) (n c n' c' : Nat) (ht : nilKind P T = 1) : binS P .eql T x y (.slice a n c) (.slice none n' c') h K = forceV (.bool a.isNone) (K · h) :=
  binS_eq_of (.inl rfl) (by simp) (hp_equal_slice ht a n c n' c')
@[simp] theorem binS_slice_nnil (T : TypeId) (x y : Operand) (a : Option Addr) (n c n' c' : Nat) (ht : nilKind P T = 1) : binS P .neq T x y (.slice a n c) (.slice none n' c') h K = forceV (.bool (!a.isNone)) (K · h) :=
  binS_eq_of (.inr rfl) (by simp) (hp_equal_slice ht a n c n' c')
theorem hp_equal_ptr {T : TypeId} (ht : nilKind P T = 2) (a : Option Addr) (K' : Bool → Heap → Prop) : hp P (Op.equal T (.pointer a) (.pointer none)) K' h = K' a.isNone h := by
  unfold nilKind at ht
  unfold Op.equal Op.maxDepth Op.equalIn
  simp only [hp_bind, hp_underlying]
  cases hu : P.underlying T with
  | none => simp [hu] at ht
  | some d => cases d <;> simp [hu] at ht; cases a <;> rfl
@[simp] theorem binS_ptr_nil (T : TypeId) (x y : Operand) (a : Option Addr) (ht : nilKind P T = 2) : binS P .eql T x y (.pointer a) (.pointer none) h K = forceV (.bool a.isNone) (K · h) :=
  binS_eq_of (.inl rfl) (by simp) (hp_equal_ptr ht a)
@[simp] theorem binS_ptr_nnil (T : TypeId) (x y : Operand) (a : Option Addr) (ht : nilKind P T = 2) : binS P .neq T x y (.pointer a) (.pointer none) h K = forceV (.bool (!a.isNone)) (K · h) :=
  binS_eq_of (.inr rfl) (by simp) (hp_equal_ptr ht a)

/-! ### an index of a string; a piece of a string -/
def indexS (P : Program) (T : TypeId) (v u : Value) (h : Heap) (K : Value → Heap → Prop) (_t : Tag K := ⟨⟩) : Prop := hp P (Instr.index T v u) K h
@[congr] theorem indexS_congr {T : TypeId} {v v' u u' : Value} (hv : v = v') (hu : u = u') : indexS P T v u h K = indexS P T v' u' h K := by rw [hv, hu]
@[simp] theorem os_index (T : TypeId) (x y : Operand) : os P ⟨dst, .index T x y, ty, pos, aft, g⟩ l b h K = indexS P T (ev l b x) (ev l b y) h K := by
  unfold os osem execOp indexS; simp only [hp_bind, hp_pure]; rfl
theorem strT_spec {T : TypeId} (ht : strT P T = true) : P.underlying T = some .string := by
  unfold strT at ht
  cases hu : P.underlying T with
  | none => simp [hu] at ht
  | some d => cases d <;> simp [hu] at ht; rfl
theorem indexS_string {T : TypeId} {s : ByteArray} {k : IntKind} {i : Int} {c : UInt8} (ht : strT P T = true) (h0 : 0 ≤ i) (hc : s.data[i.toNat]? = some c) :
    indexS P T (.string s) (.int k i) h K = K (.int .u8 c.toNat) h := by
  have hs : s[i.toNat]? = some c := by
    obtain ⟨hlt, he⟩ := Array.getElem?_eq_some_iff.1 hc
    have hlt2 : i.toNat < s.size := hlt
    rw [getElem?_pos s i.toNat hlt2]
    exact congrArg some he
  unfold indexS Instr.index
  simp only [hp_bind, asIntOf, hp_pure, hp_underlying, strT_spec ht, if_pos h0, hs]
theorem sliceS_string {T : TypeId} {s : ByteArray} {lo hi : Option Value} {i j : Nat} (ht : strT P T = true)
    (hj : hi = none ∧ j = s.size ∨ ∃ k, hi = some (.int k j)) (hi' : lo = none ∧ i = 0 ∨ ∃ k, lo = some (.int k i)) (h1 : i ≤ j) (h2 : j ≤ s.size) :
    sliceS P T (.string s) lo hi none h K = K (.string (s.extract i j)) h := by
  unfold sliceS Instr.sliceAt
  have ci : ∀ x : Nat, ((x : Int)).toNat = x := fun x => Int.toNat_natCast x
  have b1 := fun (k : IntKind) (code : BoundsCode) (K' : Nat → Heap → Prop) => sliceBound_eq (P := P) (h := h) (k := k) (code := code) (K := K') (Int.natCast_nonneg i) (Int.ofNat_le.2 h1)
  have b2 := fun (k : IntKind) (code : BoundsCode) (K' : Nat → Heap → Prop) => sliceBound_eq (P := P) (h := h) (k := k) (code := code) (K := K') (Int.natCast_nonneg j) (Int.ofNat_le.2 h2)
  simp only [hp_bind, hp_underlying, strT_spec ht, Instr.slice]
  rcases hj with ⟨rfl, rfl⟩ | ⟨k2, rfl⟩ <;> rcases hi' with ⟨rfl, rfl⟩ | ⟨k3, rfl⟩
  · simp [Instr.sliceBounds]
  · simp [Instr.sliceBounds, b1, ci]
  · simp [Instr.sliceBounds, b2, ci]
  · simp [Instr.sliceBounds, b1, b2, ci]

/-! ### an element of an array variable -/
def arrS (P : Program) (T : TypeId) : Option (Nat × Nat) :=
  match P.underlying T with
  | some (.array n e) => (szS P e).map fun s => (n, s)
  | _ => none
theorem indexAddrS_array {T : TypeId} {bk off n s : Nat} {k : IntKind} {i : Int} (ht : arrS P T = some (n, s)) (h0 : 0 ≤ i) (h1 : i < n) :
    indexAddrS P T (.pointer (some ⟨bk, off, none⟩)) (.int k i) h K = K (.pointer (some ⟨bk, off + i.toNat * s, none⟩)) h := by
  unfold arrS at ht
  unfold indexAddrS Instr.indexAt
  simp only [hp_bind, asIntOf, hp_pure, hp_underlying]
  cases hu : P.underlying T with
  | none => simp [hu] at ht
  | some d =>
    cases d <;> simp [hu] at ht
    obtain ⟨hs, rfl⟩ := ht
    simp only [Instr.sureAddr, hp_bind, hp_pure, hp_underlying, hu, if_pos (And.intro h0 h1), hp_sizeOf, hs, add_mk]

/-! ### min, max -/
@[simp] theorem min_int (ats : Array TypeId) (cs : Array Bool) (k : IntKind) (x y : Int) : builtinS P .min ats ty cs #[.int k x, .int k y] h K = forceV (.int k (min x y)) (K · h) := by
  unfold builtinS builtin Builtin.min_
  simp only [hp_bind, hp_pure]
  simp only [List.foldlM, Builtin.min2, hp_bind, hp_pure, nextK, forceV]
  congr 2
  simp only [Int.min_def]
  split <;> split <;> omega
@[simp] theorem max_int (ats : Array TypeId) (cs : Array Bool) (k : IntKind) (x y : Int) : builtinS P .max ats ty cs #[.int k x, .int k y] h K = forceV (.int k (max x y)) (K · h) := by
  unfold builtinS builtin Builtin.max_
  simp only [hp_bind, hp_pure]
  simp only [List.foldlM, Builtin.max2, hp_bind, hp_pure, nextK, forceV]
  congr 2
  simp only [Int.max_def]
  split <;> split <;> omega
end
end Go.HC
