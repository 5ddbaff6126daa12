/-
  HC, part 7: entering a function, leaving it; loops, drawn regions and ranges over functions with marks; numbers.
-/
import Derived.Test.YtjkefplcbmdndaaHC6
import Derived.KernelRfl
namespace Go.HC

section
variable {P : Program} {n : Nat} {ro : Option Nat} {κ : Kont} {l : L} {b : Base} {h : Heap}

def takeS (d : List Nat) (h : Heap) (K : Heap → Prop) (_t : Tag K := ⟨⟩) : Prop := takeAll d h K
@[simp] theorem takeS_nil (K : Heap → Prop) : takeS [] h K = K h := _root_.id rfl
theorem takeS_cons {r : Nat} {rs : List Nat} {K : Heap → Prop} (hr : h[r]? = some (.deferred (some []))) : takeS (r :: rs) h K = takeS rs (h.setIfInBounds r (.deferred none)) K := by
  simp [takeS, takeAll, hr]

/-- How a body ends whose results lie in these slots. -/
def endK (K : Value → Heap → Prop) (f : L → Base → Value) : Kont :=
  { nx := fun l b h => takeS b.d h fun h' => forceV (f l b) (K · h'), rt := fun l b h => takeS b.d h fun h' => forceV (f l b) (K · h'), ex := fun _ _ _ _ => False, gt := fun _ _ _ _ => False }
@[simp] theorem endK_nx (K : Value → Heap → Prop) (f : L → Base → Value) : (endK K f).nx l b h = takeS b.d h fun h' => forceV (f l b) (K · h') := _root_.id rfl
@[simp] theorem endK_rt (K : Value → Heap → Prop) (f : L → Base → Value) : (endK K f).rt l b h = takeS b.d h fun h' => forceV (f l b) (K · h') := _root_.id rfl
@[simp] theorem endK_ex (K : Value → Heap → Prop) (f : L → Base → Value) (j : Nat) : (endK K f).ex j l b h = False := _root_.id rfl
@[simp] theorem endK_gt (K : Value → Heap → Prop) (f : L → Base → Value) (j : Nat) : (endK K f).gt j l b h = False := _root_.id rfl

theorem takeAll_mono : ∀ (d : List Nat) {h : Heap} {K K' : Heap → Prop}, (∀ h, K h → K' h) → takeAll d h K → takeAll d h K'
  | [], _, _, _, hk, ht => hk _ ht
  | _ :: d, _, _, _, hk, ht => ⟨ht.1, takeAll_mono d hk ht.2⟩

variable {f : FuncId} {fn : Func} {c : Code} {args : Array Value} {K : Value → Heap → Prop}
theorem enter_gen (hf : P.funcs[f]? = some fn) (hb : fn.body = some c) (hok : codeOk fn.ntmps c = true) (hn : Nat.ble args.size fn.ntmps = true)
    {g : L → Base → Value} (hr : ∀ l b h, K (g l b) h → hp P (resL fn l b) K h)
    (hc : cs P fn.ntmps none c (endK K g) (argL 0 args.toList) ⟨fun _ => undef, []⟩ h) : CallH P f args h K := by
  refine callH_of hf hb hok (by simpa using hn) (csem_mono c (κ := endK K g) ⟨?_, ?_, fun _ _ _ _ h => h, fun _ _ _ _ h => h⟩ hc)
  · exact fun l b h hh => takeAll_mono _ (fun h hk => hr l b h hk) hh
  · exact fun l b h hh => takeAll_mono _ (fun h hk => hr l b h hk) hh
theorem enter0 (hf : P.funcs[f]? = some fn) (hb : fn.body = some c) (hr : fn.results = #[]) (hok : codeOk fn.ntmps c = true) (hn : Nat.ble args.size fn.ntmps = true)
    (hc : cs P fn.ntmps none c (endK K fun _ _ => .tuple #[]) (argL 0 args.toList) ⟨fun _ => undef, []⟩ h) : CallH P f args h K :=
  enter_gen hf hb hok hn (fun l b h hk => by simpa [resL, hr] using hk) hc
theorem enter1 {t : Tmp} (hf : P.funcs[f]? = some fn) (hb : fn.body = some c) (hr : fn.results = #[.tmp t]) (hok : codeOk fn.ntmps c = true) (hn : Nat.ble args.size fn.ntmps = true)
    (hc : cs P fn.ntmps none c (endK K fun l b => look l b t) (argL 0 args.toList) ⟨fun _ => undef, []⟩ h) : CallH P f args h K :=
  enter_gen hf hb hok hn (fun l b h hk => by simpa [resL, hr, resOne] using hk) hc
theorem enter2 {t u : Tmp} (hf : P.funcs[f]? = some fn) (hb : fn.body = some c) (hr : fn.results = #[.tmp t, .tmp u]) (hok : codeOk fn.ntmps c = true) (hn : Nat.ble args.size fn.ntmps = true)
    (hc : cs P fn.ntmps none c (endK K fun l b => .tuple #[look l b t, look l b u]) (argL 0 args.toList) ⟨fun _ => undef, []⟩ h) : CallH P f args h K :=
  enter_gen hf hb hok hn (fun l b h hk => by simpa [resL, hr, resOne] using hk) hc
theorem enter3 {t u v : Tmp} (hf : P.funcs[f]? = some fn) (hb : fn.body = some c) (hr : fn.results = #[.tmp t, .tmp u, .tmp v]) (hok : codeOk fn.ntmps c = true) (hn : Nat.ble args.size fn.ntmps = true)
    (hc : cs P fn.ntmps none c (endK K fun l b => .tuple #[look l b t, look l b u, look l b v]) (argL 0 args.toList) ⟨fun _ => undef, []⟩ h) : CallH P f args h K :=
  enter_gen hf hb hok hn (fun l b h hk => by simpa [resL, hr, resOne] using hk) hc

theorem loop {σ : Type} (S : σ → L) (D : σ → List Nat) (J : σ → Heap → Prop) (μ : σ → Nat) (s0 : σ) (hS : Sub (S s0) l b) (hD : b.d = D s0) (hJ : J s0 h) (hok : codeOk n c = true)
    (round : ∀ s h g, J s h → cs P n ro c { κ with nx := fun l' b' h' => ∃ s', Sub (S s') l' b' ∧ b'.d = D s' ∧ J s' h' ∧ μ s' < μ s } (S s) ⟨g, D s⟩ h) :
    gs P n ro (.loop c) κ l b h := loop_rule S D J μ s0 hS hD hJ hok round

theorem drawn {id : Nat} {ops : Array Oper} (ds : List Di) (hd : drawOk ops ds = true) (hok : opsOk n ops = true) (hc : dsem P ops ds [] κ.nx l b h) :
    gs P n ro (.region id ops true) κ l b h := draw_rule ds hd hok hc

/-! the order that is written out, for simp -/
def ds (P : Program) (ops : Array Oper) (di : List Di) (pend : List (Nat × (Heap → Prop))) (K : L → Base → Heap → Prop) (l : L) (b : Base) (h : Heap) (_t : Tag K := ⟨⟩) (_p : Tag pend := ⟨⟩) : Prop := dsem P ops di pend K l b h
end

/-! ### Numbers -/
section
variable {P : Program} {h : Heap} {K : Value → Heap → Prop}
@[simp] theorem binS_same (op : BinOp) (T : TypeId) (x y : Operand) (k : IntKind) (m n : Int) : binS P op T x y (.int k m) (.int k n) h K = optS (intRes op k m n) (K · h) := binS_int (.inr rfl)
@[simp] theorem binS_shl (T : TypeId) (x y : Operand) (k k' : IntKind) (m n : Int) : binS P .shl T x y (.int k m) (.int k' n) h K = optS (intRes .shl k m n) (K · h) := binS_int (.inl rfl)
@[simp] theorem binS_shr (T : TypeId) (x y : Operand) (k k' : IntKind) (m n : Int) : binS P .shr T x y (.int k m) (.int k' n) h K = optS (intRes .shr k m n) (K · h) := binS_int (.inl rfl)
variable (k : IntKind) (x y : Int)
@[simp] theorem intRes_add : intRes .add k x y = some (.int k (k.wrap (x + y))) := _root_.id rfl
@[simp] theorem intRes_sub : intRes .sub k x y = some (.int k (k.wrap (x - y))) := _root_.id rfl
@[simp] theorem intRes_mul : intRes .mul k x y = some (.int k (k.wrap (x * y))) := _root_.id rfl
@[simp] theorem intRes_eql : intRes .eql k x y = some (.bool (x == y)) := _root_.id rfl
@[simp] theorem intRes_neq : intRes .neq k x y = some (.bool (x != y)) := _root_.id rfl
@[simp] theorem intRes_lss : intRes .lss k x y = some (.bool (x < y)) := _root_.id rfl
@[simp] theorem intRes_leq : intRes .leq k x y = some (.bool (x ≤ y)) := _root_.id rfl
@[simp] theorem intRes_gtr : intRes .gtr k x y = some (.bool (y < x)) := _root_.id rfl
@[simp] theorem intRes_geq : intRes .geq k x y = some (.bool (y ≤ x)) := _root_.id rfl
@[simp] theorem intRes_quo (hy : y ≠ 0) : intRes .quo k x y = some (.int k (k.wrap (x.tdiv y))) := by simp [intRes, hy]
@[simp] theorem intRes_rem (hy : y ≠ 0) : intRes .rem k x y = some (.int k (x.tmod y)) := by simp [intRes, hy]
@[simp] theorem intRes_shl (hy : 0 ≤ y) : intRes .shl k x y = some (.int k (k.wrap (x * 2 ^ (min y.toNat k.bits)))) := by simp [intRes, Int.not_lt.2 hy]
@[simp] theorem intRes_shr (hy : 0 ≤ y) : intRes .shr k x y = some (.int k (x.fdiv (2 ^ (min y.toNat k.bits)))) := by simp [intRes, Int.not_lt.2 hy]
@[simp] theorem intRes_and : intRes .and k x y = some (.int k (k.wrap ((BitVec.ofInt k.bits x &&& BitVec.ofInt k.bits y).toNat))) := _root_.id rfl
@[simp] theorem intRes_or : intRes .or k x y = some (.int k (k.wrap ((BitVec.ofInt k.bits x ||| BitVec.ofInt k.bits y).toNat))) := _root_.id rfl
end
section
variable {P : Program} {l : L} {b : Base} {h : Heap}
@[simp] theorem guard_val (ops : List Oper) (j : Nat) : gval ops.toArray l b j = ((ops[j]?).bind (·.dst)).bind (fun d => boolOf (look l b d)) := by
  rw [gval_def]; simp
end
@[simp] theorem cells_int (k : IntKind) (n : Int) : (Value.int k n).cells = #[.int k n] := _root_.id rfl
@[simp] theorem cells_bool (t : Bool) : (Value.bool t).cells = #[.bool t] := _root_.id rfl
@[simp] theorem cells_string (s : ByteArray) : (Value.string s).cells = #[.string s] := _root_.id rfl
@[simp] theorem cells_pointer (a : Option Addr) : (Value.pointer a).cells = #[.pointer a] := _root_.id rfl
@[simp] theorem cells_slice (a : Option Addr) (n c : Nat) : (Value.slice a n c).cells = #[.slice a n c] := _root_.id rfl
@[simp] theorem cells_map (r : Option Nat) : (Value.map r).cells = #[.map r] := _root_.id rfl
@[simp] theorem cells_func (fn : Fn) (x y : Array Value) : (Value.func fn x y).cells = #[.func fn x y] := _root_.id rfl
@[simp] theorem cells_agg (cs : Array Value) : (Value.agg cs).cells = cs := _root_.id rfl
@[simp] theorem one_int (k : IntKind) (n : Int) : (Value.int k n).oneCell' = true := _root_.id rfl
@[simp] theorem one_bool (t : Bool) : (Value.bool t).oneCell' = true := _root_.id rfl
@[simp] theorem one_string (s : ByteArray) : (Value.string s).oneCell' = true := _root_.id rfl
@[simp] theorem one_pointer (a : Option Addr) : (Value.pointer a).oneCell' = true := _root_.id rfl
@[simp] theorem one_slice (a : Option Addr) (n c : Nat) : (Value.slice a n c).oneCell' = true := _root_.id rfl
@[simp] theorem one_map (r : Option Nat) : (Value.map r).oneCell' = true := _root_.id rfl
@[simp] theorem one_func (fn : Fn) (x y : Array Value) : (Value.func fn x y).oneCell' = true := _root_.id rfl
@[simp] theorem fitsB_some (n m : Nat) : fitsB (some n) m = decide (n = m) := by
  simp only [fitsB]; by_cases h : n = m <;> simp [h]
@[simp] theorem writeIn_some (c : Array Value) (e : TypeId) (fz : Nat × Nat) (off : Nat) (vs : List Value) :
    writeIn (some (.cells c e fz)) off vs = if vs.all Value.oneCell' && decide (off + vs.length ≤ c.size) && !frozenIn fz off vs.length then some (.cells (writeC c off vs) e fz) else none := _root_.id rfl
@[simp] theorem frozenIn_zero (off n : Nat) : frozenIn (0, 0) off n = false := by simp [frozenIn]
@[simp] theorem writeC_nil (c : Array Value) (off : Nat) : writeC c off [] = c := _root_.id rfl
@[simp] theorem writeC_cons (c : Array Value) (off : Nat) (v : Value) (vs : List Value) : writeC c off (v :: vs) = writeC (c.setIfInBounds off v) (off + 1) vs := _root_.id rfl

@[simp] theorem wrap_i64 {x : Int} (h1 : -9223372036854775808 ≤ x) (h2 : x ≤ 9223372036854775807) : IntKind.i64.wrap x = x := by
  have e1 : (2 : Int) ^ 64 = 18446744073709551616 := by decide
  have e2 : (2 : Int) ^ (64 - 1) = 9223372036854775808 := by decide
  simp only [IntKind.wrap, IntKind.bits, IntKind.signed, Bool.true_and, e1, e2]
  split
  · rename_i hh; have := of_decide_eq_true hh; omega
  · rename_i hh; have := of_decide_eq_false (by simpa using hh : decide (x % 18446744073709551616 ≥ 9223372036854775808) = false); omega
@[simp] theorem wrap_u8 {x : Int} (h1 : 0 ≤ x) (h2 : x ≤ 255) : IntKind.u8.wrap x = x := by
  simp only [IntKind.wrap, IntKind.bits, IntKind.signed]
  simp
  omega
end Go.HC
