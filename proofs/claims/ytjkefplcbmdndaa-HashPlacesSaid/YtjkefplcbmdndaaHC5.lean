/-
  HC, part 5: what each operation comes to; equations for simp.
-/
import Derived.Test.YtjkefplcbmdndaaHC4
namespace Go.HC

/-- A mark beside what comes next: simp (without dsimp) does not go into what a mark's type names. -/
structure Tag {α : Type} (a : α) : Type
def cs (P : Program) (n : Nat) (ro : Option Nat) (c : Code) (κ : Kont) (l : L) (b : Base) (h : Heap) (_t : Tag κ := ⟨⟩) : Prop := csem P n ro c κ l b h
def gs (P : Program) (n : Nat) (ro : Option Nat) (c : Code) (κ : Kont) (l : L) (b : Base) (h : Heap) (_t : Tag κ := ⟨⟩) : Prop := gsem P n ro c κ l b h
def rs (P : Program) (ops : Array Oper) (lo : List Oper) (K : L → Base → Heap → Prop) (l : L) (b : Base) (h : Heap) (_t : Tag K := ⟨⟩) : Prop := rsem P ops lo K l b h
def os (P : Program) (o : Oper) (l : L) (b : Base) (h : Heap) (K : Value → Heap → Prop) (_t : Tag K := ⟨⟩) : Prop := osem P o l b h K

/-! ### Types, as the loaded program tells them -/
def aggD : TypeDesc → Bool
  | .struct _ | .array _ _ => true
  | _ => false
/-- Is a variable of this type made of several cells? -/
def aggS (P : Program) (t : TypeId) : Option Bool := (P.underlying t).map aggD
/-- How many cells. -/
def szS (P : Program) (t : TypeId) : Option Nat := (P.info? t).map (·.size)
/-- How many bytes. -/
def byS (P : Program) (t : TypeId) : Option Nat := (P.info? t).map (·.bytes)
/-- The zero value. -/
def zS (P : Program) (t : TypeId) : Option Value := (P.info? t).bind (·.zero)
/-- A struct type's field: where it begins, how many cells it has, whether it is made of several, its type. -/
def fldS (P : Program) (s : TypeId) (f : Nat) : Option (Nat × Nat × Bool) :=
  match P.underlying s with
  | some (.struct fs) => (fs[f]?).bind fun x => (P.info? x.type).bind fun i => (P.underlying x.type).map fun d => (x.offset, i.size, aggD d)
  | _ => none
/-- The element type of a slice type. -/
def elS (P : Program) (t : TypeId) : Option TypeId :=
  match P.underlying t with
  | some (.slice e) => some e
  | _ => none

section
variable {P : Program}
theorem hp_isAgg (t : TypeId) (K : Bool → Heap → Prop) (h : Heap) : hp P (isAgg t) K h = (match aggS P t with | some d => K d h | none => False) := by
  unfold isAgg aggS
  simp only [hp_bind, hp_underlying]
  cases P.underlying t with
  | none => rfl
  | some d => cases d <;> rfl
theorem hp_sizeOf (t : TypeId) (K : Nat → Heap → Prop) (h : Heap) : hp P (sizeOf t) K h = (match szS P t with | some i => K i h | none => False) := by
  unfold sizeOf szS
  simp only [hp_bind, hp_typeInfo]
  cases P.info? t <;> rfl
theorem hp_zeroValue (t : TypeId) (K : Value → Heap → Prop) (h : Heap) : hp P (zeroValue t) K h = (match zS P t with | some z => K z h | none => False) := by
  unfold zeroValue zS
  simp only [hp_bind, hp_typeInfo]
  cases P.info? t with
  | none => rfl
  | some i => cases hz : i.zero <;> simp [hz]
end

/-! ### Small control words -/
/-- A value that simp works out ahead of what follows. -/
def forceV (v : Value) (K : Value → Prop) (_t : Tag K := ⟨⟩) : Prop := K v
def optS {α : Type} (o : Option α) (K : α → Prop) (_t : Tag K := ⟨⟩) : Prop :=
  match o with
  | some a => K a
  | none => False
def iteB (t : Bool) (A B : Prop) (_a : Tag A := ⟨⟩) (_b : Tag B := ⟨⟩) : Prop := if t = true then A else B
@[simp] theorem forceV_eq (v : Value) (K : Value → Prop) : forceV v K = K v := _root_.id rfl
@[simp] theorem optS_some {α : Type} (a : α) (K : α → Prop) : optS (some a) K = K a := _root_.id rfl
@[simp] theorem iteB_true (A B : Prop) : iteB true A B = A := by simp [iteB]
@[simp] theorem iteB_false (A B : Prop) : iteB false A B = B := by simp [iteB]
@[congr] theorem forceV_congr {v v' : Value} {K : Value → Prop} (h : v = v') : forceV v K = forceV v' K := by rw [h]
@[congr] theorem optS_congr {α : Type} {o o' : Option α} {K : α → Prop} (h : o = o') : optS o K = optS o' K := by rw [h]
@[congr] theorem iteB_congr {t t' : Bool} {A B : Prop} (h : t = t') : iteB t A B = iteB t' A B := by rw [h]
theorem iteB_split {t : Bool} {A B : Prop} (ht : t = true → A) (hf : t = false → B) : iteB t A B := by
  cases t
  · simpa using hf rfl
  · simpa using ht rfl
/-- The same as 'condS', marked. -/
def cnd (v : Value) (A B : Prop) (_a : Tag A := ⟨⟩) (_b : Tag B := ⟨⟩) : Prop := condS v A B
@[congr] theorem cnd_congr {v v' : Value} {A B : Prop} (h : v = v') : cnd v A B = cnd v' A B := by rw [h]
@[simp] theorem cnd_bool (t : Bool) (A B : Prop) : cnd (.bool t) A B = iteB t A B := _root_.id rfl

/-! ### Frames -/
@[simp] theorem look_cons (k : Nat) (v : Value) (l : L) (b : Base) (t : Nat) : look ((k, v) :: l) b t = if k = t then v else look l b t := _root_.id rfl
@[simp] theorem ev_tmp (l : L) (b : Base) (t : Nat) : ev l b (.tmp t) = look l b t := _root_.id rfl
@[simp] theorem ev_const (l : L) (b : Base) (v : Value) : ev l b (.const v) = v := _root_.id rfl
@[simp] theorem ev_func (l : L) (b : Base) (f : Nat) : ev l b (.func f) = .func (.func f) #[] #[] := _root_.id rfl
@[simp] theorem putl_some (d : Nat) (v : Value) (l : L) : putl (some d) v l = (d, v) :: l := _root_.id rfl
@[simp] theorem putl_none (v : Value) (l : L) : putl none v l = l := _root_.id rfl
@[simp] theorem argL_nil (i : Nat) : argL i [] = [] := _root_.id rfl
@[simp] theorem argL_cons (i : Nat) (v : Value) (vs : List Value) : argL i (v :: vs) = (i, v) :: argL (i + 1) vs := _root_.id rfl

/-! ### Code -/
section
variable {P : Program} {n : Nat} {ro : Option Nat} {κ : Kont} {l : L} {b : Base} {h : Heap}
@[simp] theorem csem_skip : cs P n ro .skip κ l b h = κ.nx l b h := _root_.id rfl
@[simp] theorem csem_label (t : Nat) : cs P n ro (.label t) κ l b h = κ.nx l b h := _root_.id rfl
@[simp] theorem csem_seq (x y : Code) : cs P n ro (.seq x y) κ l b h = cs P n ro x { κ with nx := fun l b h => cs P n ro y κ l b h } l b h := _root_.id rfl
@[simp] theorem csem_cond (c : Operand) (x y : Code) : cs P n ro (.cond c x y) κ l b h = cnd (ev l b c) (cs P n ro x κ l b h) (cs P n ro y κ l b h) := _root_.id rfl
@[simp] theorem csem_block (id : Nat) (c : Code) : cs P n ro (.block id c) κ l b h =
    cs P n ro c { κ with ex := fun j l b h => if j = id then κ.nx l b h else κ.ex j l b h } l b h := _root_.id rfl
@[simp] theorem csem_region (id : Nat) (ops : Array Oper) : cs P n ro (.region id ops false) κ l b h = rs P ops ops.toList κ.nx l b h := _root_.id rfl
@[simp] theorem csem_drawn (id : Nat) (ops : Array Oper) : cs P n ro (.region id ops true) κ l b h = gs P n ro (.region id ops true) κ l b h := _root_.id rfl
@[simp] theorem csem_ret : cs P n ro .ret κ l b h = κ.rt l b h := _root_.id rfl
@[simp] theorem csem_exit (id : Nat) : cs P n ro (.exit id) κ l b h = κ.ex id l b h := _root_.id rfl
@[simp] theorem csem_goto (t : Nat) : cs P n ro (.goto t) κ l b h = κ.gt t l b h := _root_.id rfl
@[simp] theorem csem_loop (c : Code) : cs P n ro (.loop c) κ l b h = gs P n ro (.loop c) κ l b h := _root_.id rfl
@[simp] theorem csem_scope (c : Code) : cs P n ro (.scope c) κ l b h = gs P n ro (.scope c) κ l b h := _root_.id rfl
@[simp] theorem csem_rangeFunc (f : Operand) (ps : Array Tmp) (x y : Code) : cs P n ro (.rangeFunc f ps x y) κ l b h = gs P n ro (.rangeFunc f ps x y) κ l b h := _root_.id rfl

@[simp] theorem rsem_ops (ops : Array Oper) (lo : List Oper) (K : L → Base → Heap → Prop) : rs P ops lo.toArray.toList K l b h = rs P ops lo K l b h := _root_.id rfl
@[simp] theorem rsem_nil (ops : Array Oper) (K : L → Base → Heap → Prop) : rs P ops [] K l b h = K l b h := _root_.id rfl
@[simp] theorem rsem_plain (ops : Array Oper) (dst : Option Tmp) (op : Op) (ty : TypeId) (pos : String) (aft : Array Edge) (lo : List Oper) (K : L → Base → Heap → Prop) :
    rs P ops (⟨dst, op, ty, pos, aft, none⟩ :: lo) K l b h = os P ⟨dst, op, ty, pos, aft, none⟩ l b h (fun v h' => rs P ops lo K (putl dst v l) b h') := by
  simp only [rs, os, rsem, guardB, if_true]
/-- A guarded operation. -/
def guardS (g : Option Bool) (want : Bool) (A B : Prop) (_a : Tag A := ⟨⟩) (_b : Tag B := ⟨⟩) : Prop := if (g == some want) = true then A else B
@[congr] theorem guardS_congr {g g' : Option Bool} {want : Bool} {A B : Prop} (h : g = g') : guardS g want A B = guardS g' want A B := by rw [h]
@[simp] theorem guardS_some (t want : Bool) (A B : Prop) : guardS (some t) want A B = iteB (t == want) A B := by
  simp only [guardS, iteB]; rfl
@[simp] theorem guardS_none (want : Bool) (A B : Prop) : guardS none want A B = B := by simp [guardS]
@[simp] theorem rsem_guard (ops : Array Oper) (dst : Option Tmp) (op : Op) (ty : TypeId) (pos : String) (aft : Array Edge) (j : Nat) (want : Bool) (lo : List Oper) (K : L → Base → Heap → Prop) :
    rs P ops (⟨dst, op, ty, pos, aft, some (j, want)⟩ :: lo) K l b h =
      guardS (gval ops l b j) want (os P ⟨dst, op, ty, pos, aft, some (j, want)⟩ l b h (fun v h' => rs P ops lo K (putl dst v l) b h')) (rs P ops lo K (putl dst undef l) b h) := by
  simp only [rs, os, rsem, guardB, guardS]; rfl
def boolOf : Value → Option Bool
  | .bool t => some t
  | _ => none
@[simp] theorem boolOf_bool (t : Bool) : boolOf (.bool t) = some t := _root_.id rfl
@[simp] theorem boolOf_undef : boolOf undef = none := _root_.id rfl
theorem gval_def (ops : Array Oper) (j : Nat) : gval ops l b j = ((ops[j]?).bind (·.dst)).bind (fun d => boolOf (look l b d)) := by
  unfold gval
  cases (ops[j]?).bind (·.dst) with
  | none => rfl
  | some d => simp only [Option.bind_some]; cases look l b d <;> rfl
end

/-! ### Operations -/
section
variable {P : Program} {l : L} {b : Base} {h : Heap} {K : Value → Heap → Prop} {dst : Option Tmp} {ty : TypeId} {pos : String} {aft : Array Edge} {g : Option (Nat × Bool)}

@[simp] theorem osem_move (x : Operand) : os P ⟨dst, .move x, ty, pos, aft, g⟩ l b h K = forceV (ev l b x) (K · h) := _root_.id rfl
@[simp] theorem osem_assign (x : Operand) : os P ⟨dst, .assign x, ty, pos, aft, g⟩ l b h K = forceV (ev l b x) (K · h) := _root_.id rfl

def pickS (c a b : Value) (K : Value → Prop) (_t : Tag K := ⟨⟩) : Prop := match c with | .bool t => iteB t (K a) (K b) | _ => False
@[congr] theorem pickS_congr {c c' a a' b b' : Value} {K : Value → Prop} (hc : c = c') (ha : a = a') (hb : b = b') : pickS c a b K = pickS c' a' b' K := by rw [hc, ha, hb]
@[simp] theorem pickS_bool (t : Bool) (a b : Value) (K : Value → Prop) : pickS (.bool t) a b K = iteB t (K a) (K b) := _root_.id rfl
@[simp] theorem osem_pick (c x y : Operand) : os P ⟨dst, .pick c x y, ty, pos, aft, g⟩ l b h K = pickS (ev l b c) (ev l b x) (ev l b y) (K · h) := by
  unfold os osem execOp pickS
  simp only [hp_bind]
  cases ev l b c <;> simp [asBool, nextK, iteB]
  split <;> rfl

def allocS (P : Program) (T : TypeId) (h : Heap) (K : Value → Heap → Prop) (_t : Tag K := ⟨⟩) : Prop := hp P (Instr.alloc T true (.tuple #[])) K h
@[simp] theorem osem_alloc (T : TypeId) : os P ⟨dst, .alloc T, ty, pos, aft, g⟩ l b h K = allocS P T h K := by
  unfold os osem execOp allocS; simp only [hp_bind, hp_pure]; rfl
@[simp] theorem allocS_eq (T : TypeId) : allocS P T h K = optS (zS P T) (fun z => K (.pointer (some ⟨h.size, 0, none⟩)) (h.push (.cells z.cells T))) := by
  unfold allocS Instr.alloc
  simp only [hp_bind, hp_zeroValue, optS]
  cases zS P T <;> simp [newVar, newRow]

def boxS (P : Program) (T : TypeId) (v : Value) (h : Heap) (K : Value → Heap → Prop) (_t : Tag K := ⟨⟩) : Prop := hp P (Instr.box T v) K h
@[congr] theorem boxS_congr {T : TypeId} {v v' : Value} {h : Heap} {K : Value → Heap → Prop} (hv : v = v') : boxS P T v h K = boxS P T v' h K := by rw [hv]
@[simp] theorem osem_box (T : TypeId) (x : Operand) : os P ⟨dst, .box T x, ty, pos, aft, g⟩ l b h K = boxS P T (ev l b x) h K := by
  unfold os osem execOp boxS; simp only [hp_bind, hp_pure]; rfl
theorem boxS_eq (T : TypeId) (v : Value) : boxS P T v h K = K (.pointer (some ⟨h.size, 0, none⟩)) (h.push (.cells v.cells T)) := by
  unfold boxS Instr.box; simp [newVar, newRow]

def nilS (v : Value) (K : Value → Prop) (_t : Tag K := ⟨⟩) : Prop :=
  match v with
  | .pointer (some a) => K (.pointer (some a))
  | .func (.func f) x y => K (.func (.func f) x y)
  | .func (.yield f) x y => K (.func (.yield f) x y)
  | _ => False
@[congr] theorem nilS_congr {v v' : Value} {K : Value → Prop} (hv : v = v') : nilS v K = nilS v' K := by rw [hv]
@[simp] theorem nilS_ptr (a : Addr) (K : Value → Prop) : nilS (.pointer (some a)) K = K (.pointer (some a)) := _root_.id rfl
@[simp] theorem nilS_func (f : Nat) (x y : Array Value) (K : Value → Prop) : nilS (.func (.func f) x y) K = K (.func (.func f) x y) := _root_.id rfl
@[simp] theorem nilS_yield (f : Nat) (x y : Array Value) (K : Value → Prop) : nilS (.func (.yield f) x y) K = K (.func (.yield f) x y) := _root_.id rfl

def binS (P : Program) (op : BinOp) (T : TypeId) (x y : Operand) (v u : Value) (h : Heap) (K : Value → Heap → Prop) (_t : Tag K := ⟨⟩) : Prop := hp P (do eqGuard op T x y v u; binOp op T v u) K h
@[congr] theorem binS_congr {op : BinOp} {T : TypeId} {x y : Operand} {v v' u u' : Value} {h : Heap} {K : Value → Heap → Prop} (hv : v = v') (hu : u = u') : binS P op T x y v u h K = binS P op T x y v' u' h K := by rw [hv, hu]
@[simp] theorem osem_bin (op : BinOp) (T T2 : TypeId) (x y : Operand) : os P ⟨dst, .binOp op T x y T2, ty, pos, aft, g⟩ l b h K = binS P op T x y (ev l b x) (ev l b y) h K := by
  unfold os osem execOp binS; simp only [hp_bind, hp_pure]; rfl
def intRes (op : BinOp) (k : IntKind) (x y : Int) : Option Value :=
  match op with
  | .add => some (.int k (k.wrap (x + y)))
  | .sub => some (.int k (k.wrap (x - y)))
  | .mul => some (.int k (k.wrap (x * y)))
  | .eql => some (.bool (x == y))
  | .neq => some (.bool (x != y))
  | .lss => some (.bool (x < y))
  | .leq => some (.bool (x ≤ y))
  | .gtr => some (.bool (x > y))
  | .geq => some (.bool (x ≥ y))
  | .quo => if y = 0 then none else some (.int k (k.wrap (x.tdiv y)))
  | .rem => if y = 0 then none else some (.int k (x.tmod y))
  | .and => some (.int k (k.wrap ((BitVec.ofInt k.bits x &&& BitVec.ofInt k.bits y).toNat)))
  | .or => some (.int k (k.wrap ((BitVec.ofInt k.bits x ||| BitVec.ofInt k.bits y).toNat)))
  | .xor => some (.int k (k.wrap ((BitVec.ofInt k.bits x ^^^ BitVec.ofInt k.bits y).toNat)))
  | .andNot => some (.int k (k.wrap ((BitVec.ofInt k.bits x &&& ~~~ BitVec.ofInt k.bits y).toNat)))
  | .shl => if y < 0 then none else some (.int k (k.wrap (x * 2 ^ (min y.toNat k.bits))))
  | .shr => if y < 0 then none else some (.int k (x.fdiv (2 ^ (min y.toNat k.bits))))
def isShift : BinOp → Bool
  | .shl | .shr => true
  | _ => false
theorem binS_int {op : BinOp} {T : TypeId} {x y : Operand} {k k' : IntKind} {m n : Int} (hk : isShift op = true ∨ k' = k) :
    binS P op T x y (.int k m) (.int k' n) h K = optS (intRes op k m n) (K · h) := by
  unfold binS
  have hg : ∀ K', hp P (eqGuard op T x y (.int k m) (.int k' n)) K' h = K' () h := by intro K'; unfold eqGuard; cases op <;> rfl
  simp only [hp_bind, hg]
  cases op <;> simp [isShift] at hk <;> (try subst hk) <;>
    simp only [binOp, Op.intArith, Op.intCmp, Op.intDiv, Op.intBits, Op.shift, intRes, optS, runtimePanic, ne_eq, not_true_eq_false, if_false, hp_pure] <;>
    (split <;> simp_all)
end
end Go.HC
