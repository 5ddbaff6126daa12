/-
  HC, part 1: what an operation does, said of the heap alone, for every tape (demonic): 'hp'.
-/
import Derived.AtR
import Derived.RangeFuncIn
import Derived.Orders
import Derived.KernelRfl
import Derived.Laws.Strings
import Derived.Laws.Append

namespace Go.HC

abbrev Heap := Array Obj

def cellH (h : Heap) (a : Addr) : Option Value :=
  match h[a.block]? with
  | some (.cells c _ _) => if a.spot.isSome then none else c[a.off]?
  | _ => none
def frozenH (h : Heap) (a : Addr) : Bool :=
  match h[a.block]? with
  | some (.cells _ _ (lo, hi)) => lo ≤ a.off && a.off < hi
  | _ => false
def shapeH (h : Heap) (r : Nat) : Option (TypeId × Nat) :=
  match h[r]? with
  | some (.cells c e _) => some (e, c.size)
  | _ => none
def freezeH (h : Heap) (a : Addr) (n : Nat) : Heap :=
  if n = 0 then h else
  h.modify a.block fun
      | .cells c elem (lo, hi) => .cells c elem (if lo == hi then (a.off, a.off + n) else (min lo a.off, max hi (a.off + n)))
      | o => o
def setCellH (h : Heap) (a : Addr) (v : Value) : Heap :=
  h.modify a.block fun
      | .cells c elem frozen => .cells (if a.spot.isSome then c else c.setIfInBounds a.off v) elem frozen
      | o => o

theorem cellH_eq (w : World) (a : Addr) : w.cell? a = cellH w.heap a := rfl
theorem frozenH_eq (w : World) (a : Addr) : w.frozen? a = frozenH w.heap a := rfl
theorem freezeH_eq (w : World) (a : Addr) (n : Nat) : (w.freeze a n).heap = freezeH w.heap a n := by
  unfold World.freeze freezeH; split <;> rfl
theorem setCellH_eq (w : World) (a : Addr) (v : Value) : (w.setCell a v).heap = setCellH w.heap a v := rfl

/-- What the outside sees is as it was; the tape is the same tape. -/
structure Same (w w' : World) : Prop where
  os : w'.os = w.os
  tape : w'.tape = w.tape
  output : w'.output = w.output
  drawn : w.drawn ≤ w'.drawn
theorem Same.refl (w : World) : Same w w := ⟨rfl, rfl, rfl, Nat.le_refl _⟩
theorem Same.trans {w w' w'' : World} (h : Same w w') (h' : Same w' w'') : Same w w'' :=
  ⟨h'.os.trans h.os, h'.tape.trans h.tape, h'.output.trans h.output, Nat.le_trans h.drawn h'.drawn⟩

def isCells : Obj → Bool
  | .cells .. => true
  | _ => false

/-- Whatever the tape says, the program of operations ends, well, and K holds of what it ends with. -/
def hp (P : Program) {α : Type} : Sem α → (α → Heap → Prop) → Heap → Prop
  | .pure a, K, h => K a h
  | .load _ a k, K, h =>
    match cellH h a with
    | some v => hp P (k v) K h
    | none => False
  | .store _ a v k, K, h =>
    v.oneCell' = true ∧ (cellH h a).isSome = true ∧ frozenH h a = false ∧ hp P k K (setCellH h a v)
  | .new o k, K, h => hp P (k h.size) K (h.push o)
  | .shape r k, K, h => hp P (k (shapeH h r)) K h
  | .freeze a n k, K, h => hp P k K (freezeH h a n)
  | .frozen a k, K, h => hp P (k (frozenH h a)) K h
  | .getObj r k, K, h =>
    match h[r]? with
    | some o => isCells o = false ∧ hp P (k o) K h
    | none => False
  | .setObj r o k, K, h =>
    match h[r]? with
    | some o' => isCells o' = false ∧ hp P k K (h.setIfInBounds r o)
    | none => False
  | .choose q k, K, h => if q.forced then hp P (k 0) K h else ∀ t : Nat, hp P (k (q.cut t)) K h
  | .sys _ _, _, _ => False
  | .program k, K, h => hp P (k P) K h
  | .mark _ k, K, h => hp P k K h
  | .halt _, _, _ => False

theorem hp_sound (P : Program) {α : Type} (s : Sem α) : ∀ (K : α → Heap → Prop) (w : World), hp P s K w.heap →
    ∃ a w', s.run P w = .ok a w' ∧ Same w w' ∧ K a w'.heap := by
  induction s with
  | pure a => exact fun K w h => ⟨a, w, rfl, .refl w, h⟩
  | load m a k ih =>
    intro K w h
    simp only [hp] at h
    simp only [Sem.run, cellH_eq]
    cases hc : cellH w.heap a with
    | none => simp [hc] at h
    | some v => simp only [hc] at h; exact ih v K w h
  | store m a v k ih =>
    intro K w h
    simp only [hp] at h
    obtain ⟨h1, h2, h3, h4⟩ := h
    obtain ⟨u, hu⟩ := Option.isSome_iff_exists.1 h2
    rw [← setCellH_eq] at h4
    obtain ⟨x, w', hr, hs, hk⟩ := ih K _ h4
    refine ⟨x, w', ?_, ⟨hs.os, hs.tape, hs.output, (by first | exact hs.drawn | exact Nat.le_trans (Nat.le_succ _) hs.drawn)⟩, hk⟩
    cases v <;> simp [Value.oneCell'] at h1 <;> simp only [Sem.run, cellH_eq, hu, frozenH_eq, h3] <;> simpa using hr
  | new o k ih =>
    intro K w h
    obtain ⟨x, w', hx, hs, hk⟩ := ih _ K { w with heap := w.heap.push o } h
    exact ⟨x, w', hx, ⟨hs.os, hs.tape, hs.output, (by first | exact hs.drawn | exact Nat.le_trans (Nat.le_succ _) hs.drawn)⟩, hk⟩
  | shape r k ih => exact fun K w h => ih _ K w h
  | freeze a n k ih =>
    intro K w h
    simp only [hp] at h
    rw [← freezeH_eq] at h
    obtain ⟨x, w', hr, hs, hk⟩ := ih K _ h
    refine ⟨x, w', hr, ?_, hk⟩
    have : Same w (w.freeze a n) := by unfold World.freeze; split <;> exact ⟨rfl, rfl, rfl, Nat.le_refl _⟩
    exact this.trans hs
  | frozen a k ih => exact fun K w h => ih _ K w h
  | getObj r k ih =>
    intro K w h
    simp only [hp] at h
    simp only [Sem.run]
    cases hr : w.heap[r]? with
    | none => simp [hr] at h
    | some o =>
      simp only [hr] at h
      cases o <;> simp [isCells] at h <;> exact ih _ K w h
  | setObj r o k ih =>
    intro K w h
    simp only [hp] at h
    simp only [Sem.run]
    cases hr : w.heap[r]? with
    | none => simp [hr] at h
    | some o' =>
      simp only [hr] at h
      obtain ⟨x, w', hx, hs, hk⟩ := ih K { w with heap := w.heap.setIfInBounds r o } h.2
      refine ⟨x, w', ?_, ⟨hs.os, hs.tape, hs.output, (by first | exact hs.drawn | exact Nat.le_trans (Nat.le_succ _) hs.drawn)⟩, hk⟩
      cases o' <;> simp [isCells] at h <;> exact hx
  | choose q k ih =>
    intro K w h
    simp only [hp] at h
    simp only [Sem.run]
    split
    · rename_i hf; simp only [hf, if_true] at h; exact ih _ K w h
    · rename_i hf
      simp only [hf] at h
      obtain ⟨x, w', hx, hs, hk⟩ := ih _ K { w with drawn := w.drawn + 1 } (h (w.tape w.drawn q))
      exact ⟨x, w', hx, ⟨hs.os, hs.tape, hs.output, (by first | exact hs.drawn | exact Nat.le_trans (Nat.le_succ _) hs.drawn)⟩, hk⟩
  | sys c k ih => exact fun K w h => h.elim
  | program k ih => exact fun K w h => ih _ K w h
  | mark m k ih => exact fun K w h => ih K w h
  | halt x => exact fun K w h => h.elim

theorem hp_mono {P : Program} {α : Type} (s : Sem α) : ∀ {K K' : α → Heap → Prop} {h : Heap}, hp P s K h → (∀ a h, K a h → K' a h) → hp P s K' h := by
  induction s with
  | pure a => exact fun h hk => hk _ _ h
  | load m a k ih =>
    intro K K' h hh hk
    simp only [hp] at hh ⊢
    cases hc : cellH h a with
    | none => simp [hc] at hh
    | some v => simp only [hc] at hh ⊢; exact ih v hh hk
  | store m a v k ih => exact fun h hk => ⟨h.1, h.2.1, h.2.2.1, ih h.2.2.2 hk⟩
  | new o k ih => exact fun h hk => ih _ h hk
  | shape r k ih => exact fun h hk => ih _ h hk
  | freeze a n k ih => exact fun h hk => ih h hk
  | frozen a k ih => exact fun h hk => ih _ h hk
  | getObj r k ih =>
    intro K K' h hh hk
    simp only [hp] at hh ⊢
    cases hr : h[r]? with
    | none => simp [hr] at hh
    | some o => simp only [hr] at hh ⊢; exact ⟨hh.1, ih _ hh.2 hk⟩
  | setObj r o k ih =>
    intro K K' h hh hk
    simp only [hp] at hh ⊢
    cases hr : h[r]? with
    | none => simp [hr] at hh
    | some o' => simp only [hr] at hh ⊢; exact ⟨hh.1, ih hh.2 hk⟩
  | choose q k ih =>
    intro K K' h hh hk
    simp only [hp] at hh ⊢
    split
    · rename_i hf; simp only [hf, if_true] at hh; exact ih _ hh hk
    · rename_i hf; simp only [hf] at hh; exact fun t => ih _ (hh t) hk
  | sys c k ih => exact fun h _ => h.elim
  | program k ih => exact fun h hk => ih _ h hk
  | mark m k ih => exact fun h hk => ih h hk
  | halt x => exact fun h _ => h.elim

theorem hp_bind' (P : Program) {α β : Type} (x : Sem α) (f : α → Sem β) : ∀ (K : β → Heap → Prop) (h : Heap),
    hp P (x.bind f) K h = hp P x (fun a h => hp P (f a) K h) h := by
  induction x with
  | pure a => intro K h; rfl
  | load m a k ih => intro K h; simp only [Sem.bind, hp]; split <;> simp [ih]
  | store m a v k ih => intro K h; simp only [Sem.bind, hp, ih]
  | new o k ih => intro K h; simp only [Sem.bind, hp, ih]
  | shape r k ih => intro K h; simp only [Sem.bind, hp, ih]
  | freeze a n k ih => intro K h; simp only [Sem.bind, hp, ih]
  | frozen a k ih => intro K h; simp only [Sem.bind, hp, ih]
  | getObj r k ih => intro K h; simp only [Sem.bind, hp]; split <;> simp [ih]
  | setObj r o k ih => intro K h; simp only [Sem.bind, hp]; split <;> simp [ih]
  | choose q k ih => intro K h; simp only [Sem.bind, hp]; split <;> simp [ih]
  | sys c k ih => intro K h; rfl
  | program k ih => intro K h; simp only [Sem.bind, hp, ih]
  | mark m k ih => intro K h; simp only [Sem.bind, hp, ih]
  | halt x => intro K h; rfl

section
variable (P : Program) {α β : Type} (h : Heap)
@[simp] theorem hp_bind (x : Sem α) (f : α → Sem β) (K : β → Heap → Prop) : hp P (x >>= f) K h = hp P x (fun a h => hp P (f a) K h) h := hp_bind' P x f K h
@[simp] theorem hp_map (x : Sem α) (f : α → β) (K : β → Heap → Prop) : hp P (f <$> x) K h = hp P x (fun a h => K (f a) h) h := hp_bind' P x _ K h
@[simp] theorem hp_pure (a : α) (K : α → Heap → Prop) : hp P (Pure.pure a : Sem α) K h = K a h := rfl
@[simp] theorem hp_pure' (a : α) (K : α → Heap → Prop) : hp P (Sem.pure a : Sem α) K h = K a h := rfl
@[simp] theorem hp_halt (x : Halt) (K : α → Heap → Prop) : hp P (Sem.halt x : Sem α) K h = False := rfl
@[simp] theorem hp_ite (c : Prop) [Decidable c] (x y : Sem α) (K : α → Heap → Prop) : hp P (if c then x else y) K h = if c then hp P x K h else hp P y K h := by split <;> rfl
@[simp] theorem hp_load (a : Addr) (m : Mode) (K : Value → Heap → Prop) : hp P (load a m) K h = (match cellH h a with | some v => K v h | none => False) := by
  unfold load; simp only [hp]
@[simp] theorem hp_store (a : Addr) (v : Value) (m : Mode) (K : Unit → Heap → Prop) : hp P (store a v m) K h =
    (v.oneCell' = true ∧ (cellH h a).isSome = true ∧ frozenH h a = false ∧ K () (setCellH h a v)) := rfl
@[simp] theorem hp_newObj (o : Obj) (K : Nat → Heap → Prop) : hp P (newObj o) K h = K h.size (h.push o) := rfl
@[simp] theorem hp_shape (r : Nat) (K : Option (TypeId × Nat) → Heap → Prop) : hp P (shape r) K h = K (shapeH h r) h := rfl
@[simp] theorem hp_freeze (a : Addr) (n : Nat) (K : Unit → Heap → Prop) : hp P (freeze a n) K h = K () (freezeH h a n) := rfl
@[simp] theorem hp_frozen (a : Addr) (K : Bool → Heap → Prop) : hp P (frozen a) K h = K (frozenH h a) h := rfl
@[simp] theorem hp_getObj (r : Nat) (K : Obj → Heap → Prop) : hp P (getObj r) K h = (match h[r]? with | some o => isCells o = false ∧ K o h | none => False) := by
  unfold getObj; simp only [hp]
@[simp] theorem hp_setObj (r : Nat) (o : Obj) (K : Unit → Heap → Prop) : hp P (setObj r o) K h = (match h[r]? with | some o' => isCells o' = false ∧ K () (h.setIfInBounds r o) | none => False) := rfl
@[simp] theorem hp_program (K : Program → Heap → Prop) : hp P program K h = K P h := rfl
@[simp] theorem hp_mark (m : Mark) (K : Unit → Heap → Prop) : hp P (mark m) K h = K () h := rfl
@[simp] theorem hp_askRoom (n : Nat) (K : Unit → Heap → Prop) : hp P (askRoom n) K h = K () h := by unfold askRoom; split <;> rfl
@[simp] theorem hp_stuck (s : String) (K : α → Heap → Prop) : hp P (stuck s : Sem α) K h = False := rfl
@[simp] theorem hp_unsupported (u : Unsupported) (K : α → Heap → Prop) : hp P (unsupported u : Sem α) K h = False := rfl
@[simp] theorem hp_goPanic (v : Value) (K : α → Heap → Prop) : hp P (goPanic v : Sem α) K h = False := rfl
@[simp] theorem hp_choose (q : Question) (K : Nat → Heap → Prop) : hp P (choose q) K h = if q.forced then K 0 h else ∀ t : Nat, K (q.cut t) h := rfl
@[simp] theorem hp_underlying (t : TypeId) (K : TypeDesc → Heap → Prop) : hp P (underlying t) K h = (match P.underlying t with | some d => K d h | none => False) := by
  unfold underlying; simp only [hp_bind, hp_program]; cases P.underlying t <;> rfl
@[simp] theorem hp_typeInfo (t : TypeId) (K : TypeInfo → Heap → Prop) : hp P (typeInfo t) K h = (match P.info? t with | some d => K d h | none => False) := by
  unfold typeInfo; simp only [hp_bind, hp_program]; cases P.info? t <;> rfl
end
end Go.HC

/-
  HC, part 2: frames as association lists; code as a predicate on frames and heaps ('csem'), sound for the machine.
-/
namespace Go.HC

abbrev L := List (Nat × Value)
/-- What a frame holds beside its list: the slots that are not listed, the blocks of its deferred-call marks. -/
structure Base where
  g : Nat → Value
  d : List Nat

def look : L → Base → Nat → Value
  | [], b, t => b.g t
  | (k, v) :: l, b, t => if k = t then v else look l b t

def ev (l : L) (b : Base) : Operand → Value
  | .tmp t => look l b t
  | .const v => v
  | .global k => .pointer (some ⟨k, 0, none⟩)
  | .func f => .func (.func f) #[] #[]

def markOf (r : Nat) : Deferred := { target := .collected r, args := #[] }

structure IsFr (n : Nat) (a : Act) (l : L) (b : Base) : Prop where
  size : a.tmps.size = n
  slot : ∀ t, a.tmps.getD t undef = look l b t
  defers : a.defers = b.d.map markOf

theorem IsFr.eval {n : Nat} {a : Act} {l : L} {b : Base} (h : IsFr n a l b) : a.eval = ev l b := by
  funext x
  cases x with
  | tmp t => exact h.slot t
  | const v => rfl
  | global k => rfl
  | func f => rfl

def putl (dst : Option Tmp) (v : Value) (l : L) : L :=
  match dst with
  | some d => (d, v) :: l
  | none => l

theorem IsFr.put {n : Nat} {a : Act} {l : L} {b : Base} (h : IsFr n a l b) {dst : Option Tmp} (hd : ∀ d, dst = some d → d < n) (v : Value) :
    IsFr n (a.put dst v) (putl dst v l) b := by
  cases dst with
  | none => exact h
  | some d =>
    have hlt := hd d rfl
    have hs := h.size
    refine ⟨by simp [Act.put, h.size], fun t => ?_, h.defers⟩
    simp only [Act.put, putl, look]
    by_cases e : d = t
    · subst e
      have : d < a.tmps.size := Nat.lt_of_lt_of_eq hlt hs.symm
      simp [this]
    · rw [if_neg e, ← h.slot t]
      simp [Array.getElem?_setIfInBounds_ne e]

def CallH (P : Program) (f : FuncId) (args : Array Value) (h : Heap) (K : Value → Heap → Prop) : Prop :=
  ∀ w : World, w.heap = h → Calls P f args w (fun e w' => ∃ v, e = .returned v ∧ Same w w' ∧ K v w'.heap)

theorem CallH.mono {P : Program} {f : FuncId} {args : Array Value} {h : Heap} {K K' : Value → Heap → Prop} (hc : CallH P f args h K) (hk : ∀ v h, K v h → K' v h) :
    CallH P f args h K' :=
  fun w hw => (hc w hw).mono fun _ _ ⟨v, e, s, k⟩ => ⟨v, e, s, hk _ _ k⟩

def RoundH (P : Program) (lp : Nat) (f : FuncId) (tmps : Array Value) (assign body : Code) (h : Heap) (K : Value → Heap → Prop) : Prop :=
  ∀ w : World, w.heap = h → ∀ (c : Frame) (cs : List Frame), ∃ v w', Same w w' ∧ K v w'.heap ∧
    Steps P (lone (Frame.round lp f tmps assign body .normal) (c :: cs) w) (lone (c.finish v) cs w')

theorem RoundH.mono {P : Program} {lp : Nat} {f : FuncId} {tmps : Array Value} {assign body : Code} {h : Heap} {K K' : Value → Heap → Prop}
    (hc : RoundH P lp f tmps assign body h K) (hk : ∀ v h, K v h → K' v h) : RoundH P lp f tmps assign body h K' :=
  fun w hw c cs => let ⟨v, w', s, k, st⟩ := hc w hw c cs; ⟨v, w', s, hk _ _ k, st⟩

/-- What comes of an operation. -/
def nextK (P : Program) (K : Value → Heap → Prop) : Next → Heap → Prop
  | .value v, h => K v h
  | .skip, h => K undef h
  | .enter f args, h => CallH P f args h K
  | .round lp f tmps assign body, h => RoundH P lp f tmps assign body h K
  | _, _ => False

theorem nextK_mono {P : Program} {K K' : Value → Heap → Prop} (hk : ∀ v h, K v h → K' v h) : ∀ (x : Next) (h : Heap), nextK P K x h → nextK P K' x h := by
  intro x h hx
  cases x <;> first
    | exact hk _ _ hx
    | exact CallH.mono hx hk
    | exact RoundH.mono hx hk
    | exact hx

def osem (P : Program) (o : Oper) (l : L) (b : Base) (h : Heap) (K : Value → Heap → Prop) : Prop :=
  hp P (execOp (ev l b) o) (nextK P K) h

/-- Calling a function value. -/
def callV (P : Program) (f : Value) (args : Array Value) (h : Heap) (K : Value → Heap → Prop) : Prop :=
  hp P (do let d ← Deferred.ofValue f args; invoke d.target d.args) (nextK P K) h

def gval (ops : Array Oper) (l : L) (b : Base) (j : Nat) : Option Bool :=
  match (ops[j]?).bind (·.dst) with
  | some d => (match look l b d with | .bool t => some t | _ => none)
  | none => none

theorem gval_eq {n : Nat} {a : Act} {l : L} {b : Base} (h : IsFr n a l b) (ops : Array Oper) : yielded ops a.tmps = gval ops l b := by
  funext j
  unfold yielded gval
  cases (ops[j]?).bind (·.dst) with
  | none => rfl
  | some d =>
    simp only [Option.bind_some, ← h.slot d]
    cases hd : a.tmps[d]? with
    | none => simp [hd, undef]
    | some v => simp [hd]; cases v <;> rfl

def guardB (o : Oper) (ops : Array Oper) (l : L) (b : Base) : Bool :=
  match o.guard with
  | none => true
  | some (j, want) => gval ops l b j == some want

def rsem (P : Program) (ops : Array Oper) : List Oper → (L → Base → Heap → Prop) → L → Base → Heap → Prop
  | [], K, l, b, h => K l b h
  | o :: rest, K, l, b, h =>
    if guardB o ops l b = true then osem P o l b h (fun v h' => rsem P ops rest K (putl o.dst v l) b h')
    else rsem P ops rest K (putl o.dst undef l) b h

inductive Ex where
  | nx
  | rt
  | ex (id : Nat)
  | gt (t : Nat)

structure Kont where
  nx : L → Base → Heap → Prop
  rt : L → Base → Heap → Prop
  ex : Nat → L → Base → Heap → Prop
  gt : Nat → L → Base → Heap → Prop

def Kont.at (κ : Kont) : Ex → L → Base → Heap → Prop
  | .nx => κ.nx
  | .rt => κ.rt
  | .ex id => κ.ex id
  | .gt t => κ.gt t

def ArrR (P : Program) (m : Machine) (b : Frame) (k : List Item) (cs : List Frame) : Ex → Act → World → Prop
  | .nx, a, w => Steps P m (lone (b.atR a k) cs w)
  | .rt, a, w => ∃ todo, Steps P m (lone (b.atR a (.code .ret :: todo)) cs w)
  | .ex id, a, w => ∃ todo, exitTo id todo = exitTo id k ∧ Steps P m (lone (b.atR a (.code (.exit id) :: todo)) cs w)
  | .gt t, a, w => ∃ todo, gotoIn t todo = gotoIn t k ∧ Steps P m (lone (b.atR a (.code (.goto t) :: todo)) cs w)

theorem ArrR.of_steps {P : Program} {m m₁ : Machine} {b : Frame} {k : List Item} {cs : List Frame} {e : Ex} {a : Act} {w : World}
    (h : Steps P m m₁) (h' : ArrR P m₁ b k cs e a w) : ArrR P m b k cs e a w := by
  cases e with
  | nx => exact h.trans h'
  | rt => obtain ⟨t, s⟩ := h'; exact ⟨t, h.trans s⟩
  | ex id => obtain ⟨t, x, s⟩ := h'; exact ⟨t, x, h.trans s⟩
  | gt l => obtain ⟨t, x, s⟩ := h'; exact ⟨t, x, h.trans s⟩

def gsem (P : Program) (n : Nat) (ro : Option Nat) (c : Code) (κ : Kont) (l : L) (b : Base) (h : Heap) : Prop :=
  ∀ (a : Act) (w : World), w.heap = h → IsFr n a l b → ∀ (fr : Frame) (k : List Item) (cs : List Frame), fr.kind = .normal → fr.roundOf = ro →
    ∃ e a' w' l' b', Same w w' ∧ IsFr n a' l' b' ∧ κ.at e l' b' w'.heap ∧ ArrR P (lone (fr.atR a (.code c :: k)) cs w) fr k cs e a' w'

def condS (v : Value) (A B : Prop) : Prop :=
  match v with
  | .bool t => if t = true then A else B
  | _ => False

def csem (P : Program) (n : Nat) (ro : Option Nat) : Code → Kont → L → Base → Heap → Prop
  | .skip, κ, l, b, h => κ.nx l b h
  | .label _, κ, l, b, h => κ.nx l b h
  | .seq x y, κ, l, b, h => csem P n ro x { κ with nx := fun l b h => csem P n ro y κ l b h } l b h
  | .cond c x y, κ, l, b, h => condS (ev l b c) (csem P n ro x κ l b h) (csem P n ro y κ l b h)
  | .block id c, κ, l, b, h => csem P n ro c { κ with ex := fun j l b h => if j = id then κ.nx l b h else κ.ex j l b h } l b h
  | .region _ ops false, κ, l, b, h => rsem P ops ops.toList κ.nx l b h
  | .region id ops true, κ, l, b, h => gsem P n ro (.region id ops true) κ l b h
  | .ret, κ, l, b, h => κ.rt l b h
  | .exit id, κ, l, b, h => κ.ex id l b h
  | .goto t, κ, l, b, h => κ.gt t l b h
  | .loop c, κ, l, b, h => gsem P n ro (.loop c) κ l b h
  | .scope c, κ, l, b, h => gsem P n ro (.scope c) κ l b h
  | .rangeFunc f ps x y, κ, l, b, h => gsem P n ro (.rangeFunc f ps x y) κ l b h
  | .refuse _, _, _, _, _ => False

def opsOk (n : Nat) (ops : Array Oper) : Bool := ops.toList.all fun o => match o.dst with | some d => Nat.blt d n | none => true

def codeOk (n : Nat) : Code → Bool
  | .seq x y => codeOk n x && codeOk n y
  | .cond _ x y => codeOk n x && codeOk n y
  | .block _ c => codeOk n c
  | .loop c => codeOk n c
  | .scope c => codeOk n c
  | .rangeFunc _ _ x y => codeOk n x && codeOk n y
  | .region _ ops _ => opsOk n ops
  | _ => true

theorem opsOk_spec {n : Nat} {ops : Array Oper} (h : opsOk n ops = true) {i : Nat} {o : Oper} (ho : ops[i]? = some o) : ∀ d, o.dst = some d → d < n := by
  intro d hd
  have h1 := (List.all_eq_true.1 h) o (by simpa using Array.mem_of_getElem? ho)
  simpa [hd] using h1

section
variable {P : Program} {n : Nat} {ro : Option Nat} {a : Act} {l : L} {b : Base} {fr : Frame} {k : List Item} {cs : List Frame} {w : World} {ops : Array Oper}

theorem hp_false {P : Program} {α : Type} {s : Sem α} {w : World} (h : hp P s (fun _ _ => False) w.heap) : False := by
  obtain ⟨_, _, _, _, hf⟩ := hp_sound P s _ w h
  exact hf

/-- One operation, as the machine makes it. -/
theorem step_osem {i : Nat} {rest : List Nat} {o : Oper} {K : Value → Heap → Prop} (ho : ops[i]? = some o) (hfr : IsFr n a l b)
    (hg : guardB o ops l b = true) (h : osem P o l b w.heap K) :
    ∃ v w', Same w w' ∧ K v w'.heap ∧ Steps P (lone (fr.atR a (.inRegion ops (i :: rest) :: k)) cs w) (lone (fr.atR (a.put o.dst v) (.inRegion ops rest :: k)) cs w') := by
  have hw : Region.wanted o (yielded ops a.tmps) = true := by rw [gval_eq hfr]; exact hg
  have hnd : ∀ c, o.op ≠ .defer c := by
    intro c hc
    unfold osem execOp at h
    simp only [hc, hp_bind] at h
    exact hp_false (w := w) (hp_mono _ h fun d h' hh => by simp [nextK] at hh)
  have hstep := stepGR_op (P := P) (b := fr) (k := k) (cs := cs) (w := w) (rest := rest) ho hw
  rw [Oper.semAt_eq _ _ _ hnd, hfr.eval] at hstep
  have hfin : ∀ v, (fr.atR a (.inRegion ops (i :: rest) :: k)).finish v = fr.atR (a.put o.dst v) (.inRegion ops rest :: k) := by
    intro v; rw [Frame.finish_atR, ho]; rfl
  obtain ⟨x, w', hr, hs, hk⟩ := hp_sound P _ _ w h
  cases x with
  | value v =>
    refine ⟨v, w', hs, hk, .one (step_lone_go ?_)⟩
    rw [hstep, ← hfin]; simp [stepG.apply, hr]
  | skip =>
    refine ⟨undef, w', hs, hk, .one (step_lone_go ?_)⟩
    rw [hstep, ← hfin]; simp [stepG.apply, hr]
  | enter f args =>
    obtain ⟨e, w'', fr', ⟨v, he, hs', hk'⟩, hcomes, _, hleave⟩ := hk w' rfl (fr.atR a (.inRegion ops (i :: rest) :: k) :: cs)
    subst he
    refine ⟨v, w'', hs.trans hs', hk', .head (m₁ := lone (Frame.enter P f args .normal) (fr.atR a (.inRegion ops (i :: rest) :: k) :: cs) w') (step_lone_go ?_) (Steps.trans hcomes (.one ?_))⟩
    · rw [hstep]; simp [stepG.apply, hr, Frame.atR]
    · rw [← hfin]; exact step_leave_returned hleave
  | round lp f tmps assign body =>
    obtain ⟨v, w'', hs', hk', hsteps⟩ := hk w' rfl (fr.atR a (.inRegion ops (i :: rest) :: k)) cs
    refine ⟨v, w'', hs.trans hs', hk', .head (m₁ := lone (Frame.round lp f tmps assign body .normal) (fr.atR a (.inRegion ops (i :: rest) :: k) :: cs) w') (step_lone_go ?_) ?_⟩
    · rw [hstep]; simp [stepG.apply, hr, Frame.atR]
    · rw [← hfin]; exact hsteps
  | _ => exact hk.elim

theorem step_skipped {i : Nat} {rest : List Nat} {o : Oper} (ho : ops[i]? = some o) (hfr : IsFr n a l b) (hg : guardB o ops l b ≠ true) :
    Steps P (lone (fr.atR a (.inRegion ops (i :: rest) :: k)) cs w) (lone (fr.atR (a.put o.dst undef) (.inRegion ops rest :: k)) cs w) := by
  have hw : Region.wanted o (yielded ops a.tmps) = false := by
    have : Region.wanted o (yielded ops a.tmps) = guardB o ops l b := by rw [gval_eq hfr]; rfl
    rw [this]; simpa using hg
  have hs := stepR_op_skip (P := P) (b := fr) (a := a) (k := k) (cs := cs) (w := w) (ops := ops) (i := i) (rest := rest) (by simp [ho, hw])
  simp only [ho, Option.bind_some] at hs
  exact .one hs

/-- A run of operations in their order. -/
theorem steps_rsem (hok : opsOk n ops = true) : ∀ (lo : List Oper) (li : List Nat), (lo.map some = li.map (ops[·]?)) → ∀ {K : L → Base → Heap → Prop} {a : Act} {l : L} {w : World}, IsFr n a l b →
    rsem P ops lo K l b w.heap → ∃ a' w' l', Same w w' ∧ IsFr n a' l' b ∧ K l' b w'.heap ∧
      Steps P (lone (fr.atR a (.inRegion ops li :: k)) cs w) (lone (fr.atR a' k) cs w') := by
  intro lo
  induction lo with
  | nil =>
    intro li hl K a l w hfr h
    cases li with
    | nil => exact ⟨a, w, l, .refl w, hfr, h, .one stepR_region_end⟩
    | cons i li => simp at hl
  | cons o lo ih =>
    intro li hl K a l w hfr h
    cases li with
    | nil => simp at hl
    | cons i li =>
      simp only [List.map_cons, List.cons.injEq] at hl
      have ho : ops[i]? = some o := hl.1.symm
      simp only [rsem] at h
      by_cases hg : guardB o ops l b = true
      · rw [if_pos hg] at h
        obtain ⟨v, w', hs, hk, hst⟩ := step_osem (fr := fr) (k := k) (cs := cs) (rest := li) ho hfr hg h
        obtain ⟨a', w'', l', hs', hfr', hk', hst'⟩ := ih li hl.2 (hfr.put (opsOk_spec hok ho) v) hk
        exact ⟨a', w'', l', hs.trans hs', hfr', hk', hst.trans hst'⟩
      · rw [if_neg hg] at h
        obtain ⟨a', w'', l', hs', hfr', hk', hst'⟩ := ih li hl.2 (hfr.put (opsOk_spec hok ho) undef) h
        exact ⟨a', w'', l', hs', hfr', hk', (step_skipped ho hfr hg).trans hst'⟩

theorem range_ops (ops : Array Oper) : ops.toList.map some = (List.range ops.size).map (ops[·]?) := by
  apply List.ext_getElem?
  intro i
  simp only [List.getElem?_map, Array.getElem?_toList]
  by_cases hi : i < ops.size
  · simp [hi]
  · simp [hi]

theorem csem_sound (P : Program) (n : Nat) (ro : Option Nat) (c : Code) : ∀ (κ : Kont) (l : L) (b : Base) (h : Heap), codeOk n c = true → csem P n ro c κ l b h → gsem P n ro c κ l b h := by
  induction c with
  | skip => exact fun κ l b h _ hc a w hw hfr fr k cs _ _ => ⟨.nx, a, w, l, b, .refl w, hfr, hw ▸ hc, .one stepR_skip⟩
  | label t => exact fun κ l b h _ hc a w hw hfr fr k cs _ _ => ⟨.nx, a, w, l, b, .refl w, hfr, hw ▸ hc, .one stepR_label⟩
  | ret => exact fun κ l b h _ hc a w hw hfr fr k cs _ _ => ⟨.rt, a, w, l, b, .refl w, hfr, hw ▸ hc, k, .refl _ _⟩
  | exit id => exact fun κ l b h _ hc a w hw hfr fr k cs _ _ => ⟨.ex id, a, w, l, b, .refl w, hfr, hw ▸ hc, k, rfl, .refl _ _⟩
  | goto t => exact fun κ l b h _ hc a w hw hfr fr k cs _ _ => ⟨.gt t, a, w, l, b, .refl w, hfr, hw ▸ hc, k, rfl, .refl _ _⟩
  | loop c ih => exact fun κ l b h _ hc => hc
  | scope c ih => exact fun κ l b h _ hc => hc
  | rangeFunc f ps x y ih1 ih2 => exact fun κ l b h _ hc => hc
  | refuse s => exact fun κ l b h _ hc => hc.elim
  | region id ops draw =>
    intro κ l b h hok hc
    cases draw with
    | true => exact hc
    | false =>
      intro a w hw hfr fr k cs _ _
      subst hw
      obtain ⟨a', w', l', hs, hfr', hk, hst⟩ := steps_rsem (P := P) (fr := fr) (k := k) (cs := cs) hok ops.toList (List.range ops.size) (range_ops ops) hfr hc
      exact ⟨.nx, a', w', l', b, hs, hfr', hk, .head stepR_region hst⟩
  | seq x y ihx ihy =>
    intro κ l b h hok hc a w hw hfr fr k cs hkd hro
    simp only [codeOk, Bool.and_eq_true] at hok
    obtain ⟨e, a', w', l', b', hs, hfr', hk, harr⟩ := ihx _ l b h hok.1 hc a w hw hfr fr (.code y :: k) cs hkd hro
    have h1 : Steps P (lone (fr.atR a (.code (.seq x y) :: k)) cs w) (lone (fr.atR a (.code x :: .code y :: k)) cs w) := .one stepR_seq
    cases e with
    | nx =>
      obtain ⟨e, a'', w'', l'', b'', hs', hfr'', hk', harr'⟩ := ihy κ l' b' w'.heap hok.2 hk a' w' rfl hfr' fr k cs hkd hro
      exact ⟨e, a'', w'', l'', b'', hs.trans hs', hfr'', hk', .of_steps (h1.trans harr) harr'⟩
    | rt => obtain ⟨t, st⟩ := harr; exact ⟨.rt, a', w', l', b', hs, hfr', hk, t, h1.trans st⟩
    | ex id => obtain ⟨t, x, st⟩ := harr; exact ⟨.ex id, a', w', l', b', hs, hfr', hk, t, by simpa [exitTo] using x, h1.trans st⟩
    | gt tt => obtain ⟨t, x, st⟩ := harr; exact ⟨.gt tt, a', w', l', b', hs, hfr', hk, t, by simpa [gotoIn] using x, h1.trans st⟩
  | cond c x y ihx ihy =>
    intro κ l b h hok hc a w hw hfr fr k cs hkd hro
    simp only [codeOk, Bool.and_eq_true] at hok
    simp only [csem, condS] at hc
    have hev := congrFun hfr.eval c
    cases hv : ev l b c with
    | bool t =>
      simp only [hv] at hc
      rw [hv] at hev
      cases t with
      | true =>
        rw [if_pos rfl] at hc
        obtain ⟨e, a', w', l', b', hs, hfr', hk, harr⟩ := ihx κ l b h hok.1 hc a w hw hfr fr k cs hkd hro
        exact ⟨e, a', w', l', b', hs, hfr', hk, .of_steps (.one (stepR_cond hev)) harr⟩
      | false =>
        rw [if_neg (by simp)] at hc
        obtain ⟨e, a', w', l', b', hs, hfr', hk, harr⟩ := ihy κ l b h hok.2 hc a w hw hfr fr k cs hkd hro
        exact ⟨e, a', w', l', b', hs, hfr', hk, .of_steps (.one (stepR_cond hev)) harr⟩
    | _ => simp [hv] at hc
  | block id c ih =>
    intro κ l b h hok hc a w hw hfr fr k cs hkd hro
    obtain ⟨e, a', w', l', b', hs, hfr', hk, harr⟩ := ih _ l b h hok hc a w hw hfr fr (.inBlock id :: k) cs hkd hro
    have h1 : Steps P (lone (fr.atR a (.code (.block id c) :: k)) cs w) (lone (fr.atR a (.code c :: .inBlock id :: k)) cs w) := .one stepR_block
    cases e with
    | nx => exact ⟨.nx, a', w', l', b', hs, hfr', hk, h1.trans (Steps.trans harr (.one stepR_inBlock))⟩
    | rt => obtain ⟨t, st⟩ := harr; exact ⟨.rt, a', w', l', b', hs, hfr', hk, t, h1.trans st⟩
    | ex j =>
      obtain ⟨t, x, st⟩ := harr
      simp only [Kont.at] at hk
      by_cases hj : j = id
      · rw [if_pos hj] at hk
        refine ⟨.nx, a', w', l', b', hs, hfr', hk, h1.trans (st.trans (.one (stepR_exit ?_)))⟩
        rw [x]; simp [exitTo, hj]
      · rw [if_neg hj] at hk
        have : (id == j) = false := by simp; exact fun e => hj e.symm
        exact ⟨.ex j, a', w', l', b', hs, hfr', hk, t, by simpa [exitTo, this] using x, h1.trans st⟩
    | gt tt => obtain ⟨t, x, st⟩ := harr; exact ⟨.gt tt, a', w', l', b', hs, hfr', hk, t, by simpa [gotoIn] using x, h1.trans st⟩
end
end Go.HC

/-
  HC, part 3: rules for a call's body, a loop, a round, a range over a function.
-/
namespace Go.HC

/-- A program of operations that leaves the world alone. -/
def RO (P : Program) {α : Type} (s : Sem α) : Prop := ∀ w a w', s.run P w = .ok a w' → w' = w
theorem RO.pure (P : Program) {α : Type} (a : α) : RO P (Pure.pure a : Sem α) := fun w x w' h => by simp at h; exact h.2.symm
theorem RO.bind {P : Program} {α β : Type} {s : Sem α} {f : α → Sem β} (h : RO P s) (hf : ∀ a, RO P (f a)) : RO P (s >>= f) := by
  intro w x w' hr
  rw [Sem.run_bind] at hr
  cases hs : s.run P w with
  | halt y u => simp [hs] at hr
  | ok a u =>
    rw [hs] at hr
    simp only [Result.andThen_ok] at hr
    exact (hf a _ _ _ hr).trans (h _ _ _ hs)
theorem RO.load (P : Program) (a : Addr) : RO P (load a) := by
  intro w x w' h
  rw [run_load] at h
  split at h
  · simp at h; exact h.2.symm
  · split at h
    · simp at h; exact h.2.symm
    · simp at h
theorem RO.halt (P : Program) {α : Type} (x : Halt) : RO P (Sem.halt x : Sem α) := fun w a w' h => by simp at h
theorem RO.program (P : Program) : RO P Go.program := fun w x w' h => by simp at h; exact h.2.symm
theorem RO.typeInfo (P : Program) (t : TypeId) : RO P (typeInfo t) :=
  (RO.program P).bind fun p => by cases p.info? t <;> first | exact RO.pure P _ | exact RO.halt P _
theorem RO.underlying (P : Program) (t : TypeId) : RO P (underlying t) :=
  (RO.program P).bind fun p => by cases p.underlying t <;> first | exact RO.pure P _ | exact RO.halt P _
theorem RO.sizeOf (P : Program) (t : TypeId) : RO P (sizeOf t) := (RO.typeInfo P t).bind fun _ => RO.pure P _
theorem RO.isAgg (P : Program) (t : TypeId) : RO P (isAgg t) := (RO.underlying P t).bind fun d => by cases d <;> exact RO.pure P _
theorem RO.loadCellsFrom (P : Program) (a : Addr) : ∀ (n i : Nat) (acc : Array Value), RO P (loadCellsFrom a i n acc)
  | 0, _, _ => RO.pure P _
  | n + 1, i, _ => (RO.load P _).bind fun _ => RO.loadCellsFrom P a n (i + 1) _
theorem RO.loadVar (P : Program) (t : TypeId) (a : Addr) : RO P (loadVar t a) :=
  (RO.isAgg P t).bind fun g => by
    cases g
    · exact RO.load P a
    · exact ((RO.sizeOf P t).bind fun n => (RO.loadCellsFrom P a n 0 _).bind fun _ => RO.pure P _)
theorem RO.runtimePanic_nil (P : Program) {α : Type} : RO P (runtimePanic .nilDeref : Sem α) := (RO.program P).bind fun _ => RO.halt P _
theorem RO.asAddr (P : Program) (v : Value) : RO P (asAddr v) := by
  cases v <;> first | exact RO.halt P _ | skip
  rename_i a
  cases a
  · exact RO.runtimePanic_nil P
  · exact RO.pure P _
theorem RO.mapM {P : Program} {α β : Type} {f : α → Sem β} (hf : ∀ x, RO P (f x)) : ∀ (xs : List α), RO P (xs.mapM f)
  | [] => RO.pure P _
  | x :: xs => by
    rw [List.mapM_cons]
    exact (hf x).bind fun y => (RO.mapM hf xs).bind fun ys => RO.pure P _

def resOne (l : L) (b : Base) : ResultVar → Sem Value
  | .tmp t => pure (look l b t)
  | .cell a t => do loadVar t (← asAddr (look l b a))

def resL (fn : Func) (l : L) (b : Base) : Sem Value := do
  let vs ← fn.results.mapM (resOne l b)
  pure (if h : vs.size = 1 then vs[0] else .tuple vs)

theorem resL_eq {n : Nat} {a : Act} {l : L} {b : Base} (h : IsFr n a l b) (fn : Func) : results fn a.tmps = resL fn l b := by
  unfold results resL
  have : (fun x => match x with
      | ResultVar.tmp t => (pure (a.tmps.getD t undef) : Sem Value)
      | ResultVar.cell c t => do loadVar t (← asAddr (a.tmps.getD c undef))) = resOne l b := by
    funext x
    cases x with
    | tmp t => simp only [resOne, h.slot]
    | cell c t => simp only [resOne, h.slot]
  rw [← this]
  rfl

theorem resL_ro (P : Program) (fn : Func) (l : L) (b : Base) : RO P (resL fn l b) := by
  unfold resL
  refine RO.bind ?_ fun _ => RO.pure P _
  rw [Array.mapM_eq_mapM_toList]
  intro w x w' h
  rw [Sem.run_map] at h
  cases hs : (List.mapM (resOne l b) fn.results.toList).run P w with
  | halt y u => simp [hs] at h
  | ok ys u =>
    rw [hs] at h
    simp only [Result.andThen_ok, Result.ok.injEq] at h
    have := RO.mapM (P := P) (f := resOne l b) (fun r => by
      cases r with
      | tmp t => exact RO.pure P _
      | cell c t => exact (RO.asAddr P _).bind fun ad => RO.loadVar P t ad) _ _ _ _ hs
    rw [← h.2]; exact this

/-- The marks of the function's loops over functions are taken up, the last laid first. -/
def takeAll : List Nat → Heap → (Heap → Prop) → Prop
  | [], h, K => K h
  | r :: rs, h, K => h[r]? = some (.deferred (some [])) ∧ takeAll rs (h.setIfInBounds r (.deferred none)) K

def retS (P : Program) (fn : Func) (K : Value → Heap → Prop) (l : L) (b : Base) (h : Heap) : Prop :=
  takeAll b.d h fun h' => hp P (resL fn l b) K h'

def funK (P : Program) (fn : Func) (K : Value → Heap → Prop) : Kont :=
  { nx := retS P fn K, rt := retS P fn K, ex := fun _ _ _ _ => False, gt := fun _ _ _ _ => False }

def argL : Nat → List Value → L
  | _, [] => []
  | i, v :: vs => (i, v) :: argL (i + 1) vs

theorem look_argL (b : Base) : ∀ (vs : List Value) (i t : Nat), look (argL i vs) b t = if i ≤ t ∧ t < i + vs.length then vs.getD (t - i) undef else b.g t
  | [], i, t => by simp [argL, look]; omega
  | v :: vs, i, t => by
    simp only [argL, look, look_argL b vs]
    by_cases h : i = t
    · subst h; simp
    · rw [if_neg h]
      by_cases h2 : i + 1 ≤ t ∧ t < i + 1 + vs.length
      · rw [if_pos h2, if_pos (by simp; omega)]
        obtain ⟨j, rfl⟩ : ∃ j, t = i + 1 + j := ⟨t - (i + 1), by omega⟩
        rw [show i + 1 + j - (i + 1) = j from by omega, show i + 1 + j - i = j + 1 from by omega]
        simp
      · rw [if_neg h2, if_neg (by simp; omega)]

theorem step_take {P : Program} {fr : Frame} {cs : List Frame} {w : World} {r : Nat} {ds : List Deferred} (hm : fr.mode = .returning) (hd : fr.defers = markOf r :: ds)
    (hr : w.heap[r]? = some (.deferred (some []))) :
    step P (lone fr cs w) = .next (lone { fr with defers := ds } cs { w with heap := w.heap.setIfInBounds r (.deferred none) }) :=
  step_lone_go (by
    simp [stepG, unwind, hm, hd, markOf, Sem.runT_eq, Instr.takeDeferred, getObj, setObj, Sem.run, hr, GStep.bare_after])

theorem steps_take {P : Program} {K : Heap → Prop} {cs : List Frame} : ∀ (d : List Nat) (fr : Frame) (w : World), fr.mode = .returning → fr.defers = d.map markOf → takeAll d w.heap K →
    ∃ w', Same w w' ∧ K w'.heap ∧ Steps P (lone fr cs w) (lone { fr with defers := [] } cs w')
  | [], fr, w, _, hd, h => ⟨w, .refl w, h, by
      have : ({ fr with defers := [] } : Frame) = fr := by cases fr; simp at hd; subst hd; rfl
      rw [this]; exact .refl _ _⟩
  | r :: d, fr, w, hm, hd, h => by
    obtain ⟨w', hs, hk, hst⟩ := steps_take (P := P) (K := K) (cs := cs) d { fr with defers := d.map markOf } { w with heap := w.heap.setIfInBounds r (.deferred none) } hm rfl h.2
    exact ⟨w', ⟨hs.os, hs.tape, hs.output, (by first | exact hs.drawn | exact Nat.le_trans (Nat.le_succ _) hs.drawn)⟩, hk, .head (step_take hm hd h.1) hst⟩

theorem callH_of {P : Program} {f : FuncId} {fn : Func} {c : Code} {args : Array Value} {h : Heap} {K : Value → Heap → Prop}
    (hf : P.funcs[f]? = some fn) (hb : fn.body = some c) (hok : codeOk fn.ntmps c = true) (hn : args.size ≤ fn.ntmps)
    (hc : csem P fn.ntmps none c (funK P fn K) (argL 0 args.toList) ⟨fun _ => undef, []⟩ h) : CallH P f args h K := by
  intro w hw cs
  let b : Frame := { (default : Frame) with fn := f, kind := .normal }
  let a : Act := { tmps := args ++ Array.replicate (fn.ntmps - args.size) undef, defers := [] }
  have henter : Frame.enter P f args .normal = b.atR a [.code c] := by simp [Frame.enter, Frame.atR, hf, hb, b, a]; rfl
  have hfr : IsFr fn.ntmps a (argL 0 args.toList) ⟨fun _ => undef, []⟩ := by
    refine ⟨by simp [a]; omega, fun t => ?_, rfl⟩
    rw [look_argL]
    simp only [a, Array.length_toList, Nat.zero_le, true_and, Nat.zero_add, Nat.sub_zero]
    by_cases ht : t < args.size
    · rw [if_pos ht]
      simp [Array.getElem?_append, ht]
    · rw [if_neg ht]
      simp [Array.getElem?_append, ht, Array.getElem?_replicate]
      split <;> simp
  obtain ⟨e, a', w', l', b', hs, hfr', hk, harr⟩ := csem_sound P _ none c _ _ _ _ hok hc a w hw hfr b [] cs rfl rfl
  rw [← henter] at harr
  have fin : ∀ (todo : List Item), retS P fn K l' b' w'.heap → Steps P (lone (Frame.enter P f args .normal) cs w) (lone { b.atR a' todo with mode := .returning } cs w') →
      ∃ e w'' fr, (∃ v, e = Ending.returned v ∧ Same w w'' ∧ K v w''.heap) ∧ Comes P (lone (Frame.enter P f args .normal) cs w) (lone fr cs w'') e ∧ fr.fn = f ∧ fr.leaving P w'' e := by
    intro todo hr hst
    obtain ⟨w'', hs', hk', hst'⟩ := steps_take (P := P) (cs := cs) b'.d { b.atR a' todo with mode := .returning } w' rfl hfr'.defers hr
    obtain ⟨v, w3, hrun, hs3, hkv⟩ := hp_sound P _ _ _ hk'
    have hw3 : w3 = w'' := resL_ro P fn l' b' _ _ _ hrun
    subst hw3
    refine ⟨.returned v, w3, _, ⟨v, rfl, hs.trans hs', hkv⟩, hst.trans hst', rfl, rfl, rfl, rfl, fn, hf, ?_⟩
    show (results fn a'.tmps).run P w3 = _
    rw [resL_eq hfr']; exact hrun
  cases e with
  | nx => exact fin [] hk (Steps.trans harr (.one (stepR_end rfl)))
  | rt => obtain ⟨todo, hst⟩ := harr; exact fin _ hk (hst.trans (.one (stepR_ret rfl)))
  | ex id => exact hk.elim
  | gt t => exact hk.elim

/-! ### Weakening -/
structure Kont.le (κ κ' : Kont) : Prop where
  nx : ∀ l b h, κ.nx l b h → κ'.nx l b h
  rt : ∀ l b h, κ.rt l b h → κ'.rt l b h
  ex : ∀ j l b h, κ.ex j l b h → κ'.ex j l b h
  gt : ∀ j l b h, κ.gt j l b h → κ'.gt j l b h
theorem Kont.le.at {κ κ' : Kont} (hk : κ.le κ') : ∀ e l b h, κ.at e l b h → κ'.at e l b h := by
  intro e; cases e
  · exact hk.nx
  · exact hk.rt
  · exact hk.ex _
  · exact hk.gt _
theorem gsem_mono {P : Program} {n : Nat} {ro : Option Nat} {c : Code} {κ κ' : Kont} {l : L} {b : Base} {h : Heap} (hk : κ.le κ') (hg : gsem P n ro c κ l b h) : gsem P n ro c κ' l b h := by
  intro a w hw hfr fr k cs hkd hro
  obtain ⟨e, a', w', l', b', hs, hfr', hc, harr⟩ := hg a w hw hfr fr k cs hkd hro
  exact ⟨e, a', w', l', b', hs, hfr', hk.at _ _ _ _ hc, harr⟩
theorem rsem_mono {P : Program} {ops : Array Oper} {K K' : L → Base → Heap → Prop} (hk : ∀ l b h, K l b h → K' l b h) :
    ∀ (lo : List Oper) (l : L) (b : Base) (h : Heap), rsem P ops lo K l b h → rsem P ops lo K' l b h := by
  intro lo
  induction lo with
  | nil => exact fun l b h hr => hk _ _ _ hr
  | cons o lo ih =>
    intro l b h hr
    simp only [rsem] at hr ⊢
    split
    · rename_i hg
      rw [if_pos hg] at hr
      exact hp_mono _ hr fun x h' hx => nextK_mono (fun v h'' => ih _ _ _) x h' hx
    · rename_i hg
      rw [if_neg hg] at hr
      exact ih _ _ _ hr
theorem csem_mono {P : Program} {n : Nat} {ro : Option Nat} (c : Code) : ∀ {κ κ' : Kont} {l : L} {b : Base} {h : Heap}, κ.le κ' → csem P n ro c κ l b h → csem P n ro c κ' l b h := by
  induction c with
  | skip => exact fun hk hc => hk.nx _ _ _ hc
  | label t => exact fun hk hc => hk.nx _ _ _ hc
  | ret => exact fun hk hc => hk.rt _ _ _ hc
  | exit id => exact fun hk hc => hk.ex _ _ _ _ hc
  | goto t => exact fun hk hc => hk.gt _ _ _ _ hc
  | loop c ih => exact fun hk hc => gsem_mono hk hc
  | scope c ih => exact fun hk hc => gsem_mono hk hc
  | rangeFunc f ps x y ih1 ih2 => exact fun hk hc => gsem_mono hk hc
  | refuse s => exact fun _ hc => hc.elim
  | region id ops draw =>
    intro κ κ' l b h hk hc
    cases draw
    · exact rsem_mono hk.nx _ _ _ _ hc
    · exact gsem_mono hk hc
  | seq x y ihx ihy =>
    intro κ κ' l b h hk hc
    exact ihx (κ := { κ with nx := _ }) ⟨fun l b h hh => ihy hk hh, hk.rt, hk.ex, hk.gt⟩ hc
  | cond v x y ihx ihy =>
    intro κ κ' l b h hk hc
    simp only [csem, condS] at hc ⊢
    cases hv : ev l b v with
    | bool t =>
      simp only [hv] at hc ⊢
      cases t
      · rw [if_neg (by simp)] at hc ⊢; exact ihy hk hc
      · rw [if_pos rfl] at hc ⊢; exact ihx hk hc
    | _ => simp [hv] at hc
  | block id c ih =>
    intro κ κ' l b h hk hc
    refine ih (κ := { κ with ex := fun j l b h => if j = id then κ.nx l b h else κ.ex j l b h }) ⟨hk.nx, hk.rt, fun j l b h hh => ?_, hk.gt⟩ hc
    by_cases hj : j = id
    · simp only [if_pos hj] at hh ⊢; exact hk.nx _ _ _ hh
    · simp only [if_neg hj] at hh ⊢; exact hk.ex _ _ _ _ hh

/-! ### A loop -/
def Sub (S : L) (l : L) (b : Base) : Prop := ∀ p ∈ S, look l b p.1 = p.2
theorem Sub.nil (l : L) (b : Base) : Sub [] l b := fun _ h => by cases h
theorem Sub.cons {t : Nat} {v : Value} {S l : L} {b : Base} (h : look l b t = v) (hs : Sub S l b) : Sub ((t, v) :: S) l b := by
  intro p hp
  rcases List.mem_cons.1 hp with rfl | hp
  · exact h
  · exact hs p hp
theorem IsFr.clean {n : Nat} {a : Act} {l : L} {b : Base} (h : IsFr n a l b) {S : L} (hs : Sub S l b) : IsFr n a S ⟨fun t => a.tmps.getD t undef, b.d⟩ := by
  refine ⟨h.size, fun t => ?_, h.defers⟩
  induction S with
  | nil => rfl
  | cons p S ih =>
    obtain ⟨k, v⟩ := p
    simp only [look]
    split
    · rename_i e
      subst e
      rw [h.slot]; exact hs _ (List.mem_cons_self ..)
    · exact ih fun p hp => hs p (List.mem_cons_of_mem _ hp)

theorem loop_rule {P : Program} {n : Nat} {ro : Option Nat} {c : Code} {κ : Kont} {l : L} {b : Base} {h : Heap} {σ : Type}
    (S : σ → L) (D : σ → List Nat) (J : σ → Heap → Prop) (μ : σ → Nat) (s0 : σ) (hS : Sub (S s0) l b) (hD : b.d = D s0) (hJ : J s0 h) (hok : codeOk n c = true)
    (round : ∀ s h g, J s h → csem P n ro c { κ with nx := fun l' b' h' => ∃ s', Sub (S s') l' b' ∧ b'.d = D s' ∧ J s' h' ∧ μ s' < μ s } (S s) ⟨g, D s⟩ h) :
    gsem P n ro (.loop c) κ l b h := by
  intro a w hw hfr fr k cs hkd hro
  have key : ∀ m s (a : Act) (w : World) g, μ s = m → J s w.heap → IsFr n a (S s) ⟨g, D s⟩ →
      ∃ e a' w' l' b', Same w w' ∧ IsFr n a' l' b' ∧ κ.at e l' b' w'.heap ∧ ArrR P (lone (fr.atR a (.code c :: .inLoop c :: k)) cs w) fr k cs e a' w' := by
    intro m
    induction m using Nat.strongRecOn with
    | _ m ih =>
      intro s a w g hm hJ hfr
      obtain ⟨e, a', w', l', b', hs, hfr', hk, harr⟩ := csem_sound P n ro c _ _ _ _ hok (round s w.heap g hJ) a w rfl hfr fr (.inLoop c :: k) cs hkd hro
      cases e with
      | nx =>
        obtain ⟨s', hsub, hd, hJ', hlt⟩ := hk
        have hfr2 := hfr'.clean hsub
        rw [hd] at hfr2
        obtain ⟨e, a'', w'', l'', b'', hs', hfr'', hk', harr'⟩ := ih (μ s') (hm ▸ hlt) s' a' w' _ rfl hJ' hfr2
        exact ⟨e, a'', w'', l'', b'', hs.trans hs', hfr'', hk', .of_steps (Steps.trans harr (.one stepR_inLoop)) harr'⟩
      | rt => exact ⟨.rt, a', w', l', b', hs, hfr', hk, harr⟩
      | ex id => obtain ⟨t, x, st⟩ := harr; exact ⟨.ex id, a', w', l', b', hs, hfr', hk, t, by simpa [exitTo] using x, st⟩
      | gt tt => obtain ⟨t, x, st⟩ := harr; exact ⟨.gt tt, a', w', l', b', hs, hfr', hk, t, by simpa [gotoIn] using x, st⟩
  have hfr2 := hfr.clean hS
  rw [hD] at hfr2
  subst hw
  obtain ⟨e, a', w', l', b', hs, hfr', hk, harr⟩ := key _ s0 a w _ rfl hJ hfr2
  exact ⟨e, a', w', l', b', hs, hfr', hk, .of_steps (.one stepR_loop) harr⟩

/-! ### A round of a loop over a function -/
def beginS (lp : Nat) (h : Heap) (K : Heap → Prop) : Prop :=
  ∃ r : Loop, h[lp]? = some (.loop r) ∧ r.state = .ready ∧ K (h.setIfInBounds lp (.loop { r with state := .busy }))
def endS (lp : Nat) (jump : Option Code) (K : Value → Heap → Prop) (h : Heap) : Prop :=
  ∃ r : Loop, h[lp]? = some (.loop r) ∧ K (.bool jump.isNone) (h.setIfInBounds lp (.loop { r with state := if jump.isNone then .ready else .done, pending := jump }))
def roundK (lp : Nat) (K : Value → Heap → Prop) : Kont :=
  { nx := fun _ _ h => endS lp none K h, rt := fun _ _ h => endS lp (some .ret) K h,
    ex := fun id _ _ h => endS lp (some (.exit id)) K h, gt := fun t _ _ h => endS lp (some (.goto t)) K h }

theorem run_begin {P : Program} {lp : Nat} {w : World} {r : Loop} (hr : w.heap[lp]? = some (.loop r)) (hs : r.state = .ready) :
    (Instr.beginRound lp).run P w = .ok () { w with heap := w.heap.setIfInBounds lp (.loop { r with state := .busy }) } := by
  simp [Instr.beginRound, Instr.getLoop, getObj, setObj, Sem.run, hr, hs]
theorem run_end {P : Program} {lp : Nat} {w : World} {r : Loop} (hr : w.heap[lp]? = some (.loop r)) (jump : Option Code) :
    (Instr.endRound lp jump).run P w = .ok (.bool jump.isNone) { w with heap := w.heap.setIfInBounds lp (.loop { r with state := if jump.isNone then .ready else .done, pending := jump }) } := by
  simp [Instr.endRound, Instr.getLoop, getObj, setObj, Sem.run, hr]

theorem roundH_of {P : Program} {lp : Nat} {f : FuncId} {tmps : Array Value} {assign body : Code} {h : Heap} {K : Value → Heap → Prop} {n : Nat} {l : L} {b : Base}
    (hfr : IsFr n ⟨tmps, []⟩ l b) (hok1 : codeOk n assign = true) (hok2 : codeOk n body = true)
    (hc : csem P n (some lp) assign { nx := fun l b h => beginS lp h fun h' => csem P n (some lp) body (roundK lp K) l b h', rt := fun _ _ _ => False, ex := fun _ _ _ _ => False, gt := fun _ _ _ _ => False } l b h) :
    RoundH P lp f tmps assign body h K := by
  intro w hw c cs
  let fb : Frame := { (default : Frame) with fn := f, kind := .normal, roundOf := some lp }
  have h0 : Frame.round lp f tmps assign body .normal = fb.atR ⟨tmps, []⟩ (.code assign :: .beginRound :: .code body :: []) := rfl
  obtain ⟨e, a', w', l', b', hs, hfr', hk, harr⟩ := csem_sound P n (some lp) assign _ _ _ _ hok1 hc ⟨tmps, []⟩ w hw hfr fb (.beginRound :: .code body :: []) (c :: cs) rfl rfl
  rw [← h0] at harr
  cases e with
  | rt => exact hk.elim
  | ex id => exact hk.elim
  | gt t => exact hk.elim
  | nx =>
    obtain ⟨r, hr, hst, hk⟩ := hk
    have hb := run_begin (P := P) hr hst
    obtain ⟨e, a2, w2, l2, b2, hs2, hfr2, hk2, harr2⟩ := csem_sound P n (some lp) body _ _ _ _ hok2 hk a' { w' with heap := w'.heap.setIfInBounds lp (.loop { r with state := .busy }) } rfl hfr' fb [] (c :: cs) rfl rfl
    have s1 : Steps P (lone (Frame.round lp f tmps assign body .normal) (c :: cs) w) (lone (fb.atR a' [.code body]) (c :: cs) { w' with heap := w'.heap.setIfInBounds lp (.loop { r with state := .busy }) }) :=
      Steps.trans harr (.one (stepR_beginRound rfl hb))
    have hs' : Same w w2 := ⟨hs2.os.trans hs.os, hs2.tape.trans hs.tape, hs2.output.trans hs.output, Nat.le_trans hs.drawn hs2.drawn⟩
    cases e with
    | nx =>
      obtain ⟨r2, hr2, hk2⟩ := hk2
      have he := run_end (P := P) hr2 none
      exact ⟨_, { w2 with heap := w2.heap.setIfInBounds lp (.loop { r2 with state := if (none : Option Code).isNone then .ready else .done, pending := none }) }, ⟨hs'.os, hs'.tape, hs'.output, hs'.drawn⟩, hk2, s1.trans (Steps.trans harr2 (.one (stepR_round_end rfl rfl he)))⟩
    | rt =>
      obtain ⟨r2, hr2, hk2⟩ := hk2
      obtain ⟨t, st⟩ := harr2
      have he := run_end (P := P) hr2 (some .ret)
      exact ⟨_, { w2 with heap := w2.heap.setIfInBounds lp (.loop { r2 with state := if (some .ret : Option Code).isNone then .ready else .done, pending := some .ret }) }, ⟨hs'.os, hs'.tape, hs'.output, hs'.drawn⟩, hk2, s1.trans (st.trans (.one (stepR_round_ret rfl rfl he)))⟩
    | ex id =>
      obtain ⟨r2, hr2, hk2⟩ := hk2
      obtain ⟨t, x, st⟩ := harr2
      have he := run_end (P := P) hr2 (some (.exit id))
      exact ⟨_, { w2 with heap := w2.heap.setIfInBounds lp (.loop { r2 with state := if (some (.exit id) : Option Code).isNone then .ready else .done, pending := some (.exit id) }) }, ⟨hs'.os, hs'.tape, hs'.output, hs'.drawn⟩, hk2, s1.trans (st.trans (.one (stepR_round_exit rfl rfl (by simpa [exitTo] using x) he)))⟩
    | gt tt =>
      obtain ⟨r2, hr2, hk2⟩ := hk2
      obtain ⟨t, x, st⟩ := harr2
      have he := run_end (P := P) hr2 (some (.goto tt))
      exact ⟨_, { w2 with heap := w2.heap.setIfInBounds lp (.loop { r2 with state := if (some (.goto tt) : Option Code).isNone then .ready else .done, pending := some (.goto tt) }) }, ⟨hs'.os, hs'.tape, hs'.output, hs'.drawn⟩, hk2, s1.trans (st.trans (.one (stepR_round_goto rfl rfl (by simpa [gotoIn] using x) he)))⟩

/-! ### The statement 'for .. := range f { .. }' in a function's own frame -/
def endLoopS (lp : Nat) (h : Heap) (K : Option Code → Heap → Prop) : Prop :=
  ∃ r : Loop, h[lp]? = some (.loop r) ∧ r.state ≠ .busy ∧ K r.pending (h.setIfInBounds lp (.loop { r with state := .exhausted }))
def jumpK (κ : Kont) (l : L) (b : Base) : Option Code → Heap → Prop
  | none => κ.nx l b
  | some .ret => κ.rt l b
  | some (.exit id) => κ.ex id l b
  | some (.goto t) => κ.gt t l b
  | _ => fun _ => False
/-- The value that a loop hands to the function that it ranges over. -/
def yv (lp : Nat) : Value := .func (.yield lp) #[] #[]

theorem run_endLoop' {P : Program} {lp : Nat} {w : World} {r : Loop} (hr : w.heap[lp]? = some (.loop r)) (hs : r.state ≠ .busy) :
    (Instr.endLoop lp).run P w = .ok r.pending { w with heap := w.heap.setIfInBounds lp (.loop { r with state := .exhausted }) } := by
  simp [Instr.endLoop, Instr.getLoop, getObj, setObj, Sem.run, hr, hs]

theorem run_enterLoop' {P : Program} {w : World} (fn : FuncId) (tmps : Array Value) (ps : Array Tmp) (x y : Code) :
    (Instr.enterLoop fn tmps ps x y none).run P w = .ok (w.heap.size + 1, [markOf w.heap.size])
      { w with heap := (w.heap.push (.deferred (some []))).push (.loop { state := .ready, pending := none, fn, tmps, params := ps, assign := x, body := y, defers := w.heap.size }) } := by
  simp [Instr.enterLoop, newObj, Sem.run, markOf]
  try rfl

/-- A function of the program with a Go body. -/
def FnOk (P : Program) (f : FuncId) : Prop := ∃ fn, P.funcs[f]? = some fn ∧ (fn.name == "runtime.NumGoroutine") = false ∧ fn.body.isNone = false
theorem run_callFunc {P : Program} {f : FuncId} (hf : FnOk P f) (args : Array Value) (w : World) : (callFunc f args).run P w = .ok (.enter f args) w := by
  obtain ⟨fn, h1, h2, h3⟩ := hf
  unfold callFunc
  simp only [Sem.run_bind, run_program, Result.andThen_ok, h1, h2, h3, Bool.false_eq_true, if_false]
  rfl
theorem hp_callFunc {P : Program} {f : FuncId} (hf : FnOk P f) (args : Array Value) (K : Next → Heap → Prop) (h : Heap) : hp P (callFunc f args) K h = K (.enter f args) h := by
  obtain ⟨fn, h1, h2, h3⟩ := hf
  unfold callFunc
  simp only [hp_bind, hp_program, h1, h2, h3, Bool.false_eq_true, if_false]
  rfl
theorem callV_func {P : Program} {f : FuncId} (hf : FnOk P f) (first caps args : Array Value) (h : Heap) (K : Value → Heap → Prop) :
    callV P (.func (.func f) first caps) args h K = CallH P f (first ++ args ++ caps) h K := by
  unfold callV
  simp only [Deferred.ofValue, hp_bind, hp_pure, invoke, hp_callFunc hf, nextK]

theorem rangeFunc_rule {P : Program} {n : Nat} {g : Operand} {ps : Array Tmp} {x y : Code} {κ : Kont} {l : L} {b : Base} {h : Heap} {f : FuncId} {caps first : Array Value}
    (hg : ev l b g = .func (.func f) first caps) (hfn : FnOk P f)
    (hc : ∀ fnid T, IsFr n ⟨T, b.d.map markOf⟩ l b →
      CallH P f (first ++ #[yv (h.size + 1)] ++ caps) ((h.push (.deferred (some []))).push (.loop { state := .ready, pending := none, fn := fnid, tmps := T, params := ps, assign := x, body := y, defers := h.size }))
        (fun _ h2 => endLoopS (h.size + 1) h2 (jumpK κ l ⟨b.g, h.size :: b.d⟩))) :
    gsem P n none (.rangeFunc g ps x y) κ l b h := by
  intro a w hw hfr fr k cs hkd hro
  subst hw
  have hfrT : IsFr n ⟨a.tmps, b.d.map markOf⟩ l b := ⟨hfr.size, hfr.slot, rfl⟩
  let w1 : World := { w with heap := (w.heap.push (.deferred (some []))).push (.loop { state := .ready, pending := none, fn := fr.fn, tmps := a.tmps, params := ps, assign := x, body := y, defers := w.heap.size }) }
  have he : (Instr.enterLoop fr.fn a.tmps ps x y fr.roundOf).run P w = .ok (w.heap.size + 1, [markOf w.heap.size]) w1 := by
    rw [hro]; exact run_enterLoop' _ _ _ _ _
  have hev : a.eval g = .func (.func f) first caps := by rw [hfr.eval]; exact hg
  have hstep := stepR_rangeFunc (P := P) (g := g) (ps := ps) (assign := x) (body := y) (b := fr) (a := a) (k := k) (cs := cs) (w := w) (w₂ := w1) (w₁' := w1) (f := f) (args := first ++ #[yv (w.heap.size + 1)] ++ caps)
    (d := { target := .fn (.func f) caps, args := first ++ #[yv (w.heap.size + 1)] }) he
    (by simp only [resolve, hev, Deferred.ofValue, List.map_toArray, List.map_cons, List.map_nil]; rfl)
    (run_callFunc hfn _ _)
  obtain ⟨e, w2, fr2, ⟨v, rfl, hs, r, hr, hst, hk⟩, hcomes, _, hleave⟩ := hc fr.fn a.tmps hfrT w1 rfl (fr.atR { a with defers := [markOf w.heap.size] ++ a.defers } (.inRangeFunc (w.heap.size + 1) :: k) :: cs)
  have hs1 : Same w w2 := ⟨hs.os, hs.tape, hs.output, (by first | exact hs.drawn | exact Nat.le_trans (Nat.le_succ _) hs.drawn)⟩
  have st1 : Steps P (lone (fr.atR a (.code (.rangeFunc g ps x y) :: k)) cs w)
      (lone (fr.atR { a with defers := [markOf w.heap.size] ++ a.defers } ((r.pending.map Item.code).toList ++ k)) cs { w2 with heap := w2.heap.setIfInBounds (w.heap.size + 1) (.loop { r with state := .exhausted }) }) := by
    refine .head hstep (Steps.trans hcomes (.head ?_ (.one (stepR_endRangeFunc (run_endLoop' hr hst)))))
    rw [← finish_atR_inRangeFunc _ v]; exact step_leave_returned hleave
  have hfr' : IsFr n { a with defers := [markOf w.heap.size] ++ a.defers } l ⟨b.g, w.heap.size :: b.d⟩ := by
    refine ⟨hfr.size, fun t => ?_, by simp [hfr.defers]⟩
    rw [show ({ a with defers := [markOf w.heap.size] ++ a.defers } : Act).tmps = a.tmps from rfl, hfr.slot]
    clear hc he hstep hfr hfrT hg hev hk
    induction l with
    | nil => rfl
    | cons p l ih => obtain ⟨q, u⟩ := p; simp only [look, ih]
  have hs2 : Same w { w2 with heap := w2.heap.setIfInBounds (w.heap.size + 1) (.loop { r with state := .exhausted }) } := ⟨hs1.os, hs1.tape, hs1.output, hs1.drawn⟩
  obtain ⟨w3, e3⟩ : ∃ w3 : World, w3 = { w2 with heap := w2.heap.setIfInBounds (w.heap.size + 1) (.loop { r with state := .exhausted }) } := ⟨_, rfl⟩
  have hk3 : jumpK κ l ⟨b.g, w.heap.size :: b.d⟩ r.pending w3.heap := by rw [e3]; exact hk
  rw [← e3] at st1 hs2
  clear hk e3
  cases hp : r.pending with
  | none => rw [hp] at hk3 st1; exact ⟨.nx, _, _, l, _, hs2, hfr', hk3, st1⟩
  | some c =>
    rw [hp] at hk3 st1
    cases c with
    | ret => exact ⟨.rt, _, _, l, _, hs2, hfr', hk3, k, st1⟩
    | exit id => exact ⟨.ex id, _, _, l, _, hs2, hfr', hk3, k, rfl, st1⟩
    | goto t => exact ⟨.gt t, _, _, l, _, hs2, hfr', hk3, k, rfl, st1⟩
    | _ => exact hk3.elim
end Go.HC

/-
  HC, part 4: a region that draws its order: one order that is written out stands for all of them.
-/
namespace Go.HC

/-- A program of operations that only looks: it gives v and leaves the heap. -/
def Rd (P : Program) (s : Sem Next) (v : Value) (h : Heap) : Prop := hp P s (fun x h' => x = .value v ∧ h' = h) h

/-- An operation of the order that is written out: its number, whether it only looks, which of the looks ahead of it must look the same behind it. -/
structure Di where
  i : Nat
  mv : Bool
  chk : List Nat

def wanted (ops : Array Oper) (o : Oper) (a : Act) : Bool := Region.wanted o (yielded ops a.tmps)

def arun (P : Program) (ops : Array Oper) : List Nat → (Act → Heap → Prop) → Act → Heap → Prop
  | [], K, a, h => K a h
  | i :: rest, K, a, h =>
    match ops[i]? with
    | none => False
    | some o =>
      if wanted ops o a = true then hp P (execOp a.eval o) (nextK P fun v h' => arun P ops rest K (a.put o.dst v) h') h
      else arun P ops rest K (a.put o.dst undef) h

abbrev Pend := List (Nat × Sem Next × Value)

def crun (P : Program) (ops : Array Oper) : List Di → Pend → (Act → Heap → Prop) → Act → Heap → Prop
  | [], _, K, a, h => K a h
  | d :: ds, pend, K, a, h =>
    match ops[d.i]? with
    | none => False
    | some o =>
      if wanted ops o a = true then
        if d.mv = true then ∃ v, Rd P (execOp a.eval o) v h ∧ crun P ops ds ((d.i, execOp a.eval o, v) :: pend) K (a.put o.dst v) h
        else hp P (execOp a.eval o) (nextK P fun v h' => (∀ p ∈ pend, p.1 ∈ d.chk → Rd P p.2.1 p.2.2 h') ∧ crun P ops ds pend K (a.put o.dst v) h') h
      else crun P ops ds pend K (a.put o.dst undef) h

section
variable {P : Program} {ops : Array Oper}

theorem crun_pend {K : Act → Heap → Prop} : ∀ (ds : List Di) {pend pend' : Pend} {a : Act} {h : Heap}, (∀ p ∈ pend', p ∈ pend) → crun P ops ds pend K a h → crun P ops ds pend' K a h := by
  intro ds
  induction ds with
  | nil => exact fun _ h => h
  | cons d ds ih =>
    intro pend pend' a h hp hc
    simp only [crun] at hc ⊢
    cases ho : ops[d.i]? with
    | none => simp [ho] at hc
    | some o =>
      simp only [ho] at hc ⊢
      split
      · rename_i hw
        rw [if_pos hw] at hc
        split
        · rename_i hm
          rw [if_pos hm] at hc
          obtain ⟨v, hr, hc⟩ := hc
          refine ⟨v, hr, ih (fun p hpp => ?_) hc⟩
          rcases List.mem_cons.1 hpp with rfl | hpp
          · exact List.mem_cons_self ..
          · exact List.mem_cons_of_mem _ (hp p hpp)
        · rename_i hm
          rw [if_neg hm] at hc
          exact hp_mono _ hc fun x h' hx => nextK_mono (fun v h'' hh => ⟨fun p hpp hch => hh.1 p (hp p hpp) hch, ih hp hh.2⟩) x h' hx
      · rename_i hw
        rw [if_neg hw] at hc
        exact ih hp hc

theorem Rd.use {s : Sem Next} {v : Value} {h : Heap} (hr : Rd P s v h) {K : Next → Heap → Prop} (hk : K (.value v) h) : hp P s K h :=
  hp_mono _ hr fun x h' ⟨hx, hh⟩ => by subst hx; subst hh; exact hk

/-- Two operations that do not look at what the other one writes. -/
structure Free (ops : Array Oper) (x s : Oper) : Prop where
  xs : ∀ (a : Act) (v : Value), execOp (a.put x.dst v).eval s = execOp a.eval s
  xw : ∀ (a : Act) (v : Value), wanted ops s (a.put x.dst v) = wanted ops s a
  sx : ∀ (a : Act) (v : Value), execOp (a.put s.dst v).eval x = execOp a.eval x
  sw : ∀ (a : Act) (v : Value), wanted ops x (a.put s.dst v) = wanted ops x a
  comm : ∀ (a : Act) (v u : Value), (a.put x.dst v).put s.dst u = (a.put s.dst u).put x.dst v

theorem Free.of_apart {x s : Oper} (hx : ∀ cs b, x.op ≠ .select cs b) (hs : ∀ cs b, s.op ≠ .select cs b) (h : x.apart ops s = true) : Free ops x s := by
  obtain ⟨h1, h2, h3⟩ := Oper.apart_spec h
  exact ⟨fun a v => execOp_put s hs a x.dst v h1, fun a v => wanted_put s a x.dst v h1, fun a v => execOp_put x hx a s.dst v h3, fun a v => wanted_put x a s.dst v h3,
    fun a v u => Act.put_comm a v u h2⟩

/-- What stands ahead of s only looks, and may as well look behind it. -/
structure Ahead (ops : Array Oper) (x s : Di) : Prop where
  mv : x.mv = true
  free : ∀ ox os, ops[x.i]? = some ox → ops[s.i]? = some os → Free ops ox os
  chk : s.mv = false → x.i ∈ s.chk

theorem crun_front {K : Act → Heap → Prop} {s : Di} {os : Oper} (hos : ops[s.i]? = some os) {post : List Di} : ∀ (pre : List Di), (∀ x ∈ pre, Ahead ops x s) →
    ∀ {pend : Pend} {a : Act} {h : Heap}, crun P ops (pre ++ s :: post) pend K a h → crun P ops (s :: (pre ++ post)) pend K a h := by
  intro pre
  induction pre with
  | nil => exact fun _ _ _ _ h => h
  | cons x pre ih =>
    intro hA pend a h hc
    have hx := hA x (List.mem_cons_self ..)
    have ih' := @ih (fun y hy => hA y (List.mem_cons_of_mem _ hy))
    rw [List.cons_append, crun] at hc
    cases hox : ops[x.i]? with
    | none => simp [hox] at hc
    | some ox =>
      have hf := hx.free ox os hox hos
      simp only [hox] at hc
      by_cases hw : wanted ops ox a = true
      · rw [if_pos hw, if_pos hx.mv] at hc
        obtain ⟨v, hr, hc⟩ := hc
        have hc2 := ih' hc
        rw [crun] at hc2 ⊢
        simp only [hos, hf.xw, hf.xs] at hc2 ⊢
        by_cases hws : wanted ops os a = true
        · rw [if_pos hws] at hc2 ⊢
          by_cases hm : s.mv = true
          · rw [if_pos hm] at hc2 ⊢
            obtain ⟨u, hru, hc3⟩ := hc2
            refine ⟨u, hru, ?_⟩
            rw [List.cons_append, crun]
            simp only [hox, hf.sw, hf.sx, if_pos hw, if_pos hx.mv]
            refine ⟨v, hr, ?_⟩
            rw [← hf.comm]
            exact crun_pend _ (fun p hp => by
              simp only [List.mem_cons] at hp ⊢
              rcases hp with h1 | h1 | h1
              · exact .inr (.inl h1)
              · exact .inl h1
              · exact .inr (.inr h1)) hc3
          · rw [if_neg hm] at hc2 ⊢
            refine hp_mono _ hc2 fun y h' hy => nextK_mono (fun u h'' hh => ⟨fun p hp hch => hh.1 p (List.mem_cons_of_mem _ hp) hch, ?_⟩) y h' hy
            rw [List.cons_append, crun]
            simp only [hox, hf.sw, hf.sx, if_pos hw, if_pos hx.mv]
            refine ⟨v, hh.1 (x.i, execOp a.eval ox, v) (List.mem_cons_self ..) (hx.chk (by simpa using hm)), ?_⟩
            rw [← hf.comm]
            exact hh.2
        · rw [if_neg hws] at hc2 ⊢
          rw [List.cons_append, crun]
          simp only [hox, hf.sw, hf.sx, if_pos hw, if_pos hx.mv]
          refine ⟨v, hr, ?_⟩
          rw [← hf.comm]
          exact hc2
      · rw [if_neg hw] at hc
        have hc2 := ih' hc
        rw [crun] at hc2 ⊢
        simp only [hos, hf.xw, hf.xs] at hc2 ⊢
        by_cases hws : wanted ops os a = true
        · rw [if_pos hws] at hc2 ⊢
          by_cases hm : s.mv = true
          · rw [if_pos hm] at hc2 ⊢
            obtain ⟨u, hru, hc3⟩ := hc2
            refine ⟨u, hru, ?_⟩
            rw [List.cons_append, crun]
            simp only [hox, hf.sw, if_neg hw]
            rw [← hf.comm]
            exact hc3
          · rw [if_neg hm] at hc2 ⊢
            refine hp_mono _ hc2 fun y h' hy => nextK_mono (fun u h'' hh => ⟨hh.1, ?_⟩) y h' hy
            rw [List.cons_append, crun]
            simp only [hox, hf.sw, if_neg hw]
            rw [← hf.comm]
            exact hh.2
        · rw [if_neg hws] at hc2 ⊢
          rw [List.cons_append, crun]
          simp only [hox, hf.sw, if_neg hw]
          rw [← hf.comm]
          exact hc2

def depsOf (ops : Array Oper) (s : Nat) : List Nat :=
  match ops[s]? with
  | some o => (o.after.toList.filter fun e => Region.binds .any e).map (·.on)
  | none => []
def anc (ops : Array Oper) : Nat → Nat → Nat → Bool
  | 0, _, _ => false
  | f + 1, x, s => (depsOf ops s).any fun y => y == x || anc ops f x y

def DownC (ops : Array Oper) (E : List Nat) : Prop := ∀ y ∈ E, ∀ z ∈ depsOf ops y, z ∈ E
theorem anc_mem {E : List Nat} (hE : DownC ops E) : ∀ (f x s : Nat), (∀ z ∈ depsOf ops s, z ∈ E) → anc ops f x s = true → x ∈ E := by
  intro f
  induction f with
  | zero => intro x s _ h; simp [anc] at h
  | succ f ih =>
    intro x s hs h
    simp only [anc, List.any_eq_true, Bool.or_eq_true, beq_iff_eq] at h
    obtain ⟨y, hy, hh⟩ := h
    rcases hh with rfl | hh
    · exact hs _ hy
    · exact ih x y (fun z hz => hE y (hs y hy) z hz) hh

def Lin (ops : Array Oper) : List Nat → List Nat → Prop
  | _, [] => True
  | E, s :: σ => (∀ z ∈ depsOf ops s, z ∈ E) ∧ Lin ops (s :: E) σ

def relB (ops : Array Oper) (x s : Di) : Bool :=
  anc ops ops.size x.i s.i ||
  (x.mv && (match ops[x.i]?, ops[s.i]? with | some ox, some os => ox.apart ops os | _, _ => false) && (s.mv || s.chk.contains x.i))

def pairB (ops : Array Oper) : List Di → Bool
  | [] => true
  | d :: ds => ds.all (fun s => relB ops d s) && pairB ops ds

theorem pairB_append {ops : Array Oper} : ∀ {xs ys : List Di}, pairB ops (xs ++ ys) = true → pairB ops xs = true ∧ pairB ops ys = true ∧ ∀ x ∈ xs, ∀ y ∈ ys, relB ops x y = true
  | [], ys, h => ⟨rfl, h, by simp⟩
  | x :: xs, ys, h => by
    simp only [List.cons_append, pairB, Bool.and_eq_true, List.all_eq_true] at h
    obtain ⟨h1, h2⟩ := h
    obtain ⟨p1, p2, p3⟩ := pairB_append h2
    refine ⟨?_, p2, fun z hz y hy => ?_⟩
    · simp only [pairB, Bool.and_eq_true, List.all_eq_true]
      exact ⟨fun s hs => h1 s (List.mem_append_left _ hs), p1⟩
    · rcases List.mem_cons.1 hz with rfl | hz
      · exact h1 y (List.mem_append_right _ hy)
      · exact p3 z hz y hy
theorem pairB_remove {ops : Array Oper} {d : Di} : ∀ {xs ys : List Di}, pairB ops (xs ++ d :: ys) = true → pairB ops (xs ++ ys) = true
  | [], ys, h => by simp only [List.nil_append, pairB, Bool.and_eq_true] at h; exact h.2
  | x :: xs, ys, h => by
    simp only [List.cons_append, pairB, Bool.and_eq_true, List.all_eq_true] at h ⊢
    refine ⟨fun s hs => h.1 s ?_, pairB_remove h.2⟩
    rcases List.mem_append.1 hs with hs | hs
    · exact List.mem_append_left _ hs
    · exact List.mem_append_right _ (List.mem_cons_of_mem _ hs)

theorem arun_of_crun (hsel : Region.noSelect ops = true) {K : Act → Heap → Prop} : ∀ (σ : List Nat) (ds : List Di) (E : List Nat) (pend : Pend) (a : Act) (h : Heap),
    σ.Perm (ds.map (·.i)) → σ.Nodup → (∀ d ∈ ds, (ops[d.i]?).isSome = true) → DownC ops E → Lin ops E σ → (∀ d ∈ ds, d.i ∉ E) → pairB ops ds = true → crun P ops ds pend K a h → arun P ops σ K a h := by
  intro σ
  induction σ with
  | nil =>
    intro ds E pend a h hp _ _ _ _ _ _ hc
    have : ds = [] := by simpa using hp.symm.eq_nil
    subst this
    exact hc
  | cons s σ ih =>
    intro ds E pend a h hp hnd hin hE hlin hnot hpair hc
    have hmem : s ∈ ds.map (·.i) := hp.subset (List.mem_cons_self ..)
    obtain ⟨d, hd, hdi⟩ := List.mem_map.1 hmem
    obtain ⟨pre, post, rfl⟩ := List.append_of_mem hd
    subst hdi
    obtain ⟨o, hod⟩ := Option.isSome_iff_exists.1 (hin d hd)
    simp only [arun, hod]
    have hrel := (pairB_append hpair).2.2
    have hA : ∀ x ∈ pre, Ahead ops x d := by
      intro x hx
      have h1 := hrel x hx d (List.mem_cons_self ..)
      simp only [relB, Bool.or_eq_true, Bool.and_eq_true] at h1
      rcases h1 with h1 | ⟨⟨h1, h2⟩, h3⟩
      · exact absurd (anc_mem hE _ _ _ hlin.1 h1) (hnot x (List.mem_append_left _ hx))
      · refine ⟨h1, fun ox os hox hos => ?_, fun hm => ?_⟩
        · rw [hox, hos] at h2
          exact Free.of_apart (fun cs b => Region.noSelect_spec hsel _ _ cs b hox) (fun cs b => Region.noSelect_spec hsel _ _ cs b hos) h2
        · simpa [hm] using h3
    have hc2 := crun_front hod pre hA hc
    rw [crun] at hc2
    simp only [hod] at hc2
    have hp2 : σ.Perm ((pre ++ post).map (·.i)) := by
      have : (d.i :: σ).Perm (d.i :: (pre ++ post).map (·.i)) := by
        refine hp.trans ?_
        simp only [List.map_append, List.map_cons]
        exact List.perm_middle
      exact (List.perm_cons _).1 this
    have hE2 : DownC ops (d.i :: E) := by
      intro y hy z hz
      rcases List.mem_cons.1 hy with rfl | hy
      · exact List.mem_cons_of_mem _ (hlin.1 z hz)
      · exact List.mem_cons_of_mem _ (hE y hy z hz)
    have sub : ∀ x ∈ pre ++ post, x ∈ pre ++ d :: post := by
      intro x hx
      rcases List.mem_append.1 hx with hx | hx
      · exact List.mem_append_left _ hx
      · exact List.mem_append_right _ (List.mem_cons_of_mem _ hx)
    have hnot2 : ∀ x ∈ pre ++ post, x.i ∉ d.i :: E := by
      intro x hx hmem
      rcases List.mem_cons.1 hmem with he | he
      · have h1 : x.i ∈ σ := hp2.symm.subset (List.mem_map.2 ⟨x, hx, rfl⟩)
        rw [he] at h1
        exact (List.nodup_cons.1 hnd).1 h1
      · exact hnot x (sub x hx) he
    have next : ∀ {pend : Pend} {a : Act} {h : Heap}, crun P ops (pre ++ post) pend K a h → arun P ops σ K a h := fun hc3 =>
      ih (pre ++ post) (d.i :: E) _ _ _ hp2 (List.nodup_cons.1 hnd).2 (fun x hx => hin x (sub x hx)) hE2 hlin.2 hnot2 (pairB_remove hpair) hc3
    by_cases hw : wanted ops o a = true
    · rw [if_pos hw] at hc2 ⊢
      by_cases hm : d.mv = true
      · rw [if_pos hm] at hc2
        obtain ⟨v, hr, hc3⟩ := hc2
        exact hr.use (next hc3)
      · rw [if_neg hm] at hc2
        exact hp_mono _ hc2 fun y h' hy => nextK_mono (fun u h'' hh => next hh.2) y h' hy
    · rw [if_neg hw] at hc2 ⊢
      exact next hc2

/-! ### Every schedule is a linear order -/
def unl (ops : Array Oper) (listed : Array Bool) : List Nat := (List.range ops.size).filter fun i => !listed.getD i true

theorem mem_unl {listed : Array Bool} {i : Nat} : i ∈ unl ops listed ↔ i < ops.size ∧ listed.getD i true = false := by
  simp [unl]

theorem unl_set {listed : Array Bool} {i : Nat} (hs : listed.size = ops.size) (hi : i ∈ unl ops listed) : (i :: unl ops (listed.setIfInBounds i true)).Perm (unl ops listed) := by
  have hlt := (mem_unl.1 hi).1
  have hiu := (mem_unl.1 hi).2
  have hnd : (unl ops listed).Nodup := List.nodup_range.filter _
  have hnd2 : (unl ops (listed.setIfInBounds i true)).Nodup := List.nodup_range.filter _
  refine (List.perm_ext_iff_of_nodup (List.nodup_cons.2 ⟨?_, hnd2⟩) hnd).2 fun j => ?_
  · intro hm
    have := (mem_unl.1 hm).2
    simp [hs ▸ hlt] at this
  · rw [List.mem_cons, mem_unl, mem_unl]
    by_cases hj : i = j
    · subst hj; simp [hlt, hiu]
    · rw [getD_set_ne true hj]
      constructor
      · rintro (h | h)
        · exact absurd h.symm hj
        · exact h
      · exact .inr

def upB (ops : Array Oper) : Bool := (List.range ops.size).all fun i => (depsOf ops i).all fun z => Nat.blt z i

theorem depsOf_spec {i : Nat} {o : Oper} (ho : ops[i]? = some o) (z : Nat) : z ∈ depsOf ops i ↔ ∃ e ∈ o.after, Region.binds .any e = true ∧ e.on = z := by
  simp only [depsOf, ho, List.mem_map, List.mem_filter, Array.mem_toList_iff, and_assoc]

theorem binds_any {md : Region.Mode} {e : Edge} (h : Region.binds .any e = true) : Region.binds md e = true := by
  obtain ⟨on, ground⟩ := e
  cases ground <;> first | rfl | (exfalso; revert h; simp [Region.binds])
def upM (md : Region.Mode) (ops : Array Oper) : Bool :=
  (List.range ops.size).all fun i => match ops[i]? with
    | some o => o.after.toList.all fun e => !Region.binds md e || (Nat.blt e.on ops.size && Nat.blt ((Region.linearise md ops 0).idxOf e.on) ((Region.linearise md ops 0).idxOf i))
    | none => true

theorem sched_go (md : Region.Mode) (r : Nat → Nat) (hup : ∀ i o e, ops[i]? = some o → e ∈ o.after → Region.binds md e = true → e.on < ops.size ∧ r e.on < r i) : ∀ (fuel t : Nat) (listed : Array Bool) (E : List Nat), listed.size = ops.size → (∀ z, listed.getD z false = true ↔ z ∈ E) → (unl ops listed).length ≤ fuel →
    (Region.linearise.go md ops fuel t listed []).Perm (unl ops listed) ∧ Lin ops E (Region.linearise.go md ops fuel t listed []) := by
  intro fuel
  induction fuel with
  | zero =>
    intro t listed E _ _ hl
    have : unl ops listed = [] := List.eq_nil_of_length_eq_zero (by omega)
    simp [Region.linearise.go, this, Lin]
  | succ fuel ih =>
    intro t listed E hs hE hl
    simp only [Region.linearise.go]
    change List.Perm (match (Region.ready md ops listed)[t % (Region.ready md ops listed).length]? with
      | some i => Region.linearise.go md ops fuel (t / (Region.ready md ops listed).length) (listed.setIfInBounds i true) [i]
      | none => [].reverse) _ ∧ Lin ops E (match (Region.ready md ops listed)[t % (Region.ready md ops listed).length]? with
      | some i => Region.linearise.go md ops fuel (t / (Region.ready md ops listed).length) (listed.setIfInBounds i true) [i]
      | none => [].reverse)
    cases hi : (Region.ready md ops listed)[t % (Region.ready md ops listed).length]? with
    | none =>
      have hnil : Region.ready md ops listed = [] := by
        cases hr : Region.ready md ops listed with
        | nil => rfl
        | cons x xs =>
          rw [hr] at hi
          have hlt : t % (x :: xs).length < (x :: xs).length := Nat.mod_lt _ (by simp)
          simp at hi
          simp at hlt
          omega
      have hu : unl ops listed = [] := by
        -- the least that is not listed would be ready
        refine Classical.byContradiction fun hne => ?_
        have key : ∀ m i, r i < m → i ∉ unl ops listed := by
          intro m
          induction m with
          | zero => intro i h; omega
          | succ m ihm =>
            intro i him hmem
            have hin := mem_unl.1 hmem
            obtain ⟨o, ho⟩ : ∃ o, ops[i]? = some o := ⟨ops[i]'hin.1, by simp [hin.1]⟩
            have : i ∈ Region.ready md ops listed := by
              refine mem_ready.2 ⟨hin.2, o, ho, fun e he hb => ?_⟩
              obtain ⟨hsz, hlt⟩ := hup i o e ho he hb
              have hnot := ihm e.on (by omega)
              rw [mem_unl] at hnot
              have hsz2 : e.on < listed.size := by omega
              have : ¬ listed.getD e.on true = false := fun hf => hnot ⟨hsz, hf⟩
              simp [hsz2] at this ⊢
              exact this
            rw [hnil] at this
            cases this
        obtain ⟨i, hi⟩ := List.exists_mem_of_ne_nil _ hne
        exact key (r i + 1) i (by omega) hi
      simp [hu, Lin]
    | some i =>
      simp only []
      have hr : i ∈ Region.ready md ops listed := List.mem_of_getElem? hi
      obtain ⟨hun, o, ho, hall⟩ := mem_ready.1 hr
      have hmem : i ∈ unl ops listed := mem_unl.2 ⟨(Array.getElem?_eq_some_iff.1 ho).1, hun⟩
      have hperm := unl_set hs hmem
      have hlen := hperm.length_eq
      have hE2 : ∀ z, (listed.setIfInBounds i true).getD z false = true ↔ z ∈ i :: E := by
        intro z
        by_cases hz : i = z
        · subst hz
          have : i < listed.size := by rw [hs]; exact (Array.getElem?_eq_some_iff.1 ho).1
          simp [this]
        · rw [getD_set_ne false hz, hE, List.mem_cons]
          constructor
          · exact .inr
          · rintro (h | h)
            · exact absurd h.symm hz
            · exact h
      obtain ⟨hp, hlin⟩ := ih (t / (Region.ready md ops listed).length) (listed.setIfInBounds i true) (i :: E) (by simp [hs]) hE2 (by simp at hlen; omega)
      rw [linearise_go_acc, List.reverse_singleton, List.singleton_append]
      refine ⟨(hp.cons i).trans hperm, fun z hz => ?_, hlin⟩
      obtain ⟨e, he, hb, rfl⟩ := (depsOf_spec ho z).1 hz
      exact (hE _).1 (hall e he (binds_any hb))

theorem sched_md (md : Region.Mode) (r : Nat → Nat) (hup : ∀ i o e, ops[i]? = some o → e ∈ o.after → Region.binds md e = true → e.on < ops.size ∧ r e.on < r i) (t : Nat) :
    (Region.linearise md ops t).Perm (List.range ops.size) ∧ Lin ops [] (Region.linearise md ops t) := by
  have h := sched_go (ops := ops) md r hup ops.size t (Array.replicate ops.size false) [] (by simp) (by intro z; by_cases hz : z < ops.size <;> simp [hz]) (by
    unfold unl
    exact Nat.le_trans (List.length_filter_le _ _) (by simp))
  have hu : unl ops (Array.replicate ops.size false) = List.range ops.size := by
    unfold unl
    rw [List.filter_eq_self]
    intro i hi
    simp at hi
    simp [hi]
  rw [hu] at h
  exact h
theorem upB_spec (hup : upB ops = true) : ∀ i o e, ops[i]? = some o → e ∈ o.after → Region.binds .any e = true → e.on < ops.size ∧ e.on < i := by
  intro i o e ho he hb
  have hi : i < ops.size := (Array.getElem?_eq_some_iff.1 ho).1
  have hz : e.on ∈ depsOf ops i := (depsOf_spec ho e.on).2 ⟨e, he, hb, rfl⟩
  have h1 := List.all_eq_true.1 (List.all_eq_true.1 hup i (List.mem_range.2 hi)) _ hz
  have h2 : e.on < i := by simpa using h1
  exact ⟨by omega, h2⟩
theorem upM_spec {md : Region.Mode} (hup : upM md ops = true) : ∀ i o e, ops[i]? = some o → e ∈ o.after → Region.binds md e = true → e.on < ops.size ∧ (Region.linearise md ops 0).idxOf e.on < (Region.linearise md ops 0).idxOf i := by
  intro i o e ho he hb
  have hi : i < ops.size := (Array.getElem?_eq_some_iff.1 ho).1
  have h1 := List.all_eq_true.1 hup i (List.mem_range.2 hi)
  simp only [ho] at h1
  have h2 := List.all_eq_true.1 h1 e (by simpa using he)
  simpa [hb] using h2
/-- Every order that may be drawn. -/
theorem sched_all {mixed : Bool} (hd : (!Region.departs ops || (upM .text ops && upM .gc ops)) = true) (hup : upB ops = true) (t : Nat) :
    (Region.schedule mixed ops t).Perm (List.range ops.size) ∧ Lin ops [] (Region.schedule mixed ops t) := by
  unfold Region.schedule
  split
  · exact sched_md .any id (upB_spec hup) t
  · rename_i hm
    have hdp : Region.departs ops = true := by
      cases hx : Region.departs ops with
      | true => rfl
      | false => simp [hx] at hm
    simp only [hdp, Bool.not_true, Bool.false_or, Bool.and_eq_true] at hd
    split
    · exact sched_md .text (fun z => (Region.linearise .text ops 0).idxOf z) (upM_spec hd.1) _
    · exact sched_md .gc (fun z => (Region.linearise .gc ops 0).idxOf z) (upM_spec hd.2) _

/-! ### The rule -/
/-- The operations that may be taken for looks. -/
def valOp : Op → Bool
  | .move _ | .assign _ | .pick .. | .load .. | .nilCheck _ | .binOp .. | .unOp .. | .convert .. | .makeFunc .. | .slice .. | .fieldAddr .. | .field .. | .indexAddr .. | .index .. | .lookup .. | .extract .. | .build .. => true
  | .call { callee := .builtin .len, .. } | .call { callee := .builtin .cap, .. } | .call { callee := .builtin .min, .. } | .call { callee := .builtin .max, .. } => true
  | _ => false

def drawOk (ops : Array Oper) (ds : List Di) : Bool :=
  (!Region.departs ops || (upM .text ops && upM .gc ops)) && upB ops && Region.noSelect ops && pairB ops ds && (ds.map (·.i)).isPerm (List.range ops.size) &&
  ds.all fun d => !d.mv || (match ops[d.i]? with | some o => valOp o.op | none => false)

def dsem (P : Program) (ops : Array Oper) : List Di → List (Nat × (Heap → Prop)) → (L → Base → Heap → Prop) → L → Base → Heap → Prop
  | [], _, K, l, b, h => K l b h
  | d :: ds, pend, K, l, b, h =>
    match ops[d.i]? with
    | none => False
    | some o =>
      if guardB o ops l b = true then
        if d.mv = true then ∃ v, osem P o l b h (fun v' h' => v' = v ∧ h' = h) ∧
          dsem P ops ds ((d.i, fun h' => osem P o l b h' (fun v' h'' => v' = v ∧ h'' = h')) :: pend) K (putl o.dst v l) b h
        else osem P o l b h (fun v h' => (∀ p ∈ pend, p.1 ∈ d.chk → p.2 h') ∧ dsem P ops ds pend K (putl o.dst v l) b h')
      else dsem P ops ds pend K (putl o.dst undef l) b h

theorem valOp_rd {o : Oper} {ρ : Operand → Value} {v : Value} {h : Heap} (hv : valOp o.op = true)
    (hh : hp P (execOp ρ o) (nextK P (fun v' h' => v' = v ∧ h' = h)) h) : Rd P (execOp ρ o) v h := by
  obtain ⟨dst, op, type, pos, after, guard⟩ := o
  unfold Rd
  cases op
  case call c =>
    obtain ⟨cal, args, ats⟩ := c
    cases cal
    case builtin bi =>
      cases bi <;> simp only [valOp, Bool.false_eq_true] at hv <;>
        simp only [execOp, resolve, invoke, builtin, hp_bind, hp_pure] at hh ⊢ <;>
        exact hp_mono _ hh fun x h' hx => by simpa [nextK] using hx
    all_goals simp [valOp] at hv
  case nilCheck x =>
    simp only [execOp] at hh ⊢
    split at hh
    · simp [runtimePanic] at hh
    · simp [runtimePanic] at hh
    · simp [runtimePanic] at hh
    · split at hh
      · simp [runtimePanic] at hh
      · simp only [hp_bind, hp_program] at hh ⊢
        refine hp_mono _ hh fun x h' hx => ?_
        split at hx
        · simp at hx
        · rename_i hne
          simp only [hp_pure, nextK] at hx
          simp only [hne]
          simpa using hx
      · simpa [nextK] using hh
    · simpa [nextK] using hh
  all_goals first
    | (simp [valOp] at hv; done)
    | (simp only [execOp, hp_bind, hp_pure] at hh ⊢; exact hp_mono _ hh fun x h' hx => by simpa [nextK] using hx)
    | (simp only [execOp, hp_pure, nextK] at hh ⊢; exact ⟨by rw [hh.1], hh.2⟩)

theorem crun_of_dsem {n : Nat} {b : Base} (hok : opsOk n ops = true) {K : L → Base → Heap → Prop} : ∀ (ds : List Di) {pl : List (Nat × (Heap → Prop))} {pa : Pend} {a : Act} {l : L} {h : Heap},
    ds.all (fun d => !d.mv || (match ops[d.i]? with | some o => valOp o.op | none => false)) = true →
    (∀ p ∈ pa, ∃ q ∈ pl, q.1 = p.1 ∧ ∀ h', q.2 h' → Rd P p.2.1 p.2.2 h') → IsFr n a l b → dsem P ops ds pl K l b h →
    crun P ops ds pa (fun a' h' => ∃ l', IsFr n a' l' b ∧ K l' b h') a h := by
  intro ds
  induction ds with
  | nil => exact fun _ _ hfr hd => ⟨_, hfr, hd⟩
  | cons d ds ih =>
    intro pl pa a l h hv hp hfr hd
    simp only [List.all_cons, Bool.and_eq_true] at hv
    simp only [dsem] at hd
    simp only [crun]
    cases ho : ops[d.i]? with
    | none => simp [ho] at hd
    | some o =>
      simp only [ho] at hd ⊢
      have hw : wanted ops o a = guardB o ops l b := by unfold wanted; rw [gval_eq hfr]; rfl
      rw [hw]
      by_cases hg : guardB o ops l b = true
      · rw [if_pos hg] at hd ⊢
        by_cases hm : d.mv = true
        · rw [if_pos hm] at hd ⊢
          obtain ⟨v, hr, hd⟩ := hd
          have hvo : valOp o.op = true := by simpa [hm, ho] using hv.1
          refine ⟨v, by rw [hfr.eval]; exact valOp_rd hvo hr, ih hv.2 (fun p hpp => ?_) (hfr.put (opsOk_spec hok ho) v) hd⟩
          rcases List.mem_cons.1 hpp with rfl | hpp
          · exact ⟨_, List.mem_cons_self .., rfl, fun h' hh => by rw [hfr.eval]; exact valOp_rd hvo hh⟩
          · obtain ⟨q, hq, h1, h2⟩ := hp p hpp
            exact ⟨q, List.mem_cons_of_mem _ hq, h1, h2⟩
        · rw [if_neg hm] at hd ⊢
          rw [hfr.eval]
          refine hp_mono _ hd fun x h' hx => nextK_mono (fun v h'' hh => ⟨fun p hpp hch => ?_, ih hv.2 hp (hfr.put (opsOk_spec hok ho) v) hh.2⟩) x h' hx
          obtain ⟨q, hq, h1, h2⟩ := hp p hpp
          exact h2 _ (hh.1 q hq (by rw [h1]; exact hch))
      · rw [if_neg hg] at hd ⊢
        exact ih hv.2 hp (hfr.put (opsOk_spec hok ho) undef) hd

theorem steps_arun {n : Nat} {d : List Nat} (hok : opsOk n ops = true) {fr : Frame} {k : List Item} {cs : List Frame} {K : Act → Heap → Prop} : ∀ (σ : List Nat) {a : Act} {w : World},
    a.tmps.size = n → a.defers = d.map markOf → arun P ops σ K a w.heap → ∃ a' w', Same w w' ∧ K a' w'.heap ∧ Steps P (lone (fr.atR a (.inRegion ops σ :: k)) cs w) (lone (fr.atR a' k) cs w') := by
  intro σ
  induction σ with
  | nil => exact fun _ _ h => ⟨_, _, .refl _, h, .one stepR_region_end⟩
  | cons i σ ih =>
    intro a w hsz hd h
    have hfr : IsFr n a [] ⟨fun t => a.tmps.getD t undef, d⟩ := ⟨hsz, fun _ => rfl, hd⟩
    simp only [arun] at h
    cases ho : ops[i]? with
    | none => simp [ho] at h
    | some o =>
      simp only [ho] at h
      have hw : wanted ops o a = guardB o ops [] ⟨fun t => a.tmps.getD t undef, d⟩ := by unfold wanted; rw [gval_eq hfr]; rfl
      rw [hw] at h
      by_cases hg : guardB o ops [] ⟨fun t => a.tmps.getD t undef, d⟩ = true
      · rw [if_pos hg, hfr.eval] at h
        obtain ⟨v, w', hs, hk, hst⟩ := step_osem (fr := fr) (k := k) (cs := cs) (rest := σ) ho hfr hg h
        have hfr' := hfr.put (opsOk_spec hok ho) v
        obtain ⟨a', w'', hs', hk', hst'⟩ := ih hfr'.size hfr'.defers hk
        exact ⟨a', w'', hs.trans hs', hk', hst.trans hst'⟩
      · rw [if_neg hg] at h
        have hfr' := hfr.put (opsOk_spec hok ho) undef
        obtain ⟨a', w'', hs', hk', hst'⟩ := ih hfr'.size hfr'.defers h
        exact ⟨a', w'', hs', hk', (step_skipped ho hfr hg).trans hst'⟩

theorem draw_rule {n : Nat} {ro : Option Nat} {id : Nat} {κ : Kont} {l : L} {b : Base} {h : Heap} (ds : List Di) (hd : drawOk ops ds = true) (hok : opsOk n ops = true)
    (hc : dsem P ops ds [] κ.nx l b h) : gsem P n ro (.region id ops true) κ l b h := by
  intro a w hw hfr fr k cs hkd hro
  subst hw
  unfold drawOk at hd
  rw [Bool.and_eq_true, Bool.and_eq_true, Bool.and_eq_true, Bool.and_eq_true, Bool.and_eq_true] at hd
  obtain ⟨⟨⟨⟨⟨hdep, hup⟩, hsel⟩, hpair⟩, hperm⟩, hval⟩ := hd
  have hperm := List.isPerm_iff.1 hperm
  have hcr := crun_of_dsem (P := P) hok ds (pa := []) hval (by simp) hfr hc
  let t := w.tape w.drawn (.order fr.fn id)
  obtain ⟨hp1, hlin⟩ := sched_all (mixed := P.follows .mixedOrders) hdep hup t
  have har : arun P ops (Region.schedule (P.follows .mixedOrders) ops t) (fun a' h' => ∃ l', IsFr n a' l' b ∧ κ.nx l' b h') a w.heap := by
    refine arun_of_crun hsel _ ds [] [] a _ (hp1.trans hperm.symm) (hp1.symm.nodup List.nodup_range) (fun d hd => ?_) (fun y hy => by cases hy) hlin (fun d _ => by simp) hpair hcr
    have : d.i ∈ List.range ops.size := hperm.subset (List.mem_map.2 ⟨d, hd, rfl⟩)
    simp at this
    simp [this]
  obtain ⟨a', w', hs, ⟨l', hfr', hk⟩, hst⟩ := steps_arun (P := P) (d := b.d) (fr := fr) (k := k) (cs := cs) hok _ (w := { w with drawn := w.drawn + 1 }) hfr.size hfr.defers har
  exact ⟨.nx, a', w', l', b, ⟨hs.os, hs.tape, hs.output, (by first | exact hs.drawn | exact Nat.le_trans (Nat.le_succ _) hs.drawn)⟩, hfr', hk, .head stepR_region_draw hst⟩
end
end Go.HC

/-
  HC, part 5: what each operation comes to; equations for simp.
-/
namespace Go.HC

/-- A mark beside what comes next: simp (without dsimp) does not go into what a mark's type names. -/
structure Tag {α : Type} (a : α) : Type
def cs (P : Program) (n : Nat) (ro : Option Nat) (c : Code) (κ : Kont) (l : L) (b : Base) (h : Heap) (_t : Tag κ := ⟨⟩) : Prop := csem P n ro c κ l b h
def gs (P : Program) (n : Nat) (ro : Option Nat) (c : Code) (κ : Kont) (l : L) (b : Base) (h : Heap) (_t : Tag κ := ⟨⟩) : Prop := gsem P n ro c κ l b h
def rs (P : Program) (ops : Array Oper) (lo : List Oper) (K : L → Base → Heap → Prop) (l : L) (b : Base) (h : Heap) (_t : Tag K := ⟨⟩) : Prop := rsem P ops lo K l b h
def os (P : Program) (o : Oper) (l : L) (b : Base) (h : Heap) (K : Value → Heap → Prop) (_t : Tag K := ⟨⟩) : Prop := osem P o l b h K

/-! ### Types, as the loaded program tells them -/
def aggD : TypeDesc → Bool
  | .struct _ | .array _ _ => true
  | _ => false
/-- Is a variable of this type made of several cells? -/
def aggS (P : Program) (t : TypeId) : Option Bool := (P.underlying t).map aggD
/-- How many cells. -/
def szS (P : Program) (t : TypeId) : Option Nat := (P.info? t).map (·.size)
/-- How many bytes. -/
def byS (P : Program) (t : TypeId) : Option Nat := (P.info? t).map (·.bytes)
/-- The zero value. -/
def zS (P : Program) (t : TypeId) : Option Value := (P.info? t).bind (·.zero)
/-- A struct type's field: where it begins, how many cells it has, whether it is made of several, its type. -/
def fldS (P : Program) (s : TypeId) (f : Nat) : Option (Nat × Nat × Bool) :=
  match P.underlying s with
  | some (.struct fs) => (fs[f]?).bind fun x => (P.info? x.type).bind fun i => (P.underlying x.type).map fun d => (x.offset, i.size, aggD d)
  | _ => none
/-- The element type of a slice type. -/
def elS (P : Program) (t : TypeId) : Option TypeId :=
  match P.underlying t with
  | some (.slice e) => some e
  | _ => none

section
variable {P : Program}
theorem hp_isAgg (t : TypeId) (K : Bool → Heap → Prop) (h : Heap) : hp P (isAgg t) K h = (match aggS P t with | some d => K d h | none => False) := by
  unfold isAgg aggS
  simp only [hp_bind, hp_underlying]
  cases P.underlying t with
  | none => rfl
  | some d => cases d <;> rfl
theorem hp_sizeOf (t : TypeId) (K : Nat → Heap → Prop) (h : Heap) : hp P (sizeOf t) K h = (match szS P t with | some i => K i h | none => False) := by
  unfold sizeOf szS
  simp only [hp_bind, hp_typeInfo]
  cases P.info? t <;> rfl
theorem hp_zeroValue (t : TypeId) (K : Value → Heap → Prop) (h : Heap) : hp P (zeroValue t) K h = (match zS P t with | some z => K z h | none => False) := by
  unfold zeroValue zS
  simp only [hp_bind, hp_typeInfo]
  cases P.info? t with
  | none => rfl
  | some i => cases hz : i.zero <;> simp [hz]
end

/-! ### Small control words -/
/-- A value that simp works out ahead of what follows. -/
def forceV (v : Value) (K : Value → Prop) (_t : Tag K := ⟨⟩) : Prop := K v
def optS {α : Type} (o : Option α) (K : α → Prop) (_t : Tag K := ⟨⟩) : Prop :=
  match o with
  | some a => K a
  | none => False
def iteB (t : Bool) (A B : Prop) (_a : Tag A := ⟨⟩) (_b : Tag B := ⟨⟩) : Prop := if t = true then A else B
@[simp] theorem forceV_eq (v : Value) (K : Value → Prop) : forceV v K = K v := _root_.id rfl
@[simp] theorem optS_some {α : Type} (a : α) (K : α → Prop) : optS (some a) K = K a := _root_.id rfl
@[simp] theorem iteB_true (A B : Prop) : iteB true A B = A := by simp [iteB]
@[simp] theorem iteB_false (A B : Prop) : iteB false A B = B := by simp [iteB]
@[congr] theorem forceV_congr {v v' : Value} {K : Value → Prop} (h : v = v') : forceV v K = forceV v' K := by rw [h]
@[congr] theorem optS_congr {α : Type} {o o' : Option α} {K : α → Prop} (h : o = o') : optS o K = optS o' K := by rw [h]
@[congr] theorem iteB_congr {t t' : Bool} {A B : Prop} (h : t = t') : iteB t A B = iteB t' A B := by rw [h]
/-- The same as 'condS', marked. -/
def cnd (v : Value) (A B : Prop) (_a : Tag A := ⟨⟩) (_b : Tag B := ⟨⟩) : Prop := condS v A B
@[congr] theorem cnd_congr {v v' : Value} {A B : Prop} (h : v = v') : cnd v A B = cnd v' A B := by rw [h]
@[simp] theorem cnd_bool (t : Bool) (A B : Prop) : cnd (.bool t) A B = iteB t A B := _root_.id rfl

/-! ### Frames -/
@[simp] theorem look_cons (k : Nat) (v : Value) (l : L) (b : Base) (t : Nat) : look ((k, v) :: l) b t = if k = t then v else look l b t := _root_.id rfl
@[simp] theorem ev_tmp (l : L) (b : Base) (t : Nat) : ev l b (.tmp t) = look l b t := _root_.id rfl
@[simp] theorem ev_const (l : L) (b : Base) (v : Value) : ev l b (.const v) = v := _root_.id rfl
@[simp] theorem ev_func (l : L) (b : Base) (f : Nat) : ev l b (.func f) = .func (.func f) #[] #[] := _root_.id rfl
@[simp] theorem putl_some (d : Nat) (v : Value) (l : L) : putl (some d) v l = (d, v) :: l := _root_.id rfl
@[simp] theorem putl_none (v : Value) (l : L) : putl none v l = l := _root_.id rfl
@[simp] theorem argL_nil (i : Nat) : argL i [] = [] := _root_.id rfl
@[simp] theorem argL_cons (i : Nat) (v : Value) (vs : List Value) : argL i (v :: vs) = (i, v) :: argL (i + 1) vs := _root_.id rfl

/-! ### Code -/
section
variable {P : Program} {n : Nat} {ro : Option Nat} {κ : Kont} {l : L} {b : Base} {h : Heap}
@[simp] theorem csem_skip : cs P n ro .skip κ l b h = κ.nx l b h := _root_.id rfl
@[simp] theorem csem_label (t : Nat) : cs P n ro (.label t) κ l b h = κ.nx l b h := _root_.id rfl
@[simp] theorem csem_seq (x y : Code) : cs P n ro (.seq x y) κ l b h = cs P n ro x { κ with nx := fun l b h => cs P n ro y κ l b h } l b h := _root_.id rfl
@[simp] theorem csem_cond (c : Operand) (x y : Code) : cs P n ro (.cond c x y) κ l b h = cnd (ev l b c) (cs P n ro x κ l b h) (cs P n ro y κ l b h) := _root_.id rfl
@[simp] theorem csem_block (id : Nat) (c : Code) : cs P n ro (.block id c) κ l b h =
    cs P n ro c { κ with ex := fun j l b h => if j = id then κ.nx l b h else κ.ex j l b h } l b h := _root_.id rfl
@[simp] theorem csem_region (id : Nat) (ops : Array Oper) : cs P n ro (.region id ops false) κ l b h = rs P ops ops.toList κ.nx l b h := _root_.id rfl
@[simp] theorem csem_drawn (id : Nat) (ops : Array Oper) : cs P n ro (.region id ops true) κ l b h = gs P n ro (.region id ops true) κ l b h := _root_.id rfl
@[simp] theorem csem_ret : cs P n ro .ret κ l b h = κ.rt l b h := _root_.id rfl
@[simp] theorem csem_exit (id : Nat) : cs P n ro (.exit id) κ l b h = κ.ex id l b h := _root_.id rfl
@[simp] theorem csem_goto (t : Nat) : cs P n ro (.goto t) κ l b h = κ.gt t l b h := _root_.id rfl
@[simp] theorem csem_loop (c : Code) : cs P n ro (.loop c) κ l b h = gs P n ro (.loop c) κ l b h := _root_.id rfl
@[simp] theorem csem_scope (c : Code) : cs P n ro (.scope c) κ l b h = gs P n ro (.scope c) κ l b h := _root_.id rfl
@[simp] theorem csem_rangeFunc (f : Operand) (ps : Array Tmp) (x y : Code) : cs P n ro (.rangeFunc f ps x y) κ l b h = gs P n ro (.rangeFunc f ps x y) κ l b h := _root_.id rfl

@[simp] theorem rsem_ops (ops : Array Oper) (lo : List Oper) (K : L → Base → Heap → Prop) : rs P ops lo.toArray.toList K l b h = rs P ops lo K l b h := _root_.id rfl
@[simp] theorem rsem_nil (ops : Array Oper) (K : L → Base → Heap → Prop) : rs P ops [] K l b h = K l b h := _root_.id rfl
@[simp] theorem rsem_plain (ops : Array Oper) (dst : Option Tmp) (op : Op) (ty : TypeId) (pos : String) (aft : Array Edge) (lo : List Oper) (K : L → Base → Heap → Prop) :
    rs P ops (⟨dst, op, ty, pos, aft, none⟩ :: lo) K l b h = os P ⟨dst, op, ty, pos, aft, none⟩ l b h (fun v h' => rs P ops lo K (putl dst v l) b h') := by
  simp only [rs, os, rsem, guardB, if_true]
/-- A guarded operation. -/
def guardS (g : Option Bool) (want : Bool) (A B : Prop) (_a : Tag A := ⟨⟩) (_b : Tag B := ⟨⟩) : Prop := if (g == some want) = true then A else B
@[congr] theorem guardS_congr {g g' : Option Bool} {want : Bool} {A B : Prop} (h : g = g') : guardS g want A B = guardS g' want A B := by rw [h]
@[simp] theorem guardS_some (t want : Bool) (A B : Prop) : guardS (some t) want A B = iteB (t == want) A B := by
  simp only [guardS, iteB]; rfl
@[simp] theorem guardS_none (want : Bool) (A B : Prop) : guardS none want A B = B := by simp [guardS]
@[simp] theorem rsem_guard (ops : Array Oper) (dst : Option Tmp) (op : Op) (ty : TypeId) (pos : String) (aft : Array Edge) (j : Nat) (want : Bool) (lo : List Oper) (K : L → Base → Heap → Prop) :
    rs P ops (⟨dst, op, ty, pos, aft, some (j, want)⟩ :: lo) K l b h =
      guardS (gval ops l b j) want (os P ⟨dst, op, ty, pos, aft, some (j, want)⟩ l b h (fun v h' => rs P ops lo K (putl dst v l) b h')) (rs P ops lo K (putl dst undef l) b h) := by
  simp only [rs, os, rsem, guardB, guardS]; rfl
def boolOf : Value → Option Bool
  | .bool t => some t
  | _ => none
@[simp] theorem boolOf_bool (t : Bool) : boolOf (.bool t) = some t := _root_.id rfl
@[simp] theorem boolOf_undef : boolOf undef = none := _root_.id rfl
theorem gval_def (ops : Array Oper) (j : Nat) : gval ops l b j = ((ops[j]?).bind (·.dst)).bind (fun d => boolOf (look l b d)) := by
  unfold gval
  cases (ops[j]?).bind (·.dst) with
  | none => rfl
  | some d => simp only [Option.bind_some]; cases look l b d <;> rfl
end

/-! ### Operations -/
section
variable {P : Program} {l : L} {b : Base} {h : Heap} {K : Value → Heap → Prop} {dst : Option Tmp} {ty : TypeId} {pos : String} {aft : Array Edge} {g : Option (Nat × Bool)}

@[simp] theorem osem_move (x : Operand) : os P ⟨dst, .move x, ty, pos, aft, g⟩ l b h K = forceV (ev l b x) (K · h) := _root_.id rfl
@[simp] theorem osem_assign (x : Operand) : os P ⟨dst, .assign x, ty, pos, aft, g⟩ l b h K = forceV (ev l b x) (K · h) := _root_.id rfl

def pickS (c a b : Value) (K : Value → Prop) (_t : Tag K := ⟨⟩) : Prop := match c with | .bool t => iteB t (K a) (K b) | _ => False
@[congr] theorem pickS_congr {c c' a a' b b' : Value} {K : Value → Prop} (hc : c = c') (ha : a = a') (hb : b = b') : pickS c a b K = pickS c' a' b' K := by rw [hc, ha, hb]
@[simp] theorem pickS_bool (t : Bool) (a b : Value) (K : Value → Prop) : pickS (.bool t) a b K = iteB t (K a) (K b) := _root_.id rfl
@[simp] theorem osem_pick (c x y : Operand) : os P ⟨dst, .pick c x y, ty, pos, aft, g⟩ l b h K = pickS (ev l b c) (ev l b x) (ev l b y) (K · h) := by
  unfold os osem execOp pickS
  simp only [hp_bind]
  cases ev l b c <;> simp [asBool, nextK, iteB]
  split <;> rfl

def allocS (P : Program) (T : TypeId) (h : Heap) (K : Value → Heap → Prop) (_t : Tag K := ⟨⟩) : Prop := hp P (Instr.alloc T true (.tuple #[])) K h
@[simp] theorem osem_alloc (T : TypeId) : os P ⟨dst, .alloc T, ty, pos, aft, g⟩ l b h K = allocS P T h K := by
  unfold os osem execOp allocS; simp only [hp_bind, hp_pure]; rfl
@[simp] theorem allocS_eq (T : TypeId) : allocS P T h K = optS (zS P T) (fun z => K (.pointer (some ⟨h.size, 0, none⟩)) (h.push (.cells z.cells T))) := by
  unfold allocS Instr.alloc
  simp only [hp_bind, hp_zeroValue, optS]
  cases zS P T <;> simp [newVar, newRow]

def boxS (P : Program) (T : TypeId) (v : Value) (h : Heap) (K : Value → Heap → Prop) (_t : Tag K := ⟨⟩) : Prop := hp P (Instr.box T v) K h
@[congr] theorem boxS_congr {T : TypeId} {v v' : Value} {h : Heap} {K : Value → Heap → Prop} (hv : v = v') : boxS P T v h K = boxS P T v' h K := by rw [hv]
@[simp] theorem osem_box (T : TypeId) (x : Operand) : os P ⟨dst, .box T x, ty, pos, aft, g⟩ l b h K = boxS P T (ev l b x) h K := by
  unfold os osem execOp boxS; simp only [hp_bind, hp_pure]; rfl
theorem boxS_eq (T : TypeId) (v : Value) : boxS P T v h K = K (.pointer (some ⟨h.size, 0, none⟩)) (h.push (.cells v.cells T)) := by
  unfold boxS Instr.box; simp [newVar, newRow]

def nilS (v : Value) (K : Value → Prop) (_t : Tag K := ⟨⟩) : Prop :=
  match v with
  | .pointer (some a) => K (.pointer (some a))
  | .func (.func f) x y => K (.func (.func f) x y)
  | .func (.yield f) x y => K (.func (.yield f) x y)
  | _ => False
@[congr] theorem nilS_congr {v v' : Value} {K : Value → Prop} (hv : v = v') : nilS v K = nilS v' K := by rw [hv]
@[simp] theorem nilS_ptr (a : Addr) (K : Value → Prop) : nilS (.pointer (some a)) K = K (.pointer (some a)) := _root_.id rfl
@[simp] theorem nilS_func (f : Nat) (x y : Array Value) (K : Value → Prop) : nilS (.func (.func f) x y) K = K (.func (.func f) x y) := _root_.id rfl
@[simp] theorem nilS_yield (f : Nat) (x y : Array Value) (K : Value → Prop) : nilS (.func (.yield f) x y) K = K (.func (.yield f) x y) := _root_.id rfl

def binS (P : Program) (op : BinOp) (T : TypeId) (x y : Operand) (v u : Value) (h : Heap) (K : Value → Heap → Prop) (_t : Tag K := ⟨⟩) : Prop := hp P (do eqGuard op T x y v u; binOp op T v u) K h
@[congr] theorem binS_congr {op : BinOp} {T : TypeId} {x y : Operand} {v v' u u' : Value} {h : Heap} {K : Value → Heap → Prop} (hv : v = v') (hu : u = u') : binS P op T x y v u h K = binS P op T x y v' u' h K := by rw [hv, hu]
@[simp] theorem osem_bin (op : BinOp) (T T2 : TypeId) (x y : Operand) : os P ⟨dst, .binOp op T x y T2, ty, pos, aft, g⟩ l b h K = binS P op T x y (ev l b x) (ev l b y) h K := by
  unfold os osem execOp binS; simp only [hp_bind, hp_pure]; rfl
def intRes (op : BinOp) (k : IntKind) (x y : Int) : Option Value :=
  match op with
  | .add => some (.int k (k.wrap (x + y)))
  | .sub => some (.int k (k.wrap (x - y)))
  | .mul => some (.int k (k.wrap (x * y)))
  | .eql => some (.bool (x == y))
  | .neq => some (.bool (x != y))
  | .lss => some (.bool (x < y))
  | .leq => some (.bool (x ≤ y))
  | .gtr => some (.bool (x > y))
  | .geq => some (.bool (x ≥ y))
  | .quo => if y = 0 then none else some (.int k (k.wrap (x.tdiv y)))
  | .rem => if y = 0 then none else some (.int k (x.tmod y))
  | .and => some (.int k (k.wrap ((BitVec.ofInt k.bits x &&& BitVec.ofInt k.bits y).toNat)))
  | .or => some (.int k (k.wrap ((BitVec.ofInt k.bits x ||| BitVec.ofInt k.bits y).toNat)))
  | .xor => some (.int k (k.wrap ((BitVec.ofInt k.bits x ^^^ BitVec.ofInt k.bits y).toNat)))
  | .andNot => some (.int k (k.wrap ((BitVec.ofInt k.bits x &&& ~~~ BitVec.ofInt k.bits y).toNat)))
  | .shl => if y < 0 then none else some (.int k (k.wrap (x * 2 ^ (min y.toNat k.bits))))
  | .shr => if y < 0 then none else some (.int k (x.fdiv (2 ^ (min y.toNat k.bits))))
def isShift : BinOp → Bool
  | .shl | .shr => true
  | _ => false
theorem binS_int {op : BinOp} {T : TypeId} {x y : Operand} {k k' : IntKind} {m n : Int} (hk : isShift op = true ∨ k' = k) :
    binS P op T x y (.int k m) (.int k' n) h K = optS (intRes op k m n) (K · h) := by
  unfold binS
  have hg : ∀ K', hp P (eqGuard op T x y (.int k m) (.int k' n)) K' h = K' () h := by intro K'; unfold eqGuard; cases op <;> rfl
  simp only [hp_bind, hg]
  cases op <;> simp [isShift] at hk <;> (try subst hk) <;>
    simp only [binOp, Op.intArith, Op.intCmp, Op.intDiv, Op.intBits, Op.shift, intRes, optS, runtimePanic, ne_eq, not_true_eq_false, if_false, hp_pure] <;>
    (split <;> simp_all)
end
end Go.HC

/-
  HC, part 6: loads, stores, addresses, slices, calls.
-/
namespace Go.HC

section
variable {P : Program} {l : L} {b : Base} {h : Heap} {K : Value → Heap → Prop} {dst : Option Tmp} {ty : TypeId} {pos : String} {aft : Array Edge} {g : Option (Nat × Bool)}

/-! ### nil checks -/
def nilQ (P : Program) (v : Value) (h : Heap) (K : Value → Heap → Prop) (_t : Tag K := ⟨⟩) : Prop :=
  hp P (match v with
    | .pointer none | .nilIface | .nilFunc => runtimePanic .nilDeref
    | .func (.method name) first captured =>
      match (first[0]? : Option Value) with
      | some .nilIface => runtimePanic .nilDeref
      | some (.iface t w) => do
        if (← nilAhead ((← program).types.size + Made.depth) t w name) != some false then
          unsupported (.noEntry "op/nilCheck.the method's receiver behind this interface value is a nil pointer, or cannot be seen to be none, and the arguments act or may panic (ledger 612)")
        pure (.value (.func (.method name) first captured))
      | _ => pure (.value (.func (.method name) first captured))
    | x => pure (.value x)) (nextK P K) h
@[congr] theorem nilQ_congr {v v' : Value} (hv : v = v') : nilQ P v h K = nilQ P v' h K := by rw [hv]
@[simp] theorem osem_nilCheck (x : Operand) : os P ⟨dst, .nilCheck x, ty, pos, aft, g⟩ l b h K = nilQ P (ev l b x) h K := _root_.id rfl
@[simp] theorem nilQ_ptr (a : Addr) : nilQ P (.pointer (some a)) h K = K (.pointer (some a)) h := _root_.id rfl
@[simp] theorem nilQ_func (f : Nat) (x y : Array Value) : nilQ P (.func (.func f) x y) h K = K (.func (.func f) x y) h := _root_.id rfl
@[simp] theorem nilQ_yield (f : Nat) (x y : Array Value) : nilQ P (.func (.yield f) x y) h K = K (.func (.yield f) x y) h := _root_.id rfl

/-! ### one cell, several cells -/
/-- A cell of a block. -/
def cellIn (o : Option Obj) (i : Nat) : Option Value :=
  match o with
  | some (.cells c _ _) => c[i]?
  | _ => none
def cellsIn (o : Option Obj) (i n : Nat) : Option (List Value) :=
  match o with
  | some (.cells c _ _) => if i + n ≤ c.size then some ((c.toList.drop i).take n) else none
  | _ => none
@[simp] theorem cellIn_some (c : Array Value) (e : TypeId) (fz : Nat × Nat) (i : Nat) : cellIn (some (.cells c e fz)) i = c[i]? := _root_.id rfl
@[simp] theorem cellsIn_some (c : Array Value) (e : TypeId) (fz : Nat × Nat) (i n : Nat) : cellsIn (some (.cells c e fz)) i n = if i + n ≤ c.size then some ((c.toList.drop i).take n) else none := _root_.id rfl
theorem cellH_mk (h : Heap) (bk off : Nat) : cellH h ⟨bk, off, none⟩ = cellIn h[bk]? off := by
  unfold cellH cellIn
  cases h[bk]? with
  | none => rfl
  | some o => cases o <;> rfl

theorem add_mk (bk off n : Nat) : (⟨bk, off, none⟩ : Addr).add n = ⟨bk, off + n, none⟩ := by
  unfold Addr.add; split <;> simp_all

def cellsFrom (h : Heap) (a : Addr) : Nat → Nat → Option (List Value)
  | _, 0 => some []
  | i, n + 1 => (cellH h (a.add i)).bind fun v => (cellsFrom h a (i + 1) n).map (v :: ·)

theorem hp_loadCellsFrom (a : Addr) : ∀ (n i : Nat) (acc : Array Value) (K : Array Value → Heap → Prop) (h : Heap),
    hp P (loadCellsFrom a i n acc) K h = optS (cellsFrom h a i n) (fun cs => K (acc ++ cs.toArray) h)
  | 0, i, acc, K, h => by simp [loadCellsFrom, cellsFrom]
  | n + 1, i, acc, K, h => by
    simp only [loadCellsFrom, hp_bind, hp_load, cellsFrom]
    cases hc : cellH h (a.add i) with
    | none => rfl
    | some v =>
      simp only [Option.bind_some, hp_loadCellsFrom a n (i + 1) (acc.push v) K h]
      cases cellsFrom h a (i + 1) n with
      | none => rfl
      | some cs => simp

theorem cellsFrom_mk (h : Heap) (bk off : Nat) : ∀ (n i : Nat), n ≠ 0 → cellsFrom h ⟨bk, off, none⟩ i n = cellsIn h[bk]? (off + i) n
  | 0, i, hn => absurd rfl hn
  | n + 1, i, _ => by
    simp only [cellsFrom, add_mk, cellH_mk]
    cases hb : h[bk]? with
    | none => rfl
    | some o =>
      cases o with
      | cells c e fz =>
        simp only [cellIn_some, cellsIn_some]
        cases hc : c[off + i]? with
        | none =>
          have : c.size ≤ off + i := by simpa using hc
          rw [if_neg (by omega)]
          rfl
        | some v =>
          have hlt : off + i < c.size := (Array.getElem?_eq_some_iff.1 hc).1
          have hd : c.toList.drop (off + i) = v :: c.toList.drop (off + (i + 1)) := by
            rw [List.drop_eq_getElem_cons (by simpa using hlt)]
            have := (Array.getElem?_eq_some_iff.1 hc).2
            simp only [List.cons.injEq]
            exact ⟨by simpa using this, rfl⟩
          simp only [Option.bind_some]
          by_cases hn : n = 0
          · subst hn
            rw [if_pos (by omega), hd]
            simp [cellsFrom]
          · rw [cellsFrom_mk h bk off n (i + 1) hn, hb, cellsIn_some]
            by_cases hle : off + i + (n + 1) ≤ c.size
            · rw [if_pos hle, if_pos (by omega), hd]
              simp
            · rw [if_neg hle, if_neg (by omega)]
              rfl
      | _ => rfl

/-! ### load -/
def loadS (P : Program) (T : TypeId) (v : Value) (h : Heap) (K : Value → Heap → Prop) (_t : Tag K := ⟨⟩) : Prop := hp P (Instr.loadAt T v) K h
@[congr] theorem loadS_congr {T : TypeId} {v v' : Value} (hv : v = v') : loadS P T v h K = loadS P T v' h K := by rw [hv]
@[simp] theorem osem_load (T : TypeId) (x : Operand) : os P ⟨dst, .load T x, ty, pos, aft, g⟩ l b h K = loadS P T (ev l b x) h K := by
  unfold os osem execOp loadS; simp only [hp_bind, hp_pure]; rfl
/-- The value of a variable of this type at this place. -/
def valAt (P : Program) (T : TypeId) (h : Heap) (a : Addr) : Option Value :=
  match aggS P T with
  | some true => (match szS P T with | some n => (cellsFrom h a 0 n).map fun cs => .agg cs.toArray | none => none)
  | some false => cellH h a
  | none => none
@[simp] theorem loadS_ptr (T : TypeId) (a : Addr) : loadS P T (.pointer (some a)) h K = optS (valAt P T h a) (K · h) := by
  unfold loadS Instr.loadAt loadVar valAt
  simp only [hp_bind, Instr.sureAddr, hp_pure, hp_isAgg]
  cases aggS P T with
  | none => rfl
  | some t =>
    cases t with
    | true =>
      simp only [if_true, hp_bind, hp_sizeOf, loadCells]
      cases szS P T with
      | none => rfl
      | some n =>
        simp only [hp_loadCellsFrom, hp_pure]
        cases cellsFrom h a 0 n <;> simp [optS]
    | false => simp only [Bool.false_eq_true, if_false, hp_load, optS]; cases cellH h a <;> rfl
/-- The same, in a block that is looked up. -/
def valIn (agg : Option Bool) (sz : Option Nat) (o : Option Obj) (off : Nat) : Option Value :=
  match agg with
  | some true => (match sz with | some n => if n = 0 then some (.agg #[]) else (cellsIn o off n).map fun cs => .agg cs.toArray | none => none)
  | some false => cellIn o off
  | none => none
@[simp] theorem valAt_mk (T : TypeId) (h : Heap) (bk off : Nat) : valAt P T h ⟨bk, off, none⟩ = valIn (aggS P T) (szS P T) h[bk]? off := by
  unfold valAt valIn
  cases aggS P T with
  | none => rfl
  | some t =>
    cases t with
    | true =>
      simp only
      cases szS P T with
      | none => rfl
      | some n =>
        simp only
        by_cases hn : n = 0
        · subst hn; simp [cellsFrom]
        · rw [cellsFrom_mk h bk off n 0 hn, if_neg hn]; rfl
    | false => exact cellH_mk h bk off
@[simp] theorem valIn_one (sz : Option Nat) (o : Option Obj) (off : Nat) : valIn (some false) sz o off = cellIn o off := _root_.id rfl
@[simp] theorem valIn_agg (n : Nat) (o : Option Obj) (off : Nat) : valIn (some true) (some n) o off = if n = 0 then some (.agg #[]) else (cellsIn o off n).map fun cs => .agg cs.toArray := _root_.id rfl

/-! ### store -/
def frozenIn (fz : Nat × Nat) (off n : Nat) : Bool := (List.range n).any fun i => decide (fz.1 ≤ off + i) && decide (off + i < fz.2)
/-- A block with some cells written anew. -/
def writeC (c : Array Value) (off : Nat) : List Value → Array Value
  | [] => c
  | v :: vs => writeC (c.setIfInBounds off v) (off + 1) vs
def writeIn (o : Option Obj) (off : Nat) (vs : List Value) : Option Obj :=
  match o with
  | some (.cells c e fz) => if vs.all Value.oneCell' && decide (off + vs.length ≤ c.size) && !frozenIn fz off vs.length then some (.cells (writeC c off vs) e fz) else none
  | _ => none

theorem setCellH_mk {c : Array Value} {e : TypeId} {fz : Nat × Nat} {bk off : Nat} (hb : h[bk]? = some (.cells c e fz)) (v : Value) :
    setCellH h ⟨bk, off, none⟩ v = h.setIfInBounds bk (.cells (c.setIfInBounds off v) e fz) := by
  unfold setCellH
  apply Array.ext_getElem?
  intro i
  rw [Array.getElem?_modify, Array.getElem?_setIfInBounds]
  by_cases hi : bk = i
  · subst hi
    have : bk < h.size := (Array.getElem?_eq_some_iff.1 hb).1
    rw [if_pos rfl, if_pos rfl, if_pos this, hb]
    rfl
  · simp [hi]
theorem optS_ite {α : Type} (t : Bool) (o : α) (K : α → Prop) : optS (if t = true then some o else none) K = (t = true ∧ K o) := by
  cases t <;> simp [optS]
theorem frozenH_mk {c : Array Value} {e : TypeId} {fz : Nat × Nat} {bk off : Nat} (hb : h[bk]? = some (.cells c e fz)) : frozenH h ⟨bk, off, none⟩ = (decide (fz.1 ≤ off) && decide (off < fz.2)) := by
  unfold frozenH; rw [hb]
theorem frozenIn_succ (fz : Nat × Nat) (off n : Nat) : frozenIn fz off (n + 1) = ((decide (fz.1 ≤ off) && decide (off < fz.2)) || frozenIn fz (off + 1) n) := by
  unfold frozenIn
  rw [List.range_succ_eq_map, List.any_cons, List.any_map]
  congr 1
  congr 1
  funext i
  simp only [Function.comp, Nat.succ_eq_add_one]
  rw [show off + 1 + i = off + (i + 1) from by omega]

theorem hp_storeCells (bk off : Nat) : ∀ (vs : List Value) (i : Nat) (K : Unit → Heap → Prop) (h : Heap), vs ≠ [] →
    hp P (storeCells ⟨bk, off, none⟩ vs i) K h = optS (writeIn h[bk]? (off + i) vs) (fun o => K () (h.setIfInBounds bk o))
  | [], i, K, h, hn => absurd rfl hn
  | v :: rest, i, K, h, _ => by
    simp only [storeCells, hp_bind, hp_store, add_mk, cellH_mk]
    cases hb : h[bk]? with
    | none => simp [cellIn, writeIn, optS]
    | some o =>
      cases o with
      | cells c e fz =>
        rw [frozenH_mk hb, setCellH_mk hb]
        have hlt : bk < h.size := (Array.getElem?_eq_some_iff.1 hb).1
        have hb2 : (h.setIfInBounds bk (.cells (c.setIfInBounds (off + i) v) e fz))[bk]? = some (.cells (c.setIfInBounds (off + i) v) e fz) := by simp [hlt]
        have hsome : (c[off + i]?).isSome = decide (off + i < c.size) := by
          by_cases hx : off + i < c.size <;> simp [hx]
        simp only [cellIn_some, writeIn, List.all_cons, List.length_cons, frozenIn_succ, writeC, optS_ite, hsome]
        by_cases hr : rest = []
        · subst hr
          simp only [storeCells, hp_pure, List.all_nil, List.length_nil, writeC, frozenIn, List.range_zero, List.any_nil, Bool.and_true, Bool.or_false, Nat.zero_add, Bool.and_eq_true, Bool.not_eq_true',
            decide_eq_true_eq, Nat.add_one_le_iff, and_assoc]
        · rw [hp_storeCells bk off rest (i + 1) K _ hr, hb2]
          have hpos : 0 < rest.length := by cases rest with | nil => exact absurd rfl hr | cons a r => simp
          have hset : ∀ o', (h.setIfInBounds bk (.cells (c.setIfInBounds (off + i) v) e fz)).setIfInBounds bk o' = h.setIfInBounds bk o' := by
            intro o'; simp
          simp only [writeIn, Array.size_setIfInBounds, optS_ite, hset, show off + (i + 1) = off + i + 1 from by omega]
          simp only [Bool.and_eq_true, Bool.not_eq_true', decide_eq_true_eq, Bool.or_eq_false_iff, and_assoc]
          apply propext
          constructor
          · rintro ⟨h1, h2, h3, h4, h5, h6, h7⟩
            exact ⟨h1, h4, by omega, h3, h6, h7⟩
          · rintro ⟨h1, h4, h5, h3, h6, h7⟩
            exact ⟨h1, by omega, h3, h4, by omega, h6, h7⟩
      | _ => simp [cellIn, writeIn, optS]

def storeS (P : Program) (T : TypeId) (a v : Value) (h : Heap) (K : Value → Heap → Prop) (_t : Tag K := ⟨⟩) : Prop := hp P (Instr.storeAt T a v) (fun _ h' => K undef h') h
@[congr] theorem storeS_congr {T : TypeId} {a a' v v' : Value} (ha : a = a') (hv : v = v') : storeS P T a v h K = storeS P T a' v' h K := by rw [ha, hv]
@[simp] theorem osem_store (T : TypeId) (x y : Operand) : os P ⟨dst, .store T x y, ty, pos, aft, g⟩ l b h K = storeS P T (ev l b x) (ev l b y) h K := by
  unfold os osem execOp storeS; simp only [hp_bind, hp_pure]; rfl
/-- Are these as many cells as the type has? -/
def fitsB (sz : Option Nat) (n : Nat) : Bool := sz == some n
@[simp] theorem storeS_mk (T : TypeId) (bk off : Nat) (v : Value) (hv : v.cells.toList ≠ []) : storeS P T (.pointer (some ⟨bk, off, none⟩)) v h K =
    optS (if fitsB (szS P T) v.cells.size = true then writeIn h[bk]? off v.cells.toList else none) (fun o => K undef (h.setIfInBounds bk o)) := by
  unfold storeS Instr.storeAt storeVar fitsB
  simp only [hp_bind, Instr.sureAddr, hp_pure, hp_sizeOf]
  cases szS P T with
  | none => rfl
  | some n =>
    simp only [hp_ite]
    by_cases hn : v.cells.size = n
    · rw [if_neg (by simp [hn]), if_pos (by simp [hn]), hp_storeCells _ _ _ _ _ _ hv]
      rfl
    · rw [if_pos hn, if_neg (by simp; exact fun e => hn e.symm)]
      rfl

/-! ### addresses -/
def fieldAddrS (P : Program) (S : TypeId) (v : Value) (f : Nat) (h : Heap) (K : Value → Heap → Prop) (_t : Tag K := ⟨⟩) : Prop := hp P (Instr.fieldAt S v f) K h
@[congr] theorem fieldAddrS_congr {S : TypeId} {v v' : Value} {f : Nat} (hv : v = v') : fieldAddrS P S v f h K = fieldAddrS P S v' f h K := by rw [hv]
@[simp] theorem osem_fieldAddr (S : TypeId) (x : Operand) (f : Nat) : os P ⟨dst, .fieldAddr S x f, ty, pos, aft, g⟩ l b h K = fieldAddrS P S (ev l b x) f h K := by
  unfold os osem execOp fieldAddrS; simp only [hp_bind, hp_pure]; rfl
/-- The place of a field that has cells. -/
theorem fieldAddrS_mk (S : TypeId) (bk off f : Nat) {o : Nat} {s : Nat} {ag : Bool} (hf : fldS P S f = some (o, s, ag)) (hs : s ≠ 0) :
    fieldAddrS P S (.pointer (some ⟨bk, off, none⟩)) f h K = K (.pointer (some ⟨bk, off + o, none⟩)) h := by
  unfold fieldAddrS Instr.fieldAt
  unfold fldS at hf
  simp only [hp_bind, hp_underlying]
  cases hu : P.underlying S with
  | none => simp [hu] at hf
  | some d =>
    cases d with
    | struct fs =>
      simp only [hu] at hf ⊢
      cases hx : fs[f]? with
      | none => simp [hx] at hf
      | some x =>
        simp only [hx, Option.bind_some] at hf ⊢
        cases hi : P.info? x.type with
        | none => simp [hi] at hf
        | some i =>
          simp only [hi, Option.bind_some] at hf
          cases hd : P.underlying x.type with
          | none => simp [hd] at hf
          | some d =>
            simp only [hd, Option.map_some, Option.some.injEq, Prod.mk.injEq] at hf
            obtain ⟨rfl, rfl, rfl⟩ := hf
            simp only [Instr.sureAddr, hp_bind, hp_pure, fieldPlace, hp_sizeOf, szS, hi, Option.map_some, hp_ite, if_neg hs, add_mk]
    | _ => simp [hu] at hf
/-- Where a field begins, if it has cells. -/
def fldOff (o : Option (Nat × Nat × Bool)) : Option Nat := match o with | some (o, s, _) => if s = 0 then none else some o | none => none
@[simp] theorem fldOff_some (o s : Nat) (ag : Bool) : fldOff (some (o, s, ag)) = if s = 0 then none else some o := _root_.id rfl

@[simp] theorem fieldAddrS_off (S : TypeId) (bk off f : Nat) (hf : (fldOff (fldS P S f)).isSome = true) :
    fieldAddrS P S (.pointer (some ⟨bk, off, none⟩)) f h K = forceV (.pointer (some ⟨bk, off + (fldOff (fldS P S f)).getD 0, none⟩)) (K · h) := by
  cases hx : fldS P S f with
  | none => simp [hx, fldOff] at hf
  | some t =>
    obtain ⟨o, s, ag⟩ := t
    by_cases hs : s = 0
    · simp [hx, fldOff, hs] at hf
    · rw [fieldAddrS_mk S bk off f hx hs]
      simp [hs]

def fieldVS (P : Program) (T : TypeId) (v : Value) (f : Nat) (h : Heap) (K : Value → Heap → Prop) (_t : Tag K := ⟨⟩) : Prop := hp P (Instr.field T v f) K h
@[congr] theorem fieldVS_congr {T : TypeId} {v v' : Value} {f : Nat} (hv : v = v') : fieldVS P T v f h K = fieldVS P T v' f h K := by rw [hv]
@[simp] theorem osem_field (T : TypeId) (x : Operand) (f : Nat) : os P ⟨dst, .field T x f, ty, pos, aft, g⟩ l b h K = fieldVS P T (ev l b x) f h K := by
  unfold os osem execOp fieldVS; simp only [hp_bind, hp_pure]; rfl
def partOf (o : Option (Nat × Nat × Bool)) (cs : Array Value) : Option Value :=
  match o with
  | some (o, s, true) => some (.agg (cs.extract o (o + s)))
  | some (o, _, false) => cs[o]?
  | none => none
@[simp] theorem partOf_agg (o s : Nat) (cs : Array Value) : partOf (some (o, s, true)) cs = some (.agg (cs.extract o (o + s))) := _root_.id rfl
@[simp] theorem partOf_one (o s : Nat) (cs : Array Value) : partOf (some (o, s, false)) cs = cs[o]? := _root_.id rfl
@[simp] theorem fieldVS_agg (T : TypeId) (cs : Array Value) (f : Nat) (hf : (fldS P T f).isSome = true) : fieldVS P T (.agg cs) f h K = optS (partOf (fldS P T f) cs) (K · h) := by
  unfold fieldVS Instr.field
  unfold fldS at hf ⊢
  simp only [hp_bind, hp_underlying]
  cases hu : P.underlying T with
  | none => simp [hu] at hf
  | some d =>
    cases d with
    | struct fs =>
      simp only [hu] at hf ⊢
      cases hx : fs[f]? with
      | none => simp [hx] at hf
      | some x =>
        simp only [hx, Option.bind_some] at hf ⊢
        cases hi : P.info? x.type with
        | none => simp [hi] at hf
        | some i =>
          simp only [hi, Option.bind_some] at hf ⊢
          cases hd : P.underlying x.type with
          | none => simp [hd] at hf
          | some d =>
            simp only [Option.map_some, asAgg, hp_bind, hp_pure, part, hp_isAgg, aggS, hd, partOf]
            cases hag : aggD d with
            | true => simp [hp_sizeOf, szS, hi]
            | false =>
              simp only [Bool.false_eq_true, if_false]
              cases cs[x.offset]? <;> rfl
    | _ => simp [hu] at hf

def extractS (P : Program) (v : Value) (i : Nat) (h : Heap) (K : Value → Heap → Prop) (_t : Tag K := ⟨⟩) : Prop := hp P (Instr.extract v i) K h
@[congr] theorem extractS_congr {v v' : Value} {i : Nat} (hv : v = v') : extractS P v i h K = extractS P v' i h K := by rw [hv]
@[simp] theorem osem_extract (x : Operand) (i : Nat) : os P ⟨dst, .extract x i, ty, pos, aft, g⟩ l b h K = extractS P (ev l b x) i h K := by
  unfold os osem execOp extractS; simp only [hp_bind, hp_pure]; rfl
@[simp] theorem extractS_tuple (vs : Array Value) (i : Nat) : extractS P (.tuple vs) i h K = optS vs[i]? (K · h) := by
  unfold extractS Instr.extract
  simp only
  cases vs[i]? <;> rfl

/-! ### slices -/
def offs (a : Option Addr) (n : Nat) : Option Addr := a.map (·.add n)
@[simp] theorem offs_mk (bk off n : Nat) : offs (some ⟨bk, off, none⟩) n = some ⟨bk, off + n, none⟩ := by simp [offs, add_mk]
def indexAddrS (P : Program) (T : TypeId) (v u : Value) (h : Heap) (K : Value → Heap → Prop) (_t : Tag K := ⟨⟩) : Prop := hp P (Instr.indexAt T v u) K h
@[congr] theorem indexAddrS_congr {T : TypeId} {v v' u u' : Value} (hv : v = v') (hu : u = u') : indexAddrS P T v u h K = indexAddrS P T v' u' h K := by rw [hv, hu]
@[simp] theorem osem_indexAddr (T : TypeId) (x y : Operand) : os P ⟨dst, .indexAddr T x y, ty, pos, aft, g⟩ l b h K = indexAddrS P T (ev l b x) (ev l b y) h K := by
  unfold os osem execOp indexAddrS; simp only [hp_bind, hp_pure]; rfl
/-- The size of a slice type's elements. -/
def elSz (P : Program) (T : TypeId) : Option Nat := (elS P T).bind (szS P)
theorem indexAddrS_slice (T : TypeId) (a : Option Addr) (n c : Nat) (k : IntKind) (i : Int) (h0 : 0 ≤ i) (h1 : i < n) (ha : a.isSome = true) :
    indexAddrS P T (.slice a n c) (.int k i) h K = optS (elSz P T) (fun s => K (.pointer (offs a (i.toNat * s))) h) := by
  unfold indexAddrS Instr.indexAt elSz elS
  obtain ⟨a, rfl⟩ := Option.isSome_iff_exists.1 ha
  simp only [hp_bind, asIntOf, hp_pure, hp_underlying]
  cases hu : P.underlying T with
  | none => rfl
  | some d =>
    cases d <;> simp only [hp_stuck, optS, Option.bind_none, hp_bind, hp_pure, Option.bind_some, hp_ite, hp_sizeOf, offs, Option.map_some]
    case slice e =>
      simp only [hp_underlying, hu, if_pos (And.intro h0 h1)]
      cases szS P e <;> rfl
    case array n e =>
      simp [Instr.sureAddr]

def sliceS (P : Program) (T : TypeId) (v : Value) (lo hi mx : Option Value) (h : Heap) (K : Value → Heap → Prop) (_t : Tag K := ⟨⟩) : Prop := hp P (Instr.sliceAt T v lo hi mx) K h
@[congr] theorem sliceS_congr {T : TypeId} {v v' : Value} {lo lo' hi hi' mx mx' : Option Value} (hv : v = v') (h1 : lo = lo') (h2 : hi = hi') (h3 : mx = mx') : sliceS P T v lo hi mx h K = sliceS P T v' lo' hi' mx' h K := by rw [hv, h1, h2, h3]
@[simp] theorem osem_slice (T : TypeId) (x : Operand) (lo hi mx : Option Operand) : os P ⟨dst, .slice T x lo hi mx, ty, pos, aft, g⟩ l b h K = sliceS P T (ev l b x) (lo.map (ev l b)) (hi.map (ev l b)) (mx.map (ev l b)) h K := by
  unfold os osem execOp sliceS; simp only [hp_bind, hp_pure]; rfl
/-- A bound of a slice expression: as a number, if it is one and not below 0. -/
def bnd (v : Option Value) (dflt : Nat) : Option Nat :=
  match v with
  | none => some dflt
  | some (.int _ i) => if 0 ≤ i then some i.toNat else none
  | _ => none
@[simp] theorem bnd_none (d : Nat) : bnd none d = some d := _root_.id rfl
@[simp] theorem bnd_int (k : IntKind) (i : Int) (d : Nat) (hi : 0 ≤ i) : bnd (some (.int k i)) d = some i.toNat := by simp [bnd, hi]
theorem sliceBound_eq {k : IntKind} {i : Int} {y : Nat} {code : BoundsCode} {K : Nat → Heap → Prop} (h0 : 0 ≤ i) (h1 : i ≤ y) : hp P (Instr.sliceBound (.int k i) y code) K h = K i.toNat h := by
  unfold Instr.sliceBound
  simp only [hp_bind, asIntOf, hp_pure, hp_ite, if_pos (And.intro h0 h1)]
/-- The base of a piece of a slice. -/
def piece (a : Option Addr) (l m s : Nat) : Option Addr := if m = l then a else offs a (l * s)
theorem sliceBounds_eq {n c : Nat} {lo hi mx : Option Value} {i j m : Nat} {K : Nat × Nat × Nat → Heap → Prop}
    (hm : mx = none ∧ m = c ∨ ∃ k, mx = some (.int k m) ∧ hi ≠ none)
    (hj : hi = none ∧ j = n ∨ ∃ k, hi = some (.int k j)) (hi' : lo = none ∧ i = 0 ∨ ∃ k, lo = some (.int k i)) (h1 : i ≤ j) (h2 : j ≤ m) (h3 : m ≤ c) :
    hp P (Instr.sliceBounds true n c lo hi mx) K h = K (i, j, m) h := by
  have ci : ∀ x : Nat, ((x : Int)).toNat = x := fun x => Int.toNat_natCast x
  have b1 := fun (k : IntKind) (code : BoundsCode) (K' : Nat → Heap → Prop) => sliceBound_eq (P := P) (h := h) (k := k) (code := code) (K := K') (Int.natCast_nonneg i) (Int.ofNat_le.2 h1)
  have b2 := fun (k : IntKind) (code : BoundsCode) (K' : Nat → Heap → Prop) => sliceBound_eq (P := P) (h := h) (k := k) (code := code) (K := K') (Int.natCast_nonneg j) (Int.ofNat_le.2 h2)
  have b3 := fun (k : IntKind) (code : BoundsCode) (K' : Nat → Heap → Prop) => sliceBound_eq (P := P) (h := h) (k := k) (code := code) (K := K') (Int.natCast_nonneg m) (Int.ofNat_le.2 h3)
  rcases hm with ⟨rfl, rfl⟩ | ⟨k, rfl, hne⟩
  · rcases hj with ⟨rfl, rfl⟩ | ⟨k2, rfl⟩
    · rcases hi' with ⟨rfl, rfl⟩ | ⟨k3, rfl⟩
      · simp [Instr.sliceBounds]
      · simp [Instr.sliceBounds, b1, ci]
    · rcases hi' with ⟨rfl, rfl⟩ | ⟨k3, rfl⟩
      · simp [Instr.sliceBounds, b2, ci]
      · simp [Instr.sliceBounds, b1, b2, ci]
  · rcases hj with ⟨rfl, rfl⟩ | ⟨k2, rfl⟩
    · exact absurd rfl hne
    · rcases hi' with ⟨rfl, rfl⟩ | ⟨k3, rfl⟩
      · simp [Instr.sliceBounds, b2, b3, ci]
      · simp [Instr.sliceBounds, b1, b2, b3, ci]
theorem elS_spec {T e : TypeId} (he : elS P T = some e) : P.underlying T = some (.slice e) := by
  unfold elS at he
  cases hx : P.underlying T with
  | none => simp [hx] at he
  | some d => cases d <;> simp [hx] at he; subst he; rfl
theorem sliceS_slice {T : TypeId} {a : Option Addr} {n c : Nat} {lo hi mx : Option Value} {e s : Nat} {i j m : Nat}
    (he : elS P T = some e) (hs : szS P e = some s) (hm : mx = none ∧ m = c ∨ ∃ k, mx = some (.int k m) ∧ hi ≠ none)
    (hj : hi = none ∧ j = n ∨ ∃ k, hi = some (.int k j)) (hi' : lo = none ∧ i = 0 ∨ ∃ k, lo = some (.int k i)) (h1 : i ≤ j) (h2 : j ≤ m) (h3 : m ≤ c) :
    sliceS P T (.slice a n c) lo hi mx h K = K (.slice (piece a i m s) (j - i) (m - i)) h := by
  have hu := elS_spec he
  unfold sliceS Instr.sliceAt
  simp only [hp_bind, hp_underlying, hu, Instr.slice, sliceBounds_eq hm hj hi' h1 h2 h3, hp_sizeOf, hs, hp_pure]
  rfl

/-! ### unary, conversions, function values, maps -/
def unS (P : Program) (op : UnOp) (v : Value) (h : Heap) (K : Value → Heap → Prop) (_t : Tag K := ⟨⟩) : Prop := hp P (Op.unary op v) K h
@[congr] theorem unS_congr {op : UnOp} {v v' : Value} (hv : v = v') : unS P op v h K = unS P op v' h K := by rw [hv]
@[simp] theorem osem_un (op : UnOp) (T : TypeId) (x : Operand) : os P ⟨dst, .unOp op T x, ty, pos, aft, g⟩ l b h K = unS P op (ev l b x) h K := by
  unfold os osem execOp unS; simp only [hp_bind, hp_pure]; rfl
@[simp] theorem unS_not (t : Bool) : unS P .not (.bool t) h K = forceV (.bool (!t)) (K · h) := _root_.id rfl
@[simp] theorem unS_neg (k : IntKind) (i : Int) : unS P .neg (.int k i) h K = forceV (.int k (k.wrap (0 - i))) (K · h) := _root_.id rfl

def convS (P : Program) (S D : TypeId) (v : Value) (h : Heap) (K : Value → Heap → Prop) (_t : Tag K := ⟨⟩) : Prop := hp P (convert S D v) K h
@[congr] theorem convS_congr {S D : TypeId} {v v' : Value} (hv : v = v') : convS P S D v h K = convS P S D v' h K := by rw [hv]
@[simp] theorem osem_conv (S D : TypeId) (x : Operand) : os P ⟨dst, .convert S D x, ty, pos, aft, g⟩ l b h K = convS P S D (ev l b x) h K := by
  unfold os osem execOp convS; simp only [hp_bind, hp_pure]; rfl
/-- The kind of an integer type. -/
def intK (P : Program) (T : TypeId) : Option IntKind := match P.underlying T with | some (.int k) => some k | _ => none
theorem convS_int {S D : TypeId} {k k' : IntKind} {i : Int} {k2 : IntKind} (hs : intK P S = some k2) (hd : intK P D = some k') : convS P S D (.int k i) h K = K (.int k' (k'.wrap i)) h := by
  unfold convS convert
  unfold intK at hs hd
  simp only [hp_bind, hp_underlying]
  cases h1 : P.underlying S with
  | none => simp [h1] at hs
  | some d1 =>
    cases h2 : P.underlying D with
    | none => simp [h2] at hd
    | some d2 =>
      cases d1 <;> simp [h1] at hs
      cases d2 <;> simp [h2] at hd
      subst hs; subst hd
      rfl
@[simp] theorem convS_int' {S D : TypeId} {k : IntKind} {i : Int} (hs : (intK P S).isSome = true) (hd : (intK P D).isSome = true) :
    convS P S D (.int k i) h K = optS (intK P D) (fun k' => forceV (.int k' (k'.wrap i)) (K · h)) := by
  obtain ⟨k2, hs⟩ := Option.isSome_iff_exists.1 hs
  obtain ⟨k3, hd⟩ := Option.isSome_iff_exists.1 hd
  rw [convS_int hs hd, hd]
  rfl

@[simp] theorem osem_makeFunc (fn : Fn) (x y : Array Operand) : os P ⟨dst, .makeFunc fn x y, ty, pos, aft, g⟩ l b h K = forceV (.func fn (x.map (ev l b)) (y.map (ev l b))) (K · h) := _root_.id rfl
@[simp] theorem osem_makeMap (T : TypeId) : os P ⟨dst, .makeMap T none, ty, pos, aft, g⟩ l b h K = K (.map (some h.size)) (h.push (.map #[] 0)) := by
  unfold os osem execOp; simp [Instr.makeMap, nextK]

/-! ### calls -/
def callS (P : Program) (f : Value) (args : Array Value) (h : Heap) (K : Value → Heap → Prop) (_t : Tag K := ⟨⟩) : Prop := callV P f args h K
@[congr] theorem callS_congr {f f' : Value} {args args' : Array Value} (hf : f = f') (ha : args = args') : callS P f args h K = callS P f' args' h K := by rw [hf, ha]
@[simp] theorem osem_call (f : Operand) (args : Array Operand) (ats : Array TypeId) : os P ⟨dst, .call ⟨.value f, args, ats⟩, ty, pos, aft, g⟩ l b h K =
    callS P (ev l b f) (args.map (ev l b)) h K := by
  unfold os osem execOp callS callV resolve; rfl
/-- A call, marked. -/
def call (P : Program) (f : FuncId) (args : Array Value) (h : Heap) (K : Value → Heap → Prop) (_t : Tag K := ⟨⟩) : Prop := CallH P f args h K
@[simp] theorem callS_func (f : Nat) (hf : FnOk P f) (x y args : Array Value) : callS P (.func (.func f) x y) args h K = call P f (x ++ args ++ y) h K := callV_func hf x y args h K

def builtinS (P : Program) (bi : Builtin) (ats : Array TypeId) (ty : TypeId) (cs : Array Bool) (args : Array Value) (h : Heap) (K : Value → Heap → Prop) (_t : Tag K := ⟨⟩) : Prop := hp P (builtin bi ats ty cs args) (nextK P K) h
@[congr] theorem builtinS_congr {bi : Builtin} {ats : Array TypeId} {cs : Array Bool} {args args' : Array Value} (ha : args = args') : builtinS P bi ats ty cs args h K = builtinS P bi ats ty cs args' h K := by rw [ha]
@[simp] theorem osem_builtin (bi : Builtin) (args : Array Operand) (ats : Array TypeId) : os P ⟨dst, .call ⟨.builtin bi, args, ats⟩, ty, pos, aft, g⟩ l b h K =
    builtinS P bi ats ty (args.map fun | .const _ => true | _ => false) (args.map (ev l b)) h K := by
  unfold os osem execOp builtinS resolve; rfl
@[simp] theorem len_slice (T : TypeId) (cs : Array Bool) (a : Option Addr) (n c : Nat) (he : (elS P T).isSome = true) : builtinS P .len #[T] ty cs #[.slice a n c] h K = K (.int .i64 n) h := by
  unfold elS at he
  unfold builtinS builtin Builtin.len_
  simp only [hp_bind, hp_pure]
  cases hu : P.underlying T with
  | none => simp [hu] at he
  | some d => cases d <;> simp [hu] at he <;> simp [hu, nextK, goInt]
def strT (P : Program) (T : TypeId) : Bool := match P.underlying T with | some .string => true | _ => false
@[simp] theorem len_string (T : TypeId) (cs : Array Bool) (s : ByteArray) (he : strT P T = true) : builtinS P .len #[T] ty cs #[.string s] h K = K (.int .i64 s.size) h := by
  unfold strT at he
  unfold builtinS builtin Builtin.len_
  simp only [hp_bind, hp_pure]
  cases hu : P.underlying T with
  | none => simp [hu] at he
  | some d => cases d <;> simp [hu] at he <;> simp [hu, nextK, goInt]
end
end Go.HC

/-
  HC, part 7: entering a function, leaving it; loops, drawn regions and ranges over functions with marks; numbers.
-/
namespace Go.HC

section
variable {P : Program} {n : Nat} {ro : Option Nat} {κ : Kont} {l : L} {b : Base} {h : Heap}

def takeS (d : List Nat) (h : Heap) (K : Heap → Prop) (_t : Tag K := ⟨⟩) : Prop := takeAll d h K
@[simp] theorem takeS_nil (K : Heap → Prop) : takeS [] h K = K h := _root_.id rfl
theorem takeS_cons {r : Nat} {rs : List Nat} {K : Heap → Prop} (hr : h[r]? = some (.deferred (some []))) : takeS (r :: rs) h K = takeS rs (h.setIfInBounds r (.deferred none)) K := by
  simp [takeS, takeAll, hr]

/-- How a body ends whose results lie in these slots. -/
def endK (K : Value → Heap → Prop) (f : L → Base → Value) : Kont :=
  { nx := fun l b h => takeS b.d h fun h' => forceV (f l b) (K · h'), rt := fun l b h => takeS b.d h fun h' => forceV (f l b) (K · h'), ex := fun _ _ _ _ => False, gt := fun _ _ _ _ => False }
@[simp] theorem endK_nx (K : Value → Heap → Prop) (f : L → Base → Value) : (endK K f).nx l b h = takeS b.d h fun h' => forceV (f l b) (K · h') := _root_.id rfl
@[simp] theorem endK_rt (K : Value → Heap → Prop) (f : L → Base → Value) : (endK K f).rt l b h = takeS b.d h fun h' => forceV (f l b) (K · h') := _root_.id rfl
@[simp] theorem endK_ex (K : Value → Heap → Prop) (f : L → Base → Value) (j : Nat) : (endK K f).ex j l b h = False := _root_.id rfl
@[simp] theorem endK_gt (K : Value → Heap → Prop) (f : L → Base → Value) (j : Nat) : (endK K f).gt j l b h = False := _root_.id rfl

theorem takeAll_mono : ∀ (d : List Nat) {h : Heap} {K K' : Heap → Prop}, (∀ h, K h → K' h) → takeAll d h K → takeAll d h K'
  | [], _, _, _, hk, ht => hk _ ht
  | _ :: d, _, _, _, hk, ht => ⟨ht.1, takeAll_mono d hk ht.2⟩

variable {f : FuncId} {fn : Func} {c : Code} {args : Array Value} {K : Value → Heap → Prop}
theorem loop {σ : Type} (S : σ → L) (D : σ → List Nat) (J : σ → Heap → Prop) (μ : σ → Nat) (s0 : σ) (hS : Sub (S s0) l b) (hD : b.d = D s0) (hJ : J s0 h) (hok : codeOk n c = true)
    (round : ∀ s h g, J s h → cs P n ro c { κ with nx := fun l' b' h' => ∃ s', Sub (S s') l' b' ∧ b'.d = D s' ∧ J s' h' ∧ μ s' < μ s } (S s) ⟨g, D s⟩ h) :
    gs P n ro (.loop c) κ l b h := loop_rule S D J μ s0 hS hD hJ hok round

theorem drawn {id : Nat} {ops : Array Oper} (ds : List Di) (hd : drawOk ops ds = true) (hok : opsOk n ops = true) (hc : dsem P ops ds [] κ.nx l b h) :
    gs P n ro (.region id ops true) κ l b h := draw_rule ds hd hok hc

/-! the order that is written out, for simp -/
def ds (P : Program) (ops : Array Oper) (di : List Di) (pend : List (Nat × (Heap → Prop))) (K : L → Base → Heap → Prop) (l : L) (b : Base) (h : Heap) (_t : Tag K := ⟨⟩) (_p : Tag pend := ⟨⟩) : Prop := dsem P ops di pend K l b h
end

/-! ### Numbers -/
section
variable {P : Program} {h : Heap} {K : Value → Heap → Prop}
@[simp] theorem binS_same (op : BinOp) (T : TypeId) (x y : Operand) (k : IntKind) (m n : Int) : binS P op T x y (.int k m) (.int k n) h K = optS (intRes op k m n) (K · h) := binS_int (.inr rfl)
@[simp] theorem binS_shl (T : TypeId) (x y : Operand) (k k' : IntKind) (m n : Int) : binS P .shl T x y (.int k m) (.int k' n) h K = optS (intRes .shl k m n) (K · h) := binS_int (.inl rfl)
@[simp] theorem binS_shr (T : TypeId) (x y : Operand) (k k' : IntKind) (m n : Int) : binS P .shr T x y (.int k m) (.int k' n) h K = optS (intRes .shr k m n) (K · h) := binS_int (.inl rfl)
variable (k : IntKind) (x y : Int)
@[simp] theorem intRes_add : intRes .add k x y = some (.int k (k.wrap (x + y))) := _root_.id rfl
@[simp] theorem intRes_sub : intRes .sub k x y = some (.int k (k.wrap (x - y))) := _root_.id rfl
@[simp] theorem intRes_mul : intRes .mul k x y = some (.int k (k.wrap (x * y))) := _root_.id rfl
@[simp] theorem intRes_eql : intRes .eql k x y = some (.bool (x == y)) := _root_.id rfl
@[simp] theorem intRes_neq : intRes .neq k x y = some (.bool (x != y)) := _root_.id rfl
@[simp] theorem intRes_lss : intRes .lss k x y = some (.bool (x < y)) := _root_.id rfl
@[simp] theorem intRes_leq : intRes .leq k x y = some (.bool (x ≤ y)) := _root_.id rfl
@[simp] theorem intRes_gtr : intRes .gtr k x y = some (.bool (y < x)) := _root_.id rfl
@[simp] theorem intRes_geq : intRes .geq k x y = some (.bool (y ≤ x)) := _root_.id rfl
@[simp] theorem intRes_quo (hy : y ≠ 0) : intRes .quo k x y = some (.int k (k.wrap (x.tdiv y))) := by simp [intRes, hy]
@[simp] theorem intRes_rem (hy : y ≠ 0) : intRes .rem k x y = some (.int k (x.tmod y)) := by simp [intRes, hy]
@[simp] theorem intRes_shl (hy : 0 ≤ y) : intRes .shl k x y = some (.int k (k.wrap (x * 2 ^ (min y.toNat k.bits)))) := by simp [intRes, Int.not_lt.2 hy]
@[simp] theorem intRes_shr (hy : 0 ≤ y) : intRes .shr k x y = some (.int k (x.fdiv (2 ^ (min y.toNat k.bits)))) := by simp [intRes, Int.not_lt.2 hy]
@[simp] theorem intRes_and : intRes .and k x y = some (.int k (k.wrap ((BitVec.ofInt k.bits x &&& BitVec.ofInt k.bits y).toNat))) := _root_.id rfl
@[simp] theorem intRes_or : intRes .or k x y = some (.int k (k.wrap ((BitVec.ofInt k.bits x ||| BitVec.ofInt k.bits y).toNat))) := _root_.id rfl
end
section
variable {P : Program} {l : L} {b : Base} {h : Heap}
@[simp] theorem guard_val (ops : List Oper) (j : Nat) : gval ops.toArray l b j = ((ops[j]?).bind (·.dst)).bind (fun d => boolOf (look l b d)) := by
  rw [gval_def]; simp
end
@[simp] theorem cells_int (k : IntKind) (n : Int) : (Value.int k n).cells = #[.int k n] := _root_.id rfl
@[simp] theorem cells_bool (t : Bool) : (Value.bool t).cells = #[.bool t] := _root_.id rfl
@[simp] theorem cells_string (s : ByteArray) : (Value.string s).cells = #[.string s] := _root_.id rfl
@[simp] theorem cells_pointer (a : Option Addr) : (Value.pointer a).cells = #[.pointer a] := _root_.id rfl
@[simp] theorem cells_slice (a : Option Addr) (n c : Nat) : (Value.slice a n c).cells = #[.slice a n c] := _root_.id rfl
@[simp] theorem cells_map (r : Option Nat) : (Value.map r).cells = #[.map r] := _root_.id rfl
@[simp] theorem cells_func (fn : Fn) (x y : Array Value) : (Value.func fn x y).cells = #[.func fn x y] := _root_.id rfl
@[simp] theorem cells_agg (cs : Array Value) : (Value.agg cs).cells = cs := _root_.id rfl
@[simp] theorem one_int (k : IntKind) (n : Int) : (Value.int k n).oneCell' = true := _root_.id rfl
@[simp] theorem one_bool (t : Bool) : (Value.bool t).oneCell' = true := _root_.id rfl
@[simp] theorem one_string (s : ByteArray) : (Value.string s).oneCell' = true := _root_.id rfl
@[simp] theorem one_pointer (a : Option Addr) : (Value.pointer a).oneCell' = true := _root_.id rfl
@[simp] theorem one_slice (a : Option Addr) (n c : Nat) : (Value.slice a n c).oneCell' = true := _root_.id rfl
@[simp] theorem one_map (r : Option Nat) : (Value.map r).oneCell' = true := _root_.id rfl
@[simp] theorem one_func (fn : Fn) (x y : Array Value) : (Value.func fn x y).oneCell' = true := _root_.id rfl
@[simp] theorem fitsB_some (n m : Nat) : fitsB (some n) m = decide (n = m) := by
  simp only [fitsB]; by_cases h : n = m <;> simp [h]
@[simp] theorem writeIn_some (c : Array Value) (e : TypeId) (fz : Nat × Nat) (off : Nat) (vs : List Value) :
    writeIn (some (.cells c e fz)) off vs = if vs.all Value.oneCell' && decide (off + vs.length ≤ c.size) && !frozenIn fz off vs.length then some (.cells (writeC c off vs) e fz) else none := _root_.id rfl
@[simp] theorem frozenIn_zero (off n : Nat) : frozenIn (0, 0) off n = false := by simp [frozenIn]
@[simp] theorem writeC_nil (c : Array Value) (off : Nat) : writeC c off [] = c := _root_.id rfl
@[simp] theorem writeC_cons (c : Array Value) (off : Nat) (v : Value) (vs : List Value) : writeC c off (v :: vs) = writeC (c.setIfInBounds off v) (off + 1) vs := _root_.id rfl

@[simp] theorem wrap_i64 {x : Int} (h1 : -9223372036854775808 ≤ x) (h2 : x ≤ 9223372036854775807) : IntKind.i64.wrap x = x := by
  have e1 : (2 : Int) ^ 64 = 18446744073709551616 := by decide
  have e2 : (2 : Int) ^ (64 - 1) = 9223372036854775808 := by decide
  simp only [IntKind.wrap, IntKind.bits, IntKind.signed, Bool.true_and, e1, e2]
  split
  · rename_i hh; have := of_decide_eq_true hh; omega
  · rename_i hh; have := of_decide_eq_false (by simpa using hh : decide (x % 18446744073709551616 ≥ 9223372036854775808) = false); omega
@[simp] theorem wrap_u8 {x : Int} (h1 : 0 ≤ x) (h2 : x ≤ 255) : IntKind.u8.wrap x = x := by
  simp only [IntKind.wrap, IntKind.bits, IntKind.signed]
  simp
  omega
end Go.HC

/-
  HC, part 8: composite literals, arrays, strings, comparisons.
-/
namespace Go.HC

section
variable {P : Program} {l : L} {b : Base} {h : Heap} {K : Value → Heap → Prop} {dst : Option Tmp} {ty : TypeId} {pos : String} {aft : Array Edge} {g : Option (Nat × Bool)}

/-! ### struct literals -/
/-- A struct type all of whose fields' types are known. -/
def structOk (P : Program) (T : TypeId) : Bool :=
  match P.underlying T with
  | some (.struct fs) => fs.toList.all fun f => (P.info? f.type).isSome && (P.underlying f.type).isSome
  | _ => false
def fillF (P : Program) (T : TypeId) : Array Value → List (Nat × Value) → Option (Array Value)
  | cs, [] => some cs
  | cs, (i, v) :: rest =>
    match fldS P T i with
    | some (off, size, _) => if v.cells.size = size ∧ off + v.cells.size ≤ cs.size then fillF P T (writeC cs off v.cells.toList) rest else none
    | none => none
theorem zip_writeC (off : Nat) : ∀ (vs : List Value) (i : Nat) (cs : Array Value), (vs.zipIdx i).foldl (fun cs (c, j) => cs.setIfInBounds (off + j) c) cs = writeC cs (off + i) vs
  | [], i, cs => rfl
  | v :: vs, i, cs => by
    simp only [List.zipIdx_cons, List.foldl_cons, writeC]
    exact zip_writeC off vs (i + 1) _
theorem zip_writeC' (off : Nat) (a : Array Value) (cs : Array Value) : a.zipIdx.foldl (fun cs (c, j) => cs.setIfInBounds (off + j) c) cs = writeC cs off a.toList := by
  rw [← Array.foldl_toList, Array.toList_zipIdx]
  exact zip_writeC off a.toList 0 cs
theorem fill_eq (place : Nat → Option (Nat × Nat)) (T : TypeId) (hp1 : ∀ i, place i = (fldS P T i).map fun t => (t.1, t.2.1)) : ∀ (parts : List (Nat × Value)) (cs : Array Value),
    Instr.fill place cs parts = fillF P T cs parts
  | [], cs => rfl
  | (i, v) :: rest, cs => by
    simp only [Instr.fill, fillF, hp1]
    cases fldS P T i with
    | none => rfl
    | some t =>
      obtain ⟨off, size, ag⟩ := t
      simp only [Option.map_some, zip_writeC']
      by_cases h1 : v.cells.size = size
      · by_cases h2 : off + v.cells.size ≤ cs.size
        · rw [if_neg (by simp; omega), if_pos ⟨h1, h2⟩]
          exact fill_eq place T hp1 rest _
        · rw [if_pos (by simp; omega), if_neg (fun hh => h2 hh.2)]
      · rw [if_pos (by simp [h1]), if_neg (fun hh => h1 hh.1)]

def buildS (P : Program) (T : TypeId) (parts : List (Nat × Value)) (h : Heap) (K : Value → Heap → Prop) (_t : Tag K := ⟨⟩) : Prop := hp P (Instr.build T parts.toArray) K h
@[congr] theorem buildS_congr {T : TypeId} {p p' : List (Nat × Value)} (hv : p = p') : buildS P T p h K = buildS P T p' h K := by rw [hv]
@[simp] theorem os_build (T : TypeId) (parts : Array (Nat × Operand)) : os P ⟨dst, .build T parts, ty, pos, aft, g⟩ l b h K = buildS P T (parts.toList.map fun p => (p.1, ev l b p.2)) h K := by
  unfold os osem buildS
  show hp P (do pure (Next.value (← Instr.build T (parts.map fun (i, x) => (i, ev l b x))))) (nextK P K) h = _
  rw [hp_bind]
  rw [show (parts.toList.map fun p => (p.1, ev l b p.2)).toArray = parts.map fun p => (p.1, ev l b p.2) from by rw [← Array.toList_map, Array.toArray_toList]]
  rfl
theorem hp_places (fs : Array Field) (hfs : fs.toList.all (fun f => (P.info? f.type).isSome && (P.underlying f.type).isSome) = true) (K : Array (Nat × Nat) → Heap → Prop) :
    hp P (fs.mapM fun f => do pure (f.offset, ← sizeOf f.type)) K h = K (fs.map fun f => (f.offset, (szS P f.type).getD 0)) h := by
  rw [Array.mapM_eq_mapM_toList, hp_map]
  have key : ∀ (l : List Field) (K : List (Nat × Nat) → Heap → Prop), l.all (fun f => (P.info? f.type).isSome && (P.underlying f.type).isSome) = true →
      hp P (l.mapM fun f => do pure (f.offset, ← sizeOf f.type)) K h = K (l.map fun f => (f.offset, (szS P f.type).getD 0)) h := by
    intro l
    induction l with
    | nil => intro K _; rfl
    | cons f l ih =>
      intro K hl
      simp only [List.all_cons, Bool.and_eq_true] at hl
      obtain ⟨i, hi⟩ := Option.isSome_iff_exists.1 hl.1.1
      have hsz : szS P f.type = some i.size := by simp [szS, hi]
      rw [List.mapM_cons, hp_bind, hp_bind, hp_sizeOf, hsz]
      show hp P (do let ys ← l.mapM _; pure _) K h = _
      rw [hp_bind, ih _ (by simpa using hl.2)]
      simp [hsz]
  rw [key _ _ hfs]
  rw [← Array.toList_map, Array.toArray_toList]
@[simp] theorem buildS_struct (T : TypeId) (parts : List (Nat × Value)) (ht : structOk P T = true) :
    buildS P T parts h K = optS ((zS P T).bind fun z => fillF P T z.cells parts) (fun cs => K (.agg cs) h) := by
  unfold structOk at ht
  unfold buildS Instr.build
  simp only [hp_bind, hp_zeroValue]
  cases hz : zS P T with
  | none => rfl
  | some z =>
    simp only [hp_underlying, Option.bind_some]
    cases hu : P.underlying T with
    | none => simp [hu] at ht
    | some d =>
      cases d <;> rw [hu] at ht <;> (try (simp at ht; done))
      rename_i fs
      have ht' : fs.toList.all (fun f => (P.info? f.type).isSome && (P.underlying f.type).isSome) = true := ht
      have ht2 : ∀ f ∈ fs, (P.info? f.type).isSome = true ∧ (P.underlying f.type).isSome = true := by
        intro f hf
        have := List.all_eq_true.1 ht' f (by simpa using hf)
        simpa using this
      simp only [hp_bind, hp_places fs ht']
      rw [fill_eq (P := P) _ T]
      · cases fillF P T z.cells parts <;> simp [optS]
      · intro i
        simp only [fldS, hu]
        cases hx : fs[i]? with
        | none => simp [hx]
        | some f =>
          have hf := ht2 f (Array.mem_of_getElem? hx)
          obtain ⟨j, hj⟩ := Option.isSome_iff_exists.1 hf.1
          obtain ⟨d, hd⟩ := Option.isSome_iff_exists.1 hf.2
          simp [hx, hj, hd, szS]
@[simp] theorem fillF_nil (T : TypeId) (cs : Array Value) : fillF P T cs [] = some cs := _root_.id rfl
/-- The next part, with its place known. -/
def fillAt (P : Program) (T : TypeId) (cs : Array Value) (v : Value) (rest : List (Nat × Value)) : Option (Nat × Nat × Bool) → Option (Array Value)
  | some (off, size, _) => if v.cells.size = size ∧ off + v.cells.size ≤ cs.size then fillF P T (writeC cs off v.cells.toList) rest else none
  | none => none
@[simp] theorem fillAt_some (T : TypeId) (cs : Array Value) (v : Value) (rest : List (Nat × Value)) (off size : Nat) (ag : Bool) : fillAt P T cs v rest (some (off, size, ag)) =
    if v.cells.size = size ∧ off + v.cells.size ≤ cs.size then fillF P T (writeC cs off v.cells.toList) rest else none := _root_.id rfl
@[simp] theorem fillF_cons (T : TypeId) (cs : Array Value) (i : Nat) (v : Value) (rest : List (Nat × Value)) : fillF P T cs ((i, v) :: rest) = fillAt P T cs v rest (fldS P T i) := by
  simp only [fillF, fillAt]

/-! ### slice literals -/
def buildSliceS (P : Program) (T : TypeId) (n : Nat) (parts : List (Nat × Value)) (h : Heap) (K : Value → Heap → Prop) (_t : Tag K := ⟨⟩) : Prop := hp P (Instr.buildSlice T n parts.toArray) K h
@[congr] theorem buildSliceS_congr {T : TypeId} {n : Nat} {p p' : List (Nat × Value)} (hv : p = p') : buildSliceS P T n p h K = buildSliceS P T n p' h K := by rw [hv]
@[simp] theorem os_buildSlice (T : TypeId) (n : Nat) (parts : Array (Nat × Operand)) : os P ⟨dst, .buildSlice T n parts, ty, pos, aft, g⟩ l b h K = buildSliceS P T n (parts.toList.map fun p => (p.1, ev l b p.2)) h K := by
  unfold os osem buildSliceS
  show hp P (do pure (Next.value (← Instr.buildSlice T n (parts.map fun (i, x) => (i, ev l b x))))) (nextK P K) h = _
  rw [hp_bind]
  rw [show (parts.toList.map fun p => (p.1, ev l b p.2)).toArray = parts.map fun p => (p.1, ev l b p.2) from by rw [← Array.toList_map, Array.toArray_toList]]
  rfl
/-- All elements are given, in their order. -/
def flatParts : List (Nat × Value) → List Value
  | [] => []
  | (_, v) :: rest => v.cells.toList ++ flatParts rest
def partsOk (s : Nat) : Nat → List (Nat × Value) → Bool
  | _, [] => true
  | i, (j, v) :: rest => decide (i = j) && decide (v.cells.size = s) && partsOk s (i + 1) rest
theorem size_writeC : ∀ (vs : List Value) (cs : Array Value) (off : Nat), (writeC cs off vs).size = cs.size
  | [], _, _ => rfl
  | v :: vs, cs, off => by simp [writeC, size_writeC vs]
theorem toList_writeC : ∀ (vs : List Value) (cs : Array Value) (off : Nat), off + vs.length ≤ cs.size → (writeC cs off vs).toList = cs.toList.take off ++ vs ++ cs.toList.drop (off + vs.length)
  | [], cs, off, _ => by simp [writeC]
  | v :: vs, cs, off, hl => by
    simp only [List.length_cons] at hl
    rw [writeC, toList_writeC vs _ (off + 1) (by simp; omega)]
    rw [Array.toList_setIfInBounds, List.take_set, List.drop_set, if_pos (by omega)]
    have h1 : (cs.toList.take (off + 1)).set off v = cs.toList.take off ++ [v] := by
      have hlt : off < cs.toList.length := by rw [Array.length_toList]; omega
      have hlen : (cs.toList.take off).length = off := by rw [List.length_take]; omega
      rw [List.take_succ_eq_append_getElem hlt, List.set_append_right _ _ (by omega), hlen, Nat.sub_self]
      rfl
    rw [h1]
    simp only [List.append_assoc, List.length_cons, List.cons_append, List.nil_append]
    rw [show off + 1 + vs.length = off + (vs.length + 1) from by omega]
theorem fill_flat (s n : Nat) : ∀ (parts : List (Nat × Value)) (i : Nat) (cs : Array Value), partsOk s i parts = true → cs.size = n * s → i + parts.length = n →
    ∃ cs', Instr.fill (fun i => some (i * s, s)) cs parts = some cs' ∧ cs'.toList = cs.toList.take (i * s) ++ flatParts parts
  | [], i, cs, _, hs, hn => by
    refine ⟨cs, rfl, ?_⟩
    simp only [List.length_nil, Nat.add_zero] at hn
    rw [flatParts, List.append_nil, List.take_of_length_le (by rw [Array.length_toList, hs, hn]; exact Nat.le_refl _)]
  | (j, v) :: rest, i, cs, hp, hs, hn => by
    simp only [partsOk, Bool.and_eq_true, decide_eq_true_eq] at hp
    obtain ⟨⟨rfl, hv⟩, hr⟩ := hp
    simp only [List.length_cons] at hn
    have hle : i * s + s ≤ cs.size := by
      rw [hs, ← Nat.succ_mul]; exact Nat.mul_le_mul_right _ (by omega)
    simp only [Instr.fill, zip_writeC']
    rw [if_neg (by simp [hv]; omega)]
    obtain ⟨cs', h1, h2⟩ := fill_flat s n rest (i + 1) (writeC cs (i * s) v.cells.toList) hr (by rw [size_writeC, hs]) (by omega)
    refine ⟨cs', h1, ?_⟩
    rw [h2, toList_writeC _ _ _ (by simp [hv]; exact hle)]
    simp only [flatParts]
    have hlen : (cs.toList.take (i * s) ++ v.cells.toList).length = (i + 1) * s := by
      simp only [List.length_append, List.length_take, Array.length_toList, hv, Nat.succ_mul]
      omega
    rw [← hlen, List.take_left, List.append_assoc]
@[simp] theorem buildSliceS_all (T : TypeId) (n : Nat) (parts : List (Nat × Value)) (hn : parts.length = n) (hz : (((elS P T).bind (zS P)).isSome && ((elS P T).bind (szS P)).isSome) = true)
    (hok : partsOk (((elS P T).bind (szS P)).getD 0) 0 parts = true) (hsz : Nat.ble (n * ((elS P T).bind (szS P)).getD 0) 16777216 = true) :
    buildSliceS P T n parts h K = K (.slice (some ⟨h.size, 0, none⟩) n n) (h.push (.cells (flatParts parts).toArray ((elS P T).getD 0))) := by
  cases he : elS P T with
  | none => simp [he] at hz
  | some e =>
    have hu : P.underlying T = some (.slice e) := elS_spec he
    simp only [he, Option.bind_some] at hz hok hsz
    cases hs : szS P e with
    | none => simp [hs] at hz
    | some s =>
      cases hzv : zS P e with
      | none => simp [hzv] at hz
      | some z =>
        simp only [hs, Option.getD_some] at hok hsz
        have hsz := Nat.le_of_ble_eq_true hsz
        unfold buildSliceS Instr.buildSlice
        simp only [hp_bind, hp_underlying, hu, hp_sizeOf, hs, hp_ite, hp_pure]
        have fin : ∀ zz : Array Value, (n * s = 0 → zz = #[]) → (n * s ≠ 0 → zz = z.cells) →
            hp P (match Instr.fill (fun i => some (i * s, s)) ((Array.range (n * s)).map (zz[· % zz.size]!)) parts with
              | some cells => do pure (Value.slice (some (← newRow e cells)) n n)
              | x => stuck "buildSlice: a part of the wrong size") K h = K (.slice (some ⟨h.size, 0, none⟩) n n) (h.push (.cells (flatParts parts).toArray e)) := by
          intro zz _ _
          obtain ⟨cs', h1, h2⟩ := fill_flat s n parts 0 ((Array.range (n * s)).map (zz[· % zz.size]!)) hok (by simp) (by omega)
          rw [h1]
          simp only [hp_bind, newRow, hp_newObj, hp_pure]
          have : cs' = (flatParts parts).toArray := by
            apply Array.ext'
            rw [h2]; simp
          rw [this]
        rw [if_neg (by omega)]
        by_cases h0 : n * s = 0
        · rw [if_pos h0]
          have := fin #[] (fun _ => rfl) (fun hh => absurd h0 hh)
          simp only [Option.getD_some] at this ⊢
          exact this
        · rw [if_neg h0]
          simp only [hp_zeroValue, hzv]
          have := fin z.cells (fun hh => absurd hh h0) (fun _ => rfl)
          simp only [Option.getD_some] at this ⊢
          exact this
@[simp] theorem flatParts_nil : flatParts [] = [] := _root_.id rfl
@[simp] theorem flatParts_cons (i : Nat) (v : Value) (rest : List (Nat × Value)) : flatParts ((i, v) :: rest) = v.cells.toList ++ flatParts rest := _root_.id rfl
@[simp] theorem partsOk_nil (s i : Nat) : partsOk s i [] = true := _root_.id rfl
@[simp] theorem partsOk_cons (s i j : Nat) (v : Value) (rest : List (Nat × Value)) : partsOk s i ((j, v) :: rest) = (decide (i = j) && decide (v.cells.size = s) && partsOk s (i + 1) rest) := _root_.id rfl
end
end Go.HC

/-
  HC, part 9: strings, bools, nil, arrays, makes, conversions of bytes.
-/
namespace Go.HC

section
variable {P : Program} {l : L} {b : Base} {h : Heap} {K : Value → Heap → Prop} {dst : Option Tmp} {ty : TypeId} {pos : String} {aft : Array Edge} {g : Option (Nat × Bool)}

/-! ### strings -/
def sLt (x y : ByteArray) : Bool := Op.bytesLess x.data.toList y.data.toList
theorem ba_beq (x y : ByteArray) : (x == y) = decide (x = y) := by
  have : (x == y) = (x.data == y.data) := rfl
  rw [this]
  by_cases h : x = y
  · subst h; simp
  · simp only [h, decide_false, beq_eq_false_iff_ne]
    intro e
    exact h (by cases x; cases y; simp at e; simp [e])
theorem ba_list (x y : ByteArray) : (x.data.toList == y.data.toList) = decide (x = y) := by
  by_cases h : x = y
  · subst h; simp
  · simp only [h, decide_false, beq_eq_false_iff_ne]
    intro e
    exact h (by cases x; cases y; simp at e; simp [e])
def strRes (op : BinOp) (x y : ByteArray) : Option Value :=
  match op with
  | .add => if x.size + y.size ≤ 9223372036854775807 then some (.string (x ++ y)) else none
  | .eql => some (.bool (decide (x = y)))
  | .neq => some (.bool (!decide (x = y)))
  | .lss => some (.bool (sLt x y))
  | .leq => some (.bool (sLt x y || decide (x = y)))
  | .gtr => some (.bool (!(sLt x y || decide (x = y))))
  | .geq => some (.bool (!sLt x y))
  | _ => none
@[simp] theorem binS_string (op : BinOp) (T : TypeId) (x y : Operand) (s t : ByteArray) : binS P op T x y (.string s) (.string t) h K = optS (strRes op s t) (K · h) := by
  unfold binS
  have hg : ∀ K', hp P (eqGuard op T x y (.string s) (.string t)) K' h = K' () h := by intro K'; unfold eqGuard; cases op <;> rfl
  simp only [hp_bind, hg]
  have hm : IntKind.i64.max = 9223372036854775807 := by decide
  cases op <;> simp only [binOp, Op.stringOp, strRes, optS, hp_stuck, hp_pure, sLt, ByteArray.toList_eq, ba_list] <;> (try rfl)
  · rw [hm]
    by_cases hs : s.size + t.size ≤ 9223372036854775807
    · rw [if_pos hs, if_neg (by omega)]; rfl
    · rw [if_neg hs, if_pos (by omega)]; rfl
@[simp] theorem strRes_eql (x y : ByteArray) : strRes .eql x y = some (.bool (decide (x = y))) := _root_.id rfl
@[simp] theorem strRes_neq (x y : ByteArray) : strRes .neq x y = some (.bool (!decide (x = y))) := _root_.id rfl
@[simp] theorem strRes_lss (x y : ByteArray) : strRes .lss x y = some (.bool (sLt x y)) := _root_.id rfl
@[simp] theorem strRes_leq (x y : ByteArray) : strRes .leq x y = some (.bool (sLt x y || decide (x = y))) := _root_.id rfl
@[simp] theorem strRes_gtr (x y : ByteArray) : strRes .gtr x y = some (.bool (!(sLt x y || decide (x = y)))) := _root_.id rfl
@[simp] theorem strRes_geq (x y : ByteArray) : strRes .geq x y = some (.bool (!sLt x y)) := _root_.id rfl
@[simp] theorem strRes_add (x y : ByteArray) (hs : x.size + y.size ≤ 9223372036854775807) : strRes .add x y = some (.string (x ++ y)) := by simp [strRes, hs]

/-! ### bools -/
def boolT (P : Program) (T : TypeId) : Bool := match P.underlying T with | some .bool => true | _ => false
theorem hp_equal_bool {T : TypeId} (ht : boolT P T = true) (s t : Bool) (K' : Bool → Heap → Prop) : hp P (Op.equal T (.bool s) (.bool t)) K' h = K' (s == t) h := by
  unfold boolT at ht
  unfold Op.equal Op.maxDepth Op.equalIn
  simp only [hp_bind, hp_underlying]
  cases hu : P.underlying T with
  | none => simp [hu] at ht
  | some d => cases d <;> simp [hu] at ht; rfl
@[simp] theorem binS_bool_eql (T : TypeId) (x y : Operand) (s t : Bool) (ht : boolT P T = true) : binS P .eql T x y (.bool s) (.bool t) h K = forceV (.bool (s == t)) (K · h) := by
  unfold binS
  simp only [hp_bind]
  show hp P (eqGuard .eql T x y (.bool s) (.bool t)) _ h = _
  simp only [eqGuard]
  show hp P (binOp .eql T (.bool s) (.bool t)) K h = _
  simp only [binOp, hp_bind, hp_equal_bool ht, hp_pure]
  rfl
@[simp] theorem binS_bool_neq (T : TypeId) (x y : Operand) (s t : Bool) (ht : boolT P T = true) : binS P .neq T x y (.bool s) (.bool t) h K = forceV (.bool (!(s == t))) (K · h) := by
  unfold binS
  simp only [hp_bind]
  show hp P (eqGuard .neq T x y (.bool s) (.bool t)) _ h = _
  simp only [eqGuard]
  show hp P (binOp .neq T (.bool s) (.bool t)) K h = _
  simp only [binOp, hp_bind, hp_equal_bool ht, hp_pure]
  rfl

/-! ### nil -/
/-- What a value of these kinds is held against nil by. -/
def nilKind (P : Program) (T : TypeId) : Nat :=
  match P.underlying T with
  | some (.slice _) => 1
  | some (.pointer _) => 2
  | some (.map _ _) => 3
  | _ => 0
theorem binS_eq_of {op : BinOp} {T : TypeId} {x y : Operand} {v u : Value} {r : Bool} (hop : op = .eql ∨ op = .neq)
    (hv : (∀ k n, v ≠ .int k n) ∧ (∀ s, v ≠ .string s) ∧ (∀ k n, v ≠ .float k n) ∧ (∀ k n m, v ≠ .complex k n m) ∧ v ≠ .nilIface ∧ (∀ cs, v ≠ .agg cs))
    (he : ∀ K' : Bool → Heap → Prop, hp P (Op.equal T v u) K' h = K' r h) :
    binS P op T x y v u h K = forceV (.bool (if op = .eql then r else !r)) (K · h) := by
  unfold binS
  obtain ⟨h1, h2, h3, h4, h5, h6⟩ := hv
  have hg : ∀ K', hp P (eqGuard op T x y v u) K' h = K' () h := by
    intro K'
    unfold eqGuard
    rcases hop with rfl | rfl <;> cases v <;> first | rfl | exact absurd rfl h5 | exact absurd rfl (h6 _)
  simp only [hp_bind, hg]
  rcases hop with rfl | rfl <;> cases v <;> (first
    | exact absurd rfl (h1 _ _) | exact absurd rfl (h2 _) | exact absurd rfl (h3 _ _) | exact absurd rfl (h4 _ _ _) | exact absurd rfl (h6 _)
    | (simp only [binOp, hp_bind, he, hp_pure]; simp [forceV]))
theorem hp_equal_slice {T : TypeId} (ht : nilKind P T = 1) (a : Option Addr) (n c n' c' : Nat) (K' : Bool → Heap → Prop) :
    hp P (Op.equal T (.slice a n c) (.slice none n' c')) K' h = K' a.isNone h := by
  unfold nilKind at ht
  unfold Op.equal Op.maxDepth Op.equalIn
  simp only [hp_bind, hp_underlying]
  cases hu : P.underlying T with
  | none => simp [hu] at ht
  | some d => cases d <;> simp [hu] at ht; cases a <;> rfl
@[simp] theorem binS_slice_nil (T : TypeId) (x y : Operand) (a : Option Addr) (n c n' c' : Nat) (ht : nilKind P T = 1) : binS P .eql T x y (.slice a n c) (.slice none n' c') h K = forceV (.bool a.isNone) (K · h) :=
  binS_eq_of (.inl rfl) (by simp) (hp_equal_slice ht a n c n' c')
@[simp] theorem binS_slice_nnil (T : TypeId) (x y : Operand) (a : Option Addr) (n c n' c' : Nat) (ht : nilKind P T = 1) : binS P .neq T x y (.slice a n c) (.slice none n' c') h K = forceV (.bool (!a.isNone)) (K · h) :=
  binS_eq_of (.inr rfl) (by simp) (hp_equal_slice ht a n c n' c')
theorem hp_equal_ptr {T : TypeId} (ht : nilKind P T = 2) (a : Option Addr) (K' : Bool → Heap → Prop) : hp P (Op.equal T (.pointer a) (.pointer none)) K' h = K' a.isNone h := by
  unfold nilKind at ht
  unfold Op.equal Op.maxDepth Op.equalIn
  simp only [hp_bind, hp_underlying]
  cases hu : P.underlying T with
  | none => simp [hu] at ht
  | some d => cases d <;> simp [hu] at ht; cases a <;> rfl
@[simp] theorem binS_ptr_nil (T : TypeId) (x y : Operand) (a : Option Addr) (ht : nilKind P T = 2) : binS P .eql T x y (.pointer a) (.pointer none) h K = forceV (.bool a.isNone) (K · h) :=
  binS_eq_of (.inl rfl) (by simp) (hp_equal_ptr ht a)
@[simp] theorem binS_ptr_nnil (T : TypeId) (x y : Operand) (a : Option Addr) (ht : nilKind P T = 2) : binS P .neq T x y (.pointer a) (.pointer none) h K = forceV (.bool (!a.isNone)) (K · h) :=
  binS_eq_of (.inr rfl) (by simp) (hp_equal_ptr ht a)

/-! ### an index of a string; a piece of a string -/
def indexS (P : Program) (T : TypeId) (v u : Value) (h : Heap) (K : Value → Heap → Prop) (_t : Tag K := ⟨⟩) : Prop := hp P (Instr.index T v u) K h
@[congr] theorem indexS_congr {T : TypeId} {v v' u u' : Value} (hv : v = v') (hu : u = u') : indexS P T v u h K = indexS P T v' u' h K := by rw [hv, hu]
@[simp] theorem os_index (T : TypeId) (x y : Operand) : os P ⟨dst, .index T x y, ty, pos, aft, g⟩ l b h K = indexS P T (ev l b x) (ev l b y) h K := by
  unfold os osem execOp indexS; simp only [hp_bind, hp_pure]; rfl
theorem strT_spec {T : TypeId} (ht : strT P T = true) : P.underlying T = some .string := by
  unfold strT at ht
  cases hu : P.underlying T with
  | none => simp [hu] at ht
  | some d => cases d <;> simp [hu] at ht; rfl
theorem sliceS_string {T : TypeId} {s : ByteArray} {lo hi : Option Value} {i j : Nat} (ht : strT P T = true)
    (hj : hi = none ∧ j = s.size ∨ ∃ k, hi = some (.int k j)) (hi' : lo = none ∧ i = 0 ∨ ∃ k, lo = some (.int k i)) (h1 : i ≤ j) (h2 : j ≤ s.size) :
    sliceS P T (.string s) lo hi none h K = K (.string (s.extract i j)) h := by
  unfold sliceS Instr.sliceAt
  have ci : ∀ x : Nat, ((x : Int)).toNat = x := fun x => Int.toNat_natCast x
  have b1 := fun (k : IntKind) (code : BoundsCode) (K' : Nat → Heap → Prop) => sliceBound_eq (P := P) (h := h) (k := k) (code := code) (K := K') (Int.natCast_nonneg i) (Int.ofNat_le.2 h1)
  have b2 := fun (k : IntKind) (code : BoundsCode) (K' : Nat → Heap → Prop) => sliceBound_eq (P := P) (h := h) (k := k) (code := code) (K := K') (Int.natCast_nonneg j) (Int.ofNat_le.2 h2)
  simp only [hp_bind, hp_underlying, strT_spec ht, Instr.slice]
  rcases hj with ⟨rfl, rfl⟩ | ⟨k2, rfl⟩ <;> rcases hi' with ⟨rfl, rfl⟩ | ⟨k3, rfl⟩
  · simp [Instr.sliceBounds]
  · simp [Instr.sliceBounds, b1, ci]
  · simp [Instr.sliceBounds, b2, ci]
  · simp [Instr.sliceBounds, b1, b2, ci]

/-! ### an element of an array variable -/
def arrS (P : Program) (T : TypeId) : Option (Nat × Nat) :=
  match P.underlying T with
  | some (.array n e) => (szS P e).map fun s => (n, s)
  | _ => none
theorem indexAddrS_array {T : TypeId} {bk off n s : Nat} {k : IntKind} {i : Int} (ht : arrS P T = some (n, s)) (h0 : 0 ≤ i) (h1 : i < n) :
    indexAddrS P T (.pointer (some ⟨bk, off, none⟩)) (.int k i) h K = K (.pointer (some ⟨bk, off + i.toNat * s, none⟩)) h := by
  unfold arrS at ht
  unfold indexAddrS Instr.indexAt
  simp only [hp_bind, asIntOf, hp_pure, hp_underlying]
  cases hu : P.underlying T with
  | none => simp [hu] at ht
  | some d =>
    cases d <;> simp [hu] at ht
    obtain ⟨hs, rfl⟩ := ht
    simp only [Instr.sureAddr, hp_bind, hp_pure, hp_underlying, hu, if_pos (And.intro h0 h1), hp_sizeOf, hs, add_mk]

/-! ### min, max -/
@[simp] theorem min_int (ats : Array TypeId) (cs : Array Bool) (k : IntKind) (x y : Int) : builtinS P .min ats ty cs #[.int k x, .int k y] h K = forceV (.int k (min x y)) (K · h) := by
  unfold builtinS builtin Builtin.min_
  simp only [hp_bind, hp_pure]
  simp only [List.foldlM, Builtin.min2, hp_bind, hp_pure, nextK, forceV]
  congr 2
  simp only [Int.min_def]
  split <;> split <;> omega
@[simp] theorem max_int (ats : Array TypeId) (cs : Array Bool) (k : IntKind) (x y : Int) : builtinS P .max ats ty cs #[.int k x, .int k y] h K = forceV (.int k (max x y)) (K · h) := by
  unfold builtinS builtin Builtin.max_
  simp only [hp_bind, hp_pure]
  simp only [List.foldlM, Builtin.max2, hp_bind, hp_pure, nextK, forceV]
  congr 2
  simp only [Int.max_def]
  split <;> split <;> omega
end
end Go.HC

/-
  HC, part 10: memory: what is kept, rows of cells, append, make, copy.
-/
namespace Go.HC

/-! ### What is kept -/
/-- All old blocks but those of S are as they were. -/
structure Keep (S : Nat → Prop) (h h' : Heap) : Prop where
  size : h.size ≤ h'.size
  blk : ∀ b, b < h.size → ¬ S b → h'[b]? = h[b]?
def none_ : Nat → Prop := fun _ => False
theorem Keep.refl (S : Nat → Prop) (h : Heap) : Keep S h h := ⟨Nat.le_refl _, fun _ _ _ => rfl⟩
theorem Keep.trans {S S' : Nat → Prop} {h h' h'' : Heap} (k : Keep S h h') (k' : Keep S' h' h'') (hs : ∀ b, b < h.size → S' b → S b) : Keep S h h'' :=
  ⟨Nat.le_trans k.size k'.size, fun b hb hn => (k'.blk b (Nat.lt_of_lt_of_le hb k.size) (fun h => hn (hs b hb h))).trans (k.blk b hb hn)⟩
theorem Keep.weaken {S S' : Nat → Prop} {h h' : Heap} (k : Keep S h h') (hs : ∀ b, b < h.size → S b → S' b) : Keep S' h h' :=
  ⟨k.size, fun b hb hn => k.blk b hb (fun h => hn (hs b hb h))⟩
theorem Keep.push (S : Nat → Prop) (h : Heap) (o : Obj) : Keep S h (h.push o) :=
  ⟨by simp, fun b hb _ => by rw [Array.getElem?_push, if_neg (by omega)]⟩
theorem Keep.set {S : Nat → Prop} (h : Heap) {b : Nat} (o : Obj) (hb : b < h.size → S b) : Keep S h (h.setIfInBounds b o) :=
  ⟨by simp, fun i hi hn => by rw [Array.getElem?_setIfInBounds, if_neg (fun e => hn (by subst e; exact hb hi))]⟩
theorem Keep.at {S : Nat → Prop} {h h' : Heap} (k : Keep S h h') {b : Nat} {o : Obj} (hb : h[b]? = some o) (hs : ¬ S b) : h'[b]? = some o :=
  (k.blk b (Array.getElem?_eq_some_iff.1 hb).1 hs).trans hb
theorem lt_of_blk {h : Heap} {b : Nat} {o : Obj} (hb : h[b]? = some o) : b < h.size := (Array.getElem?_eq_some_iff.1 hb).1
theorem push_old {h : Heap} {b : Nat} (o : Obj) (hb : b < h.size) : (h.push o)[b]? = h[b]? := by rw [Array.getElem?_push, if_neg (by omega)]
theorem push_at {h : Heap} {b : Nat} {o o' : Obj} (hb : h[b]? = some o') : (h.push o)[b]? = some o' := by rw [push_old o (lt_of_blk hb), hb]
@[simp] theorem push_new (h : Heap) (o : Obj) : (h.push o)[h.size]? = some o := by simp
theorem set_same {h : Heap} {b : Nat} (o : Obj) (hb : b < h.size) : (h.setIfInBounds b o)[b]? = some o := by simp [hb]
theorem set_other {h : Heap} {b i : Nat} (o : Obj) (hb : b ≠ i) : (h.setIfInBounds b o)[i]? = h[i]? := by rw [Array.getElem?_setIfInBounds, if_neg hb]

/-! ### Cells at an address -/
def Cells (F : Nat → Prop) (h : Heap) (a : Option Addr) (cs : List Value) : Prop :=
  cs = [] ∨ ∃ bk off c e fz, a = some ⟨bk, off, none⟩ ∧ F bk ∧ h[bk]? = some (.cells c e fz) ∧ (c.toList.drop off).take cs.length = cs
theorem Cells.nil (F : Nat → Prop) (h : Heap) (a : Option Addr) : Cells F h a [] := .inl rfl
theorem Cells.mono {F F' : Nat → Prop} {h h' : Heap} {a : Option Addr} {cs : List Value} (hc : Cells F h a cs) (hk : ∀ b, F b → F' b ∧ h'[b]? = h[b]?) : Cells F' h' a cs := by
  rcases hc with h0 | ⟨bk, off, c, e, fz, h1, h2, h3, h4⟩
  · exact .inl h0
  · exact .inr ⟨bk, off, c, e, fz, h1, (hk _ h2).1, (hk _ h2).2.trans h3, h4⟩
theorem Cells.len {off : Nat} {c : Array Value} {cs : List Value} (h4 : (c.toList.drop off).take cs.length = cs) (hne : cs ≠ []) : off + cs.length ≤ c.size := by
  have := congrArg List.length h4
  simp only [List.length_take, List.length_drop, Array.length_toList] at this
  have : 0 < cs.length := List.length_pos_iff.2 hne
  omega
theorem Cells.from {F : Nat → Prop} {h : Heap} {a : Option Addr} {cs : List Value} (hc : Cells F h a cs) (hne : cs ≠ []) :
    ∃ bk off, a = some ⟨bk, off, none⟩ ∧ F bk ∧ cellsIn h[bk]? off cs.length = some cs := by
  rcases hc with h0 | ⟨bk, off, c, e, fz, h1, h2, h3, h4⟩
  · exact absurd h0 hne
  · refine ⟨bk, off, h1, h2, ?_⟩
    rw [h3, cellsIn_some, if_pos (Cells.len h4 hne), h4]
theorem Cells.loads {F : Nat → Prop} {h : Heap} {a : Addr} {cs : List Value} (hc : Cells F h (some a) cs) : cellsFrom h a 0 cs.length = some cs := by
  by_cases hne : cs = []
  · subst hne; rfl
  · obtain ⟨bk, off, h1, _, h2⟩ := hc.from hne
    cases h1
    rw [cellsFrom_mk _ _ _ _ _ (by simpa using hne)]
    exact h2
theorem Cells.drop {F : Nat → Prop} {h : Heap} {bk off : Nat} {cs : List Value} (n : Nat) (hc : Cells F h (some ⟨bk, off, none⟩) cs) (hn : n ≤ cs.length) : Cells F h (some ⟨bk, off + n, none⟩) (cs.drop n) := by
  rcases hc with h0 | ⟨bk', off', c, e, fz, h1, h2, h3, h4⟩
  · subst h0; simp only [List.length_nil, Nat.le_zero] at hn; subst hn; exact .inl rfl
  · cases h1
    refine .inr ⟨bk, off + n, c, e, fz, rfl, h2, h3, ?_⟩
    rw [List.length_drop]
    conv => rhs; rw [← h4]
    rw [← List.drop_drop, List.drop_take]
theorem Cells.take {F : Nat → Prop} {h : Heap} {a : Option Addr} {cs : List Value} (n : Nat) (hc : Cells F h a cs) : Cells F h a (cs.take n) := by
  rcases hc with h0 | ⟨bk', off', c, e, fz, h1, h2, h3, h4⟩
  · subst h0; exact .inl (by simp)
  · refine .inr ⟨bk', off', c, e, fz, h1, h2, h3, ?_⟩
    conv => rhs; rw [← h4]
    rw [List.take_take, List.length_take]

section
variable {P : Program} {h : Heap} {K : Value → Heap → Prop} {ty : TypeId}

theorem hp_firstCells {F : Nat → Prop} {a : Option Addr} {n c s m : Nat} {cs : List Value} {K' : Array Value → Heap → Prop} (hc : Cells F h a cs) (hm : cs.length = m * s) :
    hp P (Builtin.firstCells s m (.slice a n c)) K' h = K' cs.toArray h := by
  cases a with
  | none =>
    rcases hc with h0 | ⟨_, _, _, _, _, h1, _⟩
    · subst h0; rfl
    · cases h1
  | some a =>
    simp only [Builtin.firstCells, loadCells]
    rw [hp_loadCellsFrom, ← hm, hc.loads]
    simp

theorem zeroCells_size (z : Array Value) (n : Nat) : (Builtin.zeroCells z n).size = n * z.size := by simp [Builtin.zeroCells]

/-- append, cell by cell. -/
theorem append_cells {T e s by_ : Nat} {z : Value} {cs : Array Bool} {F : Nat → Prop} {a b : Option Addr} {n c m c2 : Nat} {old news : List Value}
    (hT : elS P T = some e) (hs : szS P e = some s) (hby : byS P e = some by_) (hz : zS P e = some z) (hs0 : 0 < s)
    (hold : old.length = n * s) (hro : Cells F h a old) (hnew : news.length = m * s) (hrn : Cells F h b news)
    (hbig : (n + m) * by_ ≤ 140737488355328) (h63 : n + m < 9223372036854775808)
    (room0 : m = 0 → n ≤ c → K (.slice a n c) h)
    (room : 0 < m → n + m ≤ c → ∃ bk off arr e' fz, a = some ⟨bk, off, none⟩ ∧ h[bk]? = some (.cells arr e' fz) ∧ off + (n + m) * s ≤ arr.size ∧ frozenIn fz (off + n * s) (m * s) = false ∧ news.all Value.oneCell' = true ∧
      K (.slice a (n + m) c) (h.setIfInBounds bk (.cells (writeC arr (off + n * s) news) e' fz)))
    (grow : c < n + m → ∀ cap, n + m ≤ cap → cap < 9223372036854775808 → K (.slice (some ⟨h.size, 0, none⟩) (n + m) cap) (h.push (.cells (old.toArray ++ news.toArray ++ Builtin.zeroCells z.cells (cap - (n + m))) e))) :
    builtinS P .append #[T, T] ty cs #[.slice a n c, .slice b m c2] h K := by
  have hu := elS_spec hT
  unfold builtinS builtin Builtin.append_
  have hby' : ∃ i, P.info? e = some i ∧ i.bytes = by_ := by
    unfold byS at hby
    cases hi : P.info? e with
    | none => simp [hi] at hby
    | some i => simp [hi] at hby; exact ⟨i, rfl, hby⟩
  obtain ⟨i, hi, rfl⟩ := hby'
  simp only [hp_bind, hp_underlying, hu, hp_sizeOf, hs, hp_pure, Bool.false_eq_true, if_false, Builtin.lenOf, List.getElem?_toArray, List.getElem?_cons_zero, List.getElem?_cons_succ, Bool.not_false, if_true]
  by_cases hroom : n + m ≤ c
  · rw [if_pos hroom]
    simp only [hp_bind, hp_firstCells (c := c2) (n := m) hrn hnew]
    by_cases hm : m = 0
    · subst hm
      have hn0 : news = [] := List.eq_nil_of_length_eq_zero (by simpa using hnew)
      subst hn0
      have := room0 rfl hroom
      cases a <;> simpa [storeCells, nextK] using this
    · obtain ⟨bk, off, arr, e', fz, rfl, hb, hsz, hfz, hone, hk⟩ := room (by omega) hroom
      have hne : news ≠ [] := by
        intro e0
        rw [e0] at hnew
        have : 0 < m * s := Nat.mul_pos (by omega) hs0
        simp at hnew
        omega
      have hw : writeIn (some (.cells arr e' fz)) (off + n * s) news = some (.cells (writeC arr (off + n * s) news) e' fz) := by
        rw [writeIn_some, if_pos]
        rw [hone, hnew, hfz]
        have : off + n * s + m * s ≤ arr.size := by rw [Nat.add_assoc, ← Nat.add_mul]; exact hsz
        simp [this]
      simp only [add_mk]
      show hp P (do storeCells _ news; pure _) _ h
      rw [hp_bind, hp_storeCells _ _ _ _ _ _ hne, Nat.add_zero, hb, hw]
      simpa [nextK] using hk
  · rw [if_neg hroom]
    have hcap := growslice_fits (old := c) (need := n + m) (bytes := i.bytes) (by omega) hbig
    have hmax : IntKind.i64.max = 9223372036854775807 := by decide
    simp only [hp_bind, hp_typeInfo, hi, hp_pure, hp_ite]
    rw [if_neg (by rw [hmax]; intro hh; have := hh.1; omega)]
    rw [if_neg (by omega)]
    simp only [hp_choose, Question.forced, Bool.false_eq_true, if_false, Question.cut]
    intro t
    have hge : n + m ≤ n + m + t % (2 ^ 63 - (n + m)) := Nat.le_add_right _ _
    have hlt : n + m + t % (2 ^ 63 - (n + m)) < 9223372036854775808 := by
      have := Nat.mod_lt t (show 0 < 2 ^ 63 - (n + m) by omega)
      omega
    have hk := grow (by omega) _ hge hlt
    simp only [hp_askRoom, hp_firstCells (n := n) (c := c) hro hold, hp_firstCells (c := c2) (n := m) hrn hnew, hp_zeroValue, hz, hp_bind, newRow, hp_newObj, hp_pure, nextK]
    exact hk
end
end Go.HC

/-
  HC, part 11: data in memory ('Rp'), slices of them, slices that grow.
-/
namespace Go.HC

/-- How data of a type lie in cells: within blocks of F (a footprint), in heap h. -/
structure Rp (α : Type) where
  sz : Nat
  pos : 0 < sz
  rep : (Nat → Prop) → Heap → List Value → α → Prop
  len : ∀ {F h cs x}, rep F h cs x → cs.length = sz
  one : ∀ {F h cs x}, rep F h cs x → cs.all Value.oneCell' = true
  mono : ∀ {F F' h h' cs x}, rep F h cs x → (∀ b, F b → F' b ∧ h'[b]? = h[b]?) → rep F' h' cs x

theorem Keep.mono {S F : Nat → Prop} {h h' : Heap} (k : Keep S h h') (hF : ∀ b, F b → b < h.size ∧ ¬ S b) : ∀ b, F b → F b ∧ h'[b]? = h[b]? :=
  fun b hb => ⟨hb, k.blk b (hF b hb).1 (hF b hb).2⟩

def rInt : Rp Int where
  sz := 1
  pos := by decide
  rep _ _ cs x := cs = [.int .i64 x]
  len h := by subst h; rfl
  one h := by subst h; rfl
  mono h _ := h
def rByte : Rp UInt8 where
  sz := 1
  pos := by decide
  rep _ _ cs x := cs = [.int .u8 x.toNat]
  len h := by subst h; rfl
  one h := by subst h; rfl
  mono h _ := h
def rBool : Rp Bool where
  sz := 1
  pos := by decide
  rep _ _ cs x := cs = [.bool x]
  len h := by subst h; rfl
  one h := by subst h; rfl
  mono h _ := h
def rStr : Rp ByteArray where
  sz := 1
  pos := by decide
  rep _ _ cs x := cs = [.string x]
  len h := by subst h; rfl
  one h := by subst h; rfl
  mono h _ := h
def Rp.prod {α β : Type} (R : Rp α) (Q : Rp β) : Rp (α × β) where
  sz := R.sz + Q.sz
  pos := Nat.add_pos_left R.pos _
  rep F h cs p := ∃ c1 c2, cs = c1 ++ c2 ∧ R.rep F h c1 p.1 ∧ Q.rep F h c2 p.2
  len := by rintro F h cs x ⟨c1, c2, rfl, h1, h2⟩; rw [List.length_append, R.len h1, Q.len h2]
  one := by rintro F h cs x ⟨c1, c2, rfl, h1, h2⟩; rw [List.all_append, R.one h1, Q.one h2]; rfl
  mono := by rintro F F' h h' cs x ⟨c1, c2, rfl, h1, h2⟩ hm; exact ⟨c1, c2, rfl, R.mono h1 hm, Q.mono h2 hm⟩
/-- The cells of several data, one behind the other. -/
def Elems {α : Type} (R : Rp α) (F : Nat → Prop) (h : Heap) : List Value → List α → Prop
  | cs, [] => cs = []
  | cs, x :: xs => ∃ c1 c2, cs = c1 ++ c2 ∧ R.rep F h c1 x ∧ Elems R F h c2 xs

section
variable {α : Type} {R : Rp α} {F F' : Nat → Prop} {h h' : Heap}
theorem Elems.len : ∀ {xs : List α} {cs : List Value}, Elems R F h cs xs → cs.length = xs.length * R.sz
  | [], cs, he => by rw [show cs = [] from he]; simp
  | x :: xs, cs, ⟨c1, c2, e, h1, h2⟩ => by
    rw [e, List.length_append, R.len h1, Elems.len h2, List.length_cons, Nat.add_mul, Nat.one_mul, Nat.add_comm]
theorem Elems.one : ∀ {xs : List α} {cs : List Value}, Elems R F h cs xs → cs.all Value.oneCell' = true
  | [], cs, he => by rw [show cs = [] from he]; rfl
  | x :: xs, cs, ⟨c1, c2, e, h1, h2⟩ => by rw [e, List.all_append, R.one h1, Elems.one h2]; rfl
theorem Elems.mono (hm : ∀ b, F b → F' b ∧ h'[b]? = h[b]?) : ∀ {xs : List α} {cs : List Value}, Elems R F h cs xs → Elems R F' h' cs xs
  | [], _, he => he
  | _ :: _, _, ⟨c1, c2, e, h1, h2⟩ => ⟨c1, c2, e, R.mono h1 hm, Elems.mono hm h2⟩
theorem Elems.append : ∀ {xs ys : List α} {cs ds : List Value}, Elems R F h cs xs → Elems R F h ds ys → Elems R F h (cs ++ ds) (xs ++ ys)
  | [], ys, cs, ds, h1, h2 => by rw [show cs = [] from h1]; exact h2
  | x :: xs, ys, cs, ds, ⟨c1, c2, e, h1, h3⟩, h2 => ⟨c1, c2 ++ ds, by rw [e, List.append_assoc], h1, Elems.append h3 h2⟩
theorem Elems.single {x : α} {cs : List Value} (hr : R.rep F h cs x) : Elems R F h cs [x] := ⟨cs, [], by simp, hr, rfl⟩
theorem Elems.drop : ∀ (k : Nat) {xs : List α} {cs : List Value}, Elems R F h cs xs → Elems R F h (cs.drop (k * R.sz)) (xs.drop k)
  | 0, xs, cs, he => by simpa using he
  | k + 1, [], cs, he => by rw [show cs = [] from he]; simp [Elems]
  | k + 1, x :: xs, cs, ⟨c1, c2, e, h1, h2⟩ => by
    have := Elems.drop k h2
    rw [e, List.drop_append, R.len h1, List.drop_of_length_le (by rw [R.len h1, Nat.succ_mul]; omega), List.nil_append, Nat.succ_mul, Nat.add_sub_cancel]
    exact this
theorem Elems.take : ∀ (k : Nat) {xs : List α} {cs : List Value}, Elems R F h cs xs → Elems R F h (cs.take (k * R.sz)) (xs.take k)
  | 0, xs, cs, he => by simp [Elems]
  | k + 1, [], cs, he => by rw [show cs = [] from he]; simp [Elems]
  | k + 1, x :: xs, cs, ⟨c1, c2, e, h1, h2⟩ => by
    refine ⟨c1, c2.take (k * R.sz), ?_, h1, Elems.take k h2⟩
    rw [e, List.take_append, R.len h1, List.take_of_length_le (by rw [R.len h1, Nat.succ_mul]; omega), Nat.succ_mul, Nat.add_sub_cancel]
theorem Elems.get : ∀ {xs : List α} {cs : List Value} (k : Nat) (hk : k < xs.length), Elems R F h cs xs → R.rep F h ((cs.drop (k * R.sz)).take R.sz) xs[k]
  | [], _, k, hk, _ => by simp at hk
  | x :: xs, cs, 0, _, ⟨c1, c2, e, h1, h2⟩ => by
    subst e
    simp only [Nat.zero_mul, List.drop_zero, List.getElem_cons_zero]
    rw [List.take_append_of_le_length (by rw [R.len h1]; exact Nat.le_refl _), List.take_of_length_le (by rw [R.len h1]; exact Nat.le_refl _)]
    exact h1
  | x :: xs, cs, k + 1, hk, ⟨c1, c2, e, h1, h2⟩ => by
    subst e
    have := Elems.get k (by simpa using hk) h2
    rw [List.drop_append, R.len h1, List.drop_of_length_le (by rw [R.len h1, Nat.succ_mul]; omega), List.nil_append, Nat.succ_mul, Nat.add_sub_cancel, List.getElem_cons_succ]
    exact this
end

/-- A slice value that shows these data. -/
def SlRep {α : Type} (R : Rp α) (F : Nat → Prop) (h : Heap) (v : Value) (xs : List α) : Prop :=
  ∃ a c cs, v = .slice a xs.length c ∧ xs.length ≤ c ∧ c < 9223372036854775808 ∧ Cells F h a cs ∧ Elems R F h cs xs
section
variable {α : Type} {R : Rp α} {F F' : Nat → Prop} {h h' : Heap}
theorem SlRep.mono {v : Value} {xs : List α} (hs : SlRep R F h v xs) (hm : ∀ b, F b → F' b ∧ h'[b]? = h[b]?) : SlRep R F' h' v xs := by
  obtain ⟨a, c, cs, rfl, h1, h2, h3, h4⟩ := hs
  exact ⟨a, c, cs, rfl, h1, h2, h3.mono hm, h4.mono hm⟩
theorem SlRep.nil (R : Rp α) (F : Nat → Prop) (h : Heap) : SlRep R F h (.slice none 0 0) [] := ⟨none, 0, [], rfl, Nat.le_refl _, by decide, .nil _ _ _, rfl⟩
theorem SlRep.val {v : Value} {xs : List α} (hs : SlRep R F h v xs) : ∃ a c, v = .slice a xs.length c ∧ xs.length ≤ c ∧ c < 9223372036854775808 := by
  obtain ⟨a, c, cs, rfl, h1, h2, _⟩ := hs; exact ⟨a, c, rfl, h1, h2⟩
/-- An element: where it lies, and what lies there. -/
theorem SlRep.get {a : Option Addr} {n c : Nat} {xs : List α} (hs : SlRep R F h (.slice a n c) xs) (k : Nat) (hk : k < xs.length) :
    ∃ bk off cs, a = some ⟨bk, off, none⟩ ∧ F bk ∧ R.rep F h cs xs[k] ∧ cellsIn h[bk]? (off + k * R.sz) R.sz = some cs := by
  obtain ⟨a', c', cs, hv, h1, h2, h3, h4⟩ := hs
  cases hv
  have hlen := h4.len
  have hne : cs ≠ [] := by
    intro e
    rw [e] at hlen
    have : 0 < xs.length * R.sz := Nat.mul_pos (by omega) R.pos
    simp at hlen
    omega
  rcases h3 with h0 | ⟨bk, off, arr, e, fz, rfl, hF, hb, ht⟩
  · exact absurd h0 hne
  · refine ⟨bk, off, _, rfl, hF, h4.get k hk, ?_⟩
    have hle := Cells.len ht hne
    have hk2 : k * R.sz + R.sz ≤ cs.length := by
      rw [hlen, ← Nat.succ_mul]; exact Nat.mul_le_mul_right _ hk
    rw [hb, cellsIn_some, if_pos (by omega)]
    congr 1
    conv => rhs; rw [← ht]
    rw [List.drop_take, List.take_take, Nat.min_eq_left (by omega), List.drop_drop]
/-- An element of one cell. -/
theorem SlRep.get1 {a : Option Addr} {n c : Nat} {xs : List α} (hs : SlRep R F h (.slice a n c) xs) (h1 : R.sz = 1) (k : Nat) (hk : k < xs.length) :
    ∃ bk off v, a = some ⟨bk, off, none⟩ ∧ F bk ∧ R.rep F h [v] xs[k] ∧ cellIn h[bk]? (off + k) = some v := by
  obtain ⟨bk, off, cs, rfl, hF, hr, hc⟩ := hs.get k hk
  have hl := R.len hr
  rw [h1] at hl hc
  match cs, hl with
  | [v], _ =>
    refine ⟨bk, off, v, rfl, hF, hr, ?_⟩
    rw [Nat.mul_one] at hc
    cases hb : h[bk]? with
    | none => rw [hb] at hc; simp [cellsIn] at hc
    | some o =>
      cases o with
      | cells c e fz =>
        rw [hb, cellsIn_some] at hc
        split at hc
        · rename_i hle
          simp only [Option.some.injEq] at hc
          rw [cellIn_some]
          have h2 : off + k < c.size := by omega
          rw [List.drop_eq_getElem_cons (by simpa using h2)] at hc
          simp at hc
          simp [h2, hc]
        · cases hc
      | _ => rw [hb] at hc; simp [cellsIn] at hc

/-! ### A slice that grows: nil, or all of a block of its own -/
def Grow {α : Type} (R : Rp α) (e : TypeId) (F : Nat → Prop) (h : Heap) (v : Value) (xs : List α) (own : Option Nat) : Prop :=
  (v = .slice none 0 0 ∧ xs = [] ∧ own = none) ∨
  ∃ bk c arr cs, v = .slice (some ⟨bk, 0, none⟩) xs.length c ∧ own = some bk ∧ h[bk]? = some (.cells arr e (0, 0)) ∧ ¬ F bk ∧ arr.size = c * R.sz ∧ xs.length ≤ c ∧ c < 9223372036854775808 ∧
    arr.toList.take (xs.length * R.sz) = cs ∧ Elems R F h cs xs
theorem Grow.nil (R : Rp α) (e : TypeId) (F : Nat → Prop) (h : Heap) : Grow R e F h (.slice none 0 0) [] none := .inl ⟨rfl, rfl, rfl⟩
theorem Grow.mono {e : TypeId} {v : Value} {xs : List α} {own : Option Nat} (hg : Grow R e F h v xs own) (hm : ∀ b, F b → F' b ∧ h'[b]? = h[b]?) (ho : ∀ b, own = some b → ¬ F' b ∧ h'[b]? = h[b]?) :
    Grow R e F' h' v xs own := by
  rcases hg with hn | ⟨bk, c, arr, cs, rfl, rfl, hb, hf, h1, h2, h3, h4, h5⟩
  · exact .inl hn
  · exact .inr ⟨bk, c, arr, cs, rfl, rfl, (ho bk rfl).2.trans hb, (ho bk rfl).1, h1, h2, h3, h4, h5.mono hm⟩
theorem Grow.own_lt {e : TypeId} {v : Value} {xs : List α} {own : Option Nat} (hg : Grow R e F h v xs own) : ∀ b, own = some b → b < h.size := by
  rcases hg with ⟨_, _, rfl⟩ | ⟨bk, c, arr, cs, rfl, rfl, hb, _⟩
  · intro b hb; cases hb
  · intro b e; cases e; exact lt_of_blk hb
theorem Grow.cells {e : TypeId} {a : Option Addr} {n c : Nat} {xs : List α} {own : Option Nat} (hg : Grow R e F h (.slice a n c) xs own) :
    ∃ cs, n = xs.length ∧ n ≤ c ∧ c < 9223372036854775808 ∧ Cells (fun b => own = some b) h a cs ∧ Elems R F h cs xs := by
  rcases hg with ⟨hv, rfl, rfl⟩ | ⟨bk, c', arr, cs, hv, rfl, hb, hf, h1, h2, h3, h4, h5⟩
  · cases hv; exact ⟨[], rfl, Nat.le_refl _, by decide, .nil _ _ _, rfl⟩
  · cases hv
    refine ⟨cs, rfl, h2, h3, ?_, h5⟩
    by_cases hne : cs = []
    · exact .inl hne
    · refine .inr ⟨bk, 0, arr, e, (0, 0), rfl, rfl, hb, ?_⟩
      rw [List.drop_zero, h5.len, h4]
theorem Grow.rep {e : TypeId} {v : Value} {xs : List α} {own : Option Nat} (hg : Grow R e F h v xs own) : SlRep R (fun b => F b ∨ own = some b) h v xs := by
  have hv : ∃ a n c, v = .slice a n c := by
    rcases hg with ⟨rfl, _⟩ | ⟨bk, c, arr, cs, rfl, _⟩
    · exact ⟨_, _, _, rfl⟩
    · exact ⟨_, _, _, rfl⟩
  obtain ⟨a, n, c, rfl⟩ := hv
  obtain ⟨cs, rfl, h1, h2, h3, h4⟩ := hg.cells
  exact ⟨a, c, cs, rfl, h1, h2, h3.mono (fun b hb => ⟨.inr hb, rfl⟩), h4.mono (fun b hb => ⟨.inl hb, rfl⟩)⟩
end

section
variable {P : Program} {h : Heap} {K : Value → Heap → Prop} {ty : TypeId} {α : Type} {R : Rp α} {F F2 : Nat → Prop}
/-- Which types the cells have. -/
structure ElemT (P : Program) (T e : TypeId) (R : Rp α) (by_ : Nat) : Prop where
  el : elS P T = some e
  sz : szS P e = some R.sz
  by_ : byS P e = some by_
  zero : ∃ z, zS P e = some z ∧ z.cells.size = R.sz

/-- append onto a slice that grows. -/
theorem append_grow {T e by_ : Nat} {cs : Array Bool} {v : Value} {xs ys : List α} {own : Option Nat} {b : Option Addr} {m c2 : Nat} {news : List Value}
    (hT : ElemT P T e R by_) (hg : Grow R e F h v xs own) (hF : ∀ b, F b → b < h.size)
    (hm : m = ys.length) (hrn : Cells F2 h b news) (hel : Elems R F h news ys)
    (hbig : (xs.length + ys.length) * by_ ≤ 140737488355328) (h63 : xs.length + ys.length < 9223372036854775808)
    (hk : ∀ v' h' own', Grow R e F h' v' (xs ++ ys) own' → Keep (fun b => own = some b) h h' → (∀ b, own' = some b → own = some b ∨ h.size ≤ b) → K v' h') :
    builtinS P .append #[T, T] ty cs #[v, .slice b m c2] h K := by
  obtain ⟨z, hz, hzs⟩ := hT.zero
  have hv : ∃ a n c, v = .slice a n c := by
    rcases hg with ⟨rfl, _⟩ | ⟨bk, c, arr, cs, rfl, _⟩
    · exact ⟨_, _, _, rfl⟩
    · exact ⟨_, _, _, rfl⟩
  obtain ⟨a, n, c, rfl⟩ := hv
  obtain ⟨old, rfl, hnc, hc63, hro, hold⟩ := hg.cells
  subst hm
  have hnl := hel.len
  have cells2 : Cells (fun b => own = some b ∨ F2 b) h b news := hrn.mono (fun b hb => ⟨.inr hb, rfl⟩)
  have cells1 : Cells (fun b => own = some b ∨ F2 b) h a old := hro.mono (fun b hb => ⟨.inl hb, rfl⟩)
  refine append_cells (F := fun b => own = some b ∨ F2 b) hT.el hT.sz hT.by_ hz R.pos hold.len cells1 hnl cells2 hbig h63 ?_ ?_ ?_
  · intro h0 _
    have : ys = [] := List.eq_nil_of_length_eq_zero h0
    subst this
    refine hk _ _ own (by simpa using hg) (.refl _ _) (fun b hb => .inl hb)
  · intro h0 hroom
    rcases hg with ⟨hv, rfl, rfl⟩ | ⟨bk, c', arr, cs', hv, rfl, hb, hf, h1, h2, h3, h4, h5⟩
    · cases hv; omega
    · cases hv
      have hsz : 0 + (xs.length + ys.length) * R.sz ≤ arr.size := by
        rw [h1, Nat.zero_add]; exact Nat.mul_le_mul_right _ hroom
      refine ⟨bk, 0, arr, e, (0, 0), rfl, hb, hsz, by simp, hel.one, ?_⟩
      have hlt := lt_of_blk hb
      have hne : ∀ b, F b → bk ≠ b := fun b hFb e => hf (e ▸ hFb)
      refine hk _ _ (some bk) (.inr ⟨bk, c, writeC arr (xs.length * R.sz) news, cs' ++ news, by rw [List.length_append], rfl, ?_, hf, by rw [size_writeC, h1], by rw [List.length_append]; exact hroom, h3, ?_, ?_⟩)
        (.set h _ (fun _ => rfl)) (fun b hb => .inl hb)
      · rw [Nat.zero_add]; exact set_same _ hlt
      · have hle : xs.length * R.sz + news.length ≤ arr.size := by rw [hnl, ← Nat.add_mul]; rw [Nat.zero_add] at hsz; exact hsz
        rw [toList_writeC _ _ _ hle, h4, List.length_append]
        have hcl : (cs' ++ news).length = (xs.length + ys.length) * R.sz := by rw [List.length_append, h5.len, hnl, Nat.add_mul]
        rw [← hcl]
        exact List.take_left
      · refine (h5.append hel).mono fun b hFb => ⟨hFb, ?_⟩
        exact set_other _ (hne b hFb)
  · intro hgr cap hcap hcap63
    have hnew : ¬ F h.size := fun hh => by have := hF _ hh; omega
    refine hk _ _ (some h.size) (.inr ⟨h.size, cap, _, old ++ news, by rw [List.length_append], rfl, push_new _ _, hnew, ?_, by rw [List.length_append]; exact hcap, hcap63, ?_, ?_⟩)
      (.push _ _ _) (fun b hb => .inr (by cases hb; exact Nat.le_refl _))
    · simp only [Array.size_append, List.size_toArray, zeroCells_size, hzs, hold.len, hnl]
      rw [← Nat.add_mul, ← Nat.add_mul]
      congr 1
      omega
    · have hcl : (old ++ news).length = (xs.length + ys.length) * R.sz := by rw [List.length_append, hold.len, hnl, Nat.add_mul]
      rw [List.length_append, ← hcl]
      simp only [Array.toList_append, List.append_assoc]
      rw [← List.append_assoc]
      exact List.take_left
    · exact (hold.append hel).mono fun b hFb => ⟨hFb, push_old _ (hF b hFb)⟩
end
end Go.HC
namespace Go.HC
section
variable {α : Type} {R : Rp α} {F F' : Nat → Prop} {h h' : Heap}
theorem Grow.empty (R : Rp α) (e : TypeId) (hF : ∀ b, F b → b < h.size) : Grow R e F (h.push (.cells #[] e)) (.slice (some ⟨h.size, 0, none⟩) 0 0) [] (some h.size) :=
  .inr ⟨h.size, 0, #[], [], rfl, rfl, push_new _ _, fun hh => by have := hF _ hh; omega, by simp, Nat.le_refl _, by decide, by simp, rfl⟩
theorem Cells.bound {a : Option Addr} {cs : List Value} (hc : Cells F h a cs) : Cells (fun b => F b ∧ b < h.size) h a cs := by
  rcases hc with h0 | ⟨bk, off, c, e, fz, h1, h2, h3, h4⟩
  · exact .inl h0
  · exact .inr ⟨bk, off, c, e, fz, h1, ⟨h2, lt_of_blk h3⟩, h3, h4⟩
theorem ints_map : ∀ {xs : List Int} {cs : List Value}, Elems rInt F h cs xs ↔ cs = xs.map (Value.int .i64)
  | [], cs => by simp [Elems]
  | x :: xs, cs => by
    constructor
    · rintro ⟨c1, c2, rfl, rfl, h2⟩
      rw [ints_map.1 h2]; rfl
    · rintro rfl
      exact ⟨[.int .i64 x], _, rfl, rfl, ints_map.2 rfl⟩
theorem bytes_map : ∀ {xs : List UInt8} {cs : List Value}, Elems rByte F h cs xs ↔ cs = xs.map (fun x => Value.int .u8 x.toNat)
  | [], cs => by simp [Elems]
  | x :: xs, cs => by
    constructor
    · rintro ⟨c1, c2, rfl, rfl, h2⟩
      rw [bytes_map.1 h2]; rfl
    · rintro rfl
      exact ⟨[.int .u8 x.toNat], _, rfl, rfl, bytes_map.2 rfl⟩
theorem strs_map : ∀ {xs : List ByteArray} {cs : List Value}, Elems rStr F h cs xs ↔ cs = xs.map Value.string
  | [], cs => by simp [Elems]
  | x :: xs, cs => by
    constructor
    · rintro ⟨c1, c2, rfl, rfl, h2⟩
      rw [strs_map.1 h2]; rfl
    · rintro rfl
      exact ⟨[.string x], _, rfl, rfl, strs_map.2 rfl⟩
end
end Go.HC

/-
  HC, part 12: maps with strings or ints as keys.
-/
namespace Go.HC

/-- The keys that are served: what a key is held against, as a value, as the type tells it. -/
structure KeyK (κ : Type) [DecidableEq κ] where
  val : κ → Value
  kind : TypeDesc
  same : ∀ a b, Instr.sameNow kind (val a) (val b) = some (decide (a = b))
  bits : ∀ a, Instr.sameBits 10000 (val a) (val a) = true
  check : ∀ (P : Program) (e : Bool) (t : TypeId) (a : κ) (K : Unit → Heap → Prop) (h : Heap), P.underlying t = some kind → hp P (Instr.checkKey e 10000 t (val a)) K h = K () h

def kStr : KeyK ByteArray where
  val := .string
  kind := .string
  same a b := by simp only [Instr.sameNow, ba_beq]
  bits a := by simp only [Instr.sameBits]; rw [ba_beq]; simp
  check P e t a K h hu := by unfold Instr.checkKey; simp only [hp_bind, hp_underlying, hu]; rfl
def kInt : KeyK Int where
  val := .int .i64
  kind := .int .i64
  same a b := by
    simp only [Instr.sameNow, if_true]
    congr 1
  bits a := by simp [Instr.sameBits]
  check P e t a K h hu := by unfold Instr.checkKey; simp only [hp_bind, hp_underlying, hu]; rfl

section
variable {κ : Type} [DecidableEq κ] {k : KeyK κ}

/-- The entries of a map: keys, values, births. -/
abbrev Ents (κ : Type) := List (κ × Value × Nat)
def entOf (k : KeyK κ) (t : κ × Value × Nat) : MapEntry := ⟨k.val t.1, t.2.1, t.2.2⟩
def entsOf (k : KeyK κ) (l : Ents κ) : Array MapEntry := (l.map (entOf k)).toArray
def findI (x : κ) : Ents κ → Nat → Option (Nat × Value)
  | [], _ => none
  | t :: l, i => if x = t.1 then some (i, t.2.1) else findI x l (i + 1)
theorem findNow_eq (x : κ) : ∀ (l : Ents κ) (i : Nat), Instr.findNow k.kind (k.val x) (l.map (entOf k)) i = some (findI x l i)
  | [], i => rfl
  | t :: l, i => by
    simp only [List.map_cons, Instr.findNow, findI, entOf, k.same]
    by_cases h : x = t.1
    · simp [h]
    · simp only [h, decide_false, if_false]; exact findNow_eq x l (i + 1)
theorem hp_findKey {P : Program} {kt : TypeId} (hu : P.underlying kt = some k.kind) (x : κ) (l : Ents κ) (K : Option (Nat × Value) → Heap → Prop) (h : Heap) :
    hp P (Instr.findKey kt (k.val x) (entsOf k l).toList) K h = K (findI x l 0) h := by
  unfold Instr.findKey
  simp only [hp_bind, hp_underlying, hu, entsOf]
  rw [findNow_eq]
  rfl
/-- What a key has. -/
def getE (x : κ) (l : Ents κ) : Option Value := (findI x l 0).map (·.2)
theorem findI_shift (x : κ) : ∀ (l : Ents κ) (i : Nat), findI x l i = (findI x l 0).map fun p => (p.1 + i, p.2)
  | [], _ => rfl
  | t :: l, i => by
    simp only [findI]
    split
    · simp
    · rw [findI_shift x l (i + 1), findI_shift x l (0 + 1)]
      cases findI x l 0 <;> simp; omega
@[simp] theorem getE_nil (x : κ) : getE x ([] : Ents κ) = none := _root_.id rfl
theorem getE_cons (x : κ) (t : κ × Value × Nat) (l : Ents κ) : getE x (t :: l) = if x = t.1 then some t.2.1 else getE x l := by
  unfold getE
  simp only [findI]
  split
  · rfl
  · rw [findI_shift]; cases findI x l 0 <;> simp
/-- A key is given a value. -/
def putE (x : κ) (v : Value) (c : Nat) : Ents κ → Ents κ
  | [] => [(x, v, c)]
  | t :: l => if x = t.1 then (t.1, v, t.2.2) :: l else t :: putE x v c l
def delE (x : κ) : Ents κ → Ents κ
  | [] => []
  | t :: l => if x = t.1 then l else t :: delE x l
theorem putE_new {x : κ} {v : Value} {c : Nat} : ∀ {l : Ents κ}, getE x l = none → putE x v c l = l ++ [(x, v, c)]
  | [], _ => rfl
  | t :: l, h => by
    rw [getE_cons] at h
    split at h
    · cases h
    · rename_i hx
      rw [putE, if_neg hx, putE_new h]; rfl
theorem findI_some {x : κ} : ∀ {l : Ents κ} {i j : Nat} {v : Value}, findI x l i = some (j, v) → ∃ n, j = i + n ∧ ∃ b, l[n]? = some (x, v, b)
  | [], _, _, _, h => by cases h
  | t :: l, i, j, v, h => by
    simp only [findI] at h
    split at h
    · rename_i hx
      simp only [Option.some.injEq, Prod.mk.injEq] at h
      exact ⟨0, by omega, t.2.2, by rw [hx, ← h.2]; rfl⟩
    · obtain ⟨n, h1, b, h2⟩ := findI_some h
      exact ⟨n + 1, by omega, b, h2⟩
theorem set_putE {x : κ} {v : Value} {c : Nat} : ∀ {l : Ents κ} {n i : Nat} {u : Value}, findI x l i = some (i + n, u) → putE x v c l = l.modify n (fun t => (t.1, v, t.2.2))
  | [], _, _, _, h => by cases h
  | t :: l, n, i, u, h => by
    simp only [findI] at h
    split at h
    · rename_i hx
      simp only [Option.some.injEq, Prod.mk.injEq] at h
      have : n = 0 := by omega
      subst this
      rw [putE, if_pos hx]; rfl
    · rename_i hx
      cases n with
      | zero =>
        obtain ⟨m, h1, _⟩ := findI_some h
        omega
      | succ n =>
        rw [putE, if_neg hx, set_putE (n := n) (i := i + 1) (u := u) (by rw [h]; congr 2; omega)]
        rfl
theorem modify_ents (l : Ents κ) (n : Nat) (v : Value) : ∀ (key : Value), (∀ t, l[n]? = some t → key = k.val t.1) →
    (entsOf k l).modify n (fun e => { e with key, val := v }) = entsOf k (l.modify n fun t => (t.1, v, t.2.2)) := by
  intro key hkey
  apply Array.ext_getElem?
  intro i
  rw [Array.getElem?_modify]
  unfold entsOf
  simp only [List.getElem?_toArray, List.getElem?_map, List.getElem?_modify]
  by_cases hi : n = i
  · subst hi
    simp only [if_true]
    cases hl : l[n]? with
    | none => rfl
    | some t => simp [entOf, hkey t hl]
  · simp [hi]

section
variable {P : Program} {h : Heap} {K : Value → Heap → Prop} {l : L} {b : Base} {dst : Option Tmp} {ty : TypeId} {pos : String} {aft : Array Edge} {g : Option (Nat × Bool)}
/-- A map type's key and element. -/
def mapS (P : Program) (T : TypeId) : Option (TypeId × TypeId) := match P.underlying T with | some (.map k e) => some (k, e) | _ => none
theorem mapS_spec {T kt et : TypeId} (hm : mapS P T = some (kt, et)) : P.underlying T = some (.map kt et) := by
  unfold mapS at hm
  cases hu : P.underlying T with
  | none => simp [hu] at hm
  | some d => cases d <;> simp [hu] at hm; obtain ⟨rfl, rfl⟩ := hm; rfl

def lookupS (P : Program) (T : TypeId) (m x : Value) (ok : Bool) (h : Heap) (K : Value → Heap → Prop) (_t : Tag K := ⟨⟩) : Prop := hp P (Instr.lookup T m x ok) K h
@[congr] theorem lookupS_congr {T : TypeId} {m m' x x' : Value} {ok : Bool} (hm : m = m') (hx : x = x') : lookupS P T m x ok h K = lookupS P T m' x' ok h K := by rw [hm, hx]
@[simp] theorem os_lookup (T : TypeId) (x y : Operand) (ok : Bool) : os P ⟨dst, .lookup T x y ok, ty, pos, aft, g⟩ l b h K = lookupS P T (ev l b x) (ev l b y) ok h K := by
  unfold os osem execOp lookupS; simp only [hp_bind, hp_pure]; rfl
theorem lookup_map {T kt et : TypeId} {r : Nat} {es : Ents κ} {clock : Nat} {x : κ} {ok : Bool} {z : Value} (hm : mapS P T = some (kt, et)) (hk : P.underlying kt = some k.kind) (hz : zS P et = some z)
    (hr : h[r]? = some (.map (entsOf k es) clock)) :
    lookupS P T (.map (some r)) (k.val x) ok h K = K (if ok then .tuple #[(getE x es).getD z, .bool (getE x es).isSome] else (getE x es).getD z) h := by
  unfold lookupS Instr.lookup
  simp only [hp_bind, hp_underlying, mapS_spec hm, hp_getObj, hr, isCells, true_and, hp_pure, k.check _ _ _ _ _ _ hk, hp_findKey hk]
  unfold getE
  cases findI x es 0 with
  | none => simp only [hp_bind, hp_zeroValue, hz, hp_pure, Option.map_none, Option.getD_none, Option.isSome_none]
  | some p => obtain ⟨i, v⟩ := p; simp

def mapUpdateS (P : Program) (T : TypeId) (m x v : Value) (h : Heap) (K : Value → Heap → Prop) (_t : Tag K := ⟨⟩) : Prop := hp P (Instr.mapUpdate T m x v) (fun _ h' => K undef h') h
@[congr] theorem mapUpdateS_congr {T : TypeId} {m m' x x' v v' : Value} (hm : m = m') (hx : x = x') (hv : v = v') : mapUpdateS P T m x v h K = mapUpdateS P T m' x' v' h K := by rw [hm, hx, hv]
@[simp] theorem os_mapUpdate (T : TypeId) (m x v : Operand) : os P ⟨dst, .mapUpdate T m x v, ty, pos, aft, g⟩ l b h K = mapUpdateS P T (ev l b m) (ev l b x) (ev l b v) h K := by
  unfold os osem execOp mapUpdateS; simp only [hp_bind, hp_pure]; rfl
/-- How the clock goes on. -/
def clockE (x : κ) (es : Ents κ) (c : Nat) : Nat := if (getE x es).isSome then c else c + 1
theorem update_map {T kt et : TypeId} {r : Nat} {es : Ents κ} {clock : Nat} {x : κ} {v : Value} (hm : mapS P T = some (kt, et)) (hk : P.underlying kt = some k.kind)
    (hr : h[r]? = some (.map (entsOf k es) clock)) :
    mapUpdateS P T (.map (some r)) (k.val x) v h K = K undef (h.setIfInBounds r (.map (entsOf k (putE x v clock es)) (clockE x es clock))) := by
  unfold mapUpdateS Instr.mapUpdate
  simp only [hp_bind, hp_underlying, mapS_spec hm, hp_getObj, hr, isCells, true_and, k.check _ _ _ _ _ _ hk, hp_findKey hk]
  cases hf : findI x es 0 with
  | none =>
    have hg : getE x es = none := by unfold getE; rw [hf]; rfl
    simp only [hp_setObj, hr, isCells, true_and]
    rw [putE_new hg]
    unfold clockE
    rw [hg]
    simp [entsOf, entOf]
  | some p =>
    obtain ⟨i, u⟩ := p
    obtain ⟨n, hn, bb, hl⟩ := findI_some hf
    rw [Nat.zero_add] at hn
    subst hn
    have hkey : ((((entsOf k es)[i]?).map (·.key)).getD (k.val x)) = k.val x := by
      unfold entsOf; simp [hl, entOf]
    have hg : getE x es = some u := by unfold getE; rw [hf]; rfl
    simp only [hkey, Instr.keyThatStays, k.bits, if_true, hp_bind, hp_pure, hp_setObj, hr, isCells, true_and]
    rw [modify_ents es i v (k.val x) (fun t ht => by rw [hl] at ht; cases ht; rfl), set_putE (n := i) (i := 0) (u := u) (by rw [hf, Nat.zero_add])]
    unfold clockE
    rw [hg]
    rfl

end
end
end Go.HC

/-
  HC, part 13: entering with results that lie in variables; small words for the walk.
-/
namespace Go.HC
section
variable {P : Program} {n : Nat} {ro : Option Nat} {κ : Kont} {l : L} {b : Base} {h : Heap}

/-- The results, one by one. -/
def resK (P : Program) : List ResultVar → L → Base → Heap → (List Value → Prop) → Prop
  | [], _, _, _, K => K []
  | .tmp t :: rs, l, b, h, K => resK P rs l b h fun vs => K (look l b t :: vs)
  | .cell a T :: rs, l, b, h, K =>
    match look l b a with
    | .pointer (some ad) => (match valAt P T h ad with | some v => resK P rs l b h fun vs => K (v :: vs) | none => False)
    | _ => False
def tupV : List Value → Value
  | [v] => v
  | vs => .tuple vs.toArray
/-- The same, marked. -/
def resS (P : Program) (rs : List ResultVar) (l : L) (b : Base) (h : Heap) (K : List Value → Prop) (_t : Tag K := ⟨⟩) : Prop := resK P rs l b h K
@[simp] theorem resS_nil (K : List Value → Prop) : resS P [] l b h K = K [] := _root_.id rfl
@[simp] theorem resS_tmp (t : Nat) (rs : List ResultVar) (K : List Value → Prop) : resS P (.tmp t :: rs) l b h K = forceV (look l b t) fun v => resS P rs l b h fun vs => K (v :: vs) := _root_.id rfl
def cellS (P : Program) (T : TypeId) (v : Value) (h : Heap) (K : Value → Prop) (_t : Tag K := ⟨⟩) : Prop :=
  match v with
  | .pointer (some ad) => optS (valAt P T h ad) K
  | _ => False
@[congr] theorem cellS_congr {T : TypeId} {v v' : Value} {K : Value → Prop} (hv : v = v') : cellS P T v h K = cellS P T v' h K := by rw [hv]
@[simp] theorem cellS_ptr (T : TypeId) (ad : Addr) (K : Value → Prop) : cellS P T (.pointer (some ad)) h K = optS (valAt P T h ad) K := _root_.id rfl
@[simp] theorem resS_cell (a T : Nat) (rs : List ResultVar) (K : List Value → Prop) : resS P (.cell a T :: rs) l b h K = cellS P T (look l b a) h fun v => resS P rs l b h fun vs => K (v :: vs) := by
  unfold resS cellS
  simp only [resK]
  cases look l b a with
  | pointer ad =>
    cases ad with
    | none => rfl
    | some ad => simp only [optS]; cases valAt P T h ad <;> rfl
  | _ => rfl
@[simp] theorem tupV_one (v : Value) : tupV [v] = v := _root_.id rfl
@[simp] theorem tupV_nil : tupV [] = .tuple #[] := _root_.id rfl
@[simp] theorem tupV_two (v u : Value) (vs : List Value) : tupV (v :: u :: vs) = .tuple (v :: u :: vs).toArray := _root_.id rfl

def endR (P : Program) (rs : List ResultVar) (K : Value → Heap → Prop) : Kont :=
  { nx := fun l b h => takeS b.d h fun h' => resS P rs l b h' fun vs => K (tupV vs) h', rt := fun l b h => takeS b.d h fun h' => resS P rs l b h' fun vs => K (tupV vs) h',
    ex := fun _ _ _ _ => False, gt := fun _ _ _ _ => False }
@[simp] theorem endR_nx (rs : List ResultVar) (K : Value → Heap → Prop) : (endR P rs K).nx l b h = takeS b.d h fun h' => resS P rs l b h' fun vs => K (tupV vs) h' := _root_.id rfl
@[simp] theorem endR_rt (rs : List ResultVar) (K : Value → Heap → Prop) : (endR P rs K).rt l b h = takeS b.d h fun h' => resS P rs l b h' fun vs => K (tupV vs) h' := _root_.id rfl
@[simp] theorem endR_ex (rs : List ResultVar) (K : Value → Heap → Prop) (j : Nat) : (endR P rs K).ex j l b h = False := _root_.id rfl
@[simp] theorem endR_gt (rs : List ResultVar) (K : Value → Heap → Prop) (j : Nat) : (endR P rs K).gt j l b h = False := _root_.id rfl

theorem hp_resOne (r : ResultVar) (K : Value → Heap → Prop) (hk : match r with | .tmp t => K (look l b t) h | .cell a T => (match look l b a with | .pointer (some ad) => (match valAt P T h ad with | some v => K v h | none => False) | _ => False)) :
    hp P (resOne l b r) K h := by
  cases r with
  | tmp t => exact hk
  | cell a T =>
    simp only at hk
    simp only [resOne, hp_bind]
    cases hl : look l b a with
    | pointer ad =>
      cases ad with
      | none => simp [hl] at hk
      | some ad =>
        simp only [hl] at hk
        simp only [asAddr, hp_pure]
        have := loadS_ptr (P := P) (h := h) (K := K) T ad
        unfold loadS Instr.loadAt at this
        simp only [hp_bind, Instr.sureAddr, hp_pure] at this
        rw [this]
        cases hv : valAt P T h ad with
        | none => simp [hv] at hk
        | some v => simpa [hv] using hk
    | _ => simp [hl] at hk
theorem hp_resK : ∀ (rs : List ResultVar) (K : List Value → Prop), resK P rs l b h K → hp P (rs.mapM (resOne l b)) (fun vs h' => h' = h ∧ K vs) h
  | [], K, hk => ⟨rfl, hk⟩
  | .tmp t :: rs, K, hk => by
    rw [List.mapM_cons]
    simp only [hp_bind, resOne, hp_pure]
    exact hp_mono _ (hp_resK rs _ hk) fun vs h' hh => hh
  | .cell a T :: rs, K, hk => by
    rw [List.mapM_cons, hp_bind]
    refine hp_resOne _ _ ?_
    simp only
    simp only [resK] at hk
    cases hl : look l b a with
    | pointer ad =>
      cases ad with
      | none => simp [hl] at hk
      | some ad =>
        simp only [hl] at hk ⊢
        cases hv : valAt P T h ad with
        | none => simp [hv] at hk
        | some v =>
          simp only [hv] at hk ⊢
          rw [hp_bind]
          exact hp_mono _ (hp_resK rs _ hk) fun vs h' hh => hh
    | _ => simp [hl] at hk

variable {f : FuncId} {fn : Func} {c : Code} {args : Array Value} {K : Value → Heap → Prop}
/-- A function is entered; its results, written out, are these. -/
theorem enter (rs : List ResultVar) (hf : P.funcs[f]? = some fn) (hb : fn.body = some c) (hr : fn.results = rs.toArray) (hok : codeOk fn.ntmps c = true) (hn : Nat.ble args.size fn.ntmps = true)
    (hc : cs P fn.ntmps none c (endR P rs K) (argL 0 args.toList) ⟨fun _ => undef, []⟩ h) : CallH P f args h K := by
  have fin : ∀ l b h, resK P rs l b h (fun vs => K (tupV vs) h) → hp P (resL fn l b) K h := by
    intro l b h hk
    unfold resL
    rw [hr]
    rw [Array.mapM_eq_mapM_toList]
    simp only [hp_bind, hp_map]
    refine hp_mono _ (hp_resK rs _ hk) fun vs h' hh => ?_
    obtain ⟨rfl, hh⟩ := hh
    simp only [hp_pure]
    match vs, hh with
    | [], hh => simpa using hh
    | [v], hh => simpa using hh
    | v :: u :: vs, hh => simpa using hh
  refine callH_of hf hb hok (by simpa using hn) (csem_mono c (κ := endR P rs K) ⟨?_, ?_, fun _ _ _ _ h => h, fun _ _ _ _ h => h⟩ hc)
  · exact fun l b h hh => takeAll_mono _ (fun h hk => fin l b h hk) hh
  · exact fun l b h hh => takeAll_mono _ (fun h hk => fin l b h hk) hh

/-- A marked call is met by a contract. -/
theorem call_by {f : FuncId} {args : Array Value} {K K' : Value → Heap → Prop} (hc : CallH P f args h K') (hk : ∀ v h, K' v h → K v h) : call P f args h K := hc.mono hk
end
end Go.HC

/-
  HC, part 14: drawn regions, for simp: an operation that only looks is worked out ('vop') in its place, and once more behind what may come ahead of it.
-/
namespace Go.HC

section
variable {P : Program} {h : Heap} {K : Value → Heap → Prop}
def strOf (xs : List UInt8) : ByteArray := ⟨xs.toArray⟩
theorem push_bytes (xs : List UInt8) : ∀ (s : ByteArray), (xs.foldl (fun s x => s.push x) s) = ⟨s.data ++ xs.toArray⟩ := by
  induction xs with
  | nil => intro s; simp
  | cons x xs ih =>
    intro s
    rw [List.foldl_cons, ih]
    congr 1
    simp [ByteArray.push]
def byteOf : Value → Option UInt8
  | .int .u8 n => some (UInt8.ofNat n.toNat)
  | _ => none
/-- The string that so many bytes from here make. -/
def bytesV (h : Heap) (a : Option Addr) (n : Nat) : Option ByteArray :=
  match a with
  | none => some .empty
  | some a => (cellsFrom h a 0 n).bind fun cs => (cs.mapM byteOf).map strOf
theorem SlRep.bytesV {F : Nat → Prop} {a : Option Addr} {n c : Nat} {xs : List UInt8} (hv : SlRep rByte F h (.slice a n c) xs) : bytesV h a n = some (strOf xs) := by
  obtain ⟨a', c', cs, hvv, h1, h2, h3, h4⟩ := hv
  cases hvv
  have hcs := bytes_map.1 h4
  have hlen : cs.length = xs.length := by rw [hcs]; simp
  unfold HC.bytesV
  cases a with
  | none =>
    rcases h3 with h0 | ⟨_, _, _, _, _, hx, _⟩
    · have : xs = [] := by
        have := congrArg List.length h0
        rw [hlen] at this
        exact List.eq_nil_of_length_eq_zero (by simpa using this)
      subst this
      rfl
    · cases hx
  | some a =>
    simp only
    rw [← hlen, h3.loads, Option.bind_some, hcs]
    have : ∀ ys : List UInt8, (ys.map fun x => Value.int .u8 x.toNat).mapM byteOf = some ys := by
      intro ys
      induction ys with
      | nil => rfl
      | cons y ys ih =>
        rw [List.map_cons, List.mapM_cons, ih]
        simp [byteOf]
    rw [this]
    rfl
theorem conv_bytes {S D e : TypeId} {a : Option Addr} {n c : Nat} {s : ByteArray} (hS : elS P S = some e) (he : intK P e = some .u8) (hD : strT P D = true) (hv : bytesV h a n = some s) :
    convS P S D (.slice a n c) h K = K (.string s) h := by
  have hue : P.underlying e = some (.int .u8) := by
    unfold intK at he
    cases hu : P.underlying e with
    | none => simp [hu] at he
    | some d => cases d <;> simp [hu] at he; rw [he]
  unfold convS convert
  simp only [hp_bind, hp_underlying, elS_spec hS, strT_spec hD, hue]
  unfold Conv.bytesToString
  unfold bytesV at hv
  cases a with
  | none =>
    simp only [Option.some.injEq] at hv
    subst hv
    rfl
  | some a =>
    simp only at hv
    simp only [hp_bind, loadCells, hp_loadCellsFrom]
    cases hc : cellsFrom h a 0 n with
    | none => simp [hc] at hv
    | some cs =>
      simp only [hc, Option.bind_some] at hv
      cases hx : cs.mapM byteOf with
      | none => simp [hx] at hv
      | some xs =>
        simp only [hx, Option.map_some, Option.some.injEq] at hv
        subst hv
        have key : ∀ (f : Value → ByteArray → Sem (ForInStep ByteArray)) (_ : ∀ (v : Value) (y : UInt8) s, byteOf v = some y → f v s = pure (.yield (s.push y))) (cs : List Value) (ys : List UInt8) (_ : cs.mapM byteOf = some ys) (s : ByteArray) (K' : ByteArray → Heap → Prop),
            hp P (forIn (m := Sem) cs s f) K' h = K' (ys.foldl (fun s x => s.push x) s) h := by
          intro f hf cs
          induction cs with
          | nil =>
            intro ys hys s K'
            simp only [List.mapM_nil, Option.pure_def, Option.some.injEq] at hys
            subst hys
            simp
          | cons v cs ih =>
            intro ys hys s K'
            rw [List.mapM_cons] at hys
            cases hv : byteOf v with
            | none => simp [hv] at hys
            | some y =>
              cases hr : cs.mapM byteOf with
              | none => simp [hv, hr] at hys
              | some ys' =>
                simp [hv, hr] at hys
                subst hys
                rw [List.forIn_cons, hp_bind, hf v y s hv]
                simp only [hp_pure, List.foldl_cons]
                exact ih ys' hr _ K'
        have h2 : ∀ cs : List Value, (#[] : Array Value) ++ cs.toArray = cs.toArray := fun cs => by simp
        simp only [optS_some, h2, List.forIn_toArray]
        rw [key _ (fun v y s hv => ?_) cs xs hx, push_bytes]
        · have e : (⟨ByteArray.empty.data ++ xs.toArray⟩ : ByteArray) = strOf xs := by
            unfold strOf
            congr 1
            exact Array.empty_append
          rw [e]; rfl
        · cases v <;> simp [byteOf] at hv
          rename_i kk nn
          cases kk <;> simp at hv
          subst hv
          rfl
def addrV : Value → Option Addr
  | .pointer a => a
  | _ => none
def nilV : Value → Option Value
  | .pointer (some a) => some (.pointer (some a))
  | .func (.func f) x y => some (.func (.func f) x y)
  | .func (.yield f) x y => some (.func (.yield f) x y)
  | _ => none
def fldA (o : Option Nat) (a : Addr) : Option Value :=
  match o with
  | some o => if a.spot = none then some (.pointer (some ⟨a.block, a.off + o, none⟩)) else none
  | none => none
def aggV : Value → Option (Array Value)
  | .agg cs => some cs
  | _ => none
def tupA : Value → Option (Array Value)
  | .tuple cs => some cs
  | _ => none
def binV (P : Program) (op : BinOp) (T : TypeId) : Value → Value → Option Value
  | .int k m, .int k' n => if isShift op || k' == k then intRes op k m n else none
  | .string s, .string t => strRes op s t
  | .bool s, .bool t => if boolT P T then (match op with | .eql => some (.bool (s == t)) | .neq => some (.bool (!(s == t))) | _ => none) else none
  | .slice a _ _, .slice none _ _ => if nilKind P T = 1 then (match op with | .eql => some (.bool a.isNone) | .neq => some (.bool (!a.isNone)) | _ => none) else none
  | .pointer a, .pointer none => if nilKind P T = 2 then (match op with | .eql => some (.bool a.isNone) | .neq => some (.bool (!a.isNone)) | _ => none) else none
  | _, _ => none
def idxV (sz : Option Nat) (ar : Option (Nat × Nat)) : Value → Value → Option Value
  | .pointer (some a), .int _ i => match ar with | some (n, s) => if a.spot = none ∧ 0 ≤ i ∧ i < n then some (.pointer (some ⟨a.block, a.off + i.toNat * s, none⟩)) else none | none => none
  | .slice a n _, .int _ i => if 0 ≤ i ∧ i < n ∧ a.isSome = true then sz.map fun s => .pointer (offs a (i.toNat * s)) else none
  | _, _ => none
def natV (d : Nat) : Option Value → Option Nat
  | none => some d
  | some (.int _ i) => if 0 ≤ i then some i.toNat else none
  | _ => none
/-- A piece of a slice, without a third bound. -/
def pieceV (sz : Option Nat) (lo hi : Option Value) : Value → Option Value
  | .slice a n c => (natV 0 lo).bind fun i => (natV n hi).bind fun j => sz.bind fun s => if i ≤ j ∧ j ≤ c then some (.slice (piece a i c s) (j - i) (c - i)) else none
  | _ => none
def lenV (P : Program) (T : TypeId) : Value → Option Value
  | .slice _ n _ => if (elS P T).isSome then some (.int .i64 n) else none
  | .string s => if strT P T then some (.int .i64 s.size) else none
  | _ => none
def convV (P : Program) (S D : TypeId) (h : Heap) : Value → Option Value
  | .slice a n _ => match elS P S with | some e => if intK P e = some .u8 ∧ strT P D = true then (bytesV h a n).map .string else none | none => none
  | .int _ i => if (intK P S).isSome then (intK P D).map fun k => .int k (k.wrap i) else none
  | _ => none

def vop (P : Program) (op : Op) (ρ : Operand → Value) (h : Heap) : Option Value :=
  match op with
  | .move x | .assign x => some (ρ x)
  | .pick c x y => (boolOf (ρ c)).map fun t => if t = true then ρ x else ρ y
  | .load T x => (addrV (ρ x)).bind (valAt P T h)
  | .nilCheck x => nilV (ρ x)
  | .binOp op T x y _ => binV P op T (ρ x) (ρ y)
  | .unOp .not _ x => (boolOf (ρ x)).map fun t => .bool (!t)
  | .fieldAddr S x f => (addrV (ρ x)).bind (fldA (fldOff (fldS P S f)))
  | .field T x f => if (fldS P T f).isSome then (aggV (ρ x)).bind (partOf (fldS P T f)) else none
  | .extract x i => (tupA (ρ x)).bind (·[i]?)
  | .indexAddr T x y => idxV (elSz P T) (arrS P T) (ρ x) (ρ y)
  | .slice T x lo hi none => pieceV (elSz P T) (lo.map ρ) (hi.map ρ) (ρ x)
  | .convert S D x => convV P S D h (ρ x)
  | .call { callee := .builtin .len, args, argTypes } => if args.size = 1 ∧ argTypes.size = 1 then lenV P (argTypes.getD 0 0) (ρ (args.getD 0 default)) else none
  | .makeFunc fn x y => some (.func fn (x.map ρ) (y.map ρ))
  | _ => none

theorem vop_sound {o : Oper} {l : L} {b : Base} {h : Heap} {v : Value} (hv : vop P o.op (ev l b) h = some v) (K : Value → Heap → Prop) (hk : K v h) : os P o l b h K := by
  obtain ⟨dst, op, type, pos, after, guard⟩ := o
  cases op with
  | move x => simp only [vop, Option.some.injEq] at hv; rw [osem_move]; subst hv; exact hk
  | assign x => simp only [vop, Option.some.injEq] at hv; rw [osem_assign]; subst hv; exact hk
  | makeFunc fn x y => simp only [vop, Option.some.injEq] at hv; rw [osem_makeFunc]; subst hv; exact hk
  | pick c x y =>
    simp only [vop] at hv
    rw [osem_pick]
    cases hc : ev l b c <;> simp only [hc, boolOf, Option.map_none, Option.map_some, reduceCtorEq, Option.some.injEq] at hv
    rename_i t
    rw [pickS_bool]
    subst hv
    cases t <;> simpa using hk
  | load T x =>
    simp only [vop] at hv
    rw [osem_load]
    cases hc : ev l b x <;> simp only [hc, addrV, Option.bind_none, reduceCtorEq] at hv
    rename_i a
    cases a with
    | none => simp at hv
    | some a => rw [loadS_ptr]; simp only [Option.bind_some] at hv; rw [hv]; exact hk
  | nilCheck x =>
    simp only [vop] at hv
    rw [osem_nilCheck]
    cases hc : ev l b x <;> simp only [hc, nilV, reduceCtorEq] at hv
    · rename_i a
      cases a with
      | none => simp at hv
      | some a => simp only [Option.some.injEq] at hv; subst hv; exact hk
    · rename_i fn x y
      cases fn <;> simp only [reduceCtorEq, Option.some.injEq] at hv <;> (subst hv; exact hk)
  | binOp op T x y T2 =>
    simp only [vop] at hv
    rw [osem_bin]
    revert hv
    cases ev l b x <;> cases ev l b y <;> intro hv <;> simp only [binV, reduceCtorEq] at hv
    case bool.bool s t =>
      split at hv
      · rename_i hb
        cases op <;> simp only [reduceCtorEq, Option.some.injEq] at hv
        · rw [binS_bool_eql _ _ _ _ _ hb]; subst hv; exact hk
        · rw [binS_bool_neq _ _ _ _ _ hb]; subst hv; exact hk
      · cases hv
    case int.int k m k' n =>
      split at hv
      · rename_i hb
        rw [binS_int (by simpa using hb), hv]; exact hk
      · cases hv
    case string.string s t => rw [binS_string, hv]; exact hk
    case pointer.pointer a c =>
      cases c with
      | some c => simp at hv
      | none =>
        simp only at hv
        split at hv
        · rename_i hb
          cases op <;> simp only [reduceCtorEq, Option.some.injEq] at hv
          · rw [binS_ptr_nil _ _ _ _ hb]; subst hv; exact hk
          · rw [binS_ptr_nnil _ _ _ _ hb]; subst hv; exact hk
        · cases hv
    case slice.slice a n c a' n' c' =>
      cases a' with
      | some c => simp at hv
      | none =>
        simp only at hv
        split at hv
        · rename_i hb
          cases op <;> simp only [reduceCtorEq, Option.some.injEq] at hv
          · rw [binS_slice_nil _ _ _ _ _ _ _ _ hb]; subst hv; exact hk
          · rw [binS_slice_nnil _ _ _ _ _ _ _ _ hb]; subst hv; exact hk
        · cases hv
  | unOp op T x =>
    cases op <;> simp only [vop, reduceCtorEq] at hv
    rw [osem_un]
    cases hc : ev l b x <;> simp only [hc, boolOf, Option.map_none, Option.map_some, reduceCtorEq, Option.some.injEq] at hv
    rw [unS_not]; subst hv; exact hk
  | fieldAddr S x f =>
    simp only [vop] at hv
    rw [osem_fieldAddr]
    cases hc : ev l b x <;> simp only [hc, addrV, Option.bind_none, reduceCtorEq] at hv
    rename_i a
    cases a with
    | none => simp at hv
    | some a =>
      simp only [Option.bind_some, fldA] at hv
      cases ho : fldOff (fldS P S f) with
      | none => simp [ho] at hv
      | some o =>
        simp only [ho] at hv
        split at hv
        · rename_i hs
          obtain ⟨bk, off, spot⟩ := a
          simp only at hs
          subst hs
          rw [fieldAddrS_off _ _ _ _ (by rw [ho]; rfl), ho]
          simp only [Option.some.injEq] at hv
          subst hv
          exact hk
        · cases hv
  | field T x f =>
    simp only [vop] at hv
    split at hv
    · rename_i hs
      rw [osem_field]
      cases hc : ev l b x <;> simp only [hc, aggV, Option.bind_none, Option.bind_some, reduceCtorEq] at hv
      rw [fieldVS_agg _ _ _ hs, hv]; exact hk
    · cases hv
  | extract x i =>
    simp only [vop] at hv
    rw [osem_extract]
    cases hc : ev l b x <;> simp only [hc, tupA, Option.bind_none, Option.bind_some, reduceCtorEq] at hv
    rw [extractS_tuple, hv]; exact hk
  | indexAddr T x y =>
    simp only [vop] at hv
    rw [osem_indexAddr]
    revert hv
    cases ev l b x <;> cases ev l b y <;> intro hv <;> simp only [idxV, reduceCtorEq] at hv
    case pointer.int ad k i =>
      cases ad with
      | none => simp at hv
      | some ad =>
        simp only at hv
        cases har : arrS P T with
        | none => simp [har] at hv
        | some p =>
          obtain ⟨n, s⟩ := p
          simp only [har] at hv
          split at hv
          · rename_i hh
            obtain ⟨bk, off, spot⟩ := ad
            obtain ⟨hsp, h0, h1⟩ := hh
            simp only at hsp
            subst hsp
            rw [indexAddrS_array har h0 h1]
            simp only [Option.some.injEq] at hv
            subst hv
            exact hk
          · cases hv
    split at hv
    · rename_i hh
      rw [indexAddrS_slice _ _ _ _ _ _ hh.1 hh.2.1 hh.2.2]
      cases hs : elSz P T with
      | none => simp [hs] at hv
      | some s => simp only [hs, Option.map_some, Option.some.injEq] at hv; subst hv; exact hk
    · cases hv
  | slice T x lo hi mx =>
    cases mx with
    | some m => simp [vop] at hv
    | none =>
      simp only [vop] at hv
      rw [osem_slice]
      revert hv
      cases ev l b x <;> intro hv <;> simp only [pieceV, reduceCtorEq] at hv
      rename_i a n c
      have hn : ∀ (d : Nat) (o : Option Value) (i : Nat), natV d o = some i → o = none ∧ i = d ∨ ∃ k, o = some (.int k i) := by
        intro d o i ho
        cases o with
        | none => simp only [natV, Option.some.injEq] at ho; exact .inl ⟨rfl, ho.symm⟩
        | some u =>
          cases u <;> simp only [natV, reduceCtorEq] at ho
          rename_i kk nn
          split at ho
          · rename_i h0
            simp only [Option.some.injEq] at ho
            exact .inr ⟨kk, by rw [← ho, Int.toNat_of_nonneg h0]⟩
          · cases ho
      cases h1 : natV 0 (lo.map (ev l b)) with
      | none => simp [h1] at hv
      | some i =>
        cases h2 : natV n (hi.map (ev l b)) with
        | none => simp [h1, h2] at hv
        | some j =>
          cases h3 : elSz P T with
          | none => simp [h1, h2, h3] at hv
          | some s =>
            simp only [h1, h2, h3, Option.bind_some] at hv
            split at hv
            · rename_i hh
              have he : ∃ e, elS P T = some e ∧ szS P e = some s := by
                unfold elSz at h3
                cases he : elS P T with
                | none => simp [he] at h3
                | some e => simp only [he, Option.bind_some] at h3; exact ⟨e, rfl, h3⟩
              obtain ⟨e, he1, he2⟩ := he
              rw [Option.map_none, sliceS_slice he1 he2 (.inl ⟨rfl, rfl⟩) (hn _ _ _ h2) (hn _ _ _ h1) hh.1 hh.2 (Nat.le_refl _)]
              simp only [Option.some.injEq] at hv
              subst hv
              exact hk
            · cases hv
  | convert S D x =>
    simp only [vop] at hv
    rw [osem_conv]
    cases hc : ev l b x <;> simp only [hc, convV, reduceCtorEq] at hv
    rotate_left
    · cases he : elS P S with
      | none => simp [he] at hv
      | some e =>
        simp only [he] at hv
        split at hv
        · rename_i hh
          cases hb : bytesV h _ _ with
          | none => rw [hb] at hv; simp at hv
          | some s =>
            rw [hb] at hv
            simp only [Option.map_some, Option.some.injEq] at hv
            rw [conv_bytes he hh.1 hh.2 hb]
            subst hv
            exact hk
        · cases hv
    split at hv
    · rename_i hs
      obtain ⟨k2, hk2⟩ := Option.isSome_iff_exists.1 hs
      cases hd : intK P D with
      | none => simp [hd] at hv
      | some k' =>
        simp only [hd, Option.map_some, Option.some.injEq] at hv
        rw [convS_int hk2 hd]; subst hv; exact hk
    · cases hv
  | call c =>
    obtain ⟨cal, args, ats⟩ := c
    cases cal with
    | builtin bi =>
      cases bi <;> simp only [vop, reduceCtorEq] at hv
      split at hv
      · rename_i hh
        obtain ⟨args⟩ := args
        obtain ⟨ats⟩ := ats
        match args, ats, hh with
        | [x], [T], _ =>
          rw [osem_builtin]
          simp only [List.map_toArray, List.map_cons, List.map_nil]
          have hg1 : (#[T] : Array TypeId).getD 0 0 = T := rfl
          have hg2 : (#[x] : Array Operand).getD 0 default = x := rfl
          simp only [hg1, hg2] at hv
          cases hc : ev l b x <;> simp only [hc, lenV, reduceCtorEq] at hv
          · split at hv
            · rename_i hs
              simp only [Option.some.injEq] at hv
              rw [len_string _ _ _ hs]; subst hv; exact hk
            · cases hv
          · split at hv
            · rename_i hs
              simp only [Option.some.injEq] at hv
              rw [len_slice _ _ _ _ _ hs]; subst hv; exact hk
            · cases hv
      · cases hv
    | _ => simp [vop] at hv
  | _ => simp [vop] at hv

/-! ### the written-out order, for simp -/
/-- What has been looked at: the number, the operation, the frame, the value. -/
structure Lk where
  i : Nat
  op : Op
  l : L
  b : Base
  v : Value
/-- What must be seen again is. -/
def again (P : Program) (chk : List Nat) (h : Heap) : List Lk → Prop
  | [] => True
  | k :: ks => (k.i ∈ chk → vop P k.op (ev k.l k.b) h = some k.v) ∧ again P chk h ks
def dwF (P : Program) (ops : Array Oper) : List Di → List Lk → (L → Base → Heap → Prop) → L → Base → Heap → Prop
  | [], _, K, l, b, h => K l b h
  | d :: ds, pend, K, l, b, h =>
    match ops[d.i]? with
    | none => False
    | some o =>
      if guardB o ops l b = true then
        if d.mv = true then optS (vop P o.op (ev l b) h) fun v => dwF P ops ds (⟨d.i, o.op, l, b, v⟩ :: pend) K (putl o.dst v l) b h
        else os P o l b h (fun v h' => again P d.chk h' pend ∧ dwF P ops ds pend K (putl o.dst v l) b h')
      else dwF P ops ds pend K (putl o.dst undef l) b h
theorem again_spec {chk : List Nat} {h : Heap} : ∀ {ks : List Lk}, again P chk h ks → ∀ k ∈ ks, k.i ∈ chk → vop P k.op (ev k.l k.b) h = some k.v
  | [], _, k, hk, _ => by cases hk
  | q :: ks, ⟨h1, h2⟩, k, hk, hc => by
    rcases List.mem_cons.1 hk with rfl | hk
    · exact h1 hc
    · exact again_spec h2 k hk hc
theorem dsem_of_dwF {ops : Array Oper} {K : L → Base → Heap → Prop} : ∀ (ds : List Di) {pend : List Lk} {pl : List (Nat × (Heap → Prop))} {l : L} {b : Base} {h : Heap},
    (∀ p ∈ pl, ∃ k ∈ pend, k.i = p.1 ∧ ∀ h', vop P k.op (ev k.l k.b) h' = some k.v → p.2 h') → dwF P ops ds pend K l b h → dsem P ops ds pl K l b h := by
  intro ds
  induction ds with
  | nil => exact fun _ hd => hd
  | cons d ds ih =>
    intro pend pl l b h hp hd
    simp only [dwF] at hd
    simp only [dsem]
    cases ho : ops[d.i]? with
    | none => simp [ho] at hd
    | some o =>
      simp only [ho] at hd ⊢
      split
      · rename_i hg
        rw [if_pos hg] at hd
        split
        · rename_i hm
          rw [if_pos hm] at hd
          cases hv : vop P o.op (ev l b) h with
          | none => rw [hv] at hd; exact hd.elim
          | some v =>
            rw [hv] at hd
            refine ⟨v, vop_sound hv _ ⟨rfl, rfl⟩, ih (fun p hpp => ?_) hd⟩
            rcases List.mem_cons.1 hpp with rfl | hpp
            · exact ⟨_, List.mem_cons_self .., rfl, fun h' hh => vop_sound hh _ ⟨rfl, rfl⟩⟩
            · obtain ⟨k, hk, h1, h2⟩ := hp p hpp
              exact ⟨k, List.mem_cons_of_mem _ hk, h1, h2⟩
        · rename_i hm
          rw [if_neg hm] at hd
          refine hp_mono _ hd fun x h' hx => nextK_mono (fun v h'' hh => ⟨fun p hpp hch => ?_, ih hp hh.2⟩) x h' hx
          obtain ⟨k, hk, h1, h2⟩ := hp p hpp
          exact h2 _ (again_spec hh.1 k hk (by rw [h1]; exact hch))
      · rename_i hg
        rw [if_neg hg] at hd
        exact ih hp hd

/-- The same, marked. -/
def dw (P : Program) (ops : List Oper) (ds : List Di) (pend : List Lk) (K : L → Base → Heap → Prop) (l : L) (b : Base) (h : Heap) (_t : Tag K := ⟨⟩) (_p : Tag pend := ⟨⟩) (_o : Tag ops := ⟨⟩) : Prop := dwF P ops.toArray ds pend K l b h
variable {ops : List Oper} {ds : List Di} {pend : List Lk} {K : L → Base → Heap → Prop} {l : L} {b : Base} {h : Heap}
@[simp] theorem dw_nil : dw P ops [] pend K l b h = K l b h := _root_.id rfl
/-- An operation, found. -/
def dwO (P : Program) (ops : List Oper) (o : Option Oper) (i : Nat) (mv : Bool) (chk : List Nat) (ds : List Di) (pend : List Lk) (K : L → Base → Heap → Prop) (l : L) (b : Base) (h : Heap)
    (_t : Tag K := ⟨⟩) (_p : Tag pend := ⟨⟩) (_o : Tag ops := ⟨⟩) : Prop :=
  match o with
  | none => False
  | some o =>
    if guardB o ops.toArray l b = true then
      if mv = true then optS (vop P o.op (ev l b) h) fun v => dwF P ops.toArray ds (⟨i, o.op, l, b, v⟩ :: pend) K (putl o.dst v l) b h
      else os P o l b h (fun v h' => again P chk h' pend ∧ dwF P ops.toArray ds pend K (putl o.dst v l) b h')
    else dwF P ops.toArray ds pend K (putl o.dst undef l) b h
@[congr] theorem dwO_congr {o o' : Option Oper} {i : Nat} {mv : Bool} {chk : List Nat} (ho : o = o') : dwO P ops o i mv chk ds pend K l b h = dwO P ops o' i mv chk ds pend K l b h := by rw [ho]
@[simp] theorem dw_cons (i : Nat) (mv : Bool) (chk : List Nat) : dw P ops (⟨i, mv, chk⟩ :: ds) pend K l b h = dwO P ops ops[i]? i mv chk ds pend K l b h := by
  unfold dw dwO
  simp only [dwF, List.getElem?_toArray]
/-- The list of operations, looked up. -/
@[simp] theorem dwO_look (dst : Option Tmp) (op : Op) (ty : TypeId) (pos : String) (aft : Array Edge) (i : Nat) (chk : List Nat) : dwO P ops (some ⟨dst, op, ty, pos, aft, none⟩) i true chk ds pend K l b h =
    optS (vop P op (ev l b) h) fun v => dw P ops ds (⟨i, op, l, b, v⟩ :: pend) K (putl dst v l) b h := by
  simp only [dwO, guardB, if_true]; exact _root_.id rfl
@[simp] theorem dwO_act (dst : Option Tmp) (op : Op) (ty : TypeId) (pos : String) (aft : Array Edge) (i : Nat) (chk : List Nat) : dwO P ops (some ⟨dst, op, ty, pos, aft, none⟩) i false chk ds pend K l b h =
    os P ⟨dst, op, ty, pos, aft, none⟩ l b h (fun v h' => again P chk h' pend ∧ dw P ops ds pend K (putl dst v l) b h') := by
  simp only [dwO, guardB, if_true, Bool.false_eq_true, if_false]; exact _root_.id rfl
@[simp] theorem dwO_glook (dst : Option Tmp) (op : Op) (ty : TypeId) (pos : String) (aft : Array Edge) (i : Nat) (chk : List Nat) (j : Nat) (want : Bool) : dwO P ops (some ⟨dst, op, ty, pos, aft, some (j, want)⟩) i true chk ds pend K l b h =
    guardS (gval ops.toArray l b j) want (optS (vop P op (ev l b) h) fun v => dw P ops ds (⟨i, op, l, b, v⟩ :: pend) K (putl dst v l) b h) (dw P ops ds pend K (putl dst undef l) b h) := by
  simp only [dwO, guardB, if_true, guardS]; exact _root_.id rfl
@[simp] theorem dwO_gact (dst : Option Tmp) (op : Op) (ty : TypeId) (pos : String) (aft : Array Edge) (i : Nat) (chk : List Nat) (j : Nat) (want : Bool) : dwO P ops (some ⟨dst, op, ty, pos, aft, some (j, want)⟩) i false chk ds pend K l b h =
    guardS (gval ops.toArray l b j) want (os P ⟨dst, op, ty, pos, aft, some (j, want)⟩ l b h (fun v h' => again P chk h' pend ∧ dw P ops ds pend K (putl dst v l) b h')) (dw P ops ds pend K (putl dst undef l) b h) := by
  simp only [dwO, guardB, guardS, Bool.false_eq_true, if_false]; exact _root_.id rfl
@[simp] theorem again_nil (chk : List Nat) : again P chk h [] = True := _root_.id rfl
theorem again_cons (chk : List Nat) (k : Lk) (ks : List Lk) : again P chk h (k :: ks) = ((k.i ∈ chk → vop P k.op (ev k.l k.b) h = some k.v) ∧ again P chk h ks) := rfl
@[simp] theorem again_none (ks : List Lk) : again P [] h ks = True := by
  induction ks with
  | nil => rfl
  | cons k ks ih => simp [again_cons, ih]
/-- A drawn region: one order that is written out. -/
theorem drawn_by {n : Nat} {ro : Option Nat} {id : Nat} {κ : Kont} (ds : List Di) (hd : drawOk ops.toArray ds = true) (hok : opsOk n ops.toArray = true) (hc : dw P ops ds [] κ.nx l b h) :
    gs P n ro (.region id ops.toArray true) κ l b h :=
  drawn ds hd hok (dsem_of_dwF ds (by simp) hc)

/-! ### what an operation that only looks comes to -/
variable {ρ : Operand → Value}
@[simp] theorem vop_move (x : Operand) : vop P (.move x) ρ h = some (ρ x) := _root_.id rfl
@[simp] theorem vop_assign (x : Operand) : vop P (.assign x) ρ h = some (ρ x) := _root_.id rfl
@[simp] theorem vop_pick (c x y : Operand) : vop P (.pick c x y) ρ h = (boolOf (ρ c)).map fun t => if t = true then ρ x else ρ y := _root_.id rfl
@[simp] theorem vop_load (T : TypeId) (x : Operand) : vop P (.load T x) ρ h = (addrV (ρ x)).bind (valAt P T h) := _root_.id rfl
@[simp] theorem vop_nilCheck (x : Operand) : vop P (.nilCheck x) ρ h = nilV (ρ x) := _root_.id rfl
@[simp] theorem vop_bin (op : BinOp) (T T2 : TypeId) (x y : Operand) : vop P (.binOp op T x y T2) ρ h = binV P op T (ρ x) (ρ y) := _root_.id rfl
@[simp] theorem vop_not (T : TypeId) (x : Operand) : vop P (.unOp .not T x) ρ h = (boolOf (ρ x)).map fun t => .bool (!t) := _root_.id rfl
@[simp] theorem vop_fieldAddr (S f : Nat) (x : Operand) : vop P (.fieldAddr S x f) ρ h = (addrV (ρ x)).bind (fldA (fldOff (fldS P S f))) := _root_.id rfl
@[simp] theorem vop_field (T f : Nat) (x : Operand) : vop P (.field T x f) ρ h = if (fldS P T f).isSome then (aggV (ρ x)).bind (partOf (fldS P T f)) else none := _root_.id rfl
@[simp] theorem vop_extract (x : Operand) (i : Nat) : vop P (.extract x i) ρ h = (tupA (ρ x)).bind (·[i]?) := _root_.id rfl
@[simp] theorem vop_indexAddr (T : TypeId) (x y : Operand) : vop P (.indexAddr T x y) ρ h = idxV (elSz P T) (arrS P T) (ρ x) (ρ y) := _root_.id rfl
@[simp] theorem vop_slice (T : TypeId) (x : Operand) (lo hi : Option Operand) : vop P (.slice T x lo hi none) ρ h = pieceV (elSz P T) (lo.map ρ) (hi.map ρ) (ρ x) := _root_.id rfl
@[simp] theorem vop_convert (S D : TypeId) (x : Operand) : vop P (.convert S D x) ρ h = convV P S D h (ρ x) := _root_.id rfl
@[simp] theorem vop_len (x : Operand) (T : TypeId) : vop P (.call ⟨.builtin .len, #[x], #[T]⟩) ρ h = lenV P T (ρ x) := _root_.id rfl
@[simp] theorem vop_makeFunc (fn : Fn) (x y : Array Operand) : vop P (.makeFunc fn x y) ρ h = some (.func fn (x.map ρ) (y.map ρ)) := _root_.id rfl
@[simp] theorem addrV_ptr (a : Option Addr) : addrV (.pointer a) = a := _root_.id rfl
@[simp] theorem nilV_ptr (a : Addr) : nilV (.pointer (some a)) = some (.pointer (some a)) := _root_.id rfl
@[simp] theorem nilV_func (f : Nat) (x y : Array Value) : nilV (.func (.func f) x y) = some (.func (.func f) x y) := _root_.id rfl
@[simp] theorem nilV_yield (f : Nat) (x y : Array Value) : nilV (.func (.yield f) x y) = some (.func (.yield f) x y) := _root_.id rfl
@[simp] theorem fldA_mk (o bk off : Nat) : fldA (some o) ⟨bk, off, none⟩ = some (.pointer (some ⟨bk, off + o, none⟩)) := _root_.id rfl
@[simp] theorem aggV_agg (cs : Array Value) : aggV (.agg cs) = some cs := _root_.id rfl
@[simp] theorem tupA_tuple (cs : Array Value) : tupA (.tuple cs) = some cs := _root_.id rfl
@[simp] theorem binV_int (op : BinOp) (T : TypeId) (k : IntKind) (m n : Int) : binV P op T (.int k m) (.int k n) = intRes op k m n := by simp [binV]
@[simp] theorem binV_string (op : BinOp) (T : TypeId) (s t : ByteArray) : binV P op T (.string s) (.string t) = strRes op s t := _root_.id rfl
@[simp] theorem binV_bool (op : BinOp) (T : TypeId) (s t : Bool) : binV P op T (.bool s) (.bool t) = if boolT P T then (match op with | .eql => some (.bool (s == t)) | .neq => some (.bool (!(s == t))) | _ => none) else none := _root_.id rfl
@[simp] theorem binV_slice (op : BinOp) (T : TypeId) (a : Option Addr) (n c n' c' : Nat) : binV P op T (.slice a n c) (.slice none n' c') = if nilKind P T = 1 then (match op with | .eql => some (.bool a.isNone) | .neq => some (.bool (!a.isNone)) | _ => none) else none := _root_.id rfl
@[simp] theorem binV_ptr (op : BinOp) (T : TypeId) (a : Option Addr) : binV P op T (.pointer a) (.pointer none) = if nilKind P T = 2 then (match op with | .eql => some (.bool a.isNone) | .neq => some (.bool (!a.isNone)) | _ => none) else none := _root_.id rfl
@[simp] theorem lenV_slice (T : TypeId) (a : Option Addr) (n c : Nat) : lenV P T (.slice a n c) = if (elS P T).isSome then some (.int .i64 n) else none := _root_.id rfl
@[simp] theorem lenV_string (T : TypeId) (s : ByteArray) : lenV P T (.string s) = if strT P T then some (.int .i64 s.size) else none := _root_.id rfl
@[simp] theorem convV_slice (S D : TypeId) (a : Option Addr) (n c : Nat) : convV P S D h (.slice a n c) = match elS P S with | some e => if intK P e = some .u8 ∧ strT P D = true then (bytesV h a n).map .string else none | none => none := _root_.id rfl
@[simp] theorem convV_int (S D : TypeId) (k : IntKind) (i : Int) : convV P S D h (.int k i) = if (intK P S).isSome then (intK P D).map fun k => .int k (k.wrap i) else none := _root_.id rfl
@[simp] theorem idxV_arr {sz : Option Nat} {n s bk off : Nat} {k : IntKind} {i : Int} (h0 : 0 ≤ i) (h1 : i < n) : idxV sz (some (n, s)) (.pointer (some ⟨bk, off, none⟩)) (.int k i) = some (.pointer (some ⟨bk, off + i.toNat * s, none⟩)) := by
  simp [idxV, h0, h1]
theorem idxV_slice {sz : Option Nat} {ar : Option (Nat × Nat)} {a : Option Addr} {n c : Nat} {k : IntKind} {i : Int} (h0 : 0 ≤ i) (h1 : i < n) (ha : a.isSome = true) : idxV sz ar (.slice a n c) (.int k i) = sz.map fun s => .pointer (offs a (i.toNat * s)) := by
  simp [idxV, h0, h1, ha]
end
end Go.HC

/-
  HC, part 15: ranges over maps; conversions between bytes and strings; making slices.
-/
namespace Go.HC

section
variable {P : Program} {h : Heap} {K : Value → Heap → Prop} {l : L} {b : Base} {dst : Option Tmp} {ty : TypeId} {pos : String} {aft : Array Edge} {g : Option (Nat × Bool)}

/-! ### a range over a map that stays -/
section
variable {κ : Type}
/-- A map's entries: each key once, each birth once, ahead of the clock. -/
structure EntsOk (es : Ents κ) (clock : Nat) : Prop where
  lt : ∀ e ∈ es, e.2.2 < clock
  births : (es.map (·.2.2)).Nodup
  keys : (es.map (·.1)).Nodup

theorem EntsOk.nil (c : Nat) : EntsOk ([] : Ents κ) c := ⟨by simp, by simp, by simp⟩
/-- What an iterator has seen. -/
def seenOf (done : Ents κ) : Array Nat := (done.map (·.2.2)).toArray

def unseen (done : Ents κ) (t : κ × Value × Nat) : Bool := !(seenOf done).contains t.2.2
theorem unseen_iff {es done rest : Ents κ} (hnd : (es.map (·.2.2)).Nodup) (hpm : es.Perm (done ++ rest)) {t : κ × Value × Nat} (ht : t ∈ es) : unseen done t = true ↔ t ∈ rest := by
  have hnd2 : ((done ++ rest).map (·.2.2)).Nodup := (hpm.map _).nodup_iff.1 hnd
  rw [List.map_append, List.nodup_append] at hnd2
  have hmem := hpm.mem_iff.1 ht
  unfold unseen seenOf
  simp only [List.contains_toArray, List.contains_eq_mem, Bool.not_eq_true', decide_eq_false_iff_not]
  constructor
  · intro hn
    rcases List.mem_append.1 hmem with h | h
    · exact absurd (List.mem_map_of_mem h) hn
    · exact h
  · intro hr hc
    exact hnd2.2.2 _ hc _ (List.mem_map_of_mem hr) rfl

end
section
variable {κ : Type} [DecidableEq κ] {k : KeyK κ}
def rangeS (P : Program) (T : TypeId) (v : Value) (h : Heap) (K : Value → Heap → Prop) (_t : Tag K := ⟨⟩) : Prop := hp P (Instr.range T v) K h
@[congr] theorem rangeS_congr {T : TypeId} {v v' : Value} (hv : v = v') : rangeS P T v h K = rangeS P T v' h K := by rw [hv]
@[simp] theorem os_range (T : TypeId) (x : Operand) : os P ⟨dst, .range T x, ty, pos, aft, g⟩ l b h K = rangeS P T (ev l b x) h K := by
  unfold os osem execOp rangeS; simp only [hp_bind, hp_pure]; rfl
theorem range_map {T kt et : TypeId} {r : Nat} {es : Array MapEntry} {clock : Nat} (hm : mapS P T = some (kt, et)) (hr : h[r]? = some (.map es clock)) :
    rangeS P T (.map (some r)) h K = K (.pointer (some ⟨h.size, 0, none⟩)) (h.push (.mapIter (some r) clock #[] clock)) := by
  unfold rangeS Instr.range
  simp only [hp_bind, hp_underlying, mapS_spec hm, hp_getObj, hr, isCells, true_and, hp_pure, hp_newObj]

def nextS (P : Program) (v : Value) (s : Bool) (ty : TypeId) (h : Heap) (K : Value → Heap → Prop) (_t : Tag K := ⟨⟩) : Prop := hp P (Instr.next v s ty) K h
@[congr] theorem nextS_congr {v v' : Value} {s : Bool} (hv : v = v') : nextS P v s ty h K = nextS P v' s ty h K := by rw [hv]
@[simp] theorem os_next (x : Operand) (s : Bool) : os P ⟨dst, .next x s, ty, pos, aft, g⟩ l b h K = nextS P (ev l b x) s ty h K := by
  unfold os osem execOp nextS; simp only [hp_bind, hp_pure]; rfl
def entryS (P : Program) (v : Value) (h : Heap) (K : Value → Heap → Prop) (_t : Tag K := ⟨⟩) : Prop := hp P (Instr.entry v) K h
@[congr] theorem entryS_congr {v v' : Value} (hv : v = v') : entryS P v h K = entryS P v' h K := by rw [hv]
@[simp] theorem os_entry (x : Operand) : os P ⟨dst, .entry x, ty, pos, aft, g⟩ l b h K = entryS P (ev l b x) h K := by
  unfold os osem execOp entryS; simp only [hp_bind, hp_pure]; rfl

theorem left_of (es done : Ents κ) : ((entsOf k es).filter fun e => !(seenOf done).contains e.born) = entsOf k (es.filter (unseen done)) := by
  apply Array.ext'
  unfold entsOf
  simp only [List.filter_toArray, List.filter_map]
  rfl
theorem next_map {it r : Nat} {es done rest : Ents κ} {clock : Nat} (hok : EntsOk es clock) (hi : h[it]? = some (.mapIter (some r) clock (seenOf done) clock)) (hr : h[r]? = some (.map (entsOf k es) clock))
    (hpm : es.Perm (done ++ rest)) (h0 : rest = [] → K (.tuple #[.bool false]) h)
    (h1 : ∀ e rest', rest.Perm (e :: rest') → K (.tuple #[.bool true, k.val e.1, e.2.1]) (h.setIfInBounds it (.mapIter (some r) clock (seenOf (done ++ [e])) clock))) :
    nextS P (.pointer (some ⟨it, 0, none⟩)) false ty h K := by
  unfold nextS Instr.next
  have hall : ((entsOf k es).all fun e => decide (e.born ≥ clock)) = true → es = [] := by
    intro ha
    cases es with
    | nil => rfl
    | cons t es =>
      exfalso
      have := hok.lt t (List.mem_cons_self ..)
      simp [entsOf, entOf] at ha
      omega
  have hun : (!(seenOf done).isEmpty && !(entsOf k es).isEmpty && (entsOf k es).all fun e => decide (e.born ≥ clock)) = false := by
    cases hA : (entsOf k es).all fun e => decide (e.born ≥ clock)
    · simp
    · rw [hall hA]; simp [entsOf]
  have hold : ((entsOf k (es.filter (unseen done))).filter fun e => decide (e.born < clock)) = entsOf k (es.filter (unseen done)) := by
    rw [Array.filter_eq_self]
    intro e he
    simp only [entsOf, List.mem_toArray, List.mem_map] at he
    obtain ⟨t, ht, rfl⟩ := he
    exact decide_eq_true (hok.lt t (List.mem_filter.1 ht).1)
  have hnew : ((entsOf k (es.filter (unseen done))).filter fun e => decide (e.born ≥ clock)) = #[] := by
    rw [Array.filter_eq_empty_iff]
    intro e he
    simp only [entsOf, List.mem_toArray, List.mem_map] at he
    obtain ⟨t, ht, rfl⟩ := he
    have := hok.lt t (List.mem_filter.1 ht).1
    simp only [entOf, ge_iff_le, decide_eq_true_eq]
    omega
  simp only [hp_bind, hp_getObj, hi, isCells, true_and, hr, hun, Bool.false_eq_true, if_false, left_of, hold, hnew, Array.append_empty, hp_choose]
  by_cases hrest : rest = []
  · subst hrest
    have he : es.filter (unseen done) = [] := by
      rw [List.filter_eq_nil_iff]
      intro t ht hu
      have := (unseen_iff hok.births hpm ht).1 hu
      cases this
    rw [he]
    simp only [entsOf, List.map_nil]
    simpa [Question.forced] using h0 rfl
  · have hne : (es.filter (unseen done)) ≠ [] := by
      obtain ⟨t, rest', rfl⟩ := List.exists_cons_of_ne_nil hrest
      intro he
      have hte : t ∈ es := hpm.mem_iff.2 (by simp)
      have : t ∈ es.filter (unseen done) := List.mem_filter.2 ⟨hte, (unseen_iff hok.births hpm hte).2 (by simp)⟩
      rw [he] at this
      cases this
    generalize hL : (es.filter (unseen done)) = Lf at hne ⊢
    have hemp : (entsOf k Lf).isEmpty = false := by
      cases Lf with
      | nil => exact absurd rfl hne
      | cons a b => simp [entsOf]
    simp only [hemp, Bool.false_eq_true, if_false, Array.empty_append, Array.size_map]
    have hsz : (entsOf k Lf).size = Lf.length := by simp [entsOf]
    have hpos : 0 < Lf.length := List.length_pos_iff.2 hne
    have go : ∀ n, n < Lf.length → Go.HC.hp P (match ((entsOf k Lf).map some)[n]? with
        | some (some e) => do setObj it (.mapIter (some r) clock ((seenOf done).push e.born) clock); pure (.tuple #[.bool true, e.key, e.val])
        | some none => pure (.tuple #[.bool false])
        | none => stuck "Next: no such candidate" : Sem Value) K h := by
      intro n hn
      have hget : ((entsOf k Lf).map some)[n]? = some (some (entOf k Lf[n])) := by
        simp [entsOf, hn]
      rw [hget]
      have hmem : Lf[n] ∈ rest := by
        have key : ∀ t ∈ Lf, t ∈ es.filter (unseen done) := fun t ht => by rw [hL]; exact ht
        have := key _ (List.getElem_mem hn)
        exact (unseen_iff hok.births hpm (List.mem_filter.1 this).1).1 (List.mem_filter.1 this).2
      obtain ⟨s, t, hst⟩ := List.append_of_mem hmem
      have hperm : rest.Perm (Lf[n] :: (s ++ t)) := by rw [hst]; exact List.perm_middle
      have := h1 _ _ hperm
      simp only [hp_bind, hp_setObj, hi, isCells, true_and, hp_pure]
      have hseen : (seenOf done).push (entOf k Lf[n]).born = seenOf (done ++ [Lf[n]]) := by
        simp [seenOf, entOf]
      rw [hseen]
      exact this
    split
    · exact go 0 hpos
    · intro t
      refine go _ ?_
      simp only [Question.cut, hsz]
      exact Nat.mod_lt _ hpos

theorem entry_map {it r : Nat} {es done : Ents κ} {e : κ × Value × Nat} {clock : Nat} (hok : EntsOk es clock) (hi : h[it]? = some (.mapIter (some r) clock (seenOf (done ++ [e])) clock)) (hr : h[r]? = some (.map (entsOf k es) clock))
    (he : e ∈ es) : entryS P (.pointer (some ⟨it, 0, none⟩)) h K = K (.tuple #[k.val e.1, e.2.1]) h := by
  unfold entryS Instr.entry
  have hb : (seenOf (done ++ [e])).back? = some e.2.2 := by simp [seenOf]
  have hf : (entsOf k es).find? (fun x => x.born == e.2.2) = some (entOf k e) := by
    unfold entsOf
    rw [List.find?_toArray, List.find?_map]
    have : ∀ l : Ents κ, (l.map (·.2.2)).Nodup → e ∈ l → l.find? ((fun x : MapEntry => x.born == e.2.2) ∘ entOf k) = some e := by
      intro l
      induction l with
      | nil => intro _ hm; cases hm
      | cons t l ih =>
        intro hnd hm
        rw [List.map_cons, List.nodup_cons] at hnd
        rcases List.mem_cons.1 hm with rfl | hm
        · simp [List.find?, entOf]
        · have : t.2.2 ≠ e.2.2 := fun hh => hnd.1 (hh ▸ List.mem_map_of_mem hm)
          rw [List.find?_cons_of_neg (by simpa [entOf] using this)]
          exact ih hnd.2 hm
    rw [this es hok.births he]
    rfl
  simp only [hp_bind, hp_getObj, hi, isCells, true_and, hb, hr, bne_self_eq_false, Bool.false_eq_true, if_false, hp_pure, hf]
  rfl
theorem getE_some {x : κ} {v : Value} : ∀ {l : Ents κ}, getE x l = some v → ∃ c, (x, v, c) ∈ l
  | [], h => by cases h
  | t :: l, h => by
    rw [getE_cons] at h
    split at h
    · rename_i hx
      simp only [Option.some.injEq] at h
      exact ⟨t.2.2, by rw [hx, ← h]; exact List.mem_cons_self ..⟩
    · obtain ⟨c, hc⟩ := getE_some h
      exact ⟨c, List.mem_cons_of_mem _ hc⟩
theorem getE_none {x : κ} : ∀ {l : Ents κ}, getE x l = none → x ∉ l.map (·.1)
  | [], _ => by simp
  | t :: l, h => by
    rw [getE_cons] at h
    split at h
    · cases h
    · rename_i hx
      rw [List.map_cons, List.mem_cons]
      rintro (h1 | h1)
      · exact hx h1
      · exact getE_none h h1
theorem getE_mem {x : κ} {v : Value} {c : Nat} : ∀ {l : Ents κ}, (l.map (·.1)).Nodup → (x, v, c) ∈ l → getE x l = some v
  | [], _, h => by cases h
  | t :: l, hnd, h => by
    rw [List.map_cons, List.nodup_cons] at hnd
    rw [getE_cons]
    rcases List.mem_cons.1 h with rfl | h
    · simp
    · rw [if_neg (fun hh : x = t.1 => hnd.1 (hh ▸ List.mem_map_of_mem (f := (·.1)) h))]
      exact getE_mem hnd.2 h
theorem putE_keys {x : κ} {v : Value} {c : Nat} : ∀ {l : Ents κ}, (getE x l).isSome = true → (putE x v c l).map (·.1) = l.map (·.1) ∧ (putE x v c l).map (·.2.2) = l.map (·.2.2)
  | [], h => by cases h
  | t :: l, h => by
    rw [getE_cons] at h
    rw [putE]
    split
    · exact ⟨rfl, rfl⟩
    · rename_i hx
      rw [if_neg hx] at h
      obtain ⟨h1, h2⟩ := putE_keys (v := v) (c := c) h
      exact ⟨by rw [List.map_cons, h1]; rfl, by rw [List.map_cons, h2]; rfl⟩
theorem EntsOk.put {es : Ents κ} {clock : Nat} (hok : EntsOk es clock) (x : κ) (v : Value) : EntsOk (putE x v clock es) (clockE x es clock) := by
  cases hg : getE x es with
  | none =>
    rw [putE_new hg, clockE, hg]
    refine ⟨?_, ?_, ?_⟩
    · intro e he
      rcases List.mem_append.1 he with he | he
      · have := hok.lt e he; simp; omega
      · simp only [List.mem_singleton] at he; subst he; simp
    · rw [List.map_append, List.nodup_append]
      refine ⟨hok.births, by simp, ?_⟩
      intro a ha b hb
      simp only [List.map_cons, List.map_nil, List.mem_singleton] at hb
      subst hb
      obtain ⟨e, he, rfl⟩ := List.mem_map.1 ha
      have := hok.lt e he
      omega
    · rw [List.map_append, List.nodup_append]
      refine ⟨hok.keys, by simp, ?_⟩
      intro a ha b hb
      simp only [List.map_cons, List.map_nil, List.mem_singleton] at hb
      subst hb
      rintro rfl
      exact getE_none hg ha
  | some u =>
    have hs : (getE x es).isSome = true := by rw [hg]; rfl
    obtain ⟨h1, h2⟩ := putE_keys (v := v) (c := clock) hs
    refine ⟨?_, by rw [h2]; exact hok.births, by rw [h1]; exact hok.keys⟩
    intro e he
    have : e.2.2 ∈ (putE x v clock es).map (·.2.2) := List.mem_map_of_mem he
    rw [h2] at this
    obtain ⟨e', he', heq⟩ := List.mem_map.1 this
    unfold clockE
    rw [if_pos hs, ← heq]
    exact hok.lt e' he'
theorem delE_sub (x : κ) : ∀ (l : Ents κ), (delE x l).Sublist l
  | [] => .slnil
  | t :: l => by
    rw [delE]
    split
    · exact List.sublist_cons_self ..
    · exact (delE_sub x l).cons_cons _
theorem EntsOk.del {es : Ents κ} {clock : Nat} (hok : EntsOk es clock) (x : κ) : EntsOk (delE x es) clock :=
  ⟨fun e he => hok.lt e ((delE_sub x es).subset he), hok.births.sublist ((delE_sub x es).map _), hok.keys.sublist ((delE_sub x es).map _)⟩
theorem getE_put {x y : κ} {v : Value} {c : Nat} : ∀ {l : Ents κ}, getE y (putE x v c l) = if y = x then some v else getE y l
  | [] => by
    rw [putE, getE_cons]
  | t :: l => by
    rw [putE]
    split
    · rename_i hx
      rw [getE_cons, getE_cons]
      simp only
      by_cases hy : y = t.1
      · rw [if_pos hy, if_pos (hy.trans hx.symm)]
      · rw [if_neg hy, if_neg (fun hh => hy (hh.trans hx)), if_neg hy]
    · rename_i hx
      rw [getE_cons, getE_cons, getE_put]
      by_cases hy : y = t.1
      · rw [if_pos hy, if_pos hy, if_neg (fun hh => hx (hh.symm.trans hy))]
      · rw [if_neg hy, if_neg hy]
theorem getE_del {x y : κ} : ∀ {l : Ents κ}, (l.map (·.1)).Nodup → getE y (delE x l) = if y = x then none else getE y l
  | [], _ => by simp [delE]
  | t :: l, hnd => by
    rw [List.map_cons, List.nodup_cons] at hnd
    rw [delE]
    split
    · rename_i hx
      rw [getE_cons]
      by_cases hy : y = x
      · rw [if_pos hy]
        cases hg : getE y l with
        | none => rfl
        | some v =>
          obtain ⟨c, hc⟩ := getE_some hg
          refine absurd (List.mem_map_of_mem (f := (·.1)) hc) ?_
          simp only
          rw [hy, hx]; exact hnd.1
      · rw [if_neg hy, if_neg (fun hh => hy (hh.trans hx.symm))]
    · rename_i hx
      rw [getE_cons, getE_cons, getE_del hnd.2]
      by_cases hy : y = t.1
      · rw [if_pos hy, if_pos hy, if_neg (fun hh => hx (hh.symm.trans hy))]
      · rw [if_neg hy, if_neg hy]
end

/-! ### bytes and strings -/
theorem conv_bytes_str {S D e : TypeId} {F : Nat → Prop} {v : Value} {xs : List UInt8} (hS : elS P S = some e) (he : intK P e = some .u8) (hD : strT P D = true) (hv : SlRep rByte F h v xs) :
    convS P S D v h K = K (.string (strOf xs)) h := by
  obtain ⟨a, c, rfl, _, _⟩ := hv.val
  exact conv_bytes hS he hD hv.bytesV
theorem conv_same_bytes {S e : TypeId} {a : Addr} {n c m : Nat} {arr : Array Value} {e' : TypeId} {fz : Nat × Nat} (hS : elS P S = some e) (he : intK P e = some .u8) (hb : h[a.block]? = some (.cells arr e' fz)) (hm : arr.size = m) :
    convS P S S (.slice (some a) n c) h K = K (.slice (some a) n c) (freezeH h ⟨a.block, m, none⟩ 1) := by
  have hue : P.underlying e = some (.int .u8) := by
    unfold intK at he
    cases hu : P.underlying e with
    | none => simp [hu] at he
    | some d => cases d <;> simp [hu] at he; rw [he]
  unfold convS convert
  simp only [hp_bind, hp_underlying, elS_spec hS, hue, BEq.rfl, markStringish, hp_shape, shapeH, hb, hp_freeze, hp_pure, hm]

def makeSliceS (P : Program) (T : TypeId) (v u : Value) (h : Heap) (K : Value → Heap → Prop) (_t : Tag K := ⟨⟩) : Prop := hp P (Instr.makeSlice T v u) K h
@[congr] theorem makeSliceS_congr {T : TypeId} {v v' u u' : Value} (hv : v = v') (hu : u = u') : makeSliceS P T v u h K = makeSliceS P T v' u' h K := by rw [hv, hu]
@[simp] theorem os_makeSlice (T : TypeId) (x y : Operand) : os P ⟨dst, .makeSlice T x y, ty, pos, aft, g⟩ l b h K = makeSliceS P T (ev l b x) (ev l b y) h K := by
  unfold os osem execOp makeSliceS; simp only [hp_bind, hp_pure]; rfl
end
end Go.HC

/-
  HC, part 16: iterators: what an iterator asks of the function that it is handed; a range over one.
-/
namespace Go.HC

/-- What an iterator is handed: a function that takes one more datum; J: what holds when these have been taken (D: the blocks that it speaks of), Z: when it has said 'no more'. A: which may come next. -/
structure Yields {α : Type} (P : Program) (y : Value) (val : α → Array Value) (A : List α → α → Prop) (J : List α → (Nat → Prop) → Heap → Prop) (Z : (Nat → Prop) → Heap → Prop) : Prop where
  lt : ∀ {xs D h}, J xs D h → ∀ b, D b → b < h.size
  mono : ∀ {xs D h h'}, J xs D h → h.size ≤ h'.size → (∀ b, D b → h'[b]? = h[b]?) → J xs D h'
  ltZ : ∀ {D h}, Z D h → ∀ b, D b → b < h.size
  monoZ : ∀ {D h h'}, Z D h → h.size ≤ h'.size → (∀ b, D b → h'[b]? = h[b]?) → Z D h'
  step : ∀ {xs x D h}, J xs D h → A xs x → callV P y (val x) h fun v h' =>
    (v = .bool true ∧ ∃ D', J (xs ++ [x]) D' h' ∧ Keep D h h' ∧ ∀ b, D' b → D b ∨ h.size ≤ b) ∨
    (v = .bool false ∧ ∃ D', Z D' h' ∧ Keep D h h' ∧ ∀ b, D' b → D b ∨ h.size ≤ b)

/-- An iterator's contract: Fp: the blocks that it reads, as they are in h0; Done: what has come when it ends. -/
def Iter {α : Type} (P : Program) (f : FuncId) (first caps : Array Value) (val : α → Array Value) (A : List α → α → Prop) (Done : List α → Prop) (Fp : Nat → Prop) (h0 : Heap) : Prop :=
  ∀ (y : Value) (J : List α → (Nat → Prop) → Heap → Prop) (Z : (Nat → Prop) → Heap → Prop) (D : Nat → Prop) (h : Heap), (∃ fn u v, y = .func fn u v) → Yields P y val A J Z → J [] D h → h0.size ≤ h.size → (∀ b, Fp b → b < h0.size ∧ ¬ D b ∧ h[b]? = h0[b]?) →
    CallH P f (first ++ #[y] ++ caps) h fun _ h' => ∃ D', ((∃ xs, Done xs ∧ J xs D' h') ∨ Z D' h') ∧ Keep D h h' ∧ ∀ b, D' b → D b ∨ h.size ≤ b

theorem look_base (l : L) (g : Nat → Value) (d d' : List Nat) (t : Nat) : look l ⟨g, d⟩ t = look l ⟨g, d'⟩ t := by
  induction l with
  | nil => rfl
  | cons p l ih => obtain ⟨q, u⟩ := p; simp only [look, ih]
def putAll : List (Nat × Value) → L → L
  | [], l => l
  | p :: ps, l => putAll ps (p :: l)
@[simp] theorem putAll_nil (l : L) : putAll [] l = l := _root_.id rfl
@[simp] theorem putAll_cons (p : Nat × Value) (ps : List (Nat × Value)) (l : L) : putAll (p :: ps) l = putAll ps (p :: l) := _root_.id rfl
theorem isFr_putAll {n : Nat} {b : Base} : ∀ (ps : List (Nat × Value)) {T : Array Value} {l : L}, IsFr n ⟨T, []⟩ l b → (∀ p ∈ ps, p.1 < n) →
    IsFr n ⟨ps.foldl (fun tmps p => tmps.setIfInBounds p.1 p.2) T, []⟩ (putAll ps l) b
  | [], _, _, h, _ => h
  | p :: ps, T, l, h, hn => by
    have := h.put (dst := some p.1) (fun d hd => by cases hd; exact hn p (List.mem_cons_self ..)) p.2
    exact isFr_putAll ps this fun q hq => hn q (List.mem_cons_of_mem _ hq)

section
variable {P : Program} {n : Nat} {κ : Kont} {l : L} {b : Base} {h : Heap}
theorem callV_yield {lp : Nat} {r : Loop} {args : Array Value} {h : Heap} {K : Value → Heap → Prop} (hr : h[lp]? = some (.loop r)) (hs : args.size = r.params.size)
    (hc : RoundH P lp r.fn ((r.params.zip args).foldl (fun tmps (t, a) => tmps.setIfInBounds t a) r.tmps) r.assign r.body h K) : callV P (yv lp) args h K := by
  unfold callV yv Deferred.ofValue invoke Instr.yield Instr.getLoop
  simp only [hp_bind, hp_pure, hp_getObj, hr, isCells, true_and, Array.empty_append, hs, hp_ite]
  rw [if_neg (by simp)]
  exact hc

/-- How a round's body may end: what must hold of the heap then. h3: the heap when the body began. -/
def roundEnd (Kp : Nat → Prop) (h3 : Heap) (B : Nat → Prop) (I : (Nat → Prop) → Heap → Prop) (h4 : Heap) : Prop :=
  ∃ D', I D' h4 ∧ Keep Kp h3 h4 ∧ ∀ b, D' b → B b

def roundKt (B : Nat → Prop) (h3 : Heap) (I : (Nat → Prop) → Heap → Prop) (Z : Code → (Nat → Prop) → Heap → Prop) : Kont :=
  { nx := fun _ _ h4 => roundEnd B h3 B I h4, rt := fun _ _ h4 => roundEnd B h3 B (Z .ret) h4, ex := fun id _ _ h4 => roundEnd B h3 B (Z (.exit id)) h4, gt := fun t _ _ h4 => roundEnd B h3 B (Z (.goto t)) h4 }
@[simp] theorem roundKt_nx (B : Nat → Prop) (h3 : Heap) (I : (Nat → Prop) → Heap → Prop) (Z : Code → (Nat → Prop) → Heap → Prop) : (roundKt B h3 I Z).nx l b h = roundEnd B h3 B I h := _root_.id rfl
@[simp] theorem roundKt_rt (B : Nat → Prop) (h3 : Heap) (I : (Nat → Prop) → Heap → Prop) (Z : Code → (Nat → Prop) → Heap → Prop) : (roundKt B h3 I Z).rt l b h = roundEnd B h3 B (Z .ret) h := _root_.id rfl
@[simp] theorem roundKt_ex (B : Nat → Prop) (h3 : Heap) (I : (Nat → Prop) → Heap → Prop) (Z : Code → (Nat → Prop) → Heap → Prop) (id : Nat) : (roundKt B h3 I Z).ex id l b h = roundEnd B h3 B (Z (.exit id)) h := _root_.id rfl
@[simp] theorem roundKt_gt (B : Nat → Prop) (h3 : Heap) (I : (Nat → Prop) → Heap → Prop) (Z : Code → (Nat → Prop) → Heap → Prop) (id : Nat) : (roundKt B h3 I Z).gt id l b h = roundEnd B h3 B (Z (.goto id)) h := _root_.id rfl

/-- How the assignment ahead of a round's body may end. -/
def roundAs (P : Program) (n lp : Nat) (y : Code) (D : Nat → Prop) (h1 : Heap) (I : (Nat → Prop) → Heap → Prop) (Z : Code → (Nat → Prop) → Heap → Prop) : Kont :=
  { nx := fun l2 b2 h2 => Keep D h1 h2 ∧ ∀ h3 : Heap, h3.size = h2.size → (∀ b, b ≠ lp → h3[b]? = h2[b]?) → cs P n (some lp) y (roundKt (fun b => D b ∨ h1.size ≤ b) h3 I Z) l2 b2 h3,
    rt := fun _ _ _ => False, ex := fun _ _ _ _ => False, gt := fun _ _ _ _ => False }
@[simp] theorem roundAs_nx (lp : Nat) (y : Code) (D : Nat → Prop) (h1 : Heap) (I : (Nat → Prop) → Heap → Prop) (Z : Code → (Nat → Prop) → Heap → Prop) : (roundAs P n lp y D h1 I Z).nx l b h =
    (Keep D h1 h ∧ ∀ h3 : Heap, h3.size = h.size → (∀ b, b ≠ lp → h3[b]? = h[b]?) → cs P n (some lp) y (roundKt (fun b => D b ∨ h1.size ≤ b) h3 I Z) l b h3) := _root_.id rfl

/-- 'for x := range f { .. }', f an iterator with a contract. I: what holds between two rounds; Z: what holds when the loop is left by a jump. -/
theorem range_iter {α : Type} {g : Operand} {ps : Array Tmp} {x y : Code} {f : FuncId} {caps first : Array Value} {val : α → Array Value} {A : List α → α → Prop} {Done : List α → Prop} {Fp : Nat → Prop}
    (hg : ev l b g = .func (.func f) first caps) (hfn : FnOk P f) (hit : Iter P f first caps val A Done Fp h)
    (I : List α → (Nat → Prop) → Heap → Prop) (Z : Code → (Nat → Prop) → Heap → Prop)
    (hlt : ∀ {xs D h}, I xs D h → ∀ b, D b → b < h.size) (hmono : ∀ {xs D h h'}, I xs D h → h.size ≤ h'.size → (∀ b, D b → h'[b]? = h[b]?) → I xs D h')
    (hltZ : ∀ {c D h}, Z c D h → ∀ b, D b → b < h.size) (hmonoZ : ∀ {c D h h'}, Z c D h → h.size ≤ h'.size → (∀ b, D b → h'[b]? = h[b]?) → Z c D h')
    (D0 : Nat → Prop) (hI0 : I [] D0 h) (hFp : ∀ b, Fp b → b < h.size ∧ ¬ D0 b)
    (hok1 : codeOk n x = true) (hok2 : codeOk n y = true) (hps : ∀ v, (val v).size = ps.size) (hpn : ∀ p ∈ ps.toList, p < n)
    (round : ∀ lp xs v D h1, I xs D h1 → A xs v → h.size ≤ lp → lp < h1.size → ¬ D lp → ¬ D h.size →
      cs P n (some lp) x (roundAs P n lp y D h1 (I (xs ++ [v])) Z) (putAll (ps.toList.zip (val v).toList) l) ⟨b.g, []⟩ h1)
    (fin : ∀ xs D h', Done xs → I xs D h' → h'[h.size]? = some (.deferred (some [])) → Keep D0 h h' → (∀ b, D b → D0 b ∨ h.size + 2 ≤ b) → κ.nx l ⟨b.g, h.size :: b.d⟩ h')
    (out : ∀ c D h', Z c D h' → h'[h.size]? = some (.deferred (some [])) → Keep D0 h h' → (∀ b, D b → D0 b ∨ h.size + 2 ≤ b) → jumpK κ l ⟨b.g, h.size :: b.d⟩ (some c) h') :
    gs P n none (.rangeFunc g ps x y) κ l b h := by
  refine rangeFunc_rule hg hfn ?_
  intro fnid T hfr
  generalize hH : (h.push (.deferred (some []))).push (.loop { state := .ready, pending := none, fn := fnid, tmps := T, params := ps, assign := x, body := y, defers := h.size }) = H
  let rec0 : Loop := { state := .ready, pending := none, fn := fnid, tmps := T, params := ps, assign := x, body := y, defers := h.size }
  have hHs : H.size = h.size + 2 := by rw [← hH]; simp
  have hHl : H[h.size + 1]? = some (.loop rec0) := by
    rw [← hH]
    have : (h.push (.deferred (some []))).size = h.size + 1 := by simp
    rw [← this]
    exact push_new _ _
  have hHd : H[h.size]? = some (.deferred (some [])) := by
    rw [← hH, Array.getElem?_push, if_neg (by simp)]
    simp
  have hHo : ∀ b, b < h.size → H[b]? = h[b]? := by
    intro b hb
    rw [← hH, Array.getElem?_push, if_neg (by simp; omega), Array.getElem?_push, if_neg (by omega)]
  let J : List α → (Nat → Prop) → Heap → Prop := fun xs D h1 => h1[h.size + 1]? = some (.loop rec0) ∧ h1[h.size]? = some (.deferred (some [])) ∧ ∃ D', I xs D' h1 ∧ D = (fun b => D' b ∨ b = h.size ∨ b = h.size + 1) ∧ ¬ D' h.size ∧ ¬ D' (h.size + 1) ∧ h.size + 2 ≤ h1.size
  let ZZ : (Nat → Prop) → Heap → Prop := fun D h1 => h1[h.size]? = some (.deferred (some [])) ∧ ∃ c D', h1[h.size + 1]? = some (.loop { rec0 with state := .done, pending := some c }) ∧ Z c D' h1 ∧ D = (fun b => D' b ∨ b = h.size ∨ b = h.size + 1) ∧ ¬ D' h.size ∧ ¬ D' (h.size + 1) ∧ h.size + 2 ≤ h1.size
  have hy : Yields P (yv (h.size + 1)) val A J ZZ := by
    refine ⟨?_, ?_, ?_, ?_, ?_⟩
    · rintro xs D h1 ⟨h2, h3, D', hI, rfl, h4, h5, h6⟩ b hb
      rcases hb with hb | rfl | rfl
      · exact hlt hI b hb
      · omega
      · omega
    · rintro xs D h1 h1' ⟨h2, h3, D', hI, rfl, h4, h5, h6⟩ hsz hk
      exact ⟨(hk _ (.inr (.inr rfl))).trans h2, (hk _ (.inr (.inl rfl))).trans h3, D', hmono hI hsz (fun b hb => hk b (.inl hb)), rfl, h4, h5, Nat.le_trans h6 hsz⟩
    · rintro D h1 ⟨h3, c, D', h2, hI, rfl, h4, h5, h6⟩ b hb
      rcases hb with hb | rfl | rfl
      · exact hltZ hI b hb
      · omega
      · omega
    · rintro D h1 h1' ⟨h3, c, D', h2, hI, rfl, h4, h5, h6⟩ hsz hk
      exact ⟨(hk _ (.inr (.inl rfl))).trans h3, c, D', (hk _ (.inr (.inr rfl))).trans h2, hmonoZ hI hsz (fun b hb => hk b (.inl hb)), rfl, h4, h5, Nat.le_trans h6 hsz⟩
    · rintro xs v D h1 ⟨h2, h3, D', hI, rfl, h4, h5, h6⟩ hA
      refine callV_yield h2 (hps v) ?_
      have hfr1 : IsFr n ⟨T, []⟩ l ⟨b.g, []⟩ := ⟨hfr.size, fun t => (hfr.slot t).trans (look_base l b.g b.d [] t), rfl⟩
      have hfr2 := isFr_putAll (ps.toList.zip (val v).toList) hfr1 (fun p hp => hpn _ (List.of_mem_zip hp).1)
      have hfold : (ps.zip (val v)).foldl (fun tmps (t, a) => tmps.setIfInBounds t a) T = (ps.toList.zip (val v).toList).foldl (fun tmps p => tmps.setIfInBounds p.1 p.2) T := by
        rw [← Array.foldl_toList, Array.toList_zip]
      refine roundH_of (hfold ▸ hfr2) hok1 hok2 ?_
      refine csem_mono (κ := roundAs P n (h.size + 1) y D' h1 (I (xs ++ [v])) Z) x ⟨?_, fun _ _ _ h => h, fun _ _ _ _ h => h, fun _ _ _ _ h => h⟩ (round (h.size + 1) xs v D' h1 hI hA (by omega) (by omega) h5 h4)
      rintro l2 b2 h2' ⟨hk2, hbody⟩
      have hlp2 : h2'[h.size + 1]? = some (.loop rec0) := (hk2.blk _ (by omega) h5).trans h2
      have hsz2 := hk2.size
      refine ⟨rec0, hlp2, rfl, ?_⟩
      generalize hH3 : h2'.setIfInBounds (h.size + 1) (.loop { rec0 with state := .busy }) = h3'
      have hs3 : h3'.size = h2'.size := by rw [← hH3]; simp
      have hl3 : h3'[h.size + 1]? = some (.loop { rec0 with state := .busy }) := by rw [← hH3]; exact set_same _ (by omega)
      have ho3 : ∀ b, b ≠ h.size + 1 → h3'[b]? = h2'[b]? := by intro b hb; rw [← hH3]; exact set_other _ (fun e => hb e.symm)
      have fin1 : ∀ (jump : Option Code) (Q : (Nat → Prop) → Heap → Prop) (h4' : Heap), (∀ {D h}, Q D h → ∀ b, D b → b < h.size) → (∀ {D h h'}, Q D h → h.size ≤ h'.size → (∀ b, D b → h'[b]? = h[b]?) → Q D h') →
          roundEnd (fun b => D' b ∨ h1.size ≤ b) h3' (fun b => D' b ∨ h1.size ≤ b) Q h4' →
          ∃ r : Loop, h4'[h.size + 1]? = some (.loop r) ∧ ∀ h5', h5' = h4'.setIfInBounds (h.size + 1) (.loop { r with state := if jump.isNone then .ready else .done, pending := jump }) →
            h5'[h.size + 1]? = some (.loop { rec0 with state := if jump.isNone then .ready else .done, pending := jump }) ∧ h5'[h.size]? = some (.deferred (some [])) ∧ h.size + 2 ≤ h5'.size ∧
              Keep (fun b => D' b ∨ b = h.size ∨ b = h.size + 1) h1 h5' ∧ ∃ D'', Q D'' h5' ∧ ¬ D'' h.size ∧ ¬ D'' (h.size + 1) ∧ ∀ b, D'' b → D' b ∨ h1.size ≤ b := by
        rintro jump Q h4' hql hqm ⟨D'', hQ, hk4, hB⟩
        have n1 : ¬ D'' h.size := fun hh => (hB _ hh).elim h4 (fun h => by omega)
        have n2 : ¬ D'' (h.size + 1) := fun hh => (hB _ hh).elim h5 (fun h => by omega)
        have hl4 : h4'[h.size + 1]? = some (.loop { rec0 with state := .busy }) := (hk4.blk _ (by omega) (fun hh => hh.elim h5 (fun h => by omega))).trans hl3
        have hd4 : h4'[h.size]? = some (.deferred (some [])) :=
          (hk4.blk _ (by omega) (fun hh => hh.elim h4 (fun h => by omega))).trans ((ho3 _ (by omega)).trans ((hk2.blk _ (by omega) h4).trans h3))
        have hs4 := hk4.size
        refine ⟨_, hl4, ?_⟩
        rintro h5' rfl
        refine ⟨set_same _ (by omega), (set_other _ (by omega)).trans hd4, by simp; omega, ⟨by simp; omega, ?_⟩, D'', hqm hQ (by simp) (fun b hb => set_other _ (fun e => n2 (e ▸ hb))), n1, n2, hB⟩
        intro b hb hn
        simp only [not_or] at hn
        rw [set_other _ (fun e => hn.2.2 e.symm), hk4.blk b (by omega) (fun hh => hh.elim hn.1 (fun h => by omega)), ho3 b hn.2.2, hk2.blk b hb hn.1]
      refine csem_mono (κ := roundKt (fun b => D' b ∨ h1.size ≤ b) h3' (I (xs ++ [v])) Z) y ⟨?_, ?_, ?_, ?_⟩ (hbody h3' hs3 ho3)
      · intro l4 b4 h4' he
        obtain ⟨r, hr, hh⟩ := fin1 none _ h4' (fun {D h} hq => hlt hq) (fun {D h h'} hq => hmono hq) he
        obtain ⟨e1, e2, e3, e4, D'', e5, e6, e7, e8⟩ := hh _ rfl
        refine ⟨r, hr, .inl ⟨rfl, _, ⟨e1, e2, D'', e5, rfl, e6, e7, e3⟩, e4, ?_⟩⟩
        rintro b (hb | rfl | rfl)
        · exact (e8 b hb).imp .inl id
        · exact .inl (.inr (.inl rfl))
        · exact .inl (.inr (.inr rfl))
      all_goals
        first
        | (intro l4 b4 h4' he
           obtain ⟨r, hr, hh⟩ := fin1 (some .ret) _ h4' (fun {D h} hq => hltZ hq) (fun {D h h'} hq => hmonoZ hq) he
           obtain ⟨e1, e2, e3, e4, D'', e5, e6, e7, e8⟩ := hh _ rfl
           refine ⟨r, hr, .inr ⟨rfl, _, ⟨e2, .ret, D'', e1, e5, rfl, e6, e7, e3⟩, e4, ?_⟩⟩
           rintro b (hb | rfl | rfl)
           · exact (e8 b hb).imp .inl id
           · exact .inl (.inr (.inl rfl))
           · exact .inl (.inr (.inr rfl)))
        | (intro id l4 b4 h4' he
           obtain ⟨r, hr, hh⟩ := fin1 (some (.exit id)) _ h4' (fun {D h} hq => hltZ hq) (fun {D h h'} hq => hmonoZ hq) he
           obtain ⟨e1, e2, e3, e4, D'', e5, e6, e7, e8⟩ := hh _ rfl
           refine ⟨r, hr, .inr ⟨rfl, _, ⟨e2, .exit id, D'', e1, e5, rfl, e6, e7, e3⟩, e4, ?_⟩⟩
           rintro b (hb | rfl | rfl)
           · exact (e8 b hb).imp .inl fun h => h
           · exact .inl (.inr (.inl rfl))
           · exact .inl (.inr (.inr rfl)))
        | (intro id l4 b4 h4' he
           obtain ⟨r, hr, hh⟩ := fin1 (some (.goto id)) _ h4' (fun {D h} hq => hltZ hq) (fun {D h h'} hq => hmonoZ hq) he
           obtain ⟨e1, e2, e3, e4, D'', e5, e6, e7, e8⟩ := hh _ rfl
           refine ⟨r, hr, .inr ⟨rfl, _, ⟨e2, .goto id, D'', e1, e5, rfl, e6, e7, e3⟩, e4, ?_⟩⟩
           rintro b (hb | rfl | rfl)
           · exact (e8 b hb).imp .inl fun h => h
           · exact .inl (.inr (.inl rfl))
           · exact .inl (.inr (.inr rfl)))
  have hIH : I [] D0 H := hmono hI0 (by omega) (fun b hb => hHo b (hlt hI0 b hb))
  have hd1 : ¬ D0 h.size := fun hh => by have := hlt hI0 _ hh; omega
  have hd2 : ¬ D0 (h.size + 1) := fun hh => by have := hlt hI0 _ hh; omega
  refine (hit (yv (h.size + 1)) J ZZ _ H ⟨_, _, _, rfl⟩ hy ⟨hHl, hHd, D0, hIH, rfl, hd1, hd2, by omega⟩ (by omega) ?_).mono ?_
  · intro b hb
    obtain ⟨h1, h2⟩ := hFp b hb
    exact ⟨h1, fun hh => hh.elim h2 (fun h => by omega), hHo b h1⟩
  · rintro v h' ⟨D', hend, hk, hB⟩
    have hs' := hk.size
    rcases hend with ⟨xs, hdone, h2, h3, D'', hI, rfl, h4, h5, h6⟩ | ⟨h3, c, D'', h2, hI, rfl, h4, h5, h6⟩
    · refine ⟨rec0, h2, by simp [rec0], ?_⟩
      have hk2 : Keep D0 h (h'.setIfInBounds (h.size + 1) (.loop { rec0 with state := .exhausted })) := by
        refine ⟨by simp; omega, fun b hb hn => ?_⟩
        rw [set_other _ (by omega), hk.blk b (by omega) (fun hh => hh.elim hn (fun h => by omega)), hHo b hb]
      exact fin xs D'' _ hdone (hmono hI (by simp) (fun b hb => set_other _ (fun e => h5 (e ▸ hb)))) ((set_other _ (by omega)).trans h3) hk2
        (fun b hb => by
          rcases hB b (.inl hb) with (h | h | h) | h
          · exact .inl h
          · subst h; exact absurd hb h4
          · subst h; exact absurd hb h5
          · exact .inr (by omega))
    · refine ⟨_, h2, by simp, ?_⟩
      have hk2 : Keep D0 h (h'.setIfInBounds (h.size + 1) (.loop { rec0 with state := .exhausted, pending := some c })) := by
        refine ⟨by simp; omega, fun b hb hn => ?_⟩
        rw [set_other _ (by omega), hk.blk b (by omega) (fun hh => hh.elim hn (fun h => by omega)), hHo b hb]
      exact out c D'' _ (hmonoZ hI (by simp) (fun b hb => set_other _ (fun e => h5 (e ▸ hb)))) ((set_other _ (by omega)).trans h3) hk2
        (fun b hb => by
          rcases hB b (.inl hb) with (h | h | h) | h
          · exact .inl h
          · subst h; exact absurd hb h4
          · subst h; exact absurd hb h5
          · exact .inr (by omega))
end
theorem Grow.val {α : Type} {R : Rp α} {e : TypeId} {F : Nat → Prop} {h : Heap} {v : Value} {xs : List α} {own : Option Nat} (hg : Grow R e F h v xs own) : ∃ a c, v = .slice a xs.length c := by
  rcases hg with ⟨rfl, rfl, _⟩ | ⟨bk, c, arr, cs, rfl, _⟩
  · exact ⟨_, _, rfl⟩
  · exact ⟨_, _, rfl⟩
theorem Grow.push {α : Type} {R : Rp α} {e : TypeId} {F : Nat → Prop} {h : Heap} {v : Value} {xs : List α} {own : Option Nat} (hg : Grow R e F h v xs own) (hF : ∀ b, F b → b < h.size) (o : Obj) : Grow R e F (h.push o) v xs own := by
  refine hg.mono (fun b hb => ⟨hb, push_old _ (hF b hb)⟩) fun b hb => ⟨?_, push_old _ (hg.own_lt b hb)⟩
  rcases hg with ⟨_, _, rfl⟩ | ⟨bk, c, arr, cs, _, rfl, _, hn, _⟩
  · cases hb
  · cases hb; exact hn
end Go.HC

/-
  HC, part 17: pieces of slices.
-/
namespace Go.HC
theorem Keep.pushed {S : Nat → Prop} {h h' : Heap} (k : Keep S h h') (o : Obj) : Keep S h (h'.push o) := k.trans (.push S h' o) (fun _ _ h => h)
theorem Keep.setted {S : Nat → Prop} {h h' : Heap} (k : Keep S h h') {b : Nat} (o : Obj) (hb : b < h.size → S b) : Keep S h (h'.setIfInBounds b o) :=
  ⟨by simpa using k.size, fun i hi hn => by rw [set_other _ (fun e => hn (by subst e; exact hb hi)), k.blk i hi hn]⟩
theorem Keep.none {S : Nat → Prop} {h h' : Heap} (k : Keep none_ h h') : Keep S h h' := k.weaken fun _ _ h => h.elim
@[simp high] theorem push_get {h : Heap} {o : Obj} {n : Nat} (hn : n = h.size) : (h.push o)[n]? = some o := by subst hn; exact push_new _ _
section
variable {α : Type} {R : Rp α} {F F' : Nat → Prop} {h h' : Heap}
theorem SlRep.cut {a : Option Addr} {n c i j m : Nat} {xs : List α} (hs : SlRep R F h (.slice a n c) xs) (h1 : i ≤ j) (h2 : j ≤ xs.length) (h3 : j ≤ m) (h4 : m ≤ c) :
    SlRep R F h (.slice (piece a i m R.sz) (j - i) (m - i)) ((xs.drop i).take (j - i)) := by
  obtain ⟨a', c', cs, hv, g1, g2, g3, g4⟩ := hs
  cases hv
  have hl : ((xs.drop i).take (j - i)).length = j - i := by
    rw [List.length_take, List.length_drop]; omega
  refine ⟨_, m - i, (cs.drop (i * R.sz)).take ((j - i) * R.sz), by rw [hl], by omega, by omega, ?_, (g4.drop i).take (j - i)⟩
  by_cases hij : i = j
  · left; subst hij; simp
  · rcases g3 with h0 | ⟨bk, off, arr, e, fz, rfl, q1, q2, q3⟩
    · left; rw [h0]; simp
    · have hp : piece (some ⟨bk, off, none⟩) i m R.sz = some ⟨bk, off + i * R.sz, none⟩ := by
        unfold HC.piece
        rw [if_neg (by omega), offs_mk]
      rw [hp]
      refine Cells.take _ (Cells.drop (i * R.sz) (.inr ⟨bk, off, arr, e, fz, rfl, q1, q2, q3⟩) ?_)
      rw [g4.len]
      exact Nat.mul_le_mul_right _ (by omega)
theorem Grow.bytes {e : TypeId} {F : Nat → Prop} {h : Heap} {v : Value} {xs : List UInt8} {own : Option Nat} (hg : Grow rByte e F h v xs own) : SlRep rByte (fun b => own = some b) h v xs := by
  obtain ⟨a, c, rfl⟩ := hg.val
  obtain ⟨cs, _, h1, h2, h3, h4⟩ := hg.cells
  exact ⟨a, c, cs, rfl, h1, h2, h3, bytes_map.2 (bytes_map.1 h4)⟩
end

section
variable {P : Program} {h : Heap} {K : Value → Heap → Prop} {ty : TypeId}
@[simp] theorem kStr_val (x : ByteArray) : kStr.val x = .string x := _root_.id rfl
@[simp] theorem kInt_val (x : Int) : kInt.val x = .int .i64 x := _root_.id rfl
theorem lookup_str {T kt et : TypeId} {r : Nat} {es : Ents ByteArray} {clock : Nat} {x : ByteArray} {ok : Bool} {z : Value} (hm : mapS P T = some (kt, et)) (hk : P.underlying kt = some .string) (hz : zS P et = some z)
    (hr : h[r]? = some (.map (entsOf kStr es) clock)) :
    lookupS P T (.map (some r)) (.string x) ok h K = K (if ok then .tuple #[(getE x es).getD z, .bool (getE x es).isSome] else (getE x es).getD z) h := lookup_map (k := kStr) hm hk hz hr
theorem update_str {T kt et : TypeId} {r : Nat} {es : Ents ByteArray} {clock : Nat} {x : ByteArray} {v : Value} (hm : mapS P T = some (kt, et)) (hk : P.underlying kt = some .string)
    (hr : h[r]? = some (.map (entsOf kStr es) clock)) :
    mapUpdateS P T (.map (some r)) (.string x) v h K = K undef (h.setIfInBounds r (.map (entsOf kStr (putE x v clock es)) (clockE x es clock))) := update_map (k := kStr) hm hk hr
end

section
variable {P : Program} {h : Heap} {K : Value → Heap → Prop}
/-- A constant string's bytes: '[]byte("..")'. -/
theorem const_bytes {S e : TypeId} {n : Nat} {cs : Array Value} (xs : List UInt8) (hS : elS P S = some e) (he : intK P e = some .u8) (hcs : cs.toList = xs.map fun x => Value.int .u8 x.toNat) (hn : n = xs.length) (hn' : n < 9223372036854775808)
    (hk : ∀ h' : Heap, Keep none_ h h' → h'.size = h.size + 1 → SlRep rByte (fun b => b = h.size) h' (.slice (some ⟨h.size, 0, none⟩) n n) xs → K (.slice (some ⟨h.size, 0, none⟩) n n) h') :
    convS P S S (.slice (some ⟨h.size, 0, none⟩) n n) (h.push (.cells cs e)) K := by
  rw [conv_same_bytes (m := cs.size) hS he (push_new _ _) rfl]
  obtain ⟨f, hf, hfc⟩ : ∃ f : Obj → Obj, freezeH (h.push (.cells cs e)) ⟨h.size, cs.size, none⟩ 1 = (h.push (.cells cs e)).modify h.size f ∧ ∀ c e z, ∃ z', f (.cells c e z) = .cells c e z' := by
    unfold freezeH
    rw [if_neg (by decide)]
    exact ⟨_, rfl, fun c e z => ⟨_, rfl⟩⟩
  rw [hf]
  obtain ⟨z', hz⟩ := hfc cs e (0, 0)
  have hb : ((h.push (.cells cs e)).modify h.size f)[h.size]? = some (.cells cs e z') := by
    rw [Array.getElem?_modify, if_pos rfl, push_new, ← hz]; rfl
  refine hk _ ⟨by simp, fun b hb _ => ?_⟩ (by simp) ?_
  · rw [Array.getElem?_modify, if_neg (by omega), push_old _ hb]
  · refine ⟨_, n, xs.map fun x => Value.int .u8 x.toNat, by rw [hn], by omega, hn', .inr ⟨h.size, 0, cs, e, _, rfl, rfl, hb, ?_⟩, bytes_map.2 rfl⟩
    rw [hcs, List.drop_zero, List.take_length]
end

section
variable {P : Program} {h : Heap} {K : Value → Heap → Prop}
end
end Go.HC

/-
  HC, part 18: a drawn region in which two operations that both change the memory stand in no order: two orders are written out.
-/
namespace Go.HC

/-- The same operations, the one with number j behind that with number i. -/
def addE (ops : Array Oper) (i j : Nat) : Array Oper := ops.modify j fun o => { o with after := o.after.push { on := i, ground := .data } }

section
variable {P : Program} {ops : Array Oper} {i j : Nat}
theorem addE_get (m : Nat) : (addE ops i j)[m]? = (ops[m]?).map fun o => if m = j then { o with after := o.after.push { on := i, ground := .data } } else o := by
  unfold addE
  rw [Array.getElem?_modify]
  by_cases h : j = m
  · subst h; simp
  · rw [if_neg h]
    cases ops[m]? with
    | none => rfl
    | some o => simp [Ne.symm h]
theorem addE_size : (addE ops i j).size = ops.size := by simp [addE]
theorem execOp_after (ρ : Operand → Value) (o : Oper) (x : Array Edge) : execOp ρ { o with after := x } = execOp ρ o := by
  obtain ⟨dst, op, type, pos, after, guard⟩ := o
  rfl
theorem addE_dst (m : Nat) : ((addE ops i j)[m]?).bind (·.dst) = (ops[m]?).bind (·.dst) := by
  rw [addE_get]
  cases ops[m]? with
  | none => rfl
  | some o => simp only [Option.map_some, Option.bind_some]; split <;> rfl
theorem addE_gval (l : L) (b : Base) (m : Nat) : gval (addE ops i j) l b m = gval ops l b m := by
  unfold gval; rw [addE_dst]
theorem addE_yielded (tmps : Array Value) : yielded (addE ops i j) tmps = yielded ops tmps := by
  funext m
  unfold yielded
  rw [addE_dst]
theorem addE_deps {s z : Nat} (h : z ∈ depsOf (addE ops i j) s) : z ∈ depsOf ops s ∨ s = j ∧ z = i := by
  unfold depsOf at h ⊢
  rw [addE_get] at h
  cases ho : ops[s]? with
  | none => rw [ho] at h; cases h
  | some o =>
    rw [ho] at h
    simp only [Option.map_some] at h
    by_cases hs : s = j
    · subst hs
      simp only [if_true, Array.toList_push, List.filter_append, List.map_append, List.mem_append] at h
      rcases h with h | h
      · exact .inl h
      · right
        refine ⟨rfl, ?_⟩
        simp [Region.binds] at h
        exact h
    · simp only [if_neg hs] at h
      exact .inl h
theorem addE_lin : ∀ {σ E : List Nat}, Lin ops E σ → (∀ A B, σ = A ++ j :: B → i ∈ A ∨ i ∈ E) → Lin (addE ops i j) E σ
  | [], _, _, _ => trivial
  | s :: σ, E, ⟨h1, h2⟩, hc => by
    refine ⟨fun z hz => ?_, addE_lin h2 fun A B hAB => ?_⟩
    · rcases addE_deps hz with h | ⟨rfl, rfl⟩
      · exact h1 z h
      · rcases hc [] σ rfl with h | h
        · cases h
        · exact h
    · rcases hc (s :: A) B (by rw [hAB]; rfl) with h | h
      · rcases List.mem_cons.1 h with h | h
        · exact .inr (h ▸ List.mem_cons_self ..)
        · exact .inl h
      · exact .inr (List.mem_cons_of_mem _ h)
theorem split_uniq {x : Nat} : ∀ {A A' B B' : List Nat}, (A ++ x :: B).Nodup → A ++ x :: B = A' ++ x :: B' → A = A'
  | [], [], _, _, _, _ => rfl
  | [], a :: A', B, B', hn, h => by
    simp only [List.nil_append, List.cons_append, List.cons.injEq] at h
    obtain ⟨rfl, rfl⟩ := h
    simp at hn
  | a :: A, [], B, B', hn, h => by
    simp only [List.nil_append, List.cons_append, List.cons.injEq] at h
    obtain ⟨rfl, rfl⟩ := h
    simp at hn
  | a :: A, a' :: A', B, B', hn, h => by
    simp only [List.cons_append, List.cons.injEq] at h
    obtain ⟨rfl, h⟩ := h
    rw [split_uniq (List.nodup_cons.1 hn).2 h]
theorem two_orders {σ : List Nat} (hn : σ.Nodup) (hi : i ∈ σ) (hj : j ∈ σ) (hij : i ≠ j) : (∀ A B, σ = A ++ j :: B → i ∈ A ∨ i ∈ ([] : List Nat)) ∨ (∀ A B, σ = A ++ i :: B → j ∈ A ∨ j ∈ ([] : List Nat)) := by
  obtain ⟨A0, B0, rfl⟩ := List.append_of_mem hj
  rcases List.mem_append.1 hi with h | h
  · exact .inl fun A B hAB => .inl (split_uniq hn hAB ▸ h)
  · rcases List.mem_cons.1 h with h | h
    · exact absurd h hij
    · right
      intro A B hAB
      obtain ⟨B1, B2, rfl⟩ := List.append_of_mem h
      have : A0 ++ j :: (B1 ++ i :: B2) = (A0 ++ j :: B1) ++ i :: B2 := by simp
      rw [this] at hAB hn
      rw [← split_uniq hn hAB]
      exact .inl (by simp)
theorem addE_arun : ∀ (σ : List Nat) {K : Act → Heap → Prop} {a : Act} {h : Heap}, arun P (addE ops i j) σ K a h → arun P ops σ K a h
  | [], _, _, _, h => h
  | s :: σ, K, a, h, hr => by
    simp only [arun] at hr ⊢
    rw [addE_get] at hr
    cases ho : ops[s]? with
    | none => simp [ho] at hr
    | some o =>
      simp only [ho, Option.map_some] at hr ⊢
      have hw : wanted (addE ops i j) (if s = j then { o with after := o.after.push { on := i, ground := .data } } else o) a = wanted ops o a := by
        unfold wanted
        rw [addE_yielded]
        split <;> rfl
      have he : execOp a.eval (if s = j then { o with after := o.after.push { on := i, ground := .data } } else o) = execOp a.eval o := by
        split
        · exact execOp_after _ _ _
        · rfl
      have hd : (if s = j then { o with after := o.after.push { on := i, ground := .data } } else o).dst = o.dst := by split <;> rfl
      rw [hw, he, hd] at hr
      split
      · rename_i hww
        rw [if_pos hww] at hr
        exact hp_mono _ hr fun x h' hx => nextK_mono (fun v h'' hh => addE_arun σ hh) x h' hx
      · rename_i hww
        rw [if_neg hww] at hr
        exact addE_arun σ hr
theorem addE_dsem : ∀ (ds : List Di) {pl : List (Nat × (Heap → Prop))} {K : L → Base → Heap → Prop} {l : L} {b : Base} {h : Heap}, dsem P ops ds pl K l b h → dsem P (addE ops i j) ds pl K l b h
  | [], _, _, _, _, _, h => h
  | d :: ds, pl, K, l, b, h, hd => by
    simp only [dsem] at hd ⊢
    rw [addE_get]
    cases ho : ops[d.i]? with
    | none => simp [ho] at hd
    | some o =>
      simp only [ho, Option.map_some] at hd ⊢
      have hw : guardB (if d.i = j then { o with after := o.after.push { on := i, ground := .data } } else o) (addE ops i j) l b = guardB o ops l b := by
        have key : ∀ o' : Oper, guardB o' (addE ops i j) l b = guardB o' ops l b := by
          intro o'
          unfold guardB
          cases o'.guard with
          | none => rfl
          | some p => simp only [addE_gval]
        rw [key]
        split <;> rfl
      have he : ∀ h K, osem P (if d.i = j then { o with after := o.after.push { on := i, ground := .data } } else o) l b h K = osem P o l b h K := by
        intro h K
        split
        · unfold osem; rw [execOp_after]
        · rfl
      have hdst : (if d.i = j then { o with after := o.after.push { on := i, ground := .data } } else o).dst = o.dst := by split <;> rfl
      simp only [hw, he, hdst]
      split
      · rename_i hg
        rw [if_pos hg] at hd
        split
        · rename_i hm
          rw [if_pos hm] at hd
          obtain ⟨v, h1, h2⟩ := hd
          exact ⟨v, h1, addE_dsem ds h2⟩
        · rename_i hm
          rw [if_neg hm] at hd
          exact hp_mono _ hd fun x h' hx => nextK_mono (fun v h'' hh => ⟨hh.1, addE_dsem ds hh.2⟩) x h' hx
      · rename_i hg
        rw [if_neg hg] at hd
        exact addE_dsem ds hd

theorem addE_opsOk {n : Nat} (hok : opsOk n ops = true) : opsOk n (addE ops i j) = true := by
  unfold opsOk at *
  rw [List.all_eq_true] at *
  intro o ho
  obtain ⟨m, hm⟩ := List.mem_iff_getElem?.1 ho
  rw [Array.getElem?_toList, addE_get] at hm
  cases ho' : ops[m]? with
  | none => rw [ho'] at hm; cases hm
  | some o' =>
    rw [ho'] at hm
    simp only [Option.map_some, Option.some.injEq] at hm
    have h1 := hok o' (by simpa using Array.mem_of_getElem? ho')
    have hdst : o.dst = o'.dst := by rw [← hm]; split <;> rfl
    rw [hdst]
    exact h1

end
end Go.HC

/-
  HC: the whole of it.
-/
