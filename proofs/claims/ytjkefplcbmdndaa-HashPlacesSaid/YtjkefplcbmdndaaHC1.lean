/-
  HC, part 1: what an operation does, said of the heap alone, for every tape (demonic): 'hp'.
-/
import Derived.AtR
import Derived.RangeFuncIn
namespace Go.HC

abbrev Heap := Array Obj

def cellH (h : Heap) (a : Addr) : Option Value :=
  match h[a.block]? with
  | some (.cells c _ _) => if a.spot.isSome then none else c[a.off]?
  | _ => none
def frozenH (h : Heap) (a : Addr) : Bool :=
  match h[a.block]? with
  | some (.cells _ _ (lo, hi)) => lo ≤ a.off && a.off < hi
  | _ => false
def shapeH (h : Heap) (r : Nat) : Option (TypeId × Nat) :=
  match h[r]? with
  | some (.cells c e _) => some (e, c.size)
  | _ => none
def freezeH (h : Heap) (a : Addr) (n : Nat) : Heap :=
  if n = 0 then h else
  h.modify a.block fun
      | .cells c elem (lo, hi) => .cells c elem (if lo == hi then (a.off, a.off + n) else (min lo a.off, max hi (a.off + n)))
      | o => o
def setCellH (h : Heap) (a : Addr) (v : Value) : Heap :=
  h.modify a.block fun
      | .cells c elem frozen => .cells (if a.spot.isSome then c else c.setIfInBounds a.off v) elem frozen
      | o => o

theorem cellH_eq (w : World) (a : Addr) : w.cell? a = cellH w.heap a := rfl
theorem frozenH_eq (w : World) (a : Addr) : w.frozen? a = frozenH w.heap a := rfl
theorem shapeH_eq (w : World) (r : Nat) : w.shape? r = shapeH w.heap r := rfl
theorem freezeH_eq (w : World) (a : Addr) (n : Nat) : (w.freeze a n).heap = freezeH w.heap a n := by
  unfold World.freeze freezeH; split <;> rfl
theorem setCellH_eq (w : World) (a : Addr) (v : Value) : (w.setCell a v).heap = setCellH w.heap a v := rfl

/-- What the outside sees is as it was; the tape is the same tape. -/
structure Same (w w' : World) : Prop where
  os : w'.os = w.os
  tape : w'.tape = w.tape
  output : w'.output = w.output
theorem Same.refl (w : World) : Same w w := ⟨rfl, rfl, rfl⟩
theorem Same.trans {w w' w'' : World} (h : Same w w') (h' : Same w' w'') : Same w w'' :=
  ⟨h'.os.trans h.os, h'.tape.trans h.tape, h'.output.trans h.output⟩

def isCells : Obj → Bool
  | .cells .. => true
  | _ => false

/-- Whatever the tape says, the program of operations ends, well, and K holds of what it ends with. -/
def hp (P : Program) {α : Type} : Sem α → (α → Heap → Prop) → Heap → Prop
  | .pure a, K, h => K a h
  | .load _ a k, K, h =>
    match cellH h a with
    | some v => hp P (k v) K h
    | none => False
  | .store _ a v k, K, h =>
    v.oneCell' = true ∧ (cellH h a).isSome = true ∧ frozenH h a = false ∧ hp P k K (setCellH h a v)
  | .new o k, K, h => hp P (k h.size) K (h.push o)
  | .shape r k, K, h => hp P (k (shapeH h r)) K h
  | .freeze a n k, K, h => hp P k K (freezeH h a n)
  | .frozen a k, K, h => hp P (k (frozenH h a)) K h
  | .getObj r k, K, h =>
    match h[r]? with
    | some o => isCells o = false ∧ hp P (k o) K h
    | none => False
  | .setObj r o k, K, h =>
    match h[r]? with
    | some o' => isCells o' = false ∧ hp P k K (h.setIfInBounds r o)
    | none => False
  | .choose q k, K, h => if q.forced then hp P (k 0) K h else ∀ t : Nat, hp P (k (q.cut t)) K h
  | .sys _ _, _, _ => False
  | .program k, K, h => hp P (k P) K h
  | .mark _ k, K, h => hp P k K h
  | .halt _, _, _ => False

theorem hp_sound (P : Program) {α : Type} (s : Sem α) : ∀ (K : α → Heap → Prop) (w : World), hp P s K w.heap →
    ∃ a w', s.run P w = .ok a w' ∧ Same w w' ∧ K a w'.heap := by
  induction s with
  | pure a => exact fun K w h => ⟨a, w, rfl, .refl w, h⟩
  | load m a k ih =>
    intro K w h
    simp only [hp] at h
    simp only [Sem.run, cellH_eq]
    cases hc : cellH w.heap a with
    | none => simp [hc] at h
    | some v => simp only [hc] at h; exact ih v K w h
  | store m a v k ih =>
    intro K w h
    simp only [hp] at h
    obtain ⟨h1, h2, h3, h4⟩ := h
    obtain ⟨u, hu⟩ := Option.isSome_iff_exists.1 h2
    rw [← setCellH_eq] at h4
    obtain ⟨x, w', hr, hs, hk⟩ := ih K _ h4
    refine ⟨x, w', ?_, ⟨hs.os, hs.tape, hs.output⟩, hk⟩
    cases v <;> simp [Value.oneCell'] at h1 <;> simp only [Sem.run, cellH_eq, hu, frozenH_eq, h3] <;> simpa using hr
  | new o k ih =>
    intro K w h
    obtain ⟨x, w', hx, hs, hk⟩ := ih _ K { w with heap := w.heap.push o } h
    exact ⟨x, w', hx, ⟨hs.os, hs.tape, hs.output⟩, hk⟩
  | shape r k ih => exact fun K w h => ih _ K w h
  | freeze a n k ih =>
    intro K w h
    simp only [hp] at h
    rw [← freezeH_eq] at h
    obtain ⟨x, w', hr, hs, hk⟩ := ih K _ h
    refine ⟨x, w', hr, ?_, hk⟩
    have : Same w (w.freeze a n) := by unfold World.freeze; split <;> exact ⟨rfl, rfl, rfl⟩
    exact this.trans hs
  | frozen a k ih => exact fun K w h => ih _ K w h
  | getObj r k ih =>
    intro K w h
    simp only [hp] at h
    simp only [Sem.run]
    cases hr : w.heap[r]? with
    | none => simp [hr] at h
    | some o =>
      simp only [hr] at h
      cases o <;> simp [isCells] at h <;> exact ih _ K w h
  | setObj r o k ih =>
    intro K w h
    simp only [hp] at h
    simp only [Sem.run]
    cases hr : w.heap[r]? with
    | none => simp [hr] at h
    | some o' =>
      simp only [hr] at h
      obtain ⟨x, w', hx, hs, hk⟩ := ih K { w with heap := w.heap.setIfInBounds r o } h.2
      refine ⟨x, w', ?_, ⟨hs.os, hs.tape, hs.output⟩, hk⟩
      cases o' <;> simp [isCells] at h <;> exact hx
  | choose q k ih =>
    intro K w h
    simp only [hp] at h
    simp only [Sem.run]
    split
    · rename_i hf; simp only [hf, if_true] at h; exact ih _ K w h
    · rename_i hf
      simp only [hf] at h
      obtain ⟨x, w', hx, hs, hk⟩ := ih _ K { w with drawn := w.drawn + 1 } (h (w.tape w.drawn q))
      exact ⟨x, w', hx, ⟨hs.os, hs.tape, hs.output⟩, hk⟩
  | sys c k ih => exact fun K w h => h.elim
  | program k ih => exact fun K w h => ih _ K w h
  | mark m k ih => exact fun K w h => ih K w h
  | halt x => exact fun K w h => h.elim

theorem hp_mono {P : Program} {α : Type} (s : Sem α) : ∀ {K K' : α → Heap → Prop} {h : Heap}, hp P s K h → (∀ a h, K a h → K' a h) → hp P s K' h := by
  induction s with
  | pure a => exact fun h hk => hk _ _ h
  | load m a k ih =>
    intro K K' h hh hk
    simp only [hp] at hh ⊢
    cases hc : cellH h a with
    | none => simp [hc] at hh
    | some v => simp only [hc] at hh ⊢; exact ih v hh hk
  | store m a v k ih => exact fun h hk => ⟨h.1, h.2.1, h.2.2.1, ih h.2.2.2 hk⟩
  | new o k ih => exact fun h hk => ih _ h hk
  | shape r k ih => exact fun h hk => ih _ h hk
  | freeze a n k ih => exact fun h hk => ih h hk
  | frozen a k ih => exact fun h hk => ih _ h hk
  | getObj r k ih =>
    intro K K' h hh hk
    simp only [hp] at hh ⊢
    cases hr : h[r]? with
    | none => simp [hr] at hh
    | some o => simp only [hr] at hh ⊢; exact ⟨hh.1, ih _ hh.2 hk⟩
  | setObj r o k ih =>
    intro K K' h hh hk
    simp only [hp] at hh ⊢
    cases hr : h[r]? with
    | none => simp [hr] at hh
    | some o' => simp only [hr] at hh ⊢; exact ⟨hh.1, ih hh.2 hk⟩
  | choose q k ih =>
    intro K K' h hh hk
    simp only [hp] at hh ⊢
    split
    · rename_i hf; simp only [hf, if_true] at hh; exact ih _ hh hk
    · rename_i hf; simp only [hf] at hh; exact fun t => ih _ (hh t) hk
  | sys c k ih => exact fun h _ => h.elim
  | program k ih => exact fun h hk => ih _ h hk
  | mark m k ih => exact fun h hk => ih h hk
  | halt x => exact fun h _ => h.elim

theorem hp_bind' (P : Program) {α β : Type} (x : Sem α) (f : α → Sem β) : ∀ (K : β → Heap → Prop) (h : Heap),
    hp P (x.bind f) K h = hp P x (fun a h => hp P (f a) K h) h := by
  induction x with
  | pure a => intro K h; rfl
  | load m a k ih => intro K h; simp only [Sem.bind, hp]; split <;> simp [ih]
  | store m a v k ih => intro K h; simp only [Sem.bind, hp, ih]
  | new o k ih => intro K h; simp only [Sem.bind, hp, ih]
  | shape r k ih => intro K h; simp only [Sem.bind, hp, ih]
  | freeze a n k ih => intro K h; simp only [Sem.bind, hp, ih]
  | frozen a k ih => intro K h; simp only [Sem.bind, hp, ih]
  | getObj r k ih => intro K h; simp only [Sem.bind, hp]; split <;> simp [ih]
  | setObj r o k ih => intro K h; simp only [Sem.bind, hp]; split <;> simp [ih]
  | choose q k ih => intro K h; simp only [Sem.bind, hp]; split <;> simp [ih]
  | sys c k ih => intro K h; rfl
  | program k ih => intro K h; simp only [Sem.bind, hp, ih]
  | mark m k ih => intro K h; simp only [Sem.bind, hp, ih]
  | halt x => intro K h; rfl

section
variable (P : Program) {α β : Type} (h : Heap)
@[simp] theorem hp_bind (x : Sem α) (f : α → Sem β) (K : β → Heap → Prop) : hp P (x >>= f) K h = hp P x (fun a h => hp P (f a) K h) h := hp_bind' P x f K h
@[simp] theorem hp_map (x : Sem α) (f : α → β) (K : β → Heap → Prop) : hp P (f <$> x) K h = hp P x (fun a h => K (f a) h) h := hp_bind' P x _ K h
@[simp] theorem hp_pure (a : α) (K : α → Heap → Prop) : hp P (Pure.pure a : Sem α) K h = K a h := rfl
@[simp] theorem hp_pure' (a : α) (K : α → Heap → Prop) : hp P (Sem.pure a : Sem α) K h = K a h := rfl
@[simp] theorem hp_halt (x : Halt) (K : α → Heap → Prop) : hp P (Sem.halt x : Sem α) K h = False := rfl
@[simp] theorem hp_ite (c : Prop) [Decidable c] (x y : Sem α) (K : α → Heap → Prop) : hp P (if c then x else y) K h = if c then hp P x K h else hp P y K h := by split <;> rfl
@[simp] theorem hp_load (a : Addr) (m : Mode) (K : Value → Heap → Prop) : hp P (load a m) K h = (match cellH h a with | some v => K v h | none => False) := by
  unfold load; simp only [hp]
@[simp] theorem hp_store (a : Addr) (v : Value) (m : Mode) (K : Unit → Heap → Prop) : hp P (store a v m) K h =
    (v.oneCell' = true ∧ (cellH h a).isSome = true ∧ frozenH h a = false ∧ K () (setCellH h a v)) := rfl
@[simp] theorem hp_newObj (o : Obj) (K : Nat → Heap → Prop) : hp P (newObj o) K h = K h.size (h.push o) := rfl
@[simp] theorem hp_shape (r : Nat) (K : Option (TypeId × Nat) → Heap → Prop) : hp P (shape r) K h = K (shapeH h r) h := rfl
@[simp] theorem hp_freeze (a : Addr) (n : Nat) (K : Unit → Heap → Prop) : hp P (freeze a n) K h = K () (freezeH h a n) := rfl
@[simp] theorem hp_frozen (a : Addr) (K : Bool → Heap → Prop) : hp P (frozen a) K h = K (frozenH h a) h := rfl
@[simp] theorem hp_getObj (r : Nat) (K : Obj → Heap → Prop) : hp P (getObj r) K h = (match h[r]? with | some o => isCells o = false ∧ K o h | none => False) := by
  unfold getObj; simp only [hp]
@[simp] theorem hp_setObj (r : Nat) (o : Obj) (K : Unit → Heap → Prop) : hp P (setObj r o) K h = (match h[r]? with | some o' => isCells o' = false ∧ K () (h.setIfInBounds r o) | none => False) := rfl
@[simp] theorem hp_program (K : Program → Heap → Prop) : hp P program K h = K P h := rfl
@[simp] theorem hp_mark (m : Mark) (K : Unit → Heap → Prop) : hp P (mark m) K h = K () h := rfl
@[simp] theorem hp_askRoom (n : Nat) (K : Unit → Heap → Prop) : hp P (askRoom n) K h = K () h := by unfold askRoom; split <;> rfl
@[simp] theorem hp_stuck (s : String) (K : α → Heap → Prop) : hp P (stuck s : Sem α) K h = False := rfl
@[simp] theorem hp_unsupported (u : Unsupported) (K : α → Heap → Prop) : hp P (unsupported u : Sem α) K h = False := rfl
@[simp] theorem hp_goPanic (v : Value) (K : α → Heap → Prop) : hp P (goPanic v : Sem α) K h = False := rfl
@[simp] theorem hp_choose (q : Question) (K : Nat → Heap → Prop) : hp P (choose q) K h = if q.forced then K 0 h else ∀ t : Nat, K (q.cut t) h := rfl
@[simp] theorem hp_underlying (t : TypeId) (K : TypeDesc → Heap → Prop) : hp P (underlying t) K h = (match P.underlying t with | some d => K d h | none => False) := by
  unfold underlying; simp only [hp_bind, hp_program]; cases P.underlying t <;> rfl
@[simp] theorem hp_typeInfo (t : TypeId) (K : TypeInfo → Heap → Prop) : hp P (typeInfo t) K h = (match P.info? t with | some d => K d h | none => False) := by
  unfold typeInfo; simp only [hp_bind, hp_program]; cases P.info? t <;> rfl
end
end Go.HC
