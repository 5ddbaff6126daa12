/-
  HC, part 12: maps with strings or ints as keys.
-/
import Derived.Test.YtjkefplcbmdndaaHC11
namespace Go.HC

/-- The keys that are served: what a key is held against, as a value, as the type tells it. -/
structure KeyK (κ : Type) [DecidableEq κ] where
  val : κ → Value
  kind : TypeDesc
  same : ∀ a b, Instr.sameNow kind (val a) (val b) = some (decide (a = b))
  bits : ∀ a, Instr.sameBits 10000 (val a) (val a) = true
  check : ∀ (P : Program) (e : Bool) (t : TypeId) (a : κ) (K : Unit → Heap → Prop) (h : Heap), P.underlying t = some kind → hp P (Instr.checkKey e 10000 t (val a)) K h = K () h

def kStr : KeyK ByteArray where
  val := .string
  kind := .string
  same a b := by simp only [Instr.sameNow, ba_beq]
  bits a := by simp only [Instr.sameBits]; rw [ba_beq]; simp
  check P e t a K h hu := by unfold Instr.checkKey; simp only [hp_bind, hp_underlying, hu]; rfl
def kInt : KeyK Int where
  val := .int .i64
  kind := .int .i64
  same a b := by
    simp only [Instr.sameNow, if_true]
    congr 1
  bits a := by simp [Instr.sameBits]
  check P e t a K h hu := by unfold Instr.checkKey; simp only [hp_bind, hp_underlying, hu]; rfl

section
variable {κ : Type} [DecidableEq κ] {k : KeyK κ}

/-- The entries of a map: keys, values, births. -/
abbrev Ents (κ : Type) := List (κ × Value × Nat)
def entOf (k : KeyK κ) (t : κ × Value × Nat) : MapEntry := ⟨k.val t.1, t.2.1, t.2.2⟩
def entsOf (k : KeyK κ) (l : Ents κ) : Array MapEntry := (l.map (entOf k)).toArray
def findI (x : κ) : Ents κ → Nat → Option (Nat × Value)
  | [], _ => none
  | t :: l, i => if x = t.1 then some (i, t.2.1) else findI x l (i + 1)
theorem findNow_eq (x : κ) : ∀ (l : Ents κ) (i : Nat), Instr.findNow k.kind (k.val x) (l.map (entOf k)) i = some (findI x l i)
  | [], i => rfl
  | t :: l, i => by
    simp only [List.map_cons, Instr.findNow, findI, entOf, k.same]
    by_cases h : x = t.1
    · simp [h]
    · simp only [h, decide_false, if_false]; exact findNow_eq x l (i + 1)
theorem hp_findKey {P : Program} {kt : TypeId} (hu : P.underlying kt = some k.kind) (x : κ) (l : Ents κ) (K : Option (Nat × Value) → Heap → Prop) (h : Heap) :
    hp P (Instr.findKey kt (k.val x) (entsOf k l).toList) K h = K (findI x l 0) h := by
  unfold Instr.findKey
  simp only [hp_bind, hp_underlying, hu, entsOf]
  rw [findNow_eq]
  rfl
/-- What a key has. -/
def getE (x : κ) (l : Ents κ) : Option Value := (findI x l 0).map (·.2)
theorem findI_shift (x : κ) : ∀ (l : Ents κ) (i : Nat), findI x l i = (findI x l 0).map fun p => (p.1 + i, p.2)
  | [], _ => rfl
  | t :: l, i => by
    simp only [findI]
    split
    · simp
    · rw [findI_shift x l (i + 1), findI_shift x l (0 + 1)]
      cases findI x l 0 <;> simp; omega
@[simp] theorem getE_nil (x : κ) : getE x ([] : Ents κ) = none := _root_.id rfl
theorem getE_cons (x : κ) (t : κ × Value × Nat) (l : Ents κ) : getE x (t :: l) = if x = t.1 then some t.2.1 else getE x l := by
  unfold getE
  simp only [findI]
  split
  · rfl
  · rw [findI_shift]; cases findI x l 0 <;> simp
/-- A key is given a value. -/
def putE (x : κ) (v : Value) (c : Nat) : Ents κ → Ents κ
  | [] => [(x, v, c)]
  | t :: l => if x = t.1 then (t.1, v, t.2.2) :: l else t :: putE x v c l
def delE (x : κ) : Ents κ → Ents κ
  | [] => []
  | t :: l => if x = t.1 then l else t :: delE x l
theorem putE_new {x : κ} {v : Value} {c : Nat} : ∀ {l : Ents κ}, getE x l = none → putE x v c l = l ++ [(x, v, c)]
  | [], _ => rfl
  | t :: l, h => by
    rw [getE_cons] at h
    split at h
    · cases h
    · rename_i hx
      rw [putE, if_neg hx, putE_new h]; rfl
theorem findI_some {x : κ} : ∀ {l : Ents κ} {i j : Nat} {v : Value}, findI x l i = some (j, v) → ∃ n, j = i + n ∧ ∃ b, l[n]? = some (x, v, b)
  | [], _, _, _, h => by cases h
  | t :: l, i, j, v, h => by
    simp only [findI] at h
    split at h
    · rename_i hx
      simp only [Option.some.injEq, Prod.mk.injEq] at h
      exact ⟨0, by omega, t.2.2, by rw [hx, ← h.2]; rfl⟩
    · obtain ⟨n, h1, b, h2⟩ := findI_some h
      exact ⟨n + 1, by omega, b, h2⟩
theorem set_putE {x : κ} {v : Value} {c : Nat} : ∀ {l : Ents κ} {n i : Nat} {u : Value}, findI x l i = some (i + n, u) → putE x v c l = l.modify n (fun t => (t.1, v, t.2.2))
  | [], _, _, _, h => by cases h
  | t :: l, n, i, u, h => by
    simp only [findI] at h
    split at h
    · rename_i hx
      simp only [Option.some.injEq, Prod.mk.injEq] at h
      have : n = 0 := by omega
      subst this
      rw [putE, if_pos hx]; rfl
    · rename_i hx
      cases n with
      | zero =>
        obtain ⟨m, h1, _⟩ := findI_some h
        omega
      | succ n =>
        rw [putE, if_neg hx, set_putE (n := n) (i := i + 1) (u := u) (by rw [h]; congr 2; omega)]
        rfl
theorem erase_delE {x : κ} : ∀ {l : Ents κ} {n i : Nat} {u : Value}, findI x l i = some (i + n, u) → delE x l = l.eraseIdx n
  | [], _, _, _, h => by cases h
  | t :: l, n, i, u, h => by
    simp only [findI] at h
    split at h
    · rename_i hx
      simp only [Option.some.injEq, Prod.mk.injEq] at h
      have : n = 0 := by omega
      subst this
      rw [delE, if_pos hx]; rfl
    · rename_i hx
      cases n with
      | zero =>
        obtain ⟨m, h1, _⟩ := findI_some h
        omega
      | succ n =>
        rw [delE, if_neg hx, erase_delE (n := n) (i := i + 1) (u := u) (by rw [h]; congr 2; omega)]
        rfl
theorem eraseIdx_map' {α β : Type} (f : α → β) : ∀ (l : List α) (i : Nat), (l.map f).eraseIdx i = (l.eraseIdx i).map f
  | [], _ => rfl
  | _ :: _, 0 => rfl
  | a :: l, i + 1 => by simp [eraseIdx_map' f l i]
theorem delE_none {x : κ} : ∀ {l : Ents κ}, getE x l = none → delE x l = l
  | [], _ => rfl
  | t :: l, h => by
    rw [getE_cons] at h
    split at h
    · cases h
    · rename_i hx; rw [delE, if_neg hx, delE_none h]

theorem modify_ents (l : Ents κ) (n : Nat) (v : Value) : ∀ (key : Value), (∀ t, l[n]? = some t → key = k.val t.1) →
    (entsOf k l).modify n (fun e => { e with key, val := v }) = entsOf k (l.modify n fun t => (t.1, v, t.2.2)) := by
  intro key hkey
  apply Array.ext_getElem?
  intro i
  rw [Array.getElem?_modify]
  unfold entsOf
  simp only [List.getElem?_toArray, List.getElem?_map, List.getElem?_modify]
  by_cases hi : n = i
  · subst hi
    simp only [if_true]
    cases hl : l[n]? with
    | none => rfl
    | some t => simp [entOf, hkey t hl]
  · simp [hi]

section
variable {P : Program} {h : Heap} {K : Value → Heap → Prop} {l : L} {b : Base} {dst : Option Tmp} {ty : TypeId} {pos : String} {aft : Array Edge} {g : Option (Nat × Bool)}
/-- A map type's key and element. -/
def mapS (P : Program) (T : TypeId) : Option (TypeId × TypeId) := match P.underlying T with | some (.map k e) => some (k, e) | _ => none
theorem mapS_spec {T kt et : TypeId} (hm : mapS P T = some (kt, et)) : P.underlying T = some (.map kt et) := by
  unfold mapS at hm
  cases hu : P.underlying T with
  | none => simp [hu] at hm
  | some d => cases d <;> simp [hu] at hm; obtain ⟨rfl, rfl⟩ := hm; rfl

def lookupS (P : Program) (T : TypeId) (m x : Value) (ok : Bool) (h : Heap) (K : Value → Heap → Prop) (_t : Tag K := ⟨⟩) : Prop := hp P (Instr.lookup T m x ok) K h
@[congr] theorem lookupS_congr {T : TypeId} {m m' x x' : Value} {ok : Bool} (hm : m = m') (hx : x = x') : lookupS P T m x ok h K = lookupS P T m' x' ok h K := by rw [hm, hx]
@[simp] theorem os_lookup (T : TypeId) (x y : Operand) (ok : Bool) : os P ⟨dst, .lookup T x y ok, ty, pos, aft, g⟩ l b h K = lookupS P T (ev l b x) (ev l b y) ok h K := by
  unfold os osem execOp lookupS; simp only [hp_bind, hp_pure]; rfl
theorem lookup_map {T kt et : TypeId} {r : Nat} {es : Ents κ} {clock : Nat} {x : κ} {ok : Bool} {z : Value} (hm : mapS P T = some (kt, et)) (hk : P.underlying kt = some k.kind) (hz : zS P et = some z)
    (hr : h[r]? = some (.map (entsOf k es) clock)) :
    lookupS P T (.map (some r)) (k.val x) ok h K = K (if ok then .tuple #[(getE x es).getD z, .bool (getE x es).isSome] else (getE x es).getD z) h := by
  unfold lookupS Instr.lookup
  simp only [hp_bind, hp_underlying, mapS_spec hm, hp_getObj, hr, isCells, true_and, hp_pure, k.check _ _ _ _ _ _ hk, hp_findKey hk]
  unfold getE
  cases findI x es 0 with
  | none => simp only [hp_bind, hp_zeroValue, hz, hp_pure, Option.map_none, Option.getD_none, Option.isSome_none]
  | some p => obtain ⟨i, v⟩ := p; simp

def mapUpdateS (P : Program) (T : TypeId) (m x v : Value) (h : Heap) (K : Value → Heap → Prop) (_t : Tag K := ⟨⟩) : Prop := hp P (Instr.mapUpdate T m x v) (fun _ h' => K undef h') h
@[congr] theorem mapUpdateS_congr {T : TypeId} {m m' x x' v v' : Value} (hm : m = m') (hx : x = x') (hv : v = v') : mapUpdateS P T m x v h K = mapUpdateS P T m' x' v' h K := by rw [hm, hx, hv]
@[simp] theorem os_mapUpdate (T : TypeId) (m x v : Operand) : os P ⟨dst, .mapUpdate T m x v, ty, pos, aft, g⟩ l b h K = mapUpdateS P T (ev l b m) (ev l b x) (ev l b v) h K := by
  unfold os osem execOp mapUpdateS; simp only [hp_bind, hp_pure]; rfl
/-- How the clock goes on. -/
def clockE (x : κ) (es : Ents κ) (c : Nat) : Nat := if (getE x es).isSome then c else c + 1
theorem update_map {T kt et : TypeId} {r : Nat} {es : Ents κ} {clock : Nat} {x : κ} {v : Value} (hm : mapS P T = some (kt, et)) (hk : P.underlying kt = some k.kind)
    (hr : h[r]? = some (.map (entsOf k es) clock)) :
    mapUpdateS P T (.map (some r)) (k.val x) v h K = K undef (h.setIfInBounds r (.map (entsOf k (putE x v clock es)) (clockE x es clock))) := by
  unfold mapUpdateS Instr.mapUpdate
  simp only [hp_bind, hp_underlying, mapS_spec hm, hp_getObj, hr, isCells, true_and, k.check _ _ _ _ _ _ hk, hp_findKey hk]
  cases hf : findI x es 0 with
  | none =>
    have hg : getE x es = none := by unfold getE; rw [hf]; rfl
    simp only [hp_setObj, hr, isCells, true_and]
    rw [putE_new hg]
    unfold clockE
    rw [hg]
    simp [entsOf, entOf]
  | some p =>
    obtain ⟨i, u⟩ := p
    obtain ⟨n, hn, bb, hl⟩ := findI_some hf
    rw [Nat.zero_add] at hn
    subst hn
    have hkey : ((((entsOf k es)[i]?).map (·.key)).getD (k.val x)) = k.val x := by
      unfold entsOf; simp [hl, entOf]
    have hg : getE x es = some u := by unfold getE; rw [hf]; rfl
    simp only [hkey, Instr.keyThatStays, k.bits, if_true, hp_bind, hp_pure, hp_setObj, hr, isCells, true_and]
    rw [modify_ents es i v (k.val x) (fun t ht => by rw [hl] at ht; cases ht; rfl), set_putE (n := i) (i := 0) (u := u) (by rw [hf, Nat.zero_add])]
    unfold clockE
    rw [hg]
    rfl

theorem delete_map {T kt et : TypeId} {r : Nat} {es : Ents κ} {clock : Nat} {x : κ} {ats : Array TypeId} {cs : Array Bool} (hat : ats[0]? = some T) (hm : mapS P T = some (kt, et)) (hk : P.underlying kt = some k.kind)
    (hr : h[r]? = some (.map (entsOf k es) clock)) :
    builtinS P .delete ats ty cs #[.map (some r), k.val x] h K = K (.tuple #[]) (h.setIfInBounds r (.map (entsOf k (delE x es)) clock)) := by
  unfold builtinS builtin Builtin.delete_
  simp only [hat, hp_bind, List.getElem?_toArray, List.getElem?_cons_zero, List.getElem?_cons_succ, hp_underlying, mapS_spec hm, hp_getObj, hr, isCells, true_and, k.check _ _ _ _ _ _ hk, hp_findKey hk]
  cases hf : findI x es 0 with
  | none =>
    have hg : getE x es = none := by unfold getE; rw [hf]; rfl
    show hp P (do setObj r _; pure _) _ h = _
    simp only [hp_bind, hp_setObj, hr, isCells, true_and, hp_pure, nextK, delE_none hg]
  | some p =>
    obtain ⟨i, u⟩ := p
    obtain ⟨n, hn, bb, hl⟩ := findI_some hf
    rw [Nat.zero_add] at hn
    subst hn
    have hlt : i < es.length := (List.getElem?_eq_some_iff.1 hl).1
    have he : (entsOf k es).eraseIdxIfInBounds i = entsOf k (delE x es) := by
      rw [erase_delE (n := i) (i := 0) (u := u) (by rw [hf, Nat.zero_add])]
      unfold entsOf
      apply Array.ext'
      simp [Array.eraseIdxIfInBounds, hlt, eraseIdx_map']
    show hp P (do setObj r _; pure _) _ h = _
    simp only [hp_bind, hp_setObj, hr, isCells, true_and, hp_pure, nextK, he]
end
end
end Go.HC
