/-
  HC, part 14: drawn regions, for simp: an operation that only looks is worked out ('vop') in its place, and once more behind what may come ahead of it.
-/
import Derived.Test.YtjkefplcbmdndaaHC13
namespace Go.HC

section
variable {P : Program} {h : Heap} {K : Value → Heap → Prop}
def strOf (xs : List UInt8) : ByteArray := ⟨xs.toArray⟩
theorem push_bytes (xs : List UInt8) : ∀ (s : ByteArray), (xs.foldl (fun s x => s.push x) s) = ⟨s.data ++ xs.toArray⟩ := by
  induction xs with
  | nil => intro s; simp
  | cons x xs ih =>
    intro s
    rw [List.foldl_cons, ih]
    congr 1
    simp [ByteArray.push]
def byteOf : Value → Option UInt8
  | .int .u8 n => some (UInt8.ofNat n.toNat)
  | _ => none
/-- The string that so many bytes from here make. -/
def bytesV (h : Heap) (a : Option Addr) (n : Nat) : Option ByteArray :=
  match a with
  | none => some .empty
  | some a => (cellsFrom h a 0 n).bind fun cs => (cs.mapM byteOf).map strOf
theorem SlRep.bytesV {F : Nat → Prop} {a : Option Addr} {n c : Nat} {xs : List UInt8} (hv : SlRep rByte F h (.slice a n c) xs) : bytesV h a n = some (strOf xs) := by
  obtain ⟨a', c', cs, hvv, h1, h2, h3, h4⟩ := hv
  cases hvv
  have hcs := bytes_map.1 h4
  have hlen : cs.length = xs.length := by rw [hcs]; simp
  unfold HC.bytesV
  cases a with
  | none =>
    rcases h3 with h0 | ⟨_, _, _, _, _, hx, _⟩
    · have : xs = [] := by
        have := congrArg List.length h0
        rw [hlen] at this
        exact List.eq_nil_of_length_eq_zero (by simpa using this)
      subst this
      rfl
    · cases hx
  | some a =>
    simp only
    rw [← hlen, h3.loads, Option.bind_some, hcs]
    have : ∀ ys : List UInt8, (ys.map fun x => Value.int .u8 x.toNat).mapM byteOf = some ys := by
      intro ys
      induction ys with
      | nil => rfl
      | cons y ys ih =>
        rw [List.map_cons, List.mapM_cons, ih]
        simp [byteOf]
    rw [this]
    rfl
theorem conv_bytes {S D e : TypeId} {a : Option Addr} {n c : Nat} {s : ByteArray} (hS : elS P S = some e) (he : intK P e = some .u8) (hD : strT P D = true) (hv : bytesV h a n = some s) :
    convS P S D (.slice a n c) h K = K (.string s) h := by
  have hue : P.underlying e = some (.int .u8) := by
    unfold intK at he
    cases hu : P.underlying e with
    | none => simp [hu] at he
    | some d => cases d <;> simp [hu] at he; rw [he]
  unfold convS convert
  simp only [hp_bind, hp_underlying, elS_spec hS, strT_spec hD, hue]
  unfold Conv.bytesToString
  unfold bytesV at hv
  cases a with
  | none =>
    simp only [Option.some.injEq] at hv
    subst hv
    rfl
  | some a =>
    simp only at hv
    simp only [hp_bind, loadCells, hp_loadCellsFrom]
    cases hc : cellsFrom h a 0 n with
    | none => simp [hc] at hv
    | some cs =>
      simp only [hc, Option.bind_some] at hv
      cases hx : cs.mapM byteOf with
      | none => simp [hx] at hv
      | some xs =>
        simp only [hx, Option.map_some, Option.some.injEq] at hv
        subst hv
        have key : ∀ (f : Value → ByteArray → Sem (ForInStep ByteArray)) (_ : ∀ (v : Value) (y : UInt8) s, byteOf v = some y → f v s = pure (.yield (s.push y))) (cs : List Value) (ys : List UInt8) (_ : cs.mapM byteOf = some ys) (s : ByteArray) (K' : ByteArray → Heap → Prop),
            hp P (forIn (m := Sem) cs s f) K' h = K' (ys.foldl (fun s x => s.push x) s) h := by
          intro f hf cs
          induction cs with
          | nil =>
            intro ys hys s K'
            simp only [List.mapM_nil, Option.pure_def, Option.some.injEq] at hys
            subst hys
            simp
          | cons v cs ih =>
            intro ys hys s K'
            rw [List.mapM_cons] at hys
            cases hv : byteOf v with
            | none => simp [hv] at hys
            | some y =>
              cases hr : cs.mapM byteOf with
              | none => simp [hv, hr] at hys
              | some ys' =>
                simp [hv, hr] at hys
                subst hys
                rw [List.forIn_cons, hp_bind, hf v y s hv]
                simp only [hp_pure, List.foldl_cons]
                exact ih ys' hr _ K'
        have h2 : ∀ cs : List Value, (#[] : Array Value) ++ cs.toArray = cs.toArray := fun cs => by simp
        simp only [optS_some, h2, List.forIn_toArray]
        rw [key _ (fun v y s hv => ?_) cs xs hx, push_bytes]
        · have e : (⟨ByteArray.empty.data ++ xs.toArray⟩ : ByteArray) = strOf xs := by
            unfold strOf
            congr 1
            exact Array.empty_append
          rw [e]; rfl
        · cases v <;> simp [byteOf] at hv
          rename_i kk nn
          cases kk <;> simp at hv
          subst hv
          rfl
def addrV : Value → Option Addr
  | .pointer a => a
  | _ => none
def nilV : Value → Option Value
  | .pointer (some a) => some (.pointer (some a))
  | .func (.func f) x y => some (.func (.func f) x y)
  | .func (.yield f) x y => some (.func (.yield f) x y)
  | _ => none
def fldA (o : Option Nat) (a : Addr) : Option Value :=
  match o with
  | some o => if a.spot = none then some (.pointer (some ⟨a.block, a.off + o, none⟩)) else none
  | none => none
def aggV : Value → Option (Array Value)
  | .agg cs => some cs
  | _ => none
def tupA : Value → Option (Array Value)
  | .tuple cs => some cs
  | _ => none
def binV (P : Program) (op : BinOp) (T : TypeId) : Value → Value → Option Value
  | .int k m, .int k' n => if isShift op || k' == k then intRes op k m n else none
  | .string s, .string t => strRes op s t
  | .bool s, .bool t => if boolT P T then (match op with | .eql => some (.bool (s == t)) | .neq => some (.bool (!(s == t))) | _ => none) else none
  | .slice a _ _, .slice none _ _ => if nilKind P T = 1 then (match op with | .eql => some (.bool a.isNone) | .neq => some (.bool (!a.isNone)) | _ => none) else none
  | .pointer a, .pointer none => if nilKind P T = 2 then (match op with | .eql => some (.bool a.isNone) | .neq => some (.bool (!a.isNone)) | _ => none) else none
  | _, _ => none
def idxV (sz : Option Nat) (ar : Option (Nat × Nat)) : Value → Value → Option Value
  | .pointer (some a), .int _ i => match ar with | some (n, s) => if a.spot = none ∧ 0 ≤ i ∧ i < n then some (.pointer (some ⟨a.block, a.off + i.toNat * s, none⟩)) else none | none => none
  | .slice a n _, .int _ i => if 0 ≤ i ∧ i < n ∧ a.isSome = true then sz.map fun s => .pointer (offs a (i.toNat * s)) else none
  | _, _ => none
def natV (d : Nat) : Option Value → Option Nat
  | none => some d
  | some (.int _ i) => if 0 ≤ i then some i.toNat else none
  | _ => none
/-- A piece of a slice, without a third bound. -/
def pieceV (sz : Option Nat) (lo hi : Option Value) : Value → Option Value
  | .slice a n c => (natV 0 lo).bind fun i => (natV n hi).bind fun j => sz.bind fun s => if i ≤ j ∧ j ≤ c then some (.slice (piece a i c s) (j - i) (c - i)) else none
  | _ => none
def lenV (P : Program) (T : TypeId) : Value → Option Value
  | .slice _ n _ => if (elS P T).isSome then some (.int .i64 n) else none
  | .string s => if strT P T then some (.int .i64 s.size) else none
  | _ => none
def convV (P : Program) (S D : TypeId) (h : Heap) : Value → Option Value
  | .slice a n _ => match elS P S with | some e => if intK P e = some .u8 ∧ strT P D = true then (bytesV h a n).map .string else none | none => none
  | .int _ i => if (intK P S).isSome then (intK P D).map fun k => .int k (k.wrap i) else none
  | _ => none

def vop (P : Program) (op : Op) (ρ : Operand → Value) (h : Heap) : Option Value :=
  match op with
  | .move x | .assign x => some (ρ x)
  | .pick c x y => (boolOf (ρ c)).map fun t => if t = true then ρ x else ρ y
  | .load T x => (addrV (ρ x)).bind (valAt P T h)
  | .nilCheck x => nilV (ρ x)
  | .binOp op T x y _ => binV P op T (ρ x) (ρ y)
  | .unOp .not _ x => (boolOf (ρ x)).map fun t => .bool (!t)
  | .fieldAddr S x f => (addrV (ρ x)).bind (fldA (fldOff (fldS P S f)))
  | .field T x f => if (fldS P T f).isSome then (aggV (ρ x)).bind (partOf (fldS P T f)) else none
  | .extract x i => (tupA (ρ x)).bind (·[i]?)
  | .indexAddr T x y => idxV (elSz P T) (arrS P T) (ρ x) (ρ y)
  | .slice T x lo hi none => pieceV (elSz P T) (lo.map ρ) (hi.map ρ) (ρ x)
  | .convert S D x => convV P S D h (ρ x)
  | .call { callee := .builtin .len, args, argTypes } => if args.size = 1 ∧ argTypes.size = 1 then lenV P (argTypes.getD 0 0) (ρ (args.getD 0 default)) else none
  | .makeFunc fn x y => some (.func fn (x.map ρ) (y.map ρ))
  | _ => none

theorem vop_sound {o : Oper} {l : L} {b : Base} {h : Heap} {v : Value} (hv : vop P o.op (ev l b) h = some v) (K : Value → Heap → Prop) (hk : K v h) : os P o l b h K := by
  obtain ⟨dst, op, type, pos, after, guard⟩ := o
  cases op with
  | move x => simp only [vop, Option.some.injEq] at hv; rw [osem_move]; subst hv; exact hk
  | assign x => simp only [vop, Option.some.injEq] at hv; rw [osem_assign]; subst hv; exact hk
  | makeFunc fn x y => simp only [vop, Option.some.injEq] at hv; rw [osem_makeFunc]; subst hv; exact hk
  | pick c x y =>
    simp only [vop] at hv
    rw [osem_pick]
    cases hc : ev l b c <;> simp only [hc, boolOf, Option.map_none, Option.map_some, reduceCtorEq, Option.some.injEq] at hv
    rename_i t
    rw [pickS_bool]
    subst hv
    cases t <;> simpa using hk
  | load T x =>
    simp only [vop] at hv
    rw [osem_load]
    cases hc : ev l b x <;> simp only [hc, addrV, Option.bind_none, reduceCtorEq] at hv
    rename_i a
    cases a with
    | none => simp at hv
    | some a => rw [loadS_ptr]; simp only [Option.bind_some] at hv; rw [hv]; exact hk
  | nilCheck x =>
    simp only [vop] at hv
    rw [osem_nilCheck]
    cases hc : ev l b x <;> simp only [hc, nilV, reduceCtorEq] at hv
    · rename_i a
      cases a with
      | none => simp at hv
      | some a => simp only [Option.some.injEq] at hv; subst hv; exact hk
    · rename_i fn x y
      cases fn <;> simp only [reduceCtorEq, Option.some.injEq] at hv <;> (subst hv; exact hk)
  | binOp op T x y T2 =>
    simp only [vop] at hv
    rw [osem_bin]
    revert hv
    cases ev l b x <;> cases ev l b y <;> intro hv <;> simp only [binV, reduceCtorEq] at hv
    case bool.bool s t =>
      split at hv
      · rename_i hb
        cases op <;> simp only [reduceCtorEq, Option.some.injEq] at hv
        · rw [binS_bool_eql _ _ _ _ _ hb]; subst hv; exact hk
        · rw [binS_bool_neq _ _ _ _ _ hb]; subst hv; exact hk
      · cases hv
    case int.int k m k' n =>
      split at hv
      · rename_i hb
        rw [binS_int (by simpa using hb), hv]; exact hk
      · cases hv
    case string.string s t => rw [binS_string, hv]; exact hk
    case pointer.pointer a c =>
      cases c with
      | some c => simp at hv
      | none =>
        simp only at hv
        split at hv
        · rename_i hb
          cases op <;> simp only [reduceCtorEq, Option.some.injEq] at hv
          · rw [binS_ptr_nil _ _ _ _ hb]; subst hv; exact hk
          · rw [binS_ptr_nnil _ _ _ _ hb]; subst hv; exact hk
        · cases hv
    case slice.slice a n c a' n' c' =>
      cases a' with
      | some c => simp at hv
      | none =>
        simp only at hv
        split at hv
        · rename_i hb
          cases op <;> simp only [reduceCtorEq, Option.some.injEq] at hv
          · rw [binS_slice_nil _ _ _ _ _ _ _ _ hb]; subst hv; exact hk
          · rw [binS_slice_nnil _ _ _ _ _ _ _ _ hb]; subst hv; exact hk
        · cases hv
  | unOp op T x =>
    cases op <;> simp only [vop, reduceCtorEq] at hv
    rw [osem_un]
    cases hc : ev l b x <;> simp only [hc, boolOf, Option.map_none, Option.map_some, reduceCtorEq, Option.some.injEq] at hv
    rw [unS_not]; subst hv; exact hk
  | fieldAddr S x f =>
    simp only [vop] at hv
    rw [osem_fieldAddr]
    cases hc : ev l b x <;> simp only [hc, addrV, Option.bind_none, reduceCtorEq] at hv
    rename_i a
    cases a with
    | none => simp at hv
    | some a =>
      simp only [Option.bind_some, fldA] at hv
      cases ho : fldOff (fldS P S f) with
      | none => simp [ho] at hv
      | some o =>
        simp only [ho] at hv
        split at hv
        · rename_i hs
          obtain ⟨bk, off, spot⟩ := a
          simp only at hs
          subst hs
          rw [fieldAddrS_off _ _ _ _ (by rw [ho]; rfl), ho]
          simp only [Option.some.injEq] at hv
          subst hv
          exact hk
        · cases hv
  | field T x f =>
    simp only [vop] at hv
    split at hv
    · rename_i hs
      rw [osem_field]
      cases hc : ev l b x <;> simp only [hc, aggV, Option.bind_none, Option.bind_some, reduceCtorEq] at hv
      rw [fieldVS_agg _ _ _ hs, hv]; exact hk
    · cases hv
  | extract x i =>
    simp only [vop] at hv
    rw [osem_extract]
    cases hc : ev l b x <;> simp only [hc, tupA, Option.bind_none, Option.bind_some, reduceCtorEq] at hv
    rw [extractS_tuple, hv]; exact hk
  | indexAddr T x y =>
    simp only [vop] at hv
    rw [osem_indexAddr]
    revert hv
    cases ev l b x <;> cases ev l b y <;> intro hv <;> simp only [idxV, reduceCtorEq] at hv
    case pointer.int ad k i =>
      cases ad with
      | none => simp at hv
      | some ad =>
        simp only at hv
        cases har : arrS P T with
        | none => simp [har] at hv
        | some p =>
          obtain ⟨n, s⟩ := p
          simp only [har] at hv
          split at hv
          · rename_i hh
            obtain ⟨bk, off, spot⟩ := ad
            obtain ⟨hsp, h0, h1⟩ := hh
            simp only at hsp
            subst hsp
            rw [indexAddrS_array har h0 h1]
            simp only [Option.some.injEq] at hv
            subst hv
            exact hk
          · cases hv
    split at hv
    · rename_i hh
      rw [indexAddrS_slice _ _ _ _ _ _ hh.1 hh.2.1 hh.2.2]
      cases hs : elSz P T with
      | none => simp [hs] at hv
      | some s => simp only [hs, Option.map_some, Option.some.injEq] at hv; subst hv; exact hk
    · cases hv
  | slice T x lo hi mx =>
    cases mx with
    | some m => simp [vop] at hv
    | none =>
      simp only [vop] at hv
      rw [osem_slice]
      revert hv
      cases ev l b x <;> intro hv <;> simp only [pieceV, reduceCtorEq] at hv
      rename_i a n c
      have hn : ∀ (d : Nat) (o : Option Value) (i : Nat), natV d o = some i → o = none ∧ i = d ∨ ∃ k, o = some (.int k i) := by
        intro d o i ho
        cases o with
        | none => simp only [natV, Option.some.injEq] at ho; exact .inl ⟨rfl, ho.symm⟩
        | some u =>
          cases u <;> simp only [natV, reduceCtorEq] at ho
          rename_i kk nn
          split at ho
          · rename_i h0
            simp only [Option.some.injEq] at ho
            exact .inr ⟨kk, by rw [← ho, Int.toNat_of_nonneg h0]⟩
          · cases ho
      cases h1 : natV 0 (lo.map (ev l b)) with
      | none => simp [h1] at hv
      | some i =>
        cases h2 : natV n (hi.map (ev l b)) with
        | none => simp [h1, h2] at hv
        | some j =>
          cases h3 : elSz P T with
          | none => simp [h1, h2, h3] at hv
          | some s =>
            simp only [h1, h2, h3, Option.bind_some] at hv
            split at hv
            · rename_i hh
              have he : ∃ e, elS P T = some e ∧ szS P e = some s := by
                unfold elSz at h3
                cases he : elS P T with
                | none => simp [he] at h3
                | some e => simp only [he, Option.bind_some] at h3; exact ⟨e, rfl, h3⟩
              obtain ⟨e, he1, he2⟩ := he
              rw [Option.map_none, sliceS_slice he1 he2 (.inl ⟨rfl, rfl⟩) (hn _ _ _ h2) (hn _ _ _ h1) hh.1 hh.2 (Nat.le_refl _)]
              simp only [Option.some.injEq] at hv
              subst hv
              exact hk
            · cases hv
  | convert S D x =>
    simp only [vop] at hv
    rw [osem_conv]
    cases hc : ev l b x <;> simp only [hc, convV, reduceCtorEq] at hv
    rotate_left
    · cases he : elS P S with
      | none => simp [he] at hv
      | some e =>
        simp only [he] at hv
        split at hv
        · rename_i hh
          cases hb : bytesV h _ _ with
          | none => rw [hb] at hv; simp at hv
          | some s =>
            rw [hb] at hv
            simp only [Option.map_some, Option.some.injEq] at hv
            rw [conv_bytes he hh.1 hh.2 hb]
            subst hv
            exact hk
        · cases hv
    split at hv
    · rename_i hs
      obtain ⟨k2, hk2⟩ := Option.isSome_iff_exists.1 hs
      cases hd : intK P D with
      | none => simp [hd] at hv
      | some k' =>
        simp only [hd, Option.map_some, Option.some.injEq] at hv
        rw [convS_int hk2 hd]; subst hv; exact hk
    · cases hv
  | call c =>
    obtain ⟨cal, args, ats⟩ := c
    cases cal with
    | builtin bi =>
      cases bi <;> simp only [vop, reduceCtorEq] at hv
      split at hv
      · rename_i hh
        obtain ⟨args⟩ := args
        obtain ⟨ats⟩ := ats
        match args, ats, hh with
        | [x], [T], _ =>
          rw [osem_builtin]
          simp only [List.map_toArray, List.map_cons, List.map_nil]
          have hg1 : (#[T] : Array TypeId).getD 0 0 = T := rfl
          have hg2 : (#[x] : Array Operand).getD 0 default = x := rfl
          simp only [hg1, hg2] at hv
          cases hc : ev l b x <;> simp only [hc, lenV, reduceCtorEq] at hv
          · split at hv
            · rename_i hs
              simp only [Option.some.injEq] at hv
              rw [len_string _ _ _ hs]; subst hv; exact hk
            · cases hv
          · split at hv
            · rename_i hs
              simp only [Option.some.injEq] at hv
              rw [len_slice _ _ _ _ _ hs]; subst hv; exact hk
            · cases hv
      · cases hv
    | _ => simp [vop] at hv
  | _ => simp [vop] at hv

/-! ### the written-out order, for simp -/
/-- What has been looked at: the number, the operation, the frame, the value. -/
structure Lk where
  i : Nat
  op : Op
  l : L
  b : Base
  v : Value
/-- What must be seen again is. -/
def again (P : Program) (chk : List Nat) (h : Heap) : List Lk → Prop
  | [] => True
  | k :: ks => (k.i ∈ chk → vop P k.op (ev k.l k.b) h = some k.v) ∧ again P chk h ks
def dwF (P : Program) (ops : Array Oper) : List Di → List Lk → (L → Base → Heap → Prop) → L → Base → Heap → Prop
  | [], _, K, l, b, h => K l b h
  | d :: ds, pend, K, l, b, h =>
    match ops[d.i]? with
    | none => False
    | some o =>
      if guardB o ops l b = true then
        if d.mv = true then optS (vop P o.op (ev l b) h) fun v => dwF P ops ds (⟨d.i, o.op, l, b, v⟩ :: pend) K (putl o.dst v l) b h
        else os P o l b h (fun v h' => again P d.chk h' pend ∧ dwF P ops ds pend K (putl o.dst v l) b h')
      else dwF P ops ds pend K (putl o.dst undef l) b h
theorem again_spec {chk : List Nat} {h : Heap} : ∀ {ks : List Lk}, again P chk h ks → ∀ k ∈ ks, k.i ∈ chk → vop P k.op (ev k.l k.b) h = some k.v
  | [], _, k, hk, _ => by cases hk
  | q :: ks, ⟨h1, h2⟩, k, hk, hc => by
    rcases List.mem_cons.1 hk with rfl | hk
    · exact h1 hc
    · exact again_spec h2 k hk hc
theorem dsem_of_dwF {ops : Array Oper} {K : L → Base → Heap → Prop} : ∀ (ds : List Di) {pend : List Lk} {pl : List (Nat × (Heap → Prop))} {l : L} {b : Base} {h : Heap},
    (∀ p ∈ pl, ∃ k ∈ pend, k.i = p.1 ∧ ∀ h', vop P k.op (ev k.l k.b) h' = some k.v → p.2 h') → dwF P ops ds pend K l b h → dsem P ops ds pl K l b h := by
  intro ds
  induction ds with
  | nil => exact fun _ hd => hd
  | cons d ds ih =>
    intro pend pl l b h hp hd
    simp only [dwF] at hd
    simp only [dsem]
    cases ho : ops[d.i]? with
    | none => simp [ho] at hd
    | some o =>
      simp only [ho] at hd ⊢
      split
      · rename_i hg
        rw [if_pos hg] at hd
        split
        · rename_i hm
          rw [if_pos hm] at hd
          cases hv : vop P o.op (ev l b) h with
          | none => rw [hv] at hd; exact hd.elim
          | some v =>
            rw [hv] at hd
            refine ⟨v, vop_sound hv _ ⟨rfl, rfl⟩, ih (fun p hpp => ?_) hd⟩
            rcases List.mem_cons.1 hpp with rfl | hpp
            · exact ⟨_, List.mem_cons_self .., rfl, fun h' hh => vop_sound hh _ ⟨rfl, rfl⟩⟩
            · obtain ⟨k, hk, h1, h2⟩ := hp p hpp
              exact ⟨k, List.mem_cons_of_mem _ hk, h1, h2⟩
        · rename_i hm
          rw [if_neg hm] at hd
          refine hp_mono _ hd fun x h' hx => nextK_mono (fun v h'' hh => ⟨fun p hpp hch => ?_, ih hp hh.2⟩) x h' hx
          obtain ⟨k, hk, h1, h2⟩ := hp p hpp
          exact h2 _ (again_spec hh.1 k hk (by rw [h1]; exact hch))
      · rename_i hg
        rw [if_neg hg] at hd
        exact ih hp hd

/-- The same, marked. -/
def dw (P : Program) (ops : List Oper) (ds : List Di) (pend : List Lk) (K : L → Base → Heap → Prop) (l : L) (b : Base) (h : Heap) (_t : Tag K := ⟨⟩) (_p : Tag pend := ⟨⟩) (_o : Tag ops := ⟨⟩) : Prop := dwF P ops.toArray ds pend K l b h
variable {ops : List Oper} {ds : List Di} {pend : List Lk} {K : L → Base → Heap → Prop} {l : L} {b : Base} {h : Heap}
@[simp] theorem dw_nil : dw P ops [] pend K l b h = K l b h := _root_.id rfl
/-- An operation, found. -/
def dwO (P : Program) (ops : List Oper) (o : Option Oper) (i : Nat) (mv : Bool) (chk : List Nat) (ds : List Di) (pend : List Lk) (K : L → Base → Heap → Prop) (l : L) (b : Base) (h : Heap)
    (_t : Tag K := ⟨⟩) (_p : Tag pend := ⟨⟩) (_o : Tag ops := ⟨⟩) : Prop :=
  match o with
  | none => False
  | some o =>
    if guardB o ops.toArray l b = true then
      if mv = true then optS (vop P o.op (ev l b) h) fun v => dwF P ops.toArray ds (⟨i, o.op, l, b, v⟩ :: pend) K (putl o.dst v l) b h
      else os P o l b h (fun v h' => again P chk h' pend ∧ dwF P ops.toArray ds pend K (putl o.dst v l) b h')
    else dwF P ops.toArray ds pend K (putl o.dst undef l) b h
@[congr] theorem dwO_congr {o o' : Option Oper} {i : Nat} {mv : Bool} {chk : List Nat} (ho : o = o') : dwO P ops o i mv chk ds pend K l b h = dwO P ops o' i mv chk ds pend K l b h := by rw [ho]
@[simp] theorem dw_cons (i : Nat) (mv : Bool) (chk : List Nat) : dw P ops (⟨i, mv, chk⟩ :: ds) pend K l b h = dwO P ops ops[i]? i mv chk ds pend K l b h := by
  unfold dw dwO
  simp only [dwF, List.getElem?_toArray]
/-- The list of operations, looked up. -/
@[simp] theorem dwO_look (dst : Option Tmp) (op : Op) (ty : TypeId) (pos : String) (aft : Array Edge) (i : Nat) (chk : List Nat) : dwO P ops (some ⟨dst, op, ty, pos, aft, none⟩) i true chk ds pend K l b h =
    optS (vop P op (ev l b) h) fun v => dw P ops ds (⟨i, op, l, b, v⟩ :: pend) K (putl dst v l) b h := by
  simp only [dwO, guardB, if_true]; exact _root_.id rfl
@[simp] theorem dwO_act (dst : Option Tmp) (op : Op) (ty : TypeId) (pos : String) (aft : Array Edge) (i : Nat) (chk : List Nat) : dwO P ops (some ⟨dst, op, ty, pos, aft, none⟩) i false chk ds pend K l b h =
    os P ⟨dst, op, ty, pos, aft, none⟩ l b h (fun v h' => again P chk h' pend ∧ dw P ops ds pend K (putl dst v l) b h') := by
  simp only [dwO, guardB, if_true, Bool.false_eq_true, if_false]; exact _root_.id rfl
@[simp] theorem dwO_glook (dst : Option Tmp) (op : Op) (ty : TypeId) (pos : String) (aft : Array Edge) (i : Nat) (chk : List Nat) (j : Nat) (want : Bool) : dwO P ops (some ⟨dst, op, ty, pos, aft, some (j, want)⟩) i true chk ds pend K l b h =
    guardS (gval ops.toArray l b j) want (optS (vop P op (ev l b) h) fun v => dw P ops ds (⟨i, op, l, b, v⟩ :: pend) K (putl dst v l) b h) (dw P ops ds pend K (putl dst undef l) b h) := by
  simp only [dwO, guardB, if_true, guardS]; exact _root_.id rfl
@[simp] theorem dwO_gact (dst : Option Tmp) (op : Op) (ty : TypeId) (pos : String) (aft : Array Edge) (i : Nat) (chk : List Nat) (j : Nat) (want : Bool) : dwO P ops (some ⟨dst, op, ty, pos, aft, some (j, want)⟩) i false chk ds pend K l b h =
    guardS (gval ops.toArray l b j) want (os P ⟨dst, op, ty, pos, aft, some (j, want)⟩ l b h (fun v h' => again P chk h' pend ∧ dw P ops ds pend K (putl dst v l) b h')) (dw P ops ds pend K (putl dst undef l) b h) := by
  simp only [dwO, guardB, guardS, Bool.false_eq_true, if_false]; exact _root_.id rfl
@[simp] theorem again_nil (chk : List Nat) : again P chk h [] = True := _root_.id rfl
theorem again_cons (chk : List Nat) (k : Lk) (ks : List Lk) : again P chk h (k :: ks) = ((k.i ∈ chk → vop P k.op (ev k.l k.b) h = some k.v) ∧ again P chk h ks) := rfl
@[simp] theorem again_none (ks : List Lk) : again P [] h ks = True := by
  induction ks with
  | nil => rfl
  | cons k ks ih => simp [again_cons, ih]
/-- A drawn region: one order that is written out. -/
theorem drawn_by {n : Nat} {ro : Option Nat} {id : Nat} {κ : Kont} (ds : List Di) (hd : drawOk ops.toArray ds = true) (hok : opsOk n ops.toArray = true) (hc : dw P ops ds [] κ.nx l b h) :
    gs P n ro (.region id ops.toArray true) κ l b h :=
  drawn ds hd hok (dsem_of_dwF ds (by simp) hc)

/-! ### what an operation that only looks comes to -/
variable {ρ : Operand → Value}
@[simp] theorem vop_move (x : Operand) : vop P (.move x) ρ h = some (ρ x) := _root_.id rfl
@[simp] theorem vop_assign (x : Operand) : vop P (.assign x) ρ h = some (ρ x) := _root_.id rfl
@[simp] theorem vop_pick (c x y : Operand) : vop P (.pick c x y) ρ h = (boolOf (ρ c)).map fun t => if t = true then ρ x else ρ y := _root_.id rfl
@[simp] theorem vop_load (T : TypeId) (x : Operand) : vop P (.load T x) ρ h = (addrV (ρ x)).bind (valAt P T h) := _root_.id rfl
@[simp] theorem vop_nilCheck (x : Operand) : vop P (.nilCheck x) ρ h = nilV (ρ x) := _root_.id rfl
@[simp] theorem vop_bin (op : BinOp) (T T2 : TypeId) (x y : Operand) : vop P (.binOp op T x y T2) ρ h = binV P op T (ρ x) (ρ y) := _root_.id rfl
@[simp] theorem vop_not (T : TypeId) (x : Operand) : vop P (.unOp .not T x) ρ h = (boolOf (ρ x)).map fun t => .bool (!t) := _root_.id rfl
@[simp] theorem vop_fieldAddr (S f : Nat) (x : Operand) : vop P (.fieldAddr S x f) ρ h = (addrV (ρ x)).bind (fldA (fldOff (fldS P S f))) := _root_.id rfl
@[simp] theorem vop_field (T f : Nat) (x : Operand) : vop P (.field T x f) ρ h = if (fldS P T f).isSome then (aggV (ρ x)).bind (partOf (fldS P T f)) else none := _root_.id rfl
@[simp] theorem vop_extract (x : Operand) (i : Nat) : vop P (.extract x i) ρ h = (tupA (ρ x)).bind (·[i]?) := _root_.id rfl
@[simp] theorem vop_indexAddr (T : TypeId) (x y : Operand) : vop P (.indexAddr T x y) ρ h = idxV (elSz P T) (arrS P T) (ρ x) (ρ y) := _root_.id rfl
@[simp] theorem vop_slice (T : TypeId) (x : Operand) (lo hi : Option Operand) : vop P (.slice T x lo hi none) ρ h = pieceV (elSz P T) (lo.map ρ) (hi.map ρ) (ρ x) := _root_.id rfl
@[simp] theorem vop_convert (S D : TypeId) (x : Operand) : vop P (.convert S D x) ρ h = convV P S D h (ρ x) := _root_.id rfl
@[simp] theorem vop_len (x : Operand) (T : TypeId) : vop P (.call ⟨.builtin .len, #[x], #[T]⟩) ρ h = lenV P T (ρ x) := _root_.id rfl
@[simp] theorem vop_makeFunc (fn : Fn) (x y : Array Operand) : vop P (.makeFunc fn x y) ρ h = some (.func fn (x.map ρ) (y.map ρ)) := _root_.id rfl
@[simp] theorem addrV_ptr (a : Option Addr) : addrV (.pointer a) = a := _root_.id rfl
@[simp] theorem nilV_ptr (a : Addr) : nilV (.pointer (some a)) = some (.pointer (some a)) := _root_.id rfl
@[simp] theorem nilV_func (f : Nat) (x y : Array Value) : nilV (.func (.func f) x y) = some (.func (.func f) x y) := _root_.id rfl
@[simp] theorem nilV_yield (f : Nat) (x y : Array Value) : nilV (.func (.yield f) x y) = some (.func (.yield f) x y) := _root_.id rfl
@[simp] theorem fldA_mk (o bk off : Nat) : fldA (some o) ⟨bk, off, none⟩ = some (.pointer (some ⟨bk, off + o, none⟩)) := _root_.id rfl
@[simp] theorem aggV_agg (cs : Array Value) : aggV (.agg cs) = some cs := _root_.id rfl
@[simp] theorem tupA_tuple (cs : Array Value) : tupA (.tuple cs) = some cs := _root_.id rfl
@[simp] theorem binV_int (op : BinOp) (T : TypeId) (k : IntKind) (m n : Int) : binV P op T (.int k m) (.int k n) = intRes op k m n := by simp [binV]
@[simp] theorem binV_string (op : BinOp) (T : TypeId) (s t : ByteArray) : binV P op T (.string s) (.string t) = strRes op s t := _root_.id rfl
@[simp] theorem binV_bool (op : BinOp) (T : TypeId) (s t : Bool) : binV P op T (.bool s) (.bool t) = if boolT P T then (match op with | .eql => some (.bool (s == t)) | .neq => some (.bool (!(s == t))) | _ => none) else none := _root_.id rfl
@[simp] theorem binV_slice (op : BinOp) (T : TypeId) (a : Option Addr) (n c n' c' : Nat) : binV P op T (.slice a n c) (.slice none n' c') = if nilKind P T = 1 then (match op with | .eql => some (.bool a.isNone) | .neq => some (.bool (!a.isNone)) | _ => none) else none := _root_.id rfl
@[simp] theorem binV_ptr (op : BinOp) (T : TypeId) (a : Option Addr) : binV P op T (.pointer a) (.pointer none) = if nilKind P T = 2 then (match op with | .eql => some (.bool a.isNone) | .neq => some (.bool (!a.isNone)) | _ => none) else none := _root_.id rfl
@[simp] theorem lenV_slice (T : TypeId) (a : Option Addr) (n c : Nat) : lenV P T (.slice a n c) = if (elS P T).isSome then some (.int .i64 n) else none := _root_.id rfl
@[simp] theorem lenV_string (T : TypeId) (s : ByteArray) : lenV P T (.string s) = if strT P T then some (.int .i64 s.size) else none := _root_.id rfl
@[simp] theorem convV_slice (S D : TypeId) (a : Option Addr) (n c : Nat) : convV P S D h (.slice a n c) = match elS P S with | some e => if intK P e = some .u8 ∧ strT P D = true then (bytesV h a n).map .string else none | none => none := _root_.id rfl
@[simp] theorem convV_int (S D : TypeId) (k : IntKind) (i : Int) : convV P S D h (.int k i) = if (intK P S).isSome then (intK P D).map fun k => .int k (k.wrap i) else none := _root_.id rfl
@[simp] theorem idxV_arr {sz : Option Nat} {n s bk off : Nat} {k : IntKind} {i : Int} (h0 : 0 ≤ i) (h1 : i < n) : idxV sz (some (n, s)) (.pointer (some ⟨bk, off, none⟩)) (.int k i) = some (.pointer (some ⟨bk, off + i.toNat * s, none⟩)) := by
  simp [idxV, h0, h1]
theorem idxV_slice {sz : Option Nat} {ar : Option (Nat × Nat)} {a : Option Addr} {n c : Nat} {k : IntKind} {i : Int} (h0 : 0 ≤ i) (h1 : i < n) (ha : a.isSome = true) : idxV sz ar (.slice a n c) (.int k i) = sz.map fun s => .pointer (offs a (i.toNat * s)) := by
  simp [idxV, h0, h1, ha]
end
end Go.HC
