/-
  HC, part 17: pieces of slices.
-/
import Derived.Test.YtjkefplcbmdndaaHC16
namespace Go.HC
theorem Keep.pushed {S : Nat → Prop} {h h' : Heap} (k : Keep S h h') (o : Obj) : Keep S h (h'.push o) := k.trans (.push S h' o) (fun _ _ h => h)
theorem Keep.setted {S : Nat → Prop} {h h' : Heap} (k : Keep S h h') {b : Nat} (o : Obj) (hb : b < h.size → S b) : Keep S h (h'.setIfInBounds b o) :=
  ⟨by simpa using k.size, fun i hi hn => by rw [set_other _ (fun e => hn (by subst e; exact hb hi)), k.blk i hi hn]⟩
theorem Keep.none {S : Nat → Prop} {h h' : Heap} (k : Keep none_ h h') : Keep S h h' := k.weaken fun _ _ h => h.elim
@[simp high] theorem push_get {h : Heap} {o : Obj} {n : Nat} (hn : n = h.size) : (h.push o)[n]? = some o := by subst hn; exact push_new _ _
section
variable {α : Type} {R : Rp α} {F F' : Nat → Prop} {h h' : Heap}
theorem SlRep.cut {a : Option Addr} {n c i j m : Nat} {xs : List α} (hs : SlRep R F h (.slice a n c) xs) (h1 : i ≤ j) (h2 : j ≤ xs.length) (h3 : j ≤ m) (h4 : m ≤ c) :
    SlRep R F h (.slice (piece a i m R.sz) (j - i) (m - i)) ((xs.drop i).take (j - i)) := by
  obtain ⟨a', c', cs, hv, g1, g2, g3, g4⟩ := hs
  cases hv
  have hl : ((xs.drop i).take (j - i)).length = j - i := by
    rw [List.length_take, List.length_drop]; omega
  refine ⟨_, m - i, (cs.drop (i * R.sz)).take ((j - i) * R.sz), by rw [hl], by omega, by omega, ?_, (g4.drop i).take (j - i)⟩
  by_cases hij : i = j
  · left; subst hij; simp
  · rcases g3 with h0 | ⟨bk, off, arr, e, fz, rfl, q1, q2, q3⟩
    · left; rw [h0]; simp
    · have hp : piece (some ⟨bk, off, none⟩) i m R.sz = some ⟨bk, off + i * R.sz, none⟩ := by
        unfold HC.piece
        rw [if_neg (by omega), offs_mk]
      rw [hp]
      refine Cells.take _ (Cells.drop (i * R.sz) (.inr ⟨bk, off, arr, e, fz, rfl, q1, q2, q3⟩) ?_)
      rw [g4.len]
      exact Nat.mul_le_mul_right _ (by omega)
theorem Grow.bytes {e : TypeId} {F : Nat → Prop} {h : Heap} {v : Value} {xs : List UInt8} {own : Option Nat} (hg : Grow rByte e F h v xs own) : SlRep rByte (fun b => own = some b) h v xs := by
  obtain ⟨a, c, rfl⟩ := hg.val
  obtain ⟨cs, _, h1, h2, h3, h4⟩ := hg.cells
  exact ⟨a, c, cs, rfl, h1, h2, h3, bytes_map.2 (bytes_map.1 h4)⟩
theorem Grow.strs {e : TypeId} {F : Nat → Prop} {h : Heap} {v : Value} {xs : List ByteArray} {own : Option Nat} (hg : Grow rStr e F h v xs own) : SlRep rStr (fun b => own = some b) h v xs := by
  obtain ⟨a, c, rfl⟩ := hg.val
  obtain ⟨cs, _, h1, h2, h3, h4⟩ := hg.cells
  exact ⟨a, c, cs, rfl, h1, h2, h3, strs_map.2 (strs_map.1 h4)⟩
theorem SlRep.len_lt {v : Value} {xs : List α} (hs : SlRep R F h v xs) : xs.length < 9223372036854775808 := by
  obtain ⟨a, c, cs, rfl, h1, h2, _⟩ := hs; omega
end

section
variable {P : Program} {h : Heap} {K : Value → Heap → Prop} {ty : TypeId}
@[simp] theorem kStr_val (x : ByteArray) : kStr.val x = .string x := _root_.id rfl
@[simp] theorem kInt_val (x : Int) : kInt.val x = .int .i64 x := _root_.id rfl
theorem lookup_str {T kt et : TypeId} {r : Nat} {es : Ents ByteArray} {clock : Nat} {x : ByteArray} {ok : Bool} {z : Value} (hm : mapS P T = some (kt, et)) (hk : P.underlying kt = some .string) (hz : zS P et = some z)
    (hr : h[r]? = some (.map (entsOf kStr es) clock)) :
    lookupS P T (.map (some r)) (.string x) ok h K = K (if ok then .tuple #[(getE x es).getD z, .bool (getE x es).isSome] else (getE x es).getD z) h := lookup_map (k := kStr) hm hk hz hr
theorem update_str {T kt et : TypeId} {r : Nat} {es : Ents ByteArray} {clock : Nat} {x : ByteArray} {v : Value} (hm : mapS P T = some (kt, et)) (hk : P.underlying kt = some .string)
    (hr : h[r]? = some (.map (entsOf kStr es) clock)) :
    mapUpdateS P T (.map (some r)) (.string x) v h K = K undef (h.setIfInBounds r (.map (entsOf kStr (putE x v clock es)) (clockE x es clock))) := update_map (k := kStr) hm hk hr
theorem delete_str {T kt et : TypeId} {r : Nat} {es : Ents ByteArray} {clock : Nat} {x : ByteArray} {ats : Array TypeId} {cs : Array Bool} (hat : ats[0]? = some T) (hm : mapS P T = some (kt, et)) (hk : P.underlying kt = some .string)
    (hr : h[r]? = some (.map (entsOf kStr es) clock)) :
    builtinS P .delete ats ty cs #[.map (some r), .string x] h K = K (.tuple #[]) (h.setIfInBounds r (.map (entsOf kStr (delE x es)) clock)) := delete_map (k := kStr) hat hm hk hr
end

section
variable {P : Program} {h : Heap} {K : Value → Heap → Prop}
/-- A constant string's bytes: '[]byte("..")'. -/
theorem const_bytes {S e : TypeId} {n : Nat} {cs : Array Value} (xs : List UInt8) (hS : elS P S = some e) (he : intK P e = some .u8) (hcs : cs.toList = xs.map fun x => Value.int .u8 x.toNat) (hn : n = xs.length) (hn' : n < 9223372036854775808)
    (hk : ∀ h' : Heap, Keep none_ h h' → h'.size = h.size + 1 → SlRep rByte (fun b => b = h.size) h' (.slice (some ⟨h.size, 0, none⟩) n n) xs → K (.slice (some ⟨h.size, 0, none⟩) n n) h') :
    convS P S S (.slice (some ⟨h.size, 0, none⟩) n n) (h.push (.cells cs e)) K := by
  rw [conv_same_bytes (m := cs.size) hS he (push_new _ _) rfl]
  obtain ⟨f, hf, hfc⟩ : ∃ f : Obj → Obj, freezeH (h.push (.cells cs e)) ⟨h.size, cs.size, none⟩ 1 = (h.push (.cells cs e)).modify h.size f ∧ ∀ c e z, ∃ z', f (.cells c e z) = .cells c e z' := by
    unfold freezeH
    rw [if_neg (by decide)]
    exact ⟨_, rfl, fun c e z => ⟨_, rfl⟩⟩
  rw [hf]
  obtain ⟨z', hz⟩ := hfc cs e (0, 0)
  have hb : ((h.push (.cells cs e)).modify h.size f)[h.size]? = some (.cells cs e z') := by
    rw [Array.getElem?_modify, if_pos rfl, push_new, ← hz]; rfl
  refine hk _ ⟨by simp, fun b hb _ => ?_⟩ (by simp) ?_
  · rw [Array.getElem?_modify, if_neg (by omega), push_old _ hb]
  · refine ⟨_, n, xs.map fun x => Value.int .u8 x.toNat, by rw [hn], by omega, hn', .inr ⟨h.size, 0, cs, e, _, rfl, rfl, hb, ?_⟩, bytes_map.2 rfl⟩
    rw [hcs, List.drop_zero, List.take_length]
end

section
variable {P : Program} {h : Heap} {K : Value → Heap → Prop}
/-- 'make([]byte, n)'. -/
theorem make_bytes {T e : TypeId} {n : Int} {k k' : IntKind} (hT : elS P T = some e) (hs : szS P e = some 1) (hby : byS P e = some 1) (hz : zS P e = some (.int .u8 0)) (h0 : 0 ≤ n) (hn : n ≤ 1099511627776)
    (hk : Grow rByte e none_ (h.push (.cells (zeros (.int .u8 0) n.toNat) e)) (.slice (some ⟨h.size, 0, none⟩) n.toNat n.toNat) (List.replicate n.toNat 0) (some h.size) →
      K (.slice (some ⟨h.size, 0, none⟩) n.toNat n.toNat) (h.push (.cells (zeros (.int .u8 0) n.toNat) e))) :
    makeSliceS P T (.int k n) (.int k' n) h K := by
  rw [make_slice hT hs hby hz rfl h0 (by omega) (by omega)]
  refine hk (.inr ⟨h.size, n.toNat, zeros (.int .u8 0) n.toNat, _, by simp, rfl, push_new _ _, fun h => h, ?_, by simp, by omega, rfl, bytes_map.2 ?_⟩)
  · rw [zeros_one _ rfl]; simp [rByte]
  · rw [zeros_one _ rfl]; simp [rByte]
end
end Go.HC
