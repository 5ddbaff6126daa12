/-
  HC, part 20: a slice is copied ('append([]T{}, b...)').
-/
import Derived.Test.YtjkefplcbmdndaaHC19
namespace Go.HC
section
variable {P : Program} {h : Heap} {K : Value → Heap → Prop} {ty : TypeId} {α : Type} {R : Rp α} {F F2 : Nat → Prop}
theorem clone_cells {T e by_ : Nat} {cs : Array Bool} {xs : List α} {a : Option Addr} {n c2 : Nat} {news : List Value} (hT : ElemT P T e R by_) (hF : ∀ b, F b → b < h.size) (hF2 : ∀ b, F2 b → b < h.size)
    (hn : n = xs.length) (hrn : Cells F2 h a news) (hel : Elems R F h news xs) (hbig : xs.length * by_ ≤ 140737488355328) (h63 : xs.length < 9223372036854775808)
    (hk : ∀ v' h' own', Grow R e F h' v' xs own' → Keep none_ h h' → (∀ b, own' = some b → h.size ≤ b) → h.size ≤ h'.size → K v' h') :
    builtinS P .append #[T, T] ty cs #[.slice (some ⟨h.size, 0, none⟩) 0 0, .slice a n c2] (h.push (.cells #[] e)) K := by
  refine append_grow (F2 := F2) hT (Grow.empty R e hF) (fun b hb => by have := hF b hb; simp; omega) hn (hrn.mono fun b hb => ⟨hb, push_old _ (hF2 b hb)⟩) (hel.mono fun b hb => ⟨hb, push_old _ (hF b hb)⟩) (by simpa using hbig) (by simpa using h63) ?_
  intro v' h' own' hg hk' ho
  have hps : (h.push (.cells #[] e)).size = h.size + 1 := by simp
  rw [hps] at ho
  have hs := hk'.size
  rw [hps] at hs
  refine hk v' h' own' (by simpa using hg) ⟨by omega, fun b hb _ => ?_⟩ (fun b hb => (ho b hb).elim (fun e => by cases e; exact Nat.le_refl _) (fun h => by omega)) (by omega)
  rw [hk'.blk b (by omega) (fun e => by cases e; omega), push_old _ hb]
theorem clone_bytes {T e : Nat} {cs : Array Bool} {xs : List UInt8} {a : Option Addr} {n c2 : Nat} (hT : ElemT P T e rByte 1) (hv : SlRep rByte F2 h (.slice a n c2) xs) (hF2 : ∀ b, F2 b → b < h.size) (hbig : xs.length ≤ 140737488355328)
    (hk : ∀ v' h' own', Grow rByte e none_ h' v' xs own' → Keep none_ h h' → (∀ b, own' = some b → h.size ≤ b) → h.size ≤ h'.size → K v' h') :
    builtinS P .append #[T, T] ty cs #[.slice (some ⟨h.size, 0, none⟩) 0 0, .slice a n c2] (h.push (.cells #[] e)) K := by
  obtain ⟨a', c', news, hv', h1, h2, h3, h4⟩ := hv
  cases hv'
  exact clone_cells (F := none_) hT (fun _ h => h.elim) hF2 rfl h3 (bytes_map.2 (bytes_map.1 h4)) (by omega) (by omega) hk
end
theorem Grow.bytes_own {e : TypeId} {F : Nat → Prop} {h : Heap} {v : Value} {xs : List UInt8} {own : Option Nat} (hg : Grow rByte e F h v xs own) : Grow rByte e none_ h v xs own := by
  rcases hg with h0 | ⟨bk, c, arr, cs, h0, h1, h2, h3, h4, h5, h6, h7, h8⟩
  · exact .inl h0
  · exact .inr ⟨bk, c, arr, cs, h0, h1, h2, (fun h => h), h4, h5, h6, h7, bytes_map.2 (bytes_map.1 h8)⟩
theorem u8_add (x y : UInt8) : (((x + y).toNat : Nat) : Int) = IntKind.u8.wrap ((x.toNat : Int) + (y.toNat : Int)) := by
  rw [UInt8.toNat_add]
  simp [IntKind.wrap, IntKind.signed, IntKind.bits]
end Go.HC
