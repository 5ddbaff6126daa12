/-
  The bridge from a contract on heaps to a row: what an argument that is a slice of numbers is, in memory.
-/
import Derived.Test.YtjkefplcbmdndaaHC
import Derived.ProofKit
import Derived.OpenShut
namespace Go.HC
open Go.ChangeShapes Go.WideShapes Go.ChangeAt Go.RowKit

theorem cells_of {w : World} {a : Addr} {vs : List Value} (hc : ∀ i (hi : i < vs.length), w.cell? (a.add i) = some vs[i]) : Cells (fun b => b < w.heap.size) w.heap (some a) vs := by
  by_cases hne : vs = []
  · exact .inl hne
  · have hpos : 0 < vs.length := List.length_pos_iff.2 hne
    obtain ⟨bk, off, spot⟩ := a
    have h0 := hc 0 hpos
    rw [cellH_eq] at h0
    unfold cellH at h0
    simp only [Addr.add, if_true] at h0
    cases hb : w.heap[bk]? with
    | none => rw [hb] at h0; cases h0
    | some o =>
      rw [hb] at h0
      cases o with
      | cells c e fz =>
        simp only at h0
        have hsp : spot = none := by
          cases spot with
          | none => rfl
          | some s => simp at h0
        subst hsp
        refine .inr ⟨bk, off, c, e, fz, rfl, lt_of_blk hb, hb, ?_⟩
        apply List.ext_getElem?
        intro i
        by_cases hi : i < vs.length
        · have h1 := hc i hi
          rw [cellH_eq] at h1
          unfold cellH at h1
          rw [add_mk] at h1
          simp only [hb, Option.isSome_none, Bool.false_eq_true, if_false] at h1
          rw [List.getElem?_take, if_pos hi, List.getElem?_drop, Array.getElem?_toList, h1, List.getElem?_eq_getElem hi]
        · rw [List.getElem?_take, if_neg hi, List.getElem?_eq_none (by omega)]
      | _ => cases h0

variable {H : Type} {enc : TypeId × Value → H} {P : Program} {W : World} {base : Nat}
theorem open_rep {t e : TypeId} {k : IntKind} {v : Value} {d : DataW H} {p : List MemPlace} (ht : P.underlying t = some (.slice e)) (he : P.underlying e = some (.int k)) (hc : P.cellsOf e = 1)
    (hval : Value.okWide P W .any base t v) (hd : DataW.Trod enc P W 0 (fun _ => true) true t v d p) :
    ∃ (a : Option Addr) (n c : Nat) (zs : List Int), v = .slice a n c ∧ zs.length = n ∧ n ≤ c ∧ c < 9223372036854775808 ∧ Cells (fun b => b < W.heap.size) W.heap a (zs.map (.int k)) ∧ ∀ z ∈ zs, (Lit.int k z).wf = true := by
  obtain ⟨a0, len, cap, rfl⟩ := okWide_slice ht hval
  obtain ⟨fuel, hf⟩ := hd
  rcases open_ints ht he hc hf with ⟨hcs, hx⟩ | ⟨a, len', cap', zs, hcs, _, hl, hm, hz, hx, hcell, hwz⟩
  · simp [Value.cells] at hcs
    obtain ⟨rfl, rfl, rfl⟩ := hcs
    exact ⟨none, 0, 0, [], rfl, rfl, Nat.le_refl _, by decide, .inl rfl, by simp⟩
  · simp [Value.cells] at hcs
    obtain ⟨rfl, rfl, rfl⟩ := hcs
    simp only [if_true] at hz
    have hm' : maxLen = 9223372036854775807 := rfl
    refine ⟨some a, len, cap, zs.take len, rfl, by simp; omega, hl, by omega, cells_of fun i hi => ?_, fun z hz => hwz z (List.mem_of_mem_take hz)⟩
    simp only [List.length_map, List.length_take] at hi
    rw [hcell i (by omega)]
    simp [List.getElem_map, List.getElem_take, List.getD, List.getElem?_eq_getElem (show i < zs.length by omega)]
theorem open_intRep {t e : TypeId} {v : Value} {d : DataW H} {p : List MemPlace} (ht : P.underlying t = some (.slice e)) (he : P.underlying e = some (.int .i64)) (hc : P.cellsOf e = 1)
    (hval : Value.okWide P W .any base t v) (hd : DataW.Trod enc P W 0 (fun _ => true) true t v d p) : ∃ xs : List Int, SlRep rInt (fun b => b < W.heap.size) W.heap v xs := by
  obtain ⟨a, n, c, zs, rfl, rfl, h1, h2, h3, _⟩ := open_rep ht he hc hval hd
  exact ⟨zs, a, c, _, rfl, h1, h2, h3, ints_map.2 rfl⟩
theorem open_byteRep {t e : TypeId} {v : Value} {d : DataW H} {p : List MemPlace} (ht : P.underlying t = some (.slice e)) (he : P.underlying e = some (.int .u8)) (hc : P.cellsOf e = 1)
    (hval : Value.okWide P W .any base t v) (hd : DataW.Trod enc P W 0 (fun _ => true) true t v d p) : ∃ xs : List UInt8, SlRep rByte (fun b => b < W.heap.size) W.heap v xs := by
  obtain ⟨a, n, c, zs, rfl, rfl, h1, h2, h3, h4⟩ := open_rep ht he hc hval hd
  have hl : (zs.map fun z => UInt8.ofNat z.toNat).length = zs.length := by simp
  refine ⟨zs.map fun z => UInt8.ofNat z.toNat, a, c, _, by rw [hl], by rw [hl]; exact h1, h2, h3, bytes_map.2 ?_⟩
  rw [List.map_map]
  apply List.map_congr_left
  intro z hz
  have := h4 z hz
  have e1 : IntKind.u8.min = 0 := rfl
  have e2 : IntKind.u8.max = 255 := rfl
  simp only [Lit.wf, Bool.and_eq_true, decide_eq_true_eq, e1, e2] at this
  simp only [Function.comp_apply, Value.int.injEq, true_and, UInt8.toNat_ofNat']
  omega

/-- A contract, as the row's walk. -/
theorem below_of {w w' : World} (h : Same w w') (k : Keep none_ w.heap w'.heap) : Below w.heap.size w w' :=
  ⟨h.os, h.tape, h.output, k.size, fun i hi => k.blk i hi (fun h => h)⟩
theorem calls_of {f : FuncId} {args : Array Value} {w : World} (h : CallH P f args w.heap fun r h' => r = .bool true ∧ Keep none_ w.heap h') : Calls P f args w fun e w' => e = .returned (.bool true) ∧ Below w.heap.size w w' :=
  (h w rfl).mono fun e w' ⟨v, he, hs, hv, hk⟩ => ⟨by rw [he, hv], below_of hs hk⟩
end Go.HC
