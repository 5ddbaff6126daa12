/-
  hypercubelaw12: what its statements share, plainly.
-/
import Derived.Test.YtgmjighohmpafaaGreatKBd
import Derived.ProofKit
import Derived.OpenShut

namespace Go.HC
theorem dims_le {n : Nat} {a : Int} (hn : n ≤ 4) (h0 : 0 ≤ a) (ha : a < 2 ^ n) : a < 16 ∧ lvlM a 0 n = (dimsM a).length := by
  have h16 : (2 : Int) ^ n ≤ 2 ^ 4 := pow2_le hn
  have e16 : (2 : Int) ^ 4 = 16 := by decide
  have hlt : a < 16 := by omega
  refine ⟨hlt, ?_⟩
  obtain ⟨m, rfl⟩ : ∃ m : Nat, a = m := ⟨a.toNat, by omega⟩
  have := lvl_dims ⟨n, by omega⟩ ⟨m, by omega⟩ (by
    have h : ((m : Nat) : Int) < ((2 ^ n : Nat) : Int) := by rw [Int.natCast_pow]; exact ha
    exact Int.ofNat_lt.1 h)
  exact this
/-- Cells of facts, by a set of their dimensions. -/
theorem FactsOk.cells {s : SchM} {rows : List RowM} (h : FactsOk s rows) {b : Int} (h0 : 0 ≤ b) (hb : b < 2 ^ s.cards.length) : b < 16 ∧ ∀ c ∈ rows.map (ofM b), CellOk s.ms.toNat (dimsM b).length c := by
  obtain ⟨h1, h2⟩ := dims_le h.dims.2 h0 hb
  exact ⟨h1, fun c hc => by rw [← h2]; exact h.cell b c hc⟩
/-- A set within a set. -/
structure Within (a b : Int) (n : Nat) : Prop where
  a0 : 0 ≤ a
  a1 : a < 2 ^ n
  b0 : 0 ≤ b
  b1 : b < 2 ^ n
  sub : ∀ i, i < 4 → bitM b i = true → bitM a i = true
theorem within_and {a to : Int} {n : Nat} (hn : n ≤ 4) (h0 : 0 ≤ a) (ha : a < 2 ^ n) : Within a (andM a (withinM to 16)) n := by
  have hw := withinM_bound (a := to) (n := 16) (by omega)
  have h16 : (2 : Int) ^ n ≤ 2 ^ 4 := pow2_le hn
  have e16 : (2 : Int) ^ 4 = 16 := by decide
  have h := and_ok (x := a) (y := withinM to 16) ⟨h0, by omega⟩ ⟨hw.1, hw.2⟩
  exact ⟨h0, ha, h.1.1, by omega, h.2⟩
theorem Within.self {a : Int} {n : Nat} (h0 : 0 ≤ a) (ha : a < 2 ^ n) : Within a a n := ⟨h0, ha, h0, ha, fun _ _ h => h⟩
theorem bit_zero (i : Nat) : bitM 0 i = false := by
  unfold bitM
  rw [Int.zero_fdiv]; rfl
theorem Within.zero {a : Int} {n : Nat} (h0 : 0 ≤ a) (ha : a < 2 ^ n) : Within a 0 n := ⟨h0, ha, Int.le_refl _, by omega, fun i _ h => by rw [bit_zero] at h; cases h⟩
theorem Within.trans {a b c : Int} {n : Nat} (h : Within a b n) (h' : Within b c n) : Within a c n := ⟨h.a0, h.a1, h'.b0, h'.b1, fun i hi hc => h.sub i hi (h'.sub i hi hc)⟩
theorem rows_narrow {s : SchM} {rows : List RowM} (h : FactsOk s rows) {a b : Int} (w : Within a b s.cards.length) : (rows.map (ofM a)).map (narrowC a b) = rows.map (ofM b) := by
  rw [List.map_map]
  apply List.map_congr_left
  intro r hr
  have := (h.key r hr).1
  exact narrow_of w.sub r (by have := h.dims.2; omega)
/-- What is made of cells of facts. -/
theorem exec_rows {s : SchM} {rows : List RowM} (h : FactsOk s rows) {a b k alg : Int} (w : Within a b s.cards.length) (hk : 3 ≤ k) (ha : alg = 0 ∨ alg = 1) :
    ∃ hi, execM a b k alg (rows.map (ofM a)) = (groupC (rows.map (ofM b)), hi, 0) ∧ (hi : Int) ≤ k ∧ (((groupC (rows.map (ofM b))).length : Int) ≤ k → hi = (groupC (rows.map (ofM b))).length) ∧ (0 < hi ↔ 0 < (groupC (rows.map (ofM b))).length) := by
  have hn := rows_narrow h w
  obtain ⟨kn, rfl⟩ : ∃ kn : Nat, k = kn := ⟨k.toNat, by omega⟩
  have hc := (h.cells w.a0 w.a1).2
  have hpre : Pre (lvlN a b) 0 (rows.map (ofM b)) := by
    rw [← hn]
    refine .start (fun c hh => ?_) fun c hh => ?_
    · obtain ⟨d, hd, rfl⟩ := List.mem_map.1 hh; exact (hc d hd).narrow.len
    · obtain ⟨d, hd, rfl⟩ := List.mem_map.1 hh; exact (hc d hd).narrow.key
  have hgl := groupC_le (rows.map (ofM b))
  rw [List.length_map] at hgl
  have hlen := h.len
  obtain ⟨h1, h2, h3⟩ := high_ok (alg := alg) (k := kn) (show 3 ≤ kn by omega) (show (groupC (rows.map (ofM b))).length < 10000 by omega) hpre
  refine ⟨highE alg kn (lvlN a b) (rows.map (ofM b)), ?_, by omega, fun h => h2 (by omega), h3⟩
  unfold execM
  rw [if_neg (by omega), if_neg (by omega), hn, Int.toNat_natCast]
/-- What is made of grouped cells of facts. -/
theorem exec_group {s : SchM} {rows : List RowM} (h : FactsOk s rows) {a b k alg : Int} (w : Within a b s.cards.length) (hk : 3 ≤ k) (ha : alg = 0 ∨ alg = 1) :
    ∃ hi, execM a b k alg (groupC (rows.map (ofM a))) = (groupC (rows.map (ofM b)), hi, 0) ∧ (hi : Int) ≤ k ∧ (((groupC (rows.map (ofM b))).length : Int) ≤ k → hi = (groupC (rows.map (ofM b))).length) ∧ (0 < hi ↔ 0 < (groupC (rows.map (ofM b))).length) := by
  have hn := rows_narrow h w
  obtain ⟨kn, rfl⟩ : ∃ kn : Nat, k = kn := ⟨k.toNat, by omega⟩
  have hc := (h.cells w.a0 w.a1).2
  have hcg : ∀ c ∈ groupC (rows.map (ofM a)), CellOk s.ms.toNat (dimsM a).length c := group_all (fun _ _ h1 h2 => h1.join h2) hc
  have hg : groupC ((groupC (rows.map (ofM a))).map (narrowC a b)) = groupC (rows.map (ofM b)) := by rw [group_narrow, hn]
  have hpre : Pre (lvlN a b) 0 ((groupC (rows.map (ofM a))).map (narrowC a b)) := by
    refine .start (fun c hh => ?_) fun c hh => ?_
    · obtain ⟨d, hd, rfl⟩ := List.mem_map.1 hh; exact (hcg d hd).narrow.len
    · obtain ⟨d, hd, rfl⟩ := List.mem_map.1 hh; exact (hcg d hd).narrow.key
  have hgl := groupC_le (rows.map (ofM b))
  rw [List.length_map] at hgl
  have hlen := h.len
  obtain ⟨h1, h2, h3⟩ := high_ok (alg := alg) (k := kn) (show 3 ≤ kn by omega) (by rw [hg]; omega) hpre
  rw [hg] at h2 h3
  refine ⟨highE alg kn (lvlN a b) ((groupC (rows.map (ofM a))).map (narrowC a b)), ?_, by omega, fun h => h2 (by omega), h3⟩
  unfold execM
  rw [if_neg (by omega), if_neg (by omega), hg, Int.toNat_natCast]
theorem and_op (x y : Int) : intRes .and .i64 x y = some (.int .i64 (andM x y)) := _root_.id rfl
end Go.HC

/-
  The bridge from a contract on heaps to a row: what an argument that is a slice of numbers is, in memory.
-/
namespace Go.HC
open Go.ChangeShapes Go.WideShapes Go.ChangeAt Go.RowKit

theorem cells_of {w : World} {a : Addr} {vs : List Value} (hc : ∀ i (hi : i < vs.length), w.cell? (a.add i) = some vs[i]) : Cells (fun b => b < w.heap.size) w.heap (some a) vs := by
  by_cases hne : vs = []
  · exact .inl hne
  · have hpos : 0 < vs.length := List.length_pos_iff.2 hne
    obtain ⟨bk, off, spot⟩ := a
    have h0 := hc 0 hpos
    rw [cellH_eq] at h0
    unfold cellH at h0
    simp only [Addr.add, if_true] at h0
    cases hb : w.heap[bk]? with
    | none => rw [hb] at h0; cases h0
    | some o =>
      rw [hb] at h0
      cases o with
      | cells c e fz =>
        simp only at h0
        have hsp : spot = none := by
          cases spot with
          | none => rfl
          | some s => simp at h0
        subst hsp
        refine .inr ⟨bk, off, c, e, fz, rfl, lt_of_blk hb, hb, ?_⟩
        apply List.ext_getElem?
        intro i
        by_cases hi : i < vs.length
        · have h1 := hc i hi
          rw [cellH_eq] at h1
          unfold cellH at h1
          rw [add_mk] at h1
          simp only [hb, Option.isSome_none, Bool.false_eq_true, if_false] at h1
          rw [List.getElem?_take, if_pos hi, List.getElem?_drop, Array.getElem?_toList, h1, List.getElem?_eq_getElem hi]
        · rw [List.getElem?_take, if_neg hi, List.getElem?_eq_none (by omega)]
      | _ => cases h0

variable {H : Type} {enc : TypeId × Value → H} {P : Program} {W : World} {base : Nat}
theorem open_rep {t e : TypeId} {k : IntKind} {v : Value} {d : DataW H} {p : List MemPlace} (ht : P.underlying t = some (.slice e)) (he : P.underlying e = some (.int k)) (hc : P.cellsOf e = 1)
    (hval : Value.okWide P W .any base t v) (hd : DataW.Trod enc P W 0 (fun _ => true) true t v d p) :
    ∃ (a : Option Addr) (n c : Nat) (zs : List Int), v = .slice a n c ∧ zs.length = n ∧ n ≤ c ∧ c < 9223372036854775808 ∧ Cells (fun b => b < W.heap.size) W.heap a (zs.map (.int k)) ∧ ∀ z ∈ zs, (Lit.int k z).wf = true := by
  obtain ⟨a0, len, cap, rfl⟩ := okWide_slice ht hval
  obtain ⟨fuel, hf⟩ := hd
  rcases open_ints ht he hc hf with ⟨hcs, hx⟩ | ⟨a, len', cap', zs, hcs, _, hl, hm, hz, hx, hcell, hwz⟩
  · simp [Value.cells] at hcs
    obtain ⟨rfl, rfl, rfl⟩ := hcs
    exact ⟨none, 0, 0, [], rfl, rfl, Nat.le_refl _, by decide, .inl rfl, by simp⟩
  · simp [Value.cells] at hcs
    obtain ⟨rfl, rfl, rfl⟩ := hcs
    simp only [if_true] at hz
    have hm' : maxLen = 9223372036854775807 := rfl
    refine ⟨some a, len, cap, zs.take len, rfl, by simp; omega, hl, by omega, cells_of fun i hi => ?_, fun z hz => hwz z (List.mem_of_mem_take hz)⟩
    simp only [List.length_map, List.length_take] at hi
    rw [hcell i (by omega)]
    simp [List.getElem_map, List.getElem_take, List.getD, List.getElem?_eq_getElem (show i < zs.length by omega)]
theorem open_intRep {t e : TypeId} {v : Value} {d : DataW H} {p : List MemPlace} (ht : P.underlying t = some (.slice e)) (he : P.underlying e = some (.int .i64)) (hc : P.cellsOf e = 1)
    (hval : Value.okWide P W .any base t v) (hd : DataW.Trod enc P W 0 (fun _ => true) true t v d p) : ∃ xs : List Int, SlRep rInt (fun b => b < W.heap.size) W.heap v xs := by
  obtain ⟨a, n, c, zs, rfl, rfl, h1, h2, h3, _⟩ := open_rep ht he hc hval hd
  exact ⟨zs, a, c, _, rfl, h1, h2, h3, ints_map.2 rfl⟩
theorem open_byteRep {t e : TypeId} {v : Value} {d : DataW H} {p : List MemPlace} (ht : P.underlying t = some (.slice e)) (he : P.underlying e = some (.int .u8)) (hc : P.cellsOf e = 1)
    (hval : Value.okWide P W .any base t v) (hd : DataW.Trod enc P W 0 (fun _ => true) true t v d p) : ∃ xs : List UInt8, SlRep rByte (fun b => b < W.heap.size) W.heap v xs := by
  obtain ⟨a, n, c, zs, rfl, rfl, h1, h2, h3, h4⟩ := open_rep ht he hc hval hd
  have hl : (zs.map fun z => UInt8.ofNat z.toNat).length = zs.length := by simp
  refine ⟨zs.map fun z => UInt8.ofNat z.toNat, a, c, _, by rw [hl], by rw [hl]; exact h1, h2, h3, bytes_map.2 ?_⟩
  rw [List.map_map]
  apply List.map_congr_left
  intro z hz
  have := h4 z hz
  have e1 : IntKind.u8.min = 0 := rfl
  have e2 : IntKind.u8.max = 255 := rfl
  simp only [Lit.wf, Bool.and_eq_true, decide_eq_true_eq, e1, e2] at this
  simp only [Function.comp_apply, Value.int.injEq, true_and, UInt8.toNat_ofNat']
  omega

/-- A contract, as the row's walk. -/
theorem below_of {w w' : World} (h : Same w w') (k : Keep none_ w.heap w'.heap) : Below w.heap.size w w' :=
  ⟨h.os, h.tape, h.output, k.size, fun i hi => k.blk i hi (fun h => h)⟩
theorem calls_of {f : FuncId} {args : Array Value} {w : World} (h : CallH P f args w.heap fun r h' => r = .bool true ∧ Keep none_ w.heap h') : Calls P f args w fun e w' => e = .returned (.bool true) ∧ Below w.heap.size w w' :=
  (h w rfl).mono fun e w' ⟨v, he, hs, hv, hk⟩ => ⟨by rw [he, hv], below_of hs hk⟩
end Go.HC

/-
  The bridge: arguments that stay as they were, all at once.
-/
namespace Go.HC
open Go.ChangeShapes Go.WideShapes Go.ChangeAt Go.RowKit Go.ChangeMaps
theorem below_trodAll {H : Type} {enc : TypeId × Value → H} {P : Program} (hl : laidOutB P = true) {W W' : World} (hb : Below W.heap.size W W') :
    ∀ {ts : List TypeId} {vs : List Value} {ds : List (DataW H)} {ps : List MemPlace}, (ts.all fun t => P.readableRec t && decide (t < P.types.size)) = true →
      DataW.TrodAll enc P W 0 (fun _ => true) true ts vs ds ps → (∀ x ∈ ps, x.block < W.heap.size) → DataW.TrodAll enc P W' 0 (fun b => decide (b < W.heap.size)) true ts vs ds ps
  | [], vs, ds, ps, _, h, _ => by
    obtain ⟨rfl, rfl, rfl⟩ := trodAll_nil h
    exact trodAll_mk0
  | t :: ts, vs, ds, ps, ht, h, hlt => by
    rw [List.all_cons, Bool.and_eq_true, Bool.and_eq_true] at ht
    obtain ⟨⟨h1, h2⟩, h3⟩ := ht
    obtain ⟨v, vs', d, ds', p, q, rfl, rfl, rfl, hd, hs⟩ := trodAll_cons h
    exact trodAll_cons_mk (Below.trod hl h1 (of_decide_eq_true h2) hd hb fun x hx => hlt x (List.mem_append.2 (.inl hx))) (below_trodAll hl hb h3 hs fun x hx => hlt x (List.mem_append.2 (.inr hx)))
theorem open_u8 {H : Type} {enc : TypeId × Value → H} {P : Program} {W : World} {r : Reach} {b0 : Nat} {t : TypeId} {v : Value} {d : DataW H} {ps : List MemPlace} (ht : P.underlying t = some (.int .u8)) (hval : Value.okWide P W r b0 t v)
    (hd : DataW.Trod enc P W 0 (fun _ => true) true t v d ps) : ∃ c : UInt8, v = .int .u8 c.toNat := by
  obtain ⟨a, rfl, _, _, wa⟩ := open_int ht hval hd
  have e1 : IntKind.u8.min = 0 := rfl
  have e2 : IntKind.u8.max = 255 := rfl
  simp only [Lit.wf, Bool.and_eq_true, decide_eq_true_eq, e1, e2] at wa
  refine ⟨UInt8.ofNat a.toNat, ?_⟩
  simp only [Value.int.injEq, true_and, UInt8.toNat_ofNat']
  omega
theorem open_str {H : Type} {enc : TypeId × Value → H} {P : Program} {W : World} {r : Reach} {b0 : Nat} {t : TypeId} {v : Value} {d : DataW H} {ps : List MemPlace} (ht : P.underlying t = some .string) (hval : Value.okWide P W r b0 t v)
    (hd : DataW.Trod enc P W 0 (fun _ => true) true t v d ps) : ∃ s : ByteArray, v = .string s ∧ s.size ≤ 9223372036854775807 := by
  obtain ⟨s, rfl, _, _, hs⟩ := open_string ht hval hd
  exact ⟨s, rfl, hs⟩
end Go.HC
