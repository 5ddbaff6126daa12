/-
  The document's cells as bytes.
-/
import Derived.Test.YtgjklplbldgodaaGreatDoorKBe

namespace Go.HC
def tripB (c : CellM) (k : Nat) : List UInt8 := w8 (c.sum.getD k 0) ++ w8 (c.mn.getD k 0) ++ w8 (c.mx.getD k 0)
def zcellB (c : CellM) : List UInt8 := c.key.map byteM ++ w2 c.count ++ (List.range c.sum.length).flatMap (tripB c)
theorem zencC_eq (set : Int) (l : List CellM) : encC set l = [byteM set] ++ w2 l.length ++ l.flatMap zcellB := rfl
theorem tripB_len (c : CellM) (k : Nat) : (tripB c k).length = 24 := by unfold tripB; simp [w8_len]
theorem rangeF_snoc {n j : Nat} (f : Nat → List UInt8) (hj : j < n) : ((List.range n).take (j + 1)).flatMap f = ((List.range n).take j).flatMap f ++ f j := by
  have h := flat_snoc f (l := List.range n) (i := j) (by simpa using hj)
  rw [List.getElem_range] at h
  exact h
end Go.HC
namespace Go.Proofs
open Go Go.HC

set_option maxHeartbeats 8000000 in
set_option maxRecDepth 10000 in
theorem cencode_spec {h : Heap} {lv : Value} {l : List CellM} {m : Nat} (set : Int) (hl : SlRep rCell (Old h) h lv l) (hn : l.length ≤ 1000) (hm : m ≤ 4) (hc : ∀ c ∈ l, Sml m c) :
    CallH Tryz.prog 38 #[.int .i64 set, lv] h fun r h' => SlRep rByte (Ft h.size none_ h') h' r (encC set l) ∧ Keep none_ h h' := by
  refine callH_by fun K hK => ?_
  refine enter [.tmp 4] Tryz.func38 rfl rfl (by kernel_rfl) rfl ?_
  obtain ⟨a1, c1, rfl, _, _⟩ := hl.val
  have hcb : ∀ c ∈ l, (zcellB c).length ≤ 200 := fun c hcc => by
    have h1 := hc c hcc
    have h2 := flat_len (f := tripB c) (k := 24) (l := List.range c.sum.length) fun x _ => by rw [tripB_len]; exact Nat.le_refl _
    rw [List.length_range, h1.sum] at h2
    have h3 := h1.key
    have h4 : (w2 c.count).length = 2 := rfl
    unfold zcellB
    rw [List.length_append, List.length_append, List.length_map, h4, h1.sum]
    omega
  have hpre : ∀ i, ((l.take i).flatMap zcellB).length ≤ 200000 := fun i => by
    have h2 := flat_len (f := zcellB) (k := 200) (l := l.take i) fun x hx => hcb x (List.mem_of_mem_take hx)
    rw [List.length_take] at h2
    omega
  simp -dsimp [wrap_byte]
  generalize hB : Array.push h _ = h1
  have z1 : h1.size = h.size + 1 := by rw [← hB]; simp
  have k01 : Keep none_ h h1 := by rw [← hB]; exact .push _ _ _
  have wB : h1[h.size]? = some (.cells #[.int .u8 (byteM set).toNat] 5 (0, 0)) := by rw [← hB]; exact push_new _ _
  obtain ⟨M1, eM⟩ : ∃ M1 : Nat → Prop, M1 = fun b => b = h.size := ⟨_, rfl⟩
  have hM1 : ∀ b, M1 b ↔ b = h.size := fun b => by rw [eM]
  have g1 : Gr rByte 5 h.size M1 h1 (.slice (some ⟨h.size, 0, none⟩) 1 1) [byteM set] (some h.size) := Gr.raw wB ((hM1 _).2 rfl) rfl rfl (Nat.le_refl _) (by decide) rfl (bytes_map.2 rfl)
  have t1 : Tr none_ M1 h h1 := ⟨k01, fun b hb => .inr (by have := (hM1 b).1 hb; omega), fun b hb => by have := (hM1 b).1 hb; omega⟩
  refine call_by (rtwo1_spec l.length h1) ?_
  rintro _ h2 ⟨⟨aw, cw, rfl⟩, sw, k2⟩
  have hw2 : ∀ n, (w2 n).length = 2 := fun n => rfl
  simp -dsimp
  refine gr_bytes byteT (g1.call k2) (t1.call k2).lt sw (by simp [hw2]) (by simp [hw2]) ?_
  intro v3 h3 own3 g3 t3 k3 ho3
  have t03 := (t1.call k2).trans t3
  obtain ⟨P, eP⟩ : ∃ P, P = [byteM set] ++ w2 l.length := ⟨_, rfl⟩
  have hPl : P.length = 3 := by rw [eP]; rfl
  rw [← eP] at g3
  simp -dsimp
  refine loopc (σ := Nat × Value) (fun t => [(1, .slice a1 l.length c1), (5, t.2), (6, .int .i64 t.1)])
    (fun t y => t.1 ≤ l.length ∧ ∃ M own, Tr none_ M h y ∧ Gr rByte 5 h.size M y t.2 (P ++ (l.take t.1).flatMap zcellB) own) (fun t => l.length - t.1) (0, v3) 0 (fun t _ => t.1 = l.length) noRet noRet_le (by simp)
    ⟨Nat.zero_le _, _, own3, t03, by simpa using g3⟩ (by kernel_rfl) ?_ ?_
  · rintro ⟨i, v⟩ y g ⟨hi, M, own, t, gv⟩
    simp only at hi gv
    have wi := wrap_succ (k := i) (by omega)
    by_cases hil : i < l.length
    · obtain ⟨bl, ol, cs, rfl, hFl, hrep, hxl⟩ := hl.get i hil
      obtain ⟨ka, kc, sa, sc, na, nc, xa, xc, rfl, qk, qs, qn, qx⟩ := cell_open hrep
      have hx := (congrArg (HC.cellsIn · (ol + i * 5) 5) (t.old bl hFl).2).trans hxl
      have hci := hc l[i] (List.getElem_mem hil)
      have hpi := hpre i
      obtain ⟨c, ec⟩ : ∃ c, c = l[i] := ⟨_, rfl⟩
      rw [← ec] at qk qs qn qx hx hci
      obtain ⟨B, eB⟩ : ∃ B, B = P ++ (l.take i).flatMap zcellB := ⟨_, rfl⟩
      have hBl : B.length ≤ 200003 := by rw [eB, List.length_append]; omega
      rw [← eB] at gv
      have hkl := hci.key
      have hsl := hci.sum
      have hnl := hci.mn
      have hxl' := hci.mx
      simp -dsimp [hil, idxA_nat hil, hx]
      rw [push_set rfl]
      generalize hY : Array.push y _ = y1
      have ky : Keep none_ y y1 := by rw [← hY]; exact .push _ _ _
      have wC : y1[y.size]? = some (.cells #[.slice ka c.key.length kc, .int .i64 c.count, .slice sa c.sum.length sc, .slice na c.mn.length nc, .slice xa c.mx.length xc] 65 (0, 0)) := by rw [← hY]; exact push_new _ _
      have t0 := t.call ky
      have gv0 := gv.call ky
      have fC : ∀ {M' : Nat → Prop} {z : Heap}, Tr M M' y1 z → z[y.size]? = _ := fun T => T.at wC fun hb => by have := t.lt _ hb; omega
      refine loopc (σ := Nat × Value) (fun t => [(1, .slice (some ⟨bl, ol, none⟩) l.length c1), (5, t.2), (6, .int .i64 i), (7, .pointer (some ⟨y.size, 0, none⟩)), (8, .int .i64 t.1)])
        (fun t z => t.1 ≤ c.key.length ∧ ∃ M' own, Tr M M' y1 z ∧ Gr rByte 5 h.size M' z t.2 (B ++ (c.key.take t.1).map byteM) own) (fun t => c.key.length - t.1) (0, v) 2 (fun t _ => t.1 = c.key.length) noRet noRet_le (by simp)
        ⟨Nat.zero_le _, M, own, t0.here, by simpa using gv0⟩ (by kernel_rfl) ?_ ?_
      · rintro ⟨j, v⟩ z g ⟨hj, M', own, T, gv⟩
        simp only at hj gv
        have wj := wrap_succ (k := j) (by omega)
        by_cases hjl : j < c.key.length
        · obtain ⟨b5, o5, rfl, hF5, hc5⟩ := (qk.mono (t0.trans T).old).int_at j hjl
          simp -dsimp [fC T, idxA_nat hjl, hjl, hc5, wrap_byte]
          refine gr_app1 (x := byteM c.key[j]) rfl byteT gv T.lt rfl rfl (by simp; omega) (by simp; omega) ?_
          intro v5 h5 own5 g5 t5 k5 ho5
          simp -dsimp [wj]
          exact ⟨(j + 1, v5), by simp, rfl, ⟨by show j + 1 ≤ _; omega, _, own5, T.trans t5, by show Gr rByte _ _ _ h5 v5 _ own5; rw [map_snoc byteM hjl, ← List.append_assoc]; exact g5⟩, by show c.key.length - (j + 1) < c.key.length - j; omega⟩
        · simp -dsimp [fC T, hjl]
          exact ⟨rfl, (j, v), by simp, rfl, ⟨hj, M', own, T, gv⟩, by show j = c.key.length; omega⟩
      rintro ⟨j, v⟩ z g ⟨hj, M', own, T, gv⟩ hjl
      simp only at hj gv hjl
      subst hjl
      rw [List.take_length] at gv
      simp -dsimp [fC T]
      refine call_by (rtwo1_spec c.count z) ?_
      rintro _ z2 ⟨⟨aw, cw, rfl⟩, sw, kz⟩
      simp -dsimp
      refine gr_bytes byteT (gv.call kz) (T.call kz).lt sw (by simp [hw2]; omega) (by simp [hw2]; omega) ?_
      intro v5 z3 own5 g5 t5 k5 ho5
      have T3 := (T.call kz).trans t5
      obtain ⟨C, eC⟩ : ∃ C, C = B ++ c.key.map byteM ++ w2 c.count := ⟨_, rfl⟩
      have hCl : C.length ≤ 201000 := by rw [eC]; simp [hw2]; omega
      rw [← eC] at g5
      simp -dsimp
      refine loopc (σ := Nat × Value) (fun t => [(1, .slice (some ⟨bl, ol, none⟩) l.length c1), (5, t.2), (6, .int .i64 i), (7, .pointer (some ⟨y.size, 0, none⟩)), (9, .int .i64 t.1)])
        (fun t z => t.1 ≤ c.sum.length ∧ ∃ M' own, Tr M M' y1 z ∧ Gr rByte 5 h.size M' z t.2 (C ++ ((List.range c.sum.length).take t.1).flatMap (tripB c)) own) (fun t => c.sum.length - t.1) (0, v5) 4 (fun t _ => t.1 = c.sum.length) noRet noRet_le (by simp)
        ⟨Nat.zero_le _, _, own5, T3, by simpa using g5⟩ (by kernel_rfl) ?_ ?_
      · rintro ⟨j, v⟩ z0 g ⟨hj, M0, own0, T0, gv⟩
        simp only at hj gv
        have wj := wrap_succ (k := j) (by omega)
        by_cases hjl : j < c.sum.length
        · have hjn : j < c.mn.length := by omega
          have hjx : j < c.mx.length := by omega
          obtain ⟨bs, os', e1, hFs, hs0⟩ := qs.int_at j hjl
          obtain ⟨bn, on, e2, hFn, hn0⟩ := qn.int_at j hjn
          obtain ⟨bx, ox, e3, hFx, hx0⟩ := qx.int_at j hjx
          subst e1; subst e2; subst e3
          have fs : ∀ {M' : Nat → Prop} {z : Heap}, Tr M M' y1 z → HC.cellIn z[bs]? (os' + j) = _ := fun T => (congrArg (HC.cellIn · (os' + j)) ((t0.trans T).old bs hFs).2).trans hs0
          have fn : ∀ {M' : Nat → Prop} {z : Heap}, Tr M M' y1 z → HC.cellIn z[bn]? (on + j) = _ := fun T => (congrArg (HC.cellIn · (on + j)) ((t0.trans T).old bn hFn).2).trans hn0
          have fx : ∀ {M' : Nat → Prop} {z : Heap}, Tr M M' y1 z → HC.cellIn z[bx]? (ox + j) = _ := fun T => (congrArg (HC.cellIn · (ox + j)) ((t0.trans T).old bx hFx).2).trans hx0
          have hfl := flat_len (f := tripB c) (k := 24) (l := (List.range c.sum.length).take j) fun x _ => by rw [tripB_len]; exact Nat.le_refl _
          rw [List.length_take] at hfl
          obtain ⟨D, eD⟩ : ∃ D, D = C ++ ((List.range c.sum.length).take j).flatMap (tripB c) := ⟨_, rfl⟩
          have hDl : D.length ≤ 202000 := by rw [eD, List.length_append]; omega
          rw [← eD] at gv
          have e8 := w8_len c.sum[j]
          have e9 := w8_len c.mn[j]
          have e10 := w8_len c.mx[j]
          simp -dsimp [fC T0, hjl]
          refine drawn_by [⟨0, true, []⟩, ⟨1, true, []⟩, ⟨2, true, []⟩, ⟨3, true, []⟩, ⟨4, true, []⟩, ⟨5, true, []⟩, ⟨8, true, []⟩, ⟨9, true, []⟩, ⟨10, true, []⟩, ⟨11, true, []⟩, ⟨12, true, []⟩, ⟨15, true, []⟩, ⟨16, true, []⟩, ⟨17, true, []⟩, ⟨18, true, []⟩, ⟨19, true, []⟩, ⟨6, false, [0, 8, 9, 10, 11, 12, 15, 16, 17, 18, 19]⟩, ⟨7, false, [8, 9, 10, 11, 12, 15, 16, 17, 18, 19]⟩, ⟨13, false, [15, 16, 17, 18, 19]⟩, ⟨14, false, [15, 16, 17, 18, 19]⟩, ⟨20, false, []⟩, ⟨21, false, []⟩, ⟨22, true, []⟩] (by kernel_rfl) (by kernel_rfl) ?_
          simp -dsimp [fC T0, idxV_nat hjl, idxV_nat hjn, idxV_nat hjx, elSz_eq, fs T0, fn T0, fx T0]
          refine call_by (reight_spec c.sum[j] z0) ?_
          rintro _ z1 ⟨⟨aw, cw, rfl⟩, sw1, k1⟩
          have T1 := T0.call k1
          simp -dsimp [again_cons, fC T1, idxV_nat hjl, idxV_nat hjn, idxV_nat hjx, elSz_eq, fs T1, fn T1, fx T1]
          refine gr_bytes byteT (gv.call k1) T1.lt sw1 (by rw [e8]; omega) (by rw [e8]; omega) ?_
          intro v2 z2 own2 g2 t2 k2 ho2
          have T2 := T1.trans t2
          simp -dsimp [again_cons, fC T2, idxV_nat hjl, idxV_nat hjn, idxV_nat hjx, elSz_eq, fs T2, fn T2, fx T2]
          refine call_by (reight_spec c.mn[j] z2) ?_
          rintro _ z3 ⟨⟨aw, cw, rfl⟩, sw3, k3⟩
          have T3 := T2.call k3
          simp -dsimp [again_cons, fC T3, idxV_nat hjl, idxV_nat hjn, idxV_nat hjx, elSz_eq, fs T3, fn T3, fx T3]
          refine gr_bytes byteT (g2.call k3) T3.lt sw3 (by rw [List.length_append, e8, e9]; omega) (by rw [List.length_append, e8, e9]; omega) ?_
          intro v4 z4 own4 g4 t4 k4 ho4
          have T4 := T3.trans t4
          simp -dsimp [again_cons, fC T4, idxV_nat hjl, idxV_nat hjn, idxV_nat hjx, elSz_eq, fs T4, fn T4, fx T4]
          refine call_by (reight_spec c.mx[j] z4) ?_
          rintro _ z5 ⟨⟨aw, cw, rfl⟩, sw5, k5⟩
          have T5 := T4.call k5
          simp -dsimp [again_cons]
          refine gr_bytes byteT (g4.call k5) T5.lt sw5 (by rw [List.length_append, List.length_append, e8, e9, e10]; omega) (by rw [List.length_append, List.length_append, e8, e9, e10]; omega) ?_
          intro v6 z6 own6 g6 t6 k6 ho6
          have T6 := T5.trans t6
          have etr : tripB c j = w8 c.sum[j] ++ w8 c.mn[j] ++ w8 c.mx[j] := by
            unfold tripB
            rw [List.getD_eq_getElem?_getD, List.getD_eq_getElem?_getD, List.getD_eq_getElem?_getD, List.getElem?_eq_getElem hjl, List.getElem?_eq_getElem hjn, List.getElem?_eq_getElem hjx]
            rfl
          simp -dsimp [wj]
          exact ⟨(j + 1, v6), by simp, rfl, ⟨by show j + 1 ≤ _; omega, _, own6, T6, by show Gr rByte _ _ _ z6 v6 _ own6; rw [rangeF_snoc _ hjl, ← List.append_assoc, ← eD, etr, ← List.append_assoc, ← List.append_assoc]; exact g6⟩, by show c.sum.length - (j + 1) < c.sum.length - j; omega⟩
        · simp -dsimp [fC T0, hjl]
          exact ⟨rfl, (j, v), by simp, rfl, ⟨hj, M0, own0, T0, gv⟩, by show j = c.sum.length; omega⟩
      rintro ⟨j, v⟩ z4 g ⟨hj, M', own, T, gv⟩ hjl
      simp only at hj gv hjl
      subst hjl
      rw [List.take_of_length_le (by simp)] at gv
      simp -dsimp [wi]
      exact ⟨(i + 1, v), by simp, rfl, ⟨by show i + 1 ≤ _; omega, M', own, t0.trans T, by
        show Gr rByte _ _ _ z4 v _ own
        rw [flat_snoc zcellB hil, ← List.append_assoc, ← eB, ← ec]
        unfold zcellB
        rw [← List.append_assoc, ← List.append_assoc, ← eC]
        exact gv⟩, by show l.length - (i + 1) < l.length - i; omega⟩
    · simp -dsimp [hil]
      exact ⟨rfl, (i, v), by simp, rfl, ⟨hi, M, own, t, gv⟩, by show i = l.length; omega⟩
  rintro ⟨i, v⟩ y g ⟨hi, M, own, t, gv⟩ hil
  simp only at hi gv hil
  subst hil
  rw [List.take_length, eP, ← zencC_eq] at gv
  simp -dsimp
  exact hK _ _ ⟨gv.rep (Nat.le_refl _) (fun b hb => t.fresh b (gv.mu b hb)), t.keep⟩
end Go.Proofs

/-
  How big a store gets: writes, syncs.
-/
namespace Go.HC
theorem Mod.Small.up {M : Mod} {m m' : Nat} (h : M.Small m) (hm : m ≤ m') : M.Small m' := ⟨Nat.le_trans h.used hm, Nat.le_trans h.files hm, Nat.le_trans h.trace hm⟩
theorem small_write {M : Mod} {m : Nat} (hs : SortedF M.files) (h : M.Small m) (x : Nm) (b : List UInt8) : (M.write x b).2.Small (m + b.length + 1) := by
  unfold Mod.write
  split
  · exact h.up (by omega)
  · split
    · exact h.up (by omega)
    · have h1 := used_put (x := x) (f := ⟨b, (M.look x).bind (·.sure), false⟩) hs
      have h2 := length_put (x := x) (f := ⟨b, (M.look x).bind (·.sure), false⟩) (l := M.files)
      have := h.used
      have := h.files
      have := h.trace
      simp only at h1
      refine ⟨?_, ?_, ?_⟩
      · show usedF (putF _ _ _) ≤ _; omega
      · show (putF _ _ _).length ≤ _; omega
      · show (M.trace ++ [_]).length ≤ _; simp; omega
theorem small_sync {M : Mod} {m : Nat} (hs : SortedF M.files) (h : M.Small m) (x : Nm) : (M.sync x).2.Small (m + 1) := by
  unfold Mod.sync
  split
  · exact h.up (by omega)
  · rename_i f hf
    have h1 := used_put (x := x) (f := ⟨f.now, some f.now, true⟩) hs
    have h2 := length_put (x := x) (f := ⟨f.now, some f.now, true⟩) (l := M.files)
    have hf' : lookF x M.files = some f := hf
    rw [hf'] at h1
    have := h.used
    have := h.files
    have := h.trace
    simp only [Option.map_some, Option.getD_some] at h1
    refine ⟨?_, ?_, ?_⟩
    · show usedF (putF _ _ _) ≤ _; omega
    · show (putF _ _ _).length ≤ _; omega
    · show (M.trace ++ [_]).length ≤ _; simp; omega
end Go.HC

/-
  law14's stores, plainly: two that hold the same; what is there behind Start and Both.
-/
namespace Go.HC
/-- Names, and what stands in the files. -/
def nowL (l : Files) : List (Nm × List UInt8) := l.map fun p => (p.1, p.2.now)
def putN (x : Nm) (b : List UInt8) : List (Nm × List UInt8) → List (Nm × List UInt8)
  | [] => [(x, b)]
  | p :: l => if x = p.1 then (x, b) :: l else if nLt x p.1 then (x, b) :: p :: l else p :: putN x b l
def lookN (x : Nm) : List (Nm × List UInt8) → Option (List UInt8)
  | [] => none
  | p :: l => if x = p.1 then some p.2 else lookN x l
theorem nowL_put (x : Nm) (f : FileM) : ∀ l : Files, nowL (putF x f l) = putN x f.now (nowL l)
  | [] => rfl
  | p :: l => by
    have ih := nowL_put x f l
    unfold nowL at ih ⊢
    rw [putF, List.map_cons, putN]
    split
    · rfl
    · split
      · rfl
      · rw [List.map_cons, ih]
theorem lookN_now (x : Nm) : ∀ l : Files, lookN x (nowL l) = (lookF x l).map (·.now)
  | [] => rfl
  | p :: l => by
    have ih := lookN_now x l
    unfold nowL at ih ⊢
    rw [List.map_cons, lookN, lookF]
    split
    · rfl
    · exact ih
theorem nowL_same {x : Nm} {f g : FileM} (he : f.now = g.now) : ∀ {l : Files}, SortedF l → lookF x l = some f → nowL (putF x g l) = nowL l
  | [], _, h => by cases h
  | p :: l, hs, h => by
    obtain ⟨h1, h2⟩ := List.pairwise_cons.1 hs
    rw [lookF] at h
    rw [putF]
    split
    · rename_i hx
      rw [if_pos hx] at h
      cases h
      unfold nowL
      rw [List.map_cons, List.map_cons]
      simp only
      rw [← he, hx]
    · rename_i hx
      rw [if_neg hx] at h
      rw [if_neg fun hlt => by
        have := h1 _ (mem_lookF h)
        exact nLt_asymm hlt this]
      have ih := nowL_same he h2 h
      unfold nowL at ih ⊢
      rw [List.map_cons, List.map_cons, ih]
theorem usedF_now : ∀ l : Files, usedF l = ((nowL l).map fun p => p.2.length).sum
  | [] => rfl
  | p :: l => by
    have ih := usedF_now l
    unfold nowL at ih ⊢
    rw [usedF_cons, List.map_cons, List.map_cons, List.sum_cons, ih]
/-- Two stores that hold the same files. -/
structure Alike (M N : Mod) : Prop where
  now : nowL M.files = nowL N.files
  limit : M.limit = N.limit
theorem Alike.refl (M : Mod) : Alike M M := ⟨rfl, rfl⟩
theorem Alike.symm {M N : Mod} (h : Alike M N) : Alike N M := ⟨h.now.symm, h.limit.symm⟩
theorem Alike.trans {M N O : Mod} (h : Alike M N) (h' : Alike N O) : Alike M O := ⟨h.now.trans h'.now, h.limit.trans h'.limit⟩
theorem Alike.look {M N : Mod} (h : Alike M N) (x : Nm) : (M.look x).map (·.now) = (N.look x).map (·.now) := by
  unfold Mod.look
  rw [← lookN_now, ← lookN_now, h.now]
theorem Alike.isSome {M N : Mod} (h : Alike M N) (x : Nm) : (M.look x).isSome = (N.look x).isSome := by
  have := congrArg Option.isSome (h.look x)
  rwa [Option.isSome_map, Option.isSome_map] at this
theorem Alike.nowOf {M N : Mod} (h : Alike M N) (x : Nm) : M.nowOf x = N.nowOf x := by unfold Mod.nowOf; rw [h.look]
theorem Alike.used {M N : Mod} (h : Alike M N) : usedF M.files = usedF N.files := by rw [usedF_now, usedF_now, h.now]
theorem Alike.names {M N : Mod} (h : Alike M N) : M.names = N.names := by
  have e : ∀ M : Mod, M.names = (nowL M.files).map (·.1) := fun M => by unfold Mod.names nowL; rw [List.map_map]; rfl
  rw [e, e, h.now]
theorem Alike.fits {M N : Mod} (h : Alike M N) (x : Nm) (b : List UInt8) : M.fits x b = N.fits x b := by unfold Mod.fits; rw [h.used, h.nowOf, h.limit]
theorem Alike.write {M N : Mod} (h : Alike M N) (x : Nm) (b : List UInt8) : Alike (M.write x b).2 (N.write x b).2 := by
  unfold Mod.write
  split
  · exact h
  · rw [h.fits]
    split
    · exact h
    · exact ⟨by unfold Mod.wrote; simp only; rw [nowL_put, nowL_put, h.now], h.limit⟩
theorem Alike.sync {M : Mod} (hs : SortedF M.files) (x : Nm) : Alike M (M.sync x).2 := by
  unfold Mod.sync
  split
  · exact .refl _
  · rename_i f hf
    exact ⟨(nowL_same (f := f) (g := ⟨f.now, some f.now, true⟩) rfl hs hf).symm, rfl⟩
/-- A write that fits. -/
theorem write_fits {M : Mod} {x : Nm} {b : List UInt8} (hn : nameOk x = true) (hf : (usedF M.files : Int) + b.length ≤ M.limit) : M.write x b = (0, M.wrote x b) := by
  unfold Mod.write
  rw [if_neg (by rw [hn]; decide)]
  have : M.fits x b = true := by
    unfold Mod.fits
    have := Int.natCast_nonneg (M.nowOf x).length
    exact decide_eq_true (by omega)
  rw [if_neg (by rw [this]; decide)]
theorem look_wrote (M : Mod) (x y : Nm) (b : List UInt8) : ((M.wrote x b).look y).map (·.now) = if y = x then some b else (M.look y).map (·.now) := by
  unfold Mod.look Mod.wrote
  simp only
  rw [lookF_put]
  split <;> rfl
theorem isSome_wrote (M : Mod) (x y : Nm) (b : List UInt8) : ((M.wrote x b).look y).isSome = (decide (y = x) || (M.look y).isSome) := by
  have := congrArg Option.isSome (look_wrote M x y b)
  rw [Option.isSome_map] at this
  rw [this]
  by_cases h : y = x
  · rw [if_pos h, decide_eq_true h]; rfl
  · rw [if_neg h, decide_eq_false h, Option.isSome_map]; rfl
theorem nowOf_wrote (M : Mod) (x y : Nm) (b : List UInt8) : (M.wrote x b).nowOf y = if y = x then b else M.nowOf y := by
  unfold Mod.nowOf
  rw [look_wrote]
  split <;> rfl
theorem name_ok : ∀ k : Fin 16, nameOk (nameK (k.val : Int)) = true ∧ nameK (k.val : Int) ≠ nmFact := by decide +kernel
theorem nameK_ok {k : Nat} (hk : k < 16) : nameOk (nameK (k : Int)) = true ∧ nameK (k : Int) ≠ nmFact := name_ok ⟨k, hk⟩
theorem nameK_eq {j k : Nat} (hj : j < 16) (hk : k < 16) : nameK (j : Int) = nameK (k : Int) ↔ j = k := ⟨fun h => by have := nameK_inj ⟨j, hj⟩ ⟨k, hk⟩ h; exact congrArg Fin.val this, fun h => by rw [h]⟩
theorem fact_ok : nameOk nmFact = true := by decide +kernel
/-- How long files are. -/
theorem encF_len {s : SchM} {rows : List RowM} (ok : FactsOk s rows) : (encF s rows).length = 8 + s.cards.length + rows.length * (s.cards.length + 8 * s.ms.toNat) := by
  have h := flat_size (f := rowB) (w := s.cards.length + 8 * s.ms.toNat) (l := rows) fun r hr => by rw [rowB_len, (ok.key r hr).1, (ok.m r hr).1]
  have e : encF s rows = [67, 85, 66, 49] ++ [byteM s.cards.length] ++ s.cards.map byteM ++ [byteM s.ms] ++ w2 rows.length ++ rows.flatMap rowB := rfl
  rw [e]
  simp only [List.length_append, h, List.length_map, List.length_cons, List.length_nil, w2]
  omega
theorem encC_len {s : SchM} {rows : List RowM} (ok : FactsOk s rows) {k : Int} (h0 : 0 ≤ k) (hk : k < 2 ^ s.cards.length) : (encC k (groupC (rows.map (ofM k)))).length ≤ 3 + rows.length * 54 := by
  have c := cub_ok ok h0 hk
  have hd := ok.dims
  have hm := ok.ms
  have hl : (dimsM k).length ≤ 4 := List.length_filter_le (bitM k) (List.range 4)
  have h := flat_size (f := cellB) (w := (dimsM k).length + 2 + 24 * s.ms.toNat) (l := groupC (rows.map (ofM k))) fun x hx => cellB_len (c.cel x hx)
  have hg := groupC_le (rows.map (ofM k))
  rw [List.length_map] at hg
  rw [encC_eq]
  simp only [List.length_append, h, List.length_cons, List.length_nil, w2]
  have h1 : (groupC (rows.map (ofM k))).length * ((dimsM k).length + 2 + 24 * s.ms.toNat) ≤ rows.length * 54 := Nat.mul_le_mul hg (by omega)
  omega
/-- The two stores of a law: the program's, the document's; facts, and cuboids of these sets. -/
structure Two (L : Int) (M N : Mod) (s : SchM) (rows : List RowM) (ks : List Nat) (n : Nat) : Prop where
  alike : Alike M N
  cube : CubeAt M s rows
  okM : M.Ok
  okN : N.Ok
  com : ∀ k : Nat, k < 16 → ((M.look (nameK k)).isSome = true ↔ k ∈ ks)
  smM : M.Small n
  smN : N.Small n
  limit : M.limit = L
theorem Alike.cube {M N : Mod} {s : SchM} {rows : List RowM} (h : Alike M N) (c : CubeAt M s rows) : CubeAt N s rows :=
  ⟨by rw [← h.isSome]; exact c.there, by rw [← h.nowOf]; exact c.fact, c.ok, fun k hk hs => by rw [← h.nowOf]; exact c.set k hk (by rw [h.isSome]; exact hs)⟩
theorem Alike.com {M N : Mod} (h : Alike M N) (rows : List RowM) : comM M rows = comM N rows := by
  funext k
  unfold comM
  rw [h.isSome]
/-- One cuboid more. -/
theorem Two.add {L : Int} {M N : Mod} {s : SchM} {rows : List RowM} {ks : List Nat} {n : Nat} (t : Two L M N s rows ks n) {k : Nat} (hk : k < 2 ^ s.cards.length) (hn : ((n + (encC k (groupC (rows.map (ofM k)))).length : Nat) : Int) ≤ L) :
    Two L (((M.write (nameK k) (encC k (groupC (rows.map (ofM k))))).2.sync (nameK k)).2) ((N.write (nameK k) (encC k (groupC (rows.map (ofM k))))).2) s rows (k :: ks) (n + (encC k (groupC (rows.map (ofM k)))).length + 2) := by
  have hd := t.cube.ok.dims
  have hp : 2 ^ s.cards.length ≤ 2 ^ 4 := Nat.pow_le_pow_right (by decide) hd.2
  have hk16 : k < 16 := by omega
  obtain ⟨b, eb⟩ : ∃ b, b = encC (k : Int) (groupC (rows.map (ofM (k : Int)))) := ⟨_, rfl⟩
  rw [← eb] at hn ⊢
  have hu := t.smM.used
  have hw := write_fits (M := M) (b := b) (nameK_ok hk16).1 (by rw [t.limit]; omega)
  have a1 := t.alike.write (nameK k) b
  have o1 := t.okM.write (nameK (k : Int)) b
  have a2 := Alike.sync o1.sorted (nameK (k : Int))
  have a3 := a2.symm.trans a1
  have hc : CubeAt (M.write (nameK (k : Int)) b).2 s rows := by
    rw [hw]
    refine ⟨?_, ?_, t.cube.ok, fun j hj hs => ?_⟩
    · rw [isSome_wrote, t.cube.there, Bool.or_true]
    · rw [nowOf_wrote, if_neg fun e => (nameK_ok hk16).2 e.symm]; exact t.cube.fact
    · have hj16 : j < 16 := by omega
      rw [nowOf_wrote]
      by_cases e : j = k
      · subst e; rw [if_pos rfl, eb]
      · rw [if_neg fun e' => e ((nameK_eq hj16 hk16).1 e')]
        rw [isSome_wrote, decide_eq_false fun e' => e ((nameK_eq hj16 hk16).1 e'), Bool.false_or] at hs
        exact t.cube.set j hj hs
  have s1 := small_write t.okM.sorted t.smM (nameK (k : Int)) b
  have s2 := small_sync o1.sorted s1 (nameK (k : Int))
  have s3 := small_write t.okN.sorted t.smN (nameK (k : Int)) b
  refine ⟨a3, a2.cube hc, o1.sync _, t.okN.write _ _, fun j hj => ?_, s2.up (by omega), s3.up (by omega), by rw [← a2.limit, hw]; exact t.limit⟩
  rw [← a2.isSome, hw, isSome_wrote, Bool.or_eq_true, t.com j hj, decide_eq_true_eq, nameK_eq hj hk16, List.mem_cons]
/-- Facts alone. -/
theorem Two.start {L : Int} {s : SchM} {rows : List RowM} (ok : FactsOk s rows) (hL : ((encF s rows).length : Int) ≤ L) :
    Two L (((Mod.new L).write nmFact (encF s rows)).2.sync nmFact).2 (((Mod.new L).write nmFact (encF s rows)).2.sync nmFact).2 s rows [] ((encF s rows).length + 2) := by
  obtain ⟨b, eb⟩ : ∃ b, b = encF s rows := ⟨_, rfl⟩
  rw [← eb] at hL ⊢
  have hw := write_fits (M := Mod.new L) (x := nmFact) (b := b) fact_ok (by show ((0 : Nat) : Int) + _ ≤ L; omega)
  have o0 := Mod.Ok.new L
  have o1 := o0.write nmFact b
  have a2 := Alike.sync o1.sorted nmFact
  have hno : ∀ x, (Mod.new L).look x = none := fun x => rfl
  have hd := ok.dims
  have hp : 2 ^ s.cards.length ≤ 2 ^ 4 := Nat.pow_le_pow_right (by decide) hd.2
  have hc : CubeAt ((Mod.new L).write nmFact b).2 s rows := by
    rw [hw]
    refine ⟨?_, ?_, ok, fun j hj hs => ?_⟩
    · rw [isSome_wrote, decide_eq_true rfl]; rfl
    · rw [nowOf_wrote, if_pos rfl, eb]
    · rw [isSome_wrote, decide_eq_false (nameK_ok (k := j) (by omega)).2, hno] at hs
      cases hs
  have s0 : (Mod.new L).Small 0 := ⟨Nat.le_refl _, Nat.le_refl _, Nat.le_refl _⟩
  have s1 := small_write o0.sorted s0 nmFact b
  have s2 := small_sync o1.sorted s1 nmFact
  refine ⟨.refl _, a2.cube hc, o1.sync _, o1.sync _, fun j hj => ?_, s2.up (by omega), s2.up (by omega), by rw [← a2.limit, hw]; rfl⟩
  rw [← a2.isSome, hw, isSome_wrote, decide_eq_false (nameK_ok hj).2, hno]
  simp
/-- What facts of numbers take. -/
theorem facts_len {s : SchM} {rows : List RowM} (ok : FactsOk s rows) (hr : rows.length ≤ 40) : (encF s rows).length ≤ 812 := by
  have hd := ok.dims
  have hm := ok.ms
  have hl := encF_len ok
  have h1 : rows.length * (s.cards.length + 8 * s.ms.toNat) ≤ 40 * 20 := Nat.mul_le_mul hr (by omega)
  omega
theorem factsM_len (d : Int) (cards : List Int) (m : Int) (ns : List Int) : (factsM d cards m ns).2.length ≤ 40 := by
  simp only [factsM, List.length_map]
  exact List.length_take_le 40 ns
end Go.HC

/-
  law13's Start, law14's Both.
-/
namespace Go.HC
/-- What stands ahead of n is as it was; what lay there reads as it did. -/
theorem late_old {hs y : Heap} (kk : Keep (fun b => hs.size ≤ b) hs y) : ∀ b, Old hs b → Old y b ∧ y[b]? = hs[b]? := fun b hb => by
  have e1 : y[b]? = hs[b]? := kk.blk b hb.2.1 (by have := hb.2.1; omega)
  exact ⟨⟨nz, Nat.lt_of_lt_of_le hb.2.1 kk.size, fun h => h⟩, e1⟩
theorem late_none {hs y : Heap} (kk : Keep (fun b => hs.size ≤ b) hs y) : Keep none_ hs y := ⟨kk.size, fun b hb _ => kk.blk b hb (by omega)⟩
theorem late_trans {hs y z : Heap} {F : Nat → Prop} (kk : Keep (fun b => hs.size ≤ b) hs y) (k : Keep F y z) (hF : ∀ b, F b → hs.size ≤ b) : Keep (fun b => hs.size ≤ b) hs z :=
  kk.trans k fun b _ hf => hF b hf
/-- The store with facts alone. -/
def stM (L : Int) (s : SchM) (rows : List RowM) : Mod := (((Mod.new L).write nmFact (encF s rows)).2.sync nmFact).2
end Go.HC
namespace Go.Proofs
open Go Go.HC
/-- Two stores that lie apart, and behind h0. -/
structure Pair (v w : Value) (F G : Nat → Prop) (n : Nat) (h : Heap) (M N : Mod) : Prop where
  st : StAt v F h M
  rf : RefAt w G h N
  f0 : ∀ b, F b → n ≤ b
  g0 : ∀ b, G b → n ≤ b
  dis : ∀ b, F b → ¬ G b
theorem Pair.keep {v w : Value} {F G S : Nat → Prop} {n : Nat} {h h' : Heap} {M N : Mod} (p : Pair v w F G n h M N) (k : Keep S h h') (hS : ∀ b, S b → b < n) : Pair v w F G n h' M N :=
  ⟨p.st.keep k fun b hb hs => by have := p.f0 b hb; have := hS b hs; omega, p.rf.keep k fun b hb hs => by have := p.g0 b hb; have := hS b hs; omega, p.f0, p.g0, p.dis⟩
theorem Pair.none {v w : Value} {F G : Nat → Prop} {n : Nat} {h h' : Heap} {M N : Mod} (p : Pair v w F G n h M N) (k : Keep none_ h h') : Pair v w F G n h' M N := p.keep k fun _ h => h.elim
/-- The program's store is changed. -/
theorem Pair.stepF {v w : Value} {F F' G : Nat → Prop} {n : Nat} {h h' : Heap} {M M' N : Mod} (p : Pair v w F G n h M N) (hn : n ≤ h.size) (s : StAt v F' h' M') (k : Keep F h h') (hF : ∀ b, F' b → F b ∨ h.size ≤ b) : Pair v w F' G n h' M' N :=
  ⟨s, p.rf.keep k fun b hb hs => p.dis b hs hb, fun b hb => (hF b hb).elim (p.f0 b) fun h => by omega, p.g0, fun b hb hg => (hF b hb).elim (fun h => p.dis b h hg) fun h => by have := p.rf.lt b hg; omega⟩
theorem Pair.stepG {v w : Value} {F G G' : Nat → Prop} {n : Nat} {h h' : Heap} {M N N' : Mod} (p : Pair v w F G n h M N) (hn : n ≤ h.size) (s : RefAt w G' h' N') (k : Keep G h h') (hG : ∀ b, G' b → G b ∨ h.size ≤ b) : Pair v w F G' n h' M N' :=
  ⟨p.st.keep k fun b hb hs => p.dis b hb hs, s, p.f0, fun b hb => (hG b hb).elim (p.g0 b) fun h => by omega, fun b hb hg => (hG b hg).elim (fun h => p.dis b hb h) fun h => by have := p.st.lt b hb; omega⟩

set_option maxHeartbeats 1000000 in
set_option maxRecDepth 10000 in
theorem start_spec {h : Heap} {cv rv : Value} {s : SchM} {rows : List RowM} (L : Int) (hc : SlRep rInt (Old h) h cv s.cards) (hr : SlRep rRow (Old h) h rv rows) (ok : FactsOk s rows) (hL : ((encF s rows).length : Int) ≤ L) (hL' : L ≤ 1000000000) :
    CallH Tryz.prog 41 #[.agg #[cv, .int .i64 s.ms], rv, .int .i64 L] h fun r h' => ∃ p w F G, r = .tuple #[.pointer (some p), w] ∧ Pair (.pointer (some p)) w F G h.size h' (stM L s rows) (stM L s rows) ∧ Keep none_ h h' := by
  refine callH_by fun K hK => ?_
  refine enter [.tmp 6, .tmp 7] Tryz.func41 rfl rfl (by kernel_rfl) rfl ?_
  have hc0 := hc
  have hr0 := hr
  obtain ⟨ca, cc, rfl, _, _⟩ := hc.val
  obtain ⟨ra, rc, rfl, _, _⟩ := hr.val
  have hlen := encF_len ok
  have hd := ok.dims
  have hms := ok.ms
  have hll := ok.len
  have hle : (encF s rows).length < 100000 := by
    have : rows.length * (s.cards.length + 8 * s.ms.toNat) ≤ 300 * 20 := Nat.mul_le_mul hll (by omega)
    omega
  simp -dsimp [boxS_eq]
  generalize hB : Array.push h _ = h0
  have k0 : Keep none_ h h0 := by rw [← hB]; exact .push _ _ _
  have z0 : h0.size = h.size + 1 := by rw [← hB]; simp
  have wA : h0[h.size]? = some (.cells #[.slice ca s.cards.length cc, .int .i64 s.ms] 30 (0, 0)) := by rw [← hB]; exact push_new _ _
  refine call_by (new_spec L h0) ?_
  rintro v h1 ⟨F0, s0, k1, hF0⟩
  have hvp : ∃ p, v = .pointer (some p) := by obtain ⟨bs, bm, es, clock, tv, own, R, rfl, _⟩ := s0; exact ⟨_, rfl⟩
  obtain ⟨vp, rfl⟩ := hvp
  simp -dsimp
  refine call_by (rnew_spec L h1) ?_
  rintro w h2 ⟨G0, g0, k2, hG0⟩
  have hwp : ∃ p, w = .pointer (some p) := by obtain ⟨bs, fv, of, lv, ol, R, rfl, _⟩ := g0; exact ⟨_, rfl⟩
  obtain ⟨wp, rfl⟩ := hwp
  have k02 : Keep none_ h h2 := (k0.trans k1 fun _ _ h => h).trans k2 fun _ _ h => h
  have wA2 := (k1.trans k2 fun _ _ h => h).at wA (fun h => h)
  have p2 : Pair (.pointer (some vp)) (.pointer (some wp)) F0 G0 h.size h2 (Mod.new L) (Mod.new L) := ⟨s0.keep k2 fun _ _ h => h, g0, fun b hb => by have := hF0 b hb; omega, fun b hb => by have := hG0 b hb; have := k1.size; omega, fun b hb hg => by have := s0.lt b hb; have := hG0 b hg; omega⟩
  simp -dsimp [wA2]
  refine call_by (rencode_spec (hc0.mono ((Tr.of k02).ft (Nat.le_refl 0))) (hr0.mono ((Tr.of k02).ft (Nat.le_refl 0))) hd.2 (by omega) fun r hr => ⟨by rw [(ok.key r hr).1]; omega, by rw [(ok.m r hr).1]; omega⟩) ?_
  rintro bv h3 ⟨hb, k3⟩
  have k03 : Keep none_ h h3 := k02.trans k3 fun _ _ h => h
  have p3 := p2.none k3
  have sm0 : (Mod.new L).Small 0 := ⟨Nat.le_refl _, Nat.le_refl _, Nat.le_refl _⟩
  have o0 := Mod.Ok.new L
  have sm1 := small_write o0.sorted sm0 nmFact (encF s rows)
  have o1 := o0.write nmFact (encF s rows)
  have z3 := k03.size
  have e1 : ((Mod.new L).write nmFact (encF s rows)).2.limit = L := by
    unfold Mod.write
    split
    · rfl
    · split <;> rfl
  simp -dsimp
  refine call_by (put13_spec p3.st sm0 (by omega) nmFact hb (fun b h => h.2.1) (by omega) sm1 (by omega)) ?_
  rintro _ h4 ⟨F1, s1, k4, hF1⟩
  have p4 := p3.stepF z3 s1 k4 hF1
  have t34 : ∀ b, Ft h2.size none_ h3 b → Old h4 b ∧ h4[b]? = h3[b]? := fun b hb => by
    have e : h4[b]? = h3[b]? := k4.blk b hb.2.1 fun hf => by have := p2.st.lt b hf; have := hb.1.1; omega
    exact ⟨⟨nz, Nat.lt_of_lt_of_le hb.2.1 k4.size, fun h => h⟩, e⟩
  simp -dsimp
  refine call_by (rwrite_spec p4.rf sm0 (by omega) (by show _ ≤ L; omega) (by show L ≤ _; omega) nmFact (hb.mono t34) (fun b h => h.2.1) (by omega)) ?_
  rintro _ h5 ⟨rfl, G1, g1, k5, hG1⟩
  have p5 := p4.stepG (by have := k4.size; omega) g1 k5 hG1
  simp -dsimp
  refine call_by (rsync_spec p5.rf sm1 (by omega) nmFact) ?_
  rintro _ h6 ⟨rfl, G2, g2, k6, hG2⟩
  have p6 := p5.stepG (by have := k4.size; have := k5.size; omega) g2 k6 hG2
  simp -dsimp
  refine hK _ _ ⟨vp, _, F1, G2, rfl, p6, ?_⟩
  have q4 : Keep none_ h h4 := k03.trans k4 fun b hb hf => absurd (p3.f0 b hf) (by omega)
  have q5 : Keep none_ h h5 := q4.trans k5 fun b hb hf => absurd (p4.g0 b hf) (by omega)
  exact q5.trans k6 fun b hb hf => absurd (p5.g0 b hf) (by omega)
end Go.Proofs

/-
  law14's Both.
-/
namespace Go.Proofs
open Go Go.HC

/-- The set that a number stands for. -/
def setN (cards : List Int) (x : Int) : Nat := (withinM x (2 ^ cards.length)).toNat
theorem setN_eq {cards : List Int} (x : Int) : ((setN cards x : Nat) : Int) = withinM x (2 ^ cards.length) := by
  have := withinM_bound (a := x) (pow2_pos cards.length)
  unfold setN
  omega
theorem setN_lt {cards : List Int} (x : Int) : setN cards x < 2 ^ cards.length := by
  have h1 := withinM_bound (a := x) (pow2_pos cards.length)
  have h2 := setN_eq (cards := cards) x
  have : ((2 ^ cards.length : Nat) : Int) = 2 ^ cards.length := by simp
  omega

set_option maxHeartbeats 1000000 in
set_option maxRecDepth 100000 in
theorem both14_spec {h : Heap} {d m p q : Int} {cv nv sv : Value} {cards ns sets : List Int} (hc : SlRep rInt (Old h) h cv cards) (hn : SlRep rInt (Old h) h nv ns) (hs : SlRep rInt (Old h) h sv sets) :
    CallH Tryz.prog 15 #[.agg #[.int .i64 d, .int .i64 m, .int .i64 p, .int .i64 q, cv, nv], sv] h fun r h' => ∃ vp w F G M N ks n, r = .tuple #[.pointer (some vp), w] ∧ Keep none_ h h' ∧ Pair (.pointer (some vp)) w F G h.size h' M N ∧
      Two 100000 M N (factsM d cards m ns).1 (factsM d cards m ns).2 ks n ∧ n ≤ 23000 ∧ ∀ j, (hj : j < sets.length) → j < 10 → setN (factsM d cards m ns).1.cards sets[j] ∈ ks := by
  refine callH_by fun K hK => ?_
  refine enter [.tmp 4, .tmp 5] Tryz.func15 rfl rfl (by kernel_rfl) rfl ?_
  have hc0 := hc
  have hn0 := hn
  have hs0 := hs
  obtain ⟨ca, cc, rfl, _, _⟩ := hc.val
  obtain ⟨na, nc, rfl, _, _⟩ := hn.val
  obtain ⟨sa, sc, rfl, hsc, _⟩ := hs.val
  have hok := factsM_ok d cards m ns
  have hr40 := factsM_len d cards m ns
  simp -dsimp [boxS_eq]
  generalize hB : Array.push h _ = h0
  have k0 : Keep none_ h h0 := by rw [← hB]; exact .push _ _ _
  have z0 : h0.size = h.size + 1 := by rw [← hB]; simp
  have wA : h0[h.size]? = some (.cells #[.int .i64 d, .int .i64 m, .int .i64 p, .int .i64 q, .slice ca cards.length cc, .slice na ns.length nc] 24 (0, 0)) := by rw [← hB]; exact push_new _ _
  try simp -dsimp [wA]
  refine call_by (smake_spec fun y ky => facts1_spec d m ((hc0.mono ((Tr.of (k0.trans ky fun _ _ h => h)).ft (Nat.le_refl 0)))) (hn0.mono ((Tr.of (k0.trans ky fun _ _ h => h)).ft (Nat.le_refl 0)))) ?_
  rintro _ h1 ⟨cv1, rv1, rfl, k1, hcv, hrv⟩
  generalize hfs : (factsM d cards m ns).1 = s at *
  generalize hfr : (factsM d cards m ns).2 = rows at *
  obtain ⟨c1a, c1c, rfl, _, _⟩ := hcv.val
  obtain ⟨r1a, r1c, rfl, _, _⟩ := hrv.val
  simp -dsimp
  generalize hD : Array.push (Array.push h1 _) _ = h2
  have k2 : Keep none_ h1 h2 := by rw [← hD]; exact ((Keep.refl none_ h1).pushed _).pushed _
  have z2 : h2.size = h1.size + 2 := by rw [← hD]; simp
  have v1 : h2[h1.size]? = some (.cells #[.slice none 0 0, .int .i64 0] 30 (0, 0)) := by rw [← hD]; exact push_at (push_new _ _)
  have v2 : h2[h1.size + 1]? = some (.cells #[.int .i64 0, .int .i64 0] 33 (0, 0)) := by rw [← hD]; exact push_get (by simp)
  have hsm1 : ∀ o, (Array.setIfInBounds h2 h1.size o)[h1.size]? = some o := fun o => set_same _ (lt_of_blk v1)
  simp -dsimp [v1, v2, set_other _ (show h1.size ≠ h1.size + 1 by omega), hsm1]
  generalize hE : Array.setIfInBounds (Array.setIfInBounds h2 _ _) _ _ = h3
  have kE : Keep none_ h1 h3 := by rw [← hE]; exact (k2.setted _ fun hh => by omega).setted _ fun hh => by omega
  have k13 : Keep none_ h h3 := (k0.trans k1 fun _ _ h => h).trans kE fun _ _ h => h
  have vS : h3[h1.size]? = some (.cells #[.slice c1a s.cards.length c1c, .int .i64 s.ms] 30 (0, 0)) := by rw [← hE]; exact (set_other _ (by omega)).trans (set_same _ (by omega))
  have hL : ((encF s rows).length : Int) ≤ 100000 := by have := facts_len hok hr40; omega
  have hd := hok.dims
  have hms := hok.ms
  have tE : ∀ b, Ft h0.size none_ h1 b → Old h3 b ∧ h3[b]? = h1[b]? := fun b hb => by
    have e : h3[b]? = h1[b]? := kE.blk b hb.2.1 (fun h => h)
    exact ⟨⟨nz, Nat.lt_of_lt_of_le hb.2.1 kE.size, fun h => h⟩, e⟩
  have rc3 := hcv.mono tE
  have rr3 := hrv.mono tE
  try simp -dsimp [vS]
  refine call_by (start_spec 100000 rc3 rr3 hok hL (by decide)) ?_
  rintro _ h4 ⟨vp, w, F0, G0, rfl, p4, k4⟩
  simp -dsimp
  have hp0 := pow2_pos s.cards.length
  have hp4 : (2 : Int) ^ s.cards.length ≤ 2 ^ 4 := pow2_le hd.2
  have hsh := shl_one (k := s.cards.length) (by omega)
  have hshv : binV Tryz.prog .shl 3 (.int .i64 1) (.int .u64 (IntKind.u64.wrap (s.cards.length : Int))) = some (.int .i64 (2 ^ s.cards.length)) := hsh
  have z13 := k13.size
  have vS4 := k4.at vS (fun h => h)
  have w0 : Keep (fun b => h3.size ≤ b) h3 h4 := k4.weaken fun _ _ h => h.elim
  have hle := facts_len hok hr40
  have hs3 : SlRep rInt (Old h3) h3 (.slice sa sets.length sc) sets := hs0.mono ((Tr.of k13).ft (Nat.le_refl 0))
  have hl1 := lt_of_blk vS
  refine loopc (σ := Nat) (fun i => [(1, .slice sa sets.length sc), (6, .pointer (some ⟨h1.size, 0, none⟩)), (7, .slice r1a rows.length r1c), (9, .pointer (some vp)), (10, w), (11, .int .i64 i)])
    (fun i y => (i ≤ sets.length ∧ i ≤ 10) ∧ Keep (fun b => h3.size ≤ b) h3 y ∧ ∃ F G M N ks n, Pair (.pointer (some vp)) w F G h3.size y M N ∧ Two 100000 M N s rows ks n ∧ n ≤ 900 + 2200 * i ∧ ∀ j, (hj : j < sets.length) → j < i → setN s.cards sets[j] ∈ ks)
    (fun i => 10 - i) 0 0 (fun i _ => ¬ (i < sets.length ∧ i < 10)) noRet noRet_le (by simp)
    ⟨⟨Nat.zero_le _, Nat.zero_le _⟩, w0, F0, G0, _, _, [], _, p4, Two.start hok hL, by omega, fun j _ hj => absurd hj (by omega)⟩ (by kernel_rfl) ?_ ?_
  case refine_2 =>
    rintro i y g ⟨⟨hi1, hi2⟩, ky, F, G, M, N, ks, n, py, ty, hn, hks⟩ hin
    simp -dsimp
    refine hK _ _ ⟨vp, w, F, G, M, N, ks, n, rfl, k13.trans (late_none ky) fun _ _ h => h, ⟨py.st, py.rf, fun b hb => by have := py.f0 b hb; omega, fun b hb => by have := py.g0 b hb; omega, py.dis⟩, ty, by omega, fun j hj h10 => hks j hj (by omega)⟩
  rintro i y g ⟨⟨hi1, hi2⟩, ky, F, G, M, N, ks, n, py, ty, hn, hks⟩
  have wi := wrap_succ (k := i) (by omega)
  have vSy : y[h1.size]? = _ := ky.at vS (by omega)
  by_cases hil : i < sets.length
  · by_cases h10 : i < 10
    · have h10' : (i : Int) < 10 := by omega
      obtain ⟨b1, o1, e1, _, hx⟩ := (hs3.mono (late_old ky)).int_at i hil
      subst e1
      obtain ⟨x, ex⟩ : ∃ x, x = sets[i] := ⟨_, rfl⟩
      rw [← ex] at hx
      have hk := setN_lt (cards := s.cards) x
      have hke := setN_eq (cards := s.cards) x
      have hkb := withinM_bound (a := x) hp0
      simp -dsimp [hil, h10']
      refine drawn_by [⟨0, true, []⟩, ⟨1, true, []⟩, ⟨2, true, []⟩, ⟨3, true, []⟩, ⟨4, true, []⟩, ⟨5, true, []⟩, ⟨6, true, []⟩, ⟨7, true, []⟩, ⟨8, true, []⟩, ⟨9, false, []⟩, ⟨10, true, []⟩] (by kernel_rfl) (by kernel_rfl) ?_
      simp -dsimp [-intRes_shl, vSy, idxV_nat hil, elSz_eq, hx, hshv]
      refine call_by (within14_spec x _ hp0 (by omega) _) ?_
      rintro _ y' ⟨rfl, hh⟩
      obtain rfl := hh.symm
      rw [← hke]
      obtain ⟨k, ek⟩ : ∃ k, k = setN s.cards x := ⟨_, rfl⟩
      rw [← ek] at hk hke ⊢
      simp -dsimp [again_cons]
      have hrow : ∀ r ∈ rows, r.key.length < 64 ∧ r.m.length = s.ms.toNat := fun r hr => ⟨by rw [(hok.key r hr).1]; omega, (hok.m r hr).1⟩
      refine call_by (rfacts_spec (m := s.ms.toNat) (k : Int) (rr3.mono (late_old ky)) (by omega) (by omega) hrow) ?_
      rintro lv y1 ⟨hl, k1'⟩
      have hz0 : (0 : Int) ≤ k := by omega
      have hz1 : (k : Int) < 2 ^ s.cards.length := by omega
      have hcub := cub_ok hok hz0 hz1
      simp -dsimp
      refine call_by (cencode_spec (m := s.ms.toNat) (k : Int) hl (by have := hcub.len; omega) (by omega) fun c hc => cel_sml (hcub.cel c hc)) ?_
      rintro bv y2 ⟨hb, k2'⟩
      have hlb := encC_len hok hz0 hz1
      have sm1 := small_write ty.okM.sorted ty.smM (nameK (k : Int)) (encC (k : Int) (groupC (rows.map (ofM (k : Int)))))
      simp -dsimp
      refine call_by (rname_spec hz0 (by omega) y2) ?_
      rintro _ y2a ⟨rfl, kna⟩
      have ky2 : Keep none_ y y2a := (k1'.trans k2' fun _ _ h => h).trans kna fun _ _ h => h
      have p2 := py.none ky2
      have z2' := ky2.size
      have zy := ky.size
      have hb := hb.mono fun b hb => (show Ft y1.size none_ y2a b ∧ y2a[b]? = y2[b]? from ⟨⟨hb.1.at (Nat.le_refl _) (kna.blk b hb.2.1 fun h => h), Nat.lt_of_lt_of_le hb.2.1 kna.size, fun h => h⟩, kna.blk b hb.2.1 fun h => h⟩)
      simp -dsimp
      refine call_by (put14_spec p2.st ty.smM (by omega) (nameK (k : Int)) hb (fun b h => h.2.1) (by omega) sm1 (by omega)) ?_
      rintro _ y3 ⟨F1, s3, k3, hF1⟩
      have p3 := p2.stepF (by omega) s3 k3 hF1
      have t23 : ∀ b, Ft y1.size none_ y2a b → Old y3 b ∧ y3[b]? = y2a[b]? := fun b hb => by
        have e : y3[b]? = y2a[b]? := k3.blk b hb.2.1 fun hf => by have := py.st.lt b hf; have := hb.1.1; have := k1'.size; omega
        exact ⟨⟨nz, Nat.lt_of_lt_of_le hb.2.1 k3.size, fun h => h⟩, e⟩
      simp -dsimp
      refine call_by (rname_spec hz0 (by omega) y3) ?_
      rintro _ y3a ⟨rfl, knb⟩
      have p3 := p3.none knb
      have hb3 := (hb.mono t23).mono ((Tr.of knb).ft (Nat.le_refl 0))
      simp -dsimp
      have hlim : N.limit = 100000 := by rw [← ty.alike.limit]; exact ty.limit
      refine call_by (rwrite_spec p3.rf ty.smN (by omega) (by omega) (by omega) (nameK (k : Int)) hb3 (fun b h => h.2.1) (by omega)) ?_
      rintro _ y4 ⟨rfl, G1, g4, k4', hG1⟩
      have z3' := k3.size
      have z3b := knb.size
      have p5 := p3.stepG (by omega) g4 k4' hG1
      have t5 := ty.add (k := k) hk (by omega)
      have q4 : Keep (fun b => h3.size ≤ b) h3 y4 := late_trans (late_trans (late_trans (late_trans ky ky2 fun _ h => h.elim) k3 p2.f0) knb fun _ h => h.elim) k4' p3.g0
      simp -dsimp [wi]
      refine ⟨i + 1, by simp, rfl, ⟨⟨hil, h10⟩, q4, F1, G1, _, _, k :: ks, _, p5, t5, by omega, fun j hj hji => ?_⟩, by show 10 - (i + 1) < 10 - i; omega⟩
      rcases Nat.lt_or_ge j i with h' | h'
      · exact List.mem_cons_of_mem _ (hks j hj h')
      · have : j = i := by omega
        subst this
        rw [← ex, ← ek]
        exact List.mem_cons_self
    · have h10' : ¬ (i : Int) < 10 := by omega
      simp -dsimp [hil, h10']
      exact ⟨rfl, i, by simp, rfl, ⟨⟨hi1, hi2⟩, ky, F, G, M, N, ks, n, py, ty, hn, hks⟩, fun hh => h10 hh.2⟩
  · simp -dsimp [hil]
    exact ⟨rfl, i, by simp, rfl, ⟨⟨hi1, hi2⟩, ky, F, G, M, N, ks, n, py, ty, hn, hks⟩, fun hh => hil hh.1⟩
end Go.Proofs

/-
  Queries, plainly: what is told, of any store of facts and cuboids.
-/
namespace Go.HC
/-- The cells that a query is told; its word; who serves it. -/
def ansM (com : Nat → Option (List CellM)) (cards : List Int) (a : Int) (fs : List FilM) : List CellM :=
  if rightM cards a fs = true then match serveM com (needM a fs) (2 ^ cards.length) with
    | some b => askM b.1 b.2 a fs
    | none => []
  else []
def errM (com : Nat → Option (List CellM)) (cards : List Int) (a : Int) (fs : List FilM) : Int :=
  if rightM cards a fs = true then match serveM com (needM a fs) (2 ^ cards.length) with
    | some _ => 0
    | none => 8
  else 7
def srvM (com : Nat → Option (List CellM)) (cards : List Int) (a : Int) (fs : List FilM) : Int × Bool :=
  if rightM cards a fs = true then match serveM com (needM a fs) (2 ^ cards.length) with
    | some b => (b.1, true)
    | none => (0, false)
  else (0, false)
theorem full_bits : ∀ d : Fin 5, ∀ i : Fin 4, i.val < d.val → bitM (((2 ^ d.val - 1 : Nat) : Nat) : Int) i.val = true := by decide +kernel
/-- A query's set, its filters' dimensions, lie within who serves it. -/
theorem serve_within {s : SchM} {rows : List RowM} (ok : FactsOk s rows) {a : Int} {fs : List FilM} (hr : rightM s.cards a fs = true) {k : Nat} (hk : k < 2 ^ s.cards.length) (ha : andM (k : Int) (needM a fs) = needM a fs) : Within (k : Int) a s.cards.length := by
  have hd := ok.dims
  have hp : 2 ^ s.cards.length ≤ 2 ^ 4 := Nat.pow_le_pow_right (by decide) hd.2
  have hpz : ((2 ^ s.cards.length : Nat) : Int) = 2 ^ s.cards.length := by simp
  obtain ⟨h1, h2⟩ := right_set hr
  have hn := need_ok fs (set := a) (by omega) fun f hf => by have := h2 f hf; omega
  have hi := (and_iff (x := (k : Int)) (y := needM a fs) (by omega) hn.1).1 ha
  exact ⟨by omega, by omega, h1.1, h1.2, fun i hi4 hb => hi i hi4 ((hn.2 i hi4).2 (.inl hb))⟩
theorem ans_rows {M : Mod} {s : SchM} {rows : List RowM} (ok : FactsOk s rows) {a : Int} {fs : List FilM} (hr : rightM s.cards a fs = true) (he : errM (comM M rows) s.cards a fs = 0) :
    ansM (comM M rows) s.cards a fs = groupC ((rows.filter (rowBy fs)).map (ofM a)) := by
  unfold errM at he
  unfold ansM
  rw [if_pos hr] at he ⊢
  cases hs : serveM (comM M rows) (needM a fs) (2 ^ s.cards.length) with
  | none => rw [hs] at he; cases he
  | some b =>
    obtain ⟨k, l⟩ := b
    obtain ⟨hk, rfl, _, ha⟩ := serve_com hs
    simp only
    exact ask_rows ok (serve_within ok hr hk ha) (serve_bits ok.dims.2 hr hk ha)
/-- Where the set of all dimensions is committed a query that may be is answered. -/
theorem err_full {M : Mod} {s : SchM} {rows : List RowM} (ok : FactsOk s rows) (hfull : (M.look (nameK ((2 ^ s.cards.length - 1 : Nat) : Int))).isSome = true) {a : Int} {fs : List FilM} (hr : rightM s.cards a fs = true) : errM (comM M rows) s.cards a fs = 0 := by
  have hd := ok.dims
  have hp : 2 ^ s.cards.length ≤ 2 ^ 4 := Nat.pow_le_pow_right (by decide) hd.2
  have hp1 : 0 < 2 ^ s.cards.length := Nat.two_pow_pos _
  obtain ⟨h1, h2⟩ := right_set hr
  have hpz : ((2 ^ s.cards.length : Nat) : Int) = 2 ^ s.cards.length := by simp
  have hn := need_ok fs (set := a) (by omega) fun f hf => by have := h2 f hf; omega
  unfold errM
  rw [if_pos hr]
  cases hs : serveM (comM M rows) (needM a fs) (2 ^ s.cards.length) with
  | some b => rfl
  | none =>
    have h := serve_none.1 hs (2 ^ s.cards.length - 1) (by omega) ((and_iff (by omega) hn.1).2 fun i hi hb => by
      have hlt : i < s.cards.length := by
        rcases (hn.2 i hi).1 hb with h | ⟨f, hf, rfl⟩
        · rcases Nat.lt_or_ge i s.cards.length with h' | h'
          · exact h'
          · rw [bit_high h1.1 h1.2 h'] at h; cases h
        · have := h2 f hf; omega
      exact full_bits ⟨s.cards.length, by omega⟩ ⟨i, hi⟩ hlt)
    unfold comM at h
    rw [if_pos hfull] at h
    cases h
/-- Filters in another order. -/
theorem need_perm {a : Int} {fs gs : List FilM} (ha : 0 ≤ a ∧ a < 16) (hf : ∀ f ∈ fs, 0 ≤ f.dim ∧ f.dim < 4) (hg : ∀ f, f ∈ gs ↔ f ∈ fs) : needM a gs = needM a fs := by
  have h1 := need_ok fs ha hf
  have h2 := need_ok gs ha fun f h => hf f ((hg f).1 h)
  have e1 : ∀ x y : Fin 16, (∀ i : Fin 4, bitM x.val i.val = bitM y.val i.val) → x = y := by decide +kernel
  obtain ⟨m, hm⟩ : ∃ m : Nat, needM a gs = m := ⟨(needM a gs).toNat, by omega⟩
  obtain ⟨n, hn⟩ : ∃ n : Nat, needM a fs = n := ⟨(needM a fs).toNat, by omega⟩
  have := e1 ⟨m, by omega⟩ ⟨n, by omega⟩ fun i => by
    have q1 := h2.2 i.val i.isLt
    have q2 := h1.2 i.val i.isLt
    rw [hm] at q1
    rw [hn] at q2
    have e : (∃ f ∈ gs, f.dim.toNat = i.val) ↔ ∃ f ∈ fs, f.dim.toNat = i.val := ⟨fun ⟨f, h, h'⟩ => ⟨f, (hg f).1 h, h'⟩, fun ⟨f, h, h'⟩ => ⟨f, (hg f).2 h, h'⟩⟩
    rw [e] at q1
    exact Bool.eq_iff_iff.2 (q1.trans q2.symm)
  have e2 : m = n := congrArg Fin.val this
  rw [hm, hn, e2]
theorem let_perm {a : Int} {fs gs : List FilM} (hg : ∀ f, f ∈ gs ↔ f ∈ fs) (key : List Int) : letM a gs key = letM a fs key := by
  unfold letM
  rw [Bool.eq_iff_iff, List.all_eq_true, List.all_eq_true]
  exact ⟨fun h f hf => h f ((hg f).2 hf), fun h f hf => h f ((hg f).1 hf)⟩
theorem ask_perm {a set : Int} {cells : List CellM} {fs gs : List FilM} (hg : ∀ f, f ∈ gs ↔ f ∈ fs) : askM a cells set gs = askM a cells set fs := by
  unfold askM
  congr 2
  apply List.filter_congr
  intro c _
  exact let_perm hg c.key
end Go.HC

/-
  law14's Query, plainly: filters of numbers; each row's own law.
-/
namespace Go.HC
def filOne (cards : List Int) (x : Int) : FilM :=
  let d := withinM x cards.length
  let lo := withinM (IntKind.i64.wrap (x.tdiv 4)) (cardAt cards d)
  ⟨d, lo, lo + withinM (IntKind.i64.wrap (x.tdiv 70)) (cardAt cards d - lo)⟩
def filStep (cards : List Int) (t : Int × List FilM) (x : Int) : Int × List FilM :=
  if bitM t.1 (withinM x cards.length).toNat = true then t else (orM t.1 (2 ^ (withinM x cards.length).toNat), t.2 ++ [filOne cards x])
/-- The filters of numbers. -/
def filsM (cards : List Int) (ns : List Int) : List FilM := ((ns.take 4).foldl (filStep cards) (0, [])).2
theorem rightF_append (cards : List Int) : ∀ (fs gs : List FilM) (s : Int), rightF cards s (fs ++ gs) = (rightF cards s fs && rightF cards (needM s fs) gs)
  | [], gs, s => by rw [List.nil_append, rightF, Bool.true_and]; rfl
  | f :: fs, gs, s => by
    rw [List.cons_append, rightF, rightF]
    split
    · rfl
    · rw [rightF_append cards fs gs]
      rfl
theorem cardAt_get {cards : List Int} {d : Int} (h0 : 0 ≤ d) (h : d < cards.length) : cardAt cards d = cards[d.toNat]'(by omega) := by
  unfold cardAt
  rw [List.getElem?_eq_getElem (by omega)]
  rfl
theorem filOne_ok {s : SchM} (ok : SchOk s) (x : Int) : (0 ≤ (filOne s.cards x).dim ∧ (filOne s.cards x).dim < s.cards.length) ∧ 0 ≤ (filOne s.cards x).lo ∧ (filOne s.cards x).lo ≤ (filOne s.cards x).hi ∧ (filOne s.cards x).hi < cardAt s.cards (filOne s.cards x).dim := by
  have hd := ok.dims
  have h1 := withinM_bound (a := x) (n := (s.cards.length : Int)) (by omega)
  have hc := ok.cards _ (List.getElem_mem (show (withinM x s.cards.length).toNat < s.cards.length by omega))
  rw [← cardAt_get h1.1 h1.2] at hc
  have h2 := withinM_bound (a := IntKind.i64.wrap (x.tdiv 4)) (n := cardAt s.cards (withinM x s.cards.length)) (by omega)
  have h3 := withinM_bound (a := IntKind.i64.wrap (x.tdiv 70)) (n := cardAt s.cards (withinM x s.cards.length) - withinM (IntKind.i64.wrap (x.tdiv 4)) (cardAt s.cards (withinM x s.cards.length))) (by omega)
  unfold filOne
  simp only
  omega
theorem filStep_ok {s : SchM} (ok : SchOk s) : ∀ (ns : List Int) (t : Int × List FilM), t.1 = needM 0 t.2 → rightF s.cards 0 t.2 = true → (ns.foldl (filStep s.cards) t).1 = needM 0 (ns.foldl (filStep s.cards) t).2 ∧ rightF s.cards 0 (ns.foldl (filStep s.cards) t).2 = true ∧ (ns.foldl (filStep s.cards) t).2.length ≤ t.2.length + ns.length
  | [], t, h1, h2 => ⟨h1, h2, Nat.le_refl _⟩
  | x :: ns, t, h1, h2 => by
    rw [List.foldl_cons]
    have key : (filStep s.cards t x).1 = needM 0 (filStep s.cards t x).2 ∧ rightF s.cards 0 (filStep s.cards t x).2 = true ∧ (filStep s.cards t x).2.length ≤ t.2.length + 1 := by
      unfold filStep
      split
      · exact ⟨h1, h2, Nat.le_succ _⟩
      · rename_i hb
        have ho := filOne_ok ok x
        have ed : (filOne s.cards x).dim = withinM x s.cards.length := rfl
        refine ⟨?_, ?_, by simp⟩
        · unfold needM at h1 ⊢
          rw [List.foldl_append, ← h1]
          rfl
        · rw [rightF_append, h2, Bool.true_and, rightF, ← h1, if_neg (fun hh => by
            rcases hh with hh | hh | hh | hh | hh | hh
            all_goals first | omega | exact hb (by rw [ed] at hh; exact hh))]
          rfl
    have := filStep_ok ok ns _ key.1 key.2.1
    refine ⟨this.1, this.2.1, ?_⟩
    have := this.2.2
    rw [List.length_cons]
    omega
theorem fils_right {s : SchM} (ok : SchOk s) {a : Int} (ha : 0 ≤ a ∧ a < 2 ^ s.cards.length) (ns : List Int) : rightM s.cards a (filsM s.cards ns) = true := by
  unfold rightM
  rw [if_neg (by omega)]
  exact (filStep_ok ok (ns.take 4) (0, []) rfl rfl).2.1
theorem fils_len4 {s : SchM} (ok : SchOk s) (ns : List Int) : (filsM s.cards ns).length ≤ 4 := by
  have := (filStep_ok ok (ns.take 4) (0, []) rfl rfl).2.2
  have h := List.length_take_le 4 ns
  unfold filsM
  simp only [List.length_nil] at this
  omega
theorem rightF_bits {cards : List Int} (hl : cards.length ≤ 4) : ∀ {fs : List FilM} {s : Int}, (0 ≤ s ∧ s < 16) → (rightF cards s fs = true ↔ (∀ f ∈ fs, (0 ≤ f.dim ∧ f.dim < cards.length ∧ 0 ≤ f.lo ∧ f.lo ≤ f.hi ∧ f.hi < cardAt cards f.dim) ∧ bitM s f.dim.toNat = false) ∧ fs.Pairwise fun f g => f.dim ≠ g.dim)
  | [], s, _ => by simp [rightF]
  | f :: fs, s, hs => by
    rw [rightF, List.pairwise_cons]
    split
    · rename_i hn
      constructor
      · intro h; cases h
      · rintro ⟨h, _⟩
        have := h f List.mem_cons_self
        rcases hn with hn | hn | hn | hn | hn | hn
        · omega
        · omega
        · omega
        · omega
        · omega
        · rw [this.2] at hn; cases hn
    · rename_i hn
      have hfd : 0 ≤ f.dim ∧ f.dim < cards.length := by omega
      have hp := pow_lt16 (d := f.dim.toNat) (by omega)
      have ho := or_ok hs hp
      rw [rightF_bits hl ho.1]
      have hbit : ∀ g : FilM, 0 ≤ g.dim → g.dim < cards.length → (bitM (orM s (2 ^ f.dim.toNat)) g.dim.toNat = false ↔ bitM s g.dim.toNat = false ∧ f.dim ≠ g.dim) := fun g h0 h1 => by
        rw [ho.2 _ (by omega), bit_pow (by omega) (by omega), Bool.or_eq_false_iff, decide_eq_false_iff_not]
        constructor
        · rintro ⟨h2, h3⟩; exact ⟨h2, by omega⟩
        · rintro ⟨h2, h3⟩; exact ⟨h2, by omega⟩
      constructor
      · rintro ⟨h1, h2⟩
        refine ⟨fun g hg => ?_, fun g hg => ?_, h2⟩
        · rcases List.mem_cons.1 hg with rfl | hg
          · refine ⟨by omega, ?_⟩
            cases hb : bitM s g.dim.toNat with
            | false => rfl
            | true => exact absurd (.inr (.inr (.inr (.inr (.inr hb))))) hn
          · have := h1 g hg
            exact ⟨this.1, ((hbit g this.1.1 this.1.2.1).1 this.2).1⟩
        · have := h1 g hg
          exact ((hbit g this.1.1 this.1.2.1).1 this.2).2
      · rintro ⟨h1, h2, h3⟩
        exact ⟨fun g hg => by
          have := h1 g (List.mem_cons_of_mem _ hg)
          exact ⟨this.1, (hbit g this.1.1 this.1.2.1).2 ⟨this.2, h2 g hg⟩⟩, h3⟩
/-- Filters the other way round may be too. -/
theorem right_rev {s : SchM} (ok : SchOk s) {a : Int} {fs : List FilM} (h : rightM s.cards a fs = true) : rightM s.cards a fs.reverse = true := by
  unfold rightM at h ⊢
  split
  · rename_i hn; rw [if_pos hn] at h; cases h
  · rename_i hn
    rw [if_neg hn] at h
    have := (rightF_bits ok.dims.2 (by decide)).1 h
    refine (rightF_bits ok.dims.2 (by decide)).2 ⟨fun f hf => this.1 f (List.mem_reverse.1 hf), ?_⟩
    rw [List.pairwise_reverse]
    exact this.2.imp fun h => h.symm
theorem rev_alike {com : Nat → Option (List CellM)} {s : SchM} (ok : SchOk s) {a : Int} {fs : List FilM} (h : rightM s.cards a fs = true) : errM com s.cards a fs.reverse = errM com s.cards a fs ∧ ansM com s.cards a fs.reverse = ansM com s.cards a fs := by
  have hr := right_rev ok h
  obtain ⟨h1, h2⟩ := right_set h
  have hp : (2 : Nat) ^ s.cards.length ≤ 2 ^ 4 := Nat.pow_le_pow_right (by decide) ok.dims.2
  have hp' : ((2 : Int) ^ s.cards.length) ≤ 16 := by exact_mod_cast hp
  have hd := ok.dims
  have e : needM a fs.reverse = needM a fs := need_perm (by omega) (fun f hf => by have := h2 f hf; omega) fun f => List.mem_reverse
  unfold errM ansM
  rw [if_pos hr, if_pos h, if_pos hr, if_pos h, e]
  refine ⟨rfl, ?_⟩
  cases serveM com (needM a fs) (2 ^ s.cards.length) with
  | none => rfl
  | some b => exact ask_perm fun f => List.mem_reverse
end Go.HC

/-
  law14's Query.
-/
namespace Go.Proofs
open Go Go.HC

theorem filStep_at (cards : List Int) (t : Int × List FilM) (x : Int) : filStep cards t x = if bitM t.1 (withinM x cards.length).toNat = true then t else (orM t.1 (2 ^ (withinM x cards.length).toNat), t.2 ++ [filOne cards x]) := rfl
theorem filT : ElemT Tryz.prog 25 57 rFil 24 := ⟨Tryz.elS25, Tryz.szS57, Tryz.byS57, _, Tryz.zS57, rfl⟩

set_option maxHeartbeats 1000000 in
set_option maxRecDepth 10000 in
theorem query14_spec {h : Heap} {cv fv : Value} {s : SchM} {ns : List Int} (ok : SchOk s) (a : Int) (hc : SlRep rInt (Old h) h cv s.cards) (hf : SlRep rInt (Old h) h fv ns) :
    CallH Tryz.prog 16 #[.agg #[cv, .int .i64 s.ms], .int .i64 a, fv] h fun r h' => ∃ qv, r = .agg #[.int .i64 (withinM a (2 ^ s.cards.length)), qv] ∧ SlRep rFil (Ft h.size none_ h') h' qv (filsM s.cards ns) ∧ Keep none_ h h' := by
  refine callH_by fun K hK => ?_
  refine enter [.cell 6 27] Tryz.func16 rfl rfl (by kernel_rfl) rfl ?_
  have hc0 := hc
  have hf0 := hf
  obtain ⟨ca, cc, rfl, _, _⟩ := hc.val
  obtain ⟨fa, fc, rfl, hfc, _⟩ := hf.val
  have hd := ok.dims
  have hsh := shl_one (k := s.cards.length) (by omega)
  have hp4 : (2 : Int) ^ s.cards.length ≤ 2 ^ 4 := pow2_le hd.2
  have hp0 := pow2_pos s.cards.length
  simp -dsimp [boxS_eq]
  generalize hB : Array.push (Array.push h _) _ = h0
  have k0 : Keep none_ h h0 := by rw [← hB]; exact ((Keep.refl none_ h).pushed _).pushed _
  have z0 : h0.size = h.size + 2 := by rw [← hB]; simp
  have w1 : h0[h.size]? = some (.cells #[.slice ca s.cards.length cc, .int .i64 s.ms] 30 (0, 0)) := by rw [← hB]; exact push_at (push_new _ _)
  have w2 : h0[h.size + 1]? = some (.cells #[.int .i64 0, .slice none 0 0] 27 (0, 0)) := by rw [← hB]; exact push_get (by simp)
  simp -dsimp [-intRes_shl, w1, hsh]
  refine call_by (within14_spec a _ hp0 (by omega) _) ?_
  rintro _ h0' ⟨rfl, hh⟩
  obtain rfl := hh.symm
  simp -dsimp
  rw [push_set rfl]
  obtain ⟨a0, ea⟩ : ∃ a0, a0 = withinM a (2 ^ s.cards.length) := ⟨_, rfl⟩
  rw [← ea] at hK ⊢
  generalize hD : Array.push h0 _ = h1
  have t1 : Tr none_ (fun b => b = h.size + 2) h h1 := by
    have t := (Tr.of k0).pushM (.cells #[.int .i64 a0, .slice none 0 0] 27)
    rw [hD, z0] at t
    exact t.less fun b hb => .inr hb
  have w3 : h1[h.size + 2]? = some (.cells #[.int .i64 a0, .slice none 0 0] 27 (0, 0)) := by rw [← hD]; exact push_get (by omega)
  have w11 : h1[h.size]? = some (.cells #[.slice ca s.cards.length cc, .int .i64 s.ms] 30 (0, 0)) := by rw [← hD]; exact push_at w1
  have w21 : h1[h.size + 1]? = some (.cells #[.int .i64 0, .slice none 0 0] 27 (0, 0)) := by rw [← hD]; exact push_at w2
  rw [z0]
  refine loopc (σ := Nat × Value) (fun t => [(2, .slice fa ns.length fc), (3, .pointer (some ⟨h.size, 0, none⟩)), (6, .pointer (some ⟨h.size + 1, 0, none⟩)), (7, .pointer (some ⟨h.size + 2, 0, none⟩)), (8, .int .i64 ((ns.take t.1).foldl (filStep s.cards) (0, [])).1), (9, .int .i64 t.1)])
    (fun t y => ∃ M own, Tr none_ M h y ∧ M (h.size + 2) ∧ (∀ b, own = some b → h.size + 3 ≤ b) ∧ (∀ b, M b → h.size + 2 ≤ b) ∧ (t.1 ≤ ns.length ∧ t.1 ≤ 4) ∧ y[h.size]? = some (.cells #[.slice ca s.cards.length cc, .int .i64 s.ms] 30 (0, 0)) ∧
      y[h.size + 1]? = some (.cells #[.int .i64 0, .slice none 0 0] 27 (0, 0)) ∧ y[h.size + 2]? = some (.cells #[.int .i64 a0, t.2] 27 (0, 0)) ∧ Gr rFil 57 (h.size + 3) M y t.2 ((ns.take t.1).foldl (filStep s.cards) (0, [])).2 own)
    (fun t => 4 - t.1) (0, .slice none 0 0) 0 (fun t _ => ¬ (t.1 < ns.length ∧ t.1 < 4)) noRet noRet_le (by simp)
    ⟨_, none, t1, rfl, (fun _ h => by cases h), (fun b hb => by rw [hb]; omega), ⟨Nat.zero_le _, Nat.zero_le _⟩, w11, w21, w3, .nil _ _ _ _ _⟩ (by kernel_rfl) ?_ ?_
  case refine_2 =>
    rintro ⟨i, v⟩ y g ⟨M, own, t, hM2, hown, hMn, ⟨hi1, hi2⟩, v1, v2, v3, gr⟩ hin
    simp only at hi1 hi2 v1 v2 v3 gr hin
    have ei : ns.take i = ns.take 4 := by
      rcases Nat.lt_or_ge i 4 with h4 | h4
      · rw [List.take_of_length_le (by omega), List.take_of_length_le (by omega)]
      · rw [show i = 4 by omega]
    rw [ei] at gr
    obtain ⟨va, vn, vc, rfl, _⟩ := gr.vals
    simp -dsimp [v3, v2]
    have hy2 := lt_of_blk v2
    have hs : (y.setIfInBounds (h.size + 1) (.cells #[.int .i64 a0, .slice va vn vc] 27 (0, 0)))[h.size + 1]? = some (.cells #[.int .i64 a0, .slice va vn vc] 27 (0, 0)) := set_same _ hy2
    simp -dsimp [hs]
    have kk : Keep none_ h y := ⟨t.size, fun b hb _ => t.keep.blk b hb (fun h => h)⟩
    have e : (filsM s.cards ns) = ((ns.take 4).foldl (filStep s.cards) (0, [])).2 := rfl
    refine hK _ _ ⟨_, rfl, ?_, kk.setted _ fun hh => by omega⟩
    rw [e]
    refine (gr.rep (Nat.le_refl _) hown).mono fun b hb => ?_
    have hb1 := hb.1.1
    have e : (y.setIfInBounds (h.size + 1) (.cells #[.int .i64 a0, .slice va vn vc] 27))[b]? = y[b]? := set_other _ (by omega)
    exact ⟨⟨hb.1.at (by omega) e, by simpa using hb.2.1, fun h => h⟩, e⟩
  rintro ⟨i, v⟩ y g ⟨M, own, t, hM2, hown, hMn, ⟨hi1, hi2⟩, v1, v2, v3, gr⟩
  simp only at hi1 hi2 v1 v2 v3 gr
  have wi := wrap_succ (k := i) (by omega)
  obtain ⟨va, vn, vc, rfl, hvn⟩ := gr.vals
  have hsz := t.size
  by_cases hil : i < ns.length
  · by_cases h4 : i < 4
    · have h4' : (i : Int) < 4 := by omega
      obtain ⟨b1, o1, e1, _, hx⟩ := (hf0.mono t.old).int_at i hil
      subst e1
      obtain ⟨x, ex⟩ : ∃ x, x = ns[i] := ⟨_, rfl⟩
      rw [← ex] at hx
      have hD0 := withinM_bound (a := x) (n := (s.cards.length : Int)) (by omega)
      obtain ⟨D, eD⟩ : ∃ D : Nat, withinM x s.cards.length = D := ⟨(withinM x s.cards.length).toNat, by omega⟩
      have hDl : D < s.cards.length := by omega
      have eT : (withinM x s.cards.length).toNat = D := by omega
      have hst : (ns.take (i + 1)).foldl (filStep s.cards) (0, []) = filStep s.cards ((ns.take i).foldl (filStep s.cards) (0, [])) x := by
        rw [List.take_add_one, List.getElem?_eq_getElem hil, Option.toList_some, List.foldl_append, ← ex]
        rfl
      have hfo := filOne_ok ok x
      have hso := filStep_ok ok (ns.take i) (0, []) rfl rfl
      obtain ⟨st, est⟩ : ∃ st, st = (ns.take i).foldl (filStep s.cards) (0, []) := ⟨_, rfl⟩
      rw [← est] at hst gr hso hvn ⊢
      have hfl : st.2.length ≤ 4 := by
        have h1 := hso.2.2
        have h2 := List.length_take_le i ns
        simp only [List.length_nil] at h1
        omega
      rw [filStep_at, eT] at hst
      simp -dsimp [hil, h4']
      refine drawn_by [⟨0, true, []⟩, ⟨1, true, []⟩, ⟨2, true, []⟩, ⟨3, true, []⟩, ⟨4, true, []⟩, ⟨5, true, []⟩, ⟨6, true, []⟩, ⟨7, false, []⟩, ⟨8, true, []⟩] (by kernel_rfl) (by kernel_rfl) ?_
      simp -dsimp [v1, idxV_nat hil, elSz_eq, hx]
      refine call_by (within14_spec x _ (by omega) (by omega) _) ?_
      rintro _ y' ⟨rfl, hh⟩
      obtain rfl := hh.symm
      rw [eD]
      have hshr : intRes .shr .i64 st.1 (IntKind.u64.wrap (D : Int)) = some (.int .i64 (st.1.fdiv (2 ^ D))) := shr_bit (s := st.1) (k := D) (by omega)
      have hshl := shl_one (k := D) (by omega)
      by_cases c6 : bitM st.1 D = true
      · rw [if_pos c6] at hst
        simp -dsimp [-intRes_shr, again_cons, hshr, bit_op, c6, wi]
        refine ⟨(i + 1, .slice va vn vc), by simp [hst], rfl, ⟨M, own, t, hM2, hown, hMn, ⟨hil, h4⟩, v1, v2, v3, by rw [hst]; exact gr⟩, by show 4 - (i + 1) < 4 - i; omega⟩
      · have c6' : bitM st.1 D = false := by simpa using c6
        rw [if_neg c6] at hst
        obtain ⟨b5, o5, e5, _, hc5⟩ := (hc0.mono t.old).int_at D hDl
        subst e5
        obtain ⟨c, ec⟩ : ∃ c, c = s.cards[D] := ⟨_, rfl⟩
        rw [← ec] at hc5
        have hcb := ok.cards _ (List.getElem_mem hDl)
        rw [← ec] at hcb
        have hca : cardAt s.cards D = c := by rw [ec]; exact cardAt_get (by omega) (by omega)
        have hone : filOne s.cards x = ⟨D, withinM (IntKind.i64.wrap (x.tdiv 4)) c, withinM (IntKind.i64.wrap (x.tdiv 4)) c + withinM (IntKind.i64.wrap (x.tdiv 70)) (c - withinM (IntKind.i64.wrap (x.tdiv 4)) c)⟩ := by
          unfold filOne
          simp only [eD, hca]
        rw [hone] at hst
        have b1' := withinM_bound (a := IntKind.i64.wrap (x.tdiv 4)) (n := c) (by omega)
        obtain ⟨lo, elo⟩ : ∃ lo, lo = withinM (IntKind.i64.wrap (x.tdiv 4)) c := ⟨_, rfl⟩
        rw [← elo] at b1' hst
        have b2' := withinM_bound (a := IntKind.i64.wrap (x.tdiv 70)) (n := c - lo) (by omega)
        have wc : IntKind.i64.wrap (c - lo) = c - lo := wrap_i64 (by omega) (by omega)
        obtain ⟨dh, edh⟩ : ∃ dh, dh = withinM (IntKind.i64.wrap (x.tdiv 70)) (c - lo) := ⟨_, rfl⟩
        rw [← edh] at b2' hst
        have wh : IntKind.i64.wrap (lo + dh) = lo + dh := wrap_i64 (by omega) (by omega)
        simp -dsimp [-intRes_shr, -intRes_shl, -intRes_or, again_cons, hshr, hshl, or_op, bit_op, c6']
        refine drawn_by [⟨0, true, []⟩, ⟨1, true, []⟩, ⟨2, true, []⟩, ⟨3, true, []⟩, ⟨4, true, []⟩, ⟨5, true, []⟩, ⟨6, true, []⟩, ⟨7, true, []⟩, ⟨8, true, []⟩, ⟨9, true, []⟩, ⟨10, false, []⟩, ⟨11, true, []⟩] (by kernel_rfl) (by kernel_rfl) ?_
        simp -dsimp [v1, idxV_nat hil, idxV_nat hDl, elSz_eq, hx, hc5]
        refine call_by (within14_spec _ c (by omega) (by omega) _) ?_
        rintro _ y' ⟨rfl, hh⟩
        obtain rfl := hh.symm
        rw [← elo]
        simp -dsimp [again_cons]
        refine drawn_by [⟨0, true, []⟩, ⟨1, true, []⟩, ⟨2, true, []⟩, ⟨3, true, []⟩, ⟨4, true, []⟩, ⟨5, true, []⟩, ⟨6, true, []⟩, ⟨7, true, []⟩, ⟨8, true, []⟩, ⟨9, true, []⟩, ⟨10, true, []⟩, ⟨11, true, []⟩, ⟨12, true, []⟩, ⟨13, true, []⟩, ⟨14, true, []⟩, ⟨15, true, []⟩, ⟨16, true, []⟩, ⟨17, false, [0, 1, 2, 3, 4]⟩, ⟨18, true, []⟩, ⟨19, false, [0, 1]⟩, ⟨20, false, [0, 1]⟩, ⟨21, false, []⟩, ⟨22, true, []⟩, ⟨23, false, []⟩] (by kernel_rfl) (by kernel_rfl) ?_
        simp -dsimp [v1, v3, idxV_nat hil, idxV_nat hDl, elSz_eq, hx, hc5, wc]
        refine call_by (within14_spec _ (c - lo) (by omega) (by omega) _) ?_
        rintro _ y' ⟨rfl, hh⟩
        obtain rfl := hh.symm
        rw [← edh]
        have v3p : ∀ o, (y.push o)[h.size + 2]? = _ := fun o => push_at v3
        simp -dsimp [again_cons, wh, v3, v3p]
        refine gr_app1 (x := ⟨(D : Int), lo, lo + dh⟩) rfl filT gr t.lt rfl rfl (by omega) (by omega) ?_
        intro v' y2 own' g2 t2 k2 ho
        have u1 := k2.at v1 (fun e => by have := hown _ e; omega)
        have u2 := k2.at v2 (fun e => by have := hown _ e; omega)
        have u3 := k2.at v3 (fun e => by have := hown _ e; omega)
        have hown' : ∀ b, own' = some b → h.size + 3 ≤ b := fun b e => (ho _ e).elim (hown b) (by have := lt_of_blk v3; omega)
        obtain ⟨va', vn', vc', rfl, _⟩ := g2.vals
        simp -dsimp [u3, wi]
        refine ⟨(i + 1, .slice va' vn' vc'), by simp [hst], rfl, ⟨_, own', (t.trans t2).set _ (.inl hM2), .inl hM2, hown', fun b hb => hb.elim (hMn b) fun e => by have := hown' b e; omega, ⟨hil, h4⟩, (set_other _ (by omega)).trans u1, (set_other _ (by omega)).trans u2, set_same _ (lt_of_blk u3), ?_⟩, by show 4 - (i + 1) < 4 - i; omega⟩
        rw [hst]
        exact g2.set _ (.inl hM2) (fun e => by have := hown' _ e; omega)
    · have h4' : ¬ (i : Int) < 4 := by omega
      simp -dsimp [hil, h4']
      exact ⟨rfl, (i, .slice va vn vc), by simp, rfl, ⟨M, own, t, hM2, hown, hMn, ⟨hi1, hi2⟩, v1, v2, v3, gr⟩, fun hh => h4 hh.2⟩
  · simp -dsimp [hil]
    exact ⟨rfl, (i, .slice va vn vc), by simp, rfl, ⟨M, own, t, hM2, hown, hMn, ⟨hi1, hi2⟩, v1, v2, v3, gr⟩, fun hh => hil hh.1⟩
end Go.Proofs

/-
  Ask and Server of both, told by ansM, errM, srvM.
-/
namespace Go.Proofs
open Go Go.HC

theorem pask2_spec {h : Heap} {v fv : Value} {F : Nat → Prop} {M : Mod} {s : SchM} {rows : List RowM} {a : Int} {fs : List FilM} (st : StAt v F h M) (hu : usedF M.files < 1000000) (hq : SlRep rFil (Old h) h fv fs) (C : CubeAt M s rows) :
    CallH Tryz.prog 18 #[v, .agg #[.int .i64 a, fv]] h fun r h' => ∃ cv, r = .tuple #[cv, .int .i64 (errM (comM M rows) s.cards a fs)] ∧ Keep none_ h h' ∧ SlRep rCell (Ft h.size none_ h') h' cv (ansM (comM M rows) s.cards a fs) := by
  refine (pask_spec st hu hq C).mono fun r h1 hr => ?_
  obtain ⟨cv, e, rfl, k, hc⟩ := hr
  refine ⟨cv, ?_, k, ?_⟩
  · unfold errM
    rcases hc with ⟨h1, _, rfl⟩ | ⟨h1, h2, _, rfl⟩ | ⟨h1, x, l, h2, rfl, _⟩
    · rw [if_neg (by rw [h1]; decide)]
    · rw [if_pos h1, h2]
    · rw [if_pos h1, h2]
  · unfold ansM
    rcases hc with ⟨h1, rfl, rfl⟩ | ⟨h1, h2, rfl, rfl⟩ | ⟨h1, x, l, h2, rfl, hn⟩
    · rw [if_neg (by rw [h1]; decide)]; exact ⟨none, 0, [], rfl, Nat.le_refl _, by decide, .inl rfl, rfl⟩
    · rw [if_pos h1, h2]; exact ⟨none, 0, [], rfl, Nat.le_refl _, by decide, .inl rfl, rfl⟩
    · rw [if_pos h1, h2]; exact hn.rep (Nat.le_refl _)

theorem ask14b_spec {h : Heap} {v fv : Value} {F : Nat → Prop} {M : Mod} {s : SchM} {rows : List RowM} {a : Int} {fs : List FilM} (st : RefAt v F h M) (hu : usedF M.files < 1000000) (hl : M.files.length < 1000000) (hq : SlRep rFil (Old h) h fv fs) (C : CubeAt M s rows) :
    CallH Tryz.prog 19 #[v, .agg #[.int .i64 a, fv]] h fun r h' => ∃ cv, r = .tuple #[cv, .int .i64 (errM (comM M rows) s.cards a fs)] ∧ Keep none_ h h' ∧ SlRep rCell (Ft h.size none_ h') h' cv (ansM (comM M rows) s.cards a fs) := by
  refine (ask14_spec st hu hl hq C).mono fun r h1 hr => ?_
  obtain ⟨cv, e, rfl, k, hc⟩ := hr
  refine ⟨cv, ?_, k, ?_⟩
  · unfold errM
    rcases hc with ⟨h1, _, rfl⟩ | ⟨h1, h2, _, rfl⟩ | ⟨h1, x, l, h2, rfl, _⟩
    · rw [if_neg (by rw [h1]; decide)]
    · rw [if_pos h1, h2]
    · rw [if_pos h1, h2]
  · unfold ansM
    rcases hc with ⟨h1, rfl, rfl⟩ | ⟨h1, h2, rfl, rfl⟩ | ⟨h1, x, l, h2, rfl, hn⟩
    · rw [if_neg (by rw [h1]; decide)]; exact ⟨none, 0, [], rfl, Nat.le_refl _, by decide, .inl rfl, rfl⟩
    · rw [if_pos h1, h2]; exact ⟨none, 0, [], rfl, Nat.le_refl _, by decide, .inl rfl, rfl⟩
    · rw [if_pos h1, h2]; exact hn

theorem srv_of {com : Nat → Option (List CellM)} {cards : List Int} {a : Int} {fs : List FilM} {x : Int} {ok : Bool} (h : (rightM cards a fs = false ∧ x = 0 ∧ ok = false) ∨ (rightM cards a fs = true ∧ serveM com (needM a fs) (2 ^ cards.length) = none ∧ x = 0 ∧ ok = false) ∨
        (rightM cards a fs = true ∧ ∃ k l, serveM com (needM a fs) (2 ^ cards.length) = some (k, l) ∧ x = k ∧ ok = true)) : x = (srvM com cards a fs).1 ∧ ok = (srvM com cards a fs).2 := by
  unfold srvM
  rcases h with ⟨h1, rfl, rfl⟩ | ⟨h1, h2, rfl, rfl⟩ | ⟨h1, k, l, h2, rfl, rfl⟩
  · rw [if_neg (by rw [h1]; decide)]; exact ⟨rfl, rfl⟩
  · rw [if_pos h1, h2]; exact ⟨rfl, rfl⟩
  · rw [if_pos h1, h2]; exact ⟨rfl, rfl⟩

theorem pserver2_spec {h : Heap} {v fv : Value} {F : Nat → Prop} {M : Mod} {s : SchM} {rows : List RowM} {a : Int} {fs : List FilM} (st : StAt v F h M) (hu : usedF M.files < 1000000) (hq : SlRep rFil (Old h) h fv fs) (C : CubeAt M s rows) :
    CallH Tryz.prog 20 #[v, .agg #[.int .i64 a, fv]] h fun r h' => r = .tuple #[.int .i64 (srvM (comM M rows) s.cards a fs).1, .bool (srvM (comM M rows) s.cards a fs).2] ∧ Keep none_ h h' := by
  refine (pserver_spec st hu hq C).mono fun r h1 hr => ?_
  obtain ⟨x, ok, rfl, k, hc⟩ := hr
  obtain ⟨rfl, rfl⟩ := srv_of hc
  exact ⟨rfl, k⟩

theorem server14b_spec {h : Heap} {v fv : Value} {F : Nat → Prop} {M : Mod} {s : SchM} {rows : List RowM} {a : Int} {fs : List FilM} (st : RefAt v F h M) (hu : usedF M.files < 1000000) (hl : M.files.length < 1000000) (hq : SlRep rFil (Old h) h fv fs) (C : CubeAt M s rows) :
    CallH Tryz.prog 21 #[v, .agg #[.int .i64 a, fv]] h fun r h' => r = .tuple #[.int .i64 (srvM (comM M rows) s.cards a fs).1, .bool (srvM (comM M rows) s.cards a fs).2] ∧ Keep none_ h h' := by
  refine (server14_spec st hu hl hq C).mono fun r h1 hr => ?_
  obtain ⟨x, ok, rfl, k, hc⟩ := hr
  obtain ⟨rfl, rfl⟩ := srv_of hc
  exact ⟨rfl, k⟩
end Go.Proofs

/-
  law14's known.
-/
namespace Go.HC
def sch1 : SchM := ⟨[2], 0⟩
def row1 : RowM := ⟨[1], []⟩
def cel1 : CellM := ⟨[1], 1, [], [], []⟩
theorem facts1_ok : FactsOk sch1 [row1] := by
  refine ⟨by decide, fun c hc => ?_, by decide, by decide, fun r hr => ?_, fun r hr => ?_⟩
  · rw [show sch1.cards = [2] from rfl, List.mem_singleton] at hc; subst hc; decide
  · rw [List.mem_singleton] at hr; subst hr
    refine ⟨rfl, fun i h h' => ?_⟩
    have : i = 0 := by have : i < 1 := h; omega
    subst this
    show (0 : Int) ≤ 1 ∧ (1 : Int) < 2
    decide
  · rw [List.mem_singleton] at hr; subst hr
    exact ⟨rfl, fun x hx => by cases hx⟩
theorem group1 : groupC ([row1].map (ofM ((1 : Nat) : Int))) = [cel1] := by kernel_rfl
theorem two1 : ∃ M N n, M = (((stM 1000 sch1 [row1]).write (nameK ((1 : Nat) : Int)) (encC ((1 : Nat) : Int) [cel1])).2.sync (nameK ((1 : Nat) : Int))).2 ∧ Two 1000 M N sch1 [row1] [1] n ∧ n ≤ 1000 := by
  have l1 : (encF sch1 [row1]).length = 10 := by kernel_rfl
  have l2 : (encC ((1 : Nat) : Int) [cel1]).length = 6 := by kernel_rfl
  have t0 := Two.start (L := 1000) facts1_ok (by rw [l1]; decide)
  have t1 := t0.add (k := 1) (by decide) (by rw [group1, l1, l2]; decide)
  rw [group1, l1, l2] at t1
  exact ⟨_, _, _, rfl, t1, by decide⟩
theorem ask1 {M : Mod} (h0 : (M.look (nameK ((0 : Nat) : Int))).isSome = false) (h1 : (M.look (nameK ((1 : Nat) : Int))).isSome = true) :
    errM (comM M [row1]) [2] 0 [] = 0 ∧ ansM (comM M [row1]) [2] 0 [] = [⟨[], 1, [], [], []⟩] ∧ srvM (comM M [row1]) [2] 1 [] = (1, true) := by
  have c0 : comM M [row1] 0 = none := by unfold comM; rw [if_neg (by rw [h0]; decide)]
  have c1 : comM M [row1] 1 = some [cel1] := by unfold comM; rw [if_pos h1, group1]
  have hs : ∀ need : Int, andM ((1 : Nat) : Int) need = need → serveM (comM M [row1]) need 2 = some (1, [cel1]) := fun need hn => by
    have e1 : serveM (comM M [row1]) need 1 = none := by
      rw [serve_none]
      intro x hx _
      rw [show x = 0 by omega, c0]
    rw [serve_succ, e1]
    unfold stepM
    rw [if_pos hn, c1]
  have q0 : serveM (comM M [row1]) (needM 0 []) (2 ^ [(2 : Int)].length) = some (1, [cel1]) := hs 0 (by decide)
  have q1 : serveM (comM M [row1]) (needM 1 []) (2 ^ [(2 : Int)].length) = some (1, [cel1]) := hs 1 (by decide)
  have r0 : rightM [2] 0 [] = true := by decide
  have r1 : rightM [2] 1 [] = true := by decide
  unfold errM ansM srvM
  rw [if_pos r0, if_pos r0, if_pos r1, q0, q1]
  exact ⟨rfl, by kernel_rfl, rfl⟩
end Go.HC
namespace Go.Proofs
open Go Go.HC

set_option maxHeartbeats 4000000 in
set_option maxRecDepth 10000 in
theorem known14_spec (h : Heap) : CallH Tryz.prog 12 #[] h fun r h' => r = .bool true ∧ Keep none_ h h' := by
  refine callH_by fun K hK => ?_
  refine enter [.tmp 0] Tryz.func12 rfl rfl (by kernel_rfl) rfl ?_
  simp -dsimp
  refine call_by (new_spec 1000 h) ?_
  rintro v h1 ⟨F0, s0, k1, hF0⟩
  have hvp : ∃ p, v = .pointer (some p) := by obtain ⟨bs, bm, es, clock, tv, own, R, rfl, _⟩ := s0; exact ⟨_, rfl⟩
  obtain ⟨vp, rfl⟩ := hvp
  simp -dsimp
  refine call_by (pask_not s0 (by decide) (by decide) rfl fun hf => by have := hf.1; cases this) ?_
  rintro _ h2 ⟨rfl, k2⟩
  have s2 := s0.keep k2 fun _ _ h => h
  simp -dsimp
  generalize hB : Array.push (Array.push (Array.push h2 _) _) _ = h3
  have k3 : Keep none_ h2 h3 := by rw [← hB]; exact (((Keep.refl none_ h2).pushed _).pushed _).pushed _
  have s3 := s2.keep k3 fun _ _ h => h
  have w1 : h3[h2.size]? = some (.cells #[.int .i64 2] 3 (0, 0)) := by rw [← hB]; exact push_at (push_at (push_new _ _))
  have w2 : h3[h2.size + 1]? = some (.cells #[.int .i64 1] 3 (0, 0)) := by rw [← hB]; exact push_at (push_get (by simp))
  have w3 : h3[h2.size + 2]? = some (.cells #[.slice (some ⟨h2.size + 1, 0, none⟩) 1 1, .slice none 0 0] 62 (0, 0)) := by rw [← hB]; exact push_get (by simp)
  have rC : SlRep rInt (Old h3) h3 (.slice (some ⟨h2.size, 0, none⟩) 1 1) sch1.cards :=
    ⟨_, 1, _, rfl, Nat.le_refl _, by decide, .inr ⟨h2.size, 0, _, _, _, rfl, ⟨nz, lt_of_blk w1, fun h => h⟩, w1, rfl⟩, .single rfl⟩
  have rR : SlRep rRow (Old h3) h3 (.slice (some ⟨h2.size + 2, 0, none⟩) 1 1) [row1] := by
    refine ⟨_, 1, [.slice (some ⟨h2.size + 1, 0, none⟩) 1 1, .slice none 0 0], rfl, Nat.le_refl _, by decide, .inr ⟨h2.size + 2, 0, _, _, _, rfl, ⟨nz, lt_of_blk w3, fun h => h⟩, w3, rfl⟩, .single ?_⟩
    refine ⟨_, _, rfl, ?_, .nil _ _ _⟩
    exact ⟨_, 1, _, rfl, Nat.le_refl _, by decide, .inr ⟨h2.size + 1, 0, _, _, _, rfl, ⟨nz, lt_of_blk w2, fun h => h⟩, w2, rfl⟩, .single rfl⟩
  have hzz : h2.size + 1 + 1 = h2.size + 2 := rfl
  refine call_by (rencode_spec (s := sch1) rC rR (by decide) (by decide) fun r hr => by rw [List.mem_singleton] at hr; subst hr; decide) ?_
  rintro bv h4 ⟨hb, k4⟩
  have s4 := s3.keep k4 fun _ _ h => h
  have sm0 : (Mod.new 1000).Small 0 := ⟨Nat.le_refl _, Nat.le_refl _, Nat.le_refl _⟩
  have o0 := Mod.Ok.new 1000
  have l1 : (encF sch1 [row1]).length = 10 := by kernel_rfl
  have sm1 := small_write o0.sorted sm0 nmFact (encF sch1 [row1])
  have o1 := o0.write nmFact (encF sch1 [row1])
  have sm2 := small_sync o1.sorted sm1 nmFact
  rw [l1] at sm1 sm2
  simp -dsimp
  refine call_by (put14_spec s4 sm0 (by omega) nmFact hb (fun b h => h.2.1) (by omega) sm1 (by omega)) ?_
  rintro _ h5 ⟨F1, s5, k5, hF1⟩
  simp -dsimp
  generalize hC : Array.push (Array.push h5 _) _ = h6
  have k6 : Keep none_ h5 h6 := by rw [← hC]; exact ((Keep.refl none_ h5).pushed _).pushed _
  have s6 := s5.keep k6 fun _ _ h => h
  have w4 : h6[h5.size]? = some (.cells #[.int .i64 1] 3 (0, 0)) := by rw [← hC]; exact push_at (push_new _ _)
  have w5 : h6[h5.size + 1]? = some (.cells #[.slice (some ⟨h5.size, 0, none⟩) 1 1, .int .i64 1, .slice none 0 0, .slice none 0 0, .slice none 0 0] 65 (0, 0)) := by rw [← hC]; exact push_get (by simp)
  have rL : SlRep rCell (Old h6) h6 (.slice (some ⟨h5.size + 1, 0, none⟩) 1 1) [cel1] := by
    refine ⟨_, 1, [.slice (some ⟨h5.size, 0, none⟩) 1 1, .int .i64 1, .slice none 0 0, .slice none 0 0, .slice none 0 0], rfl, Nat.le_refl _, by decide, .inr ⟨h5.size + 1, 0, _, _, _, rfl, ⟨nz, lt_of_blk w5, fun h => h⟩, w5, rfl⟩, .single ?_⟩
    refine ⟨_, _, _, _, rfl, ?_, .nil _ _ _, .nil _ _ _, .nil _ _ _⟩
    exact ⟨_, 1, _, rfl, Nat.le_refl _, by decide, .inr ⟨h5.size, 0, _, _, _, rfl, ⟨nz, lt_of_blk w4, fun h => h⟩, w4, rfl⟩, .single rfl⟩
  refine call_by (cencode_spec (m := 0) 1 rL (by decide) (by decide) fun c hc => by rw [List.mem_singleton] at hc; subst hc; exact ⟨by decide, rfl, rfl, rfl⟩) ?_
  rintro cv h7 ⟨hc, k7⟩
  have s7 := s6.keep k7 fun _ _ h => h
  obtain ⟨M, N, n, eM, tw, hn⟩ := two1
  have l2 : (encC 1 [cel1]).length = 6 := by kernel_rfl
  have sm3 := small_write (o1.sync nmFact).sorted sm2 (nameK 1) (encC 1 [cel1])
  rw [l2] at sm3
  simp -dsimp
  refine call_by (put14_spec s7 sm2 (by omega) (nameK 1) hc (fun b h => h.2.1) (by omega) sm3 (by omega)) ?_
  rintro _ h8 ⟨F2, s8, k8, hF2⟩
  replace s8 : StAt (.pointer (some vp)) F2 h8 M := by rw [eM]; exact s8
  have hu := tw.smM.used
  have hc0 : (M.look (nameK ((0 : Nat) : Int))).isSome = false := by
    cases hq : (M.look (nameK ((0 : Nat) : Int))).isSome with
    | false => rfl
    | true => exact absurd ((tw.com 0 (by decide)).1 hq) (by decide)
  have hc1 : (M.look (nameK ((1 : Nat) : Int))).isSome = true := (tw.com 1 (by decide)).2 (by decide)
  obtain ⟨a1, a2, a3⟩ := ask1 hc0 hc1
  simp -dsimp
  refine call_by (pask2_spec (a := 0) (fs := []) s8 (by omega) (.nil _ _ _) tw.cube) ?_
  rintro _ h9 ⟨lv, rfl, k9, hl⟩
  rw [show sch1.cards = [2] from rfl, a1] 
  rw [show sch1.cards = [2] from rfl, a2] at hl
  have s9 := s8.keep k9 fun _ _ h => h
  have r9 : SlRep rCell (Old h9) h9 lv [⟨[], 1, [], [], []⟩] := hl.mono (Ft.free (Nat.zero_le _))
  obtain ⟨la, lc, rfl, _, _⟩ := r9.val
  simp -dsimp
  refine call_by (pserver2_spec (a := 1) (fs := []) s9 (by omega) (.nil _ _ _) tw.cube) ?_
  rintro _ h10 ⟨rfl, k10⟩
  rw [show sch1.cards = [2] from rfl, a3]
  have r10 := r9.mono ((Tr.of k10).ft (Nat.le_refl 0))
  obtain ⟨b3, o3, cs3, e3, hf3, hrep3, hx3⟩ := r10.get 0 (by simp)
  obtain ⟨ka, kc, sa, sc, na', nc', xa, xc, rfl, _⟩ := cell_open hrep3
  have hx3' : HC.cellIn h10[b3]? (o3 + 1) = some (.int .i64 1) := by
    have := cellsIn_cell (d := 1) hx3 (by decide)
    simpa using this
  cases e3
  simp -dsimp [hx3', idxA_zero (show 0 < 1 by decide)]
  have q2 : Keep none_ h h4 := ((k1.trans k2 fun _ _ h => h).trans k3 fun _ _ h => h).trans k4 fun _ _ h => h
  have q5 : Keep none_ h h5 := q2.trans k5 fun b hb hf => absurd (hF0 b hf) (by omega)
  have q7 : Keep none_ h h7 := (q5.trans k6 fun _ _ h => h).trans k7 fun _ _ h => h
  have q8 : Keep none_ h h8 := q7.trans k8 fun b hb hf => by
    rcases hF1 b hf with h1' | h1'
    · have := hF0 b h1'; omega
    · have := q2.size; omega
  exact hK _ _ ⟨rfl, (q8.trans k9 fun _ _ h => h).trans k10 fun _ _ h => h⟩
end Go.Proofs

/-
  The rows of law14, plainly.
-/
namespace Go.HC
theorem rowBy_one {s : SchM} {rows : List RowM} (ok : FactsOk s rows) {d : Nat} (hd : d < s.cards.length) (lo hi : Int) {r : RowM} (hr : r ∈ rows) : rowBy [⟨(d : Int), lo, hi⟩] r = (decide (lo ≤ r.key.getD d 0) && decide (r.key.getD d 0 ≤ hi)) := by
  have hk := (ok.key r hr).1
  unfold rowBy
  rw [List.all_cons, List.all_nil, Bool.and_true]
  simp only [Int.toNat_natCast]
  rw [List.getD_eq_getElem?_getD, List.getElem?_eq_getElem (by omega)]
  rfl
/-- What filters let by, value by value, is together what there is. -/
theorem parts_law {s : SchM} {rows : List RowM} (ok : FactsOk s rows) {d : Nat} (hd : d < s.cards.length) (k : Int) {c : Nat} (hc : (c : Int) = cardAt s.cards d) :
    groupC ((List.range c).flatMap fun (v : Nat) => groupC ((rows.filter (rowBy [⟨(d : Int), (v : Int), (v : Int)⟩])).map (ofM k))) = groupC (rows.map (ofM k)) := by
  have e1 : ((List.range c).flatMap fun (v : Nat) => groupC ((rows.filter (rowBy [⟨(d : Int), (v : Int), (v : Int)⟩])).map (ofM k))) = ((List.range c).map fun (v : Nat) => (rows.filter (rowBy [⟨(d : Int), (v : Int), (v : Int)⟩])).map (ofM k)).flatMap groupC := by
    rw [List.flatMap_map]
  have hb : ∀ r ∈ rows, 0 ≤ r.key.getD d 0 ∧ r.key.getD d 0 < c := fun r hr => by
    have h := ok.key r hr
    have h1 := h.2 d (by omega) hd
    rw [List.getD_eq_getElem?_getD, List.getElem?_eq_getElem (by omega), Option.getD_some]
    rw [cardAt_get (by omega) (by omega)] at hc
    simp only [Int.toNat_natCast] at hc
    omega
  have e2 : ((List.range c).map fun (v : Nat) => (rows.filter (rowBy [⟨(d : Int), (v : Int), (v : Int)⟩])).map (ofM k)) = (((List.range c).map fun (v : Nat) => rows.filter fun r => decide ((r.key.getD d 0).toNat = v)).map (List.map (ofM k))) := by
    rw [List.map_map]
    apply List.map_congr_left
    intro v _
    simp only [Function.comp]
    congr 1
    apply List.filter_congr
    intro r hr
    have := hb r hr
    rw [rowBy_one ok hd _ _ hr, Bool.eq_iff_iff, Bool.and_eq_true, decide_eq_true_eq, decide_eq_true_eq, decide_eq_true_eq]
    omega
  rw [e1, group_flat, e2, ← List.map_flatten]
  apply group_perm
  apply List.Perm.map
  rw [← List.flatMap_def]
  exact parts_perm (fun r : RowM => (r.key.getD d 0).toNat) c rows fun r hr => by have := hb r hr; omega
/-- Narrowed to a lesser set, and grouped. -/
theorem narrow_law {s : SchM} {rows : List RowM} (ok : FactsOk s rows) {a b : Int} (w : Within a b s.cards.length) (fs : List FilM) :
    groupC ((groupC ((rows.filter (rowBy fs)).map (ofM a))).map (narrowC a b)) = groupC ((rows.filter (rowBy fs)).map (ofM b)) := by
  rw [group_narrow, List.map_map]
  congr 1
  apply List.map_congr_left
  intro r hr
  have := (ok.key r (List.mem_filter.1 hr).1).1
  exact narrow_of w.sub r (by have := ok.dims; omega)
theorem right_set' {cards : List Int} {a b : Int} {fs : List FilM} (h : rightM cards a fs = true) (hb : 0 ≤ b ∧ b < 2 ^ cards.length) : rightM cards b fs = true := by
  unfold rightM at h ⊢
  split at h
  · cases h
  · rw [if_neg (by omega)]; exact h
/-- Filters that let all by. -/
def allF (cards : List Int) (n : Nat) : List FilM := (List.range n).map fun (d : Nat) => ⟨(d : Int), 0, cardAt cards d - 1⟩
theorem allF_right {s : SchM} (ok : SchOk s) {a : Int} (ha : 0 ≤ a ∧ a < 2 ^ s.cards.length) : rightM s.cards a (allF s.cards s.cards.length) = true := by
  unfold rightM
  rw [if_neg (by omega)]
  refine (rightF_bits ok.dims.2 (by decide)).2 ⟨fun f hf => ?_, ?_⟩
  · obtain ⟨d, hd, rfl⟩ := List.mem_map.1 hf
    have hd := List.mem_range.1 hd
    have hc := ok.cards _ (List.getElem_mem hd)
    have e := cardAt_get (cards := s.cards) (d := (d : Int)) (by omega) (by omega)
    simp only [Int.toNat_natCast] at e ⊢
    rw [e]
    exact ⟨by omega, bit_zero d⟩
  · unfold allF
    rw [List.pairwise_map]
    exact List.pairwise_lt_range.imp fun h => by simp only; omega
theorem allF_by {s : SchM} {rows : List RowM} (ok : FactsOk s rows) : rows.filter (rowBy (allF s.cards s.cards.length)) = rows := by
  rw [List.filter_eq_self]
  intro r hr
  unfold rowBy
  rw [List.all_eq_true]
  intro f hf
  obtain ⟨d, hd, rfl⟩ := List.mem_map.1 hf
  have hd := List.mem_range.1 hd
  have hk := ok.key r hr
  have h1 := hk.2 d (by omega) hd
  have e := cardAt_get (cards := s.cards) (d := (d : Int)) (by omega) (by omega)
  simp only [Int.toNat_natCast] at e ⊢
  rw [List.getElem?_eq_getElem (by omega), e]
  simp only [Bool.and_eq_true, decide_eq_true_eq]
  omega
theorem one_right {s : SchM} (ok : SchOk s) {a : Int} (ha : 0 ≤ a ∧ a < 2 ^ s.cards.length) {d : Nat} (hd : d < s.cards.length) {lo hi : Int} (h0 : 0 ≤ lo) (h1 : lo ≤ hi) (h2 : hi < cardAt s.cards d) : rightM s.cards a [⟨(d : Int), lo, hi⟩] = true := by
  unfold rightM
  rw [if_neg (by omega)]
  refine (rightF_bits ok.dims.2 (by decide)).2 ⟨fun f hf => ?_, List.pairwise_singleton _ _⟩
  rw [List.mem_singleton] at hf
  subst hf
  simp only [Int.toNat_natCast]
  exact ⟨by omega, bit_zero d⟩
/-- A filter that lets nothing by. -/
theorem none_by {s : SchM} {rows : List RowM} (ok : FactsOk s rows) {d : Nat} (hd : d < s.cards.length) (h : ∀ r ∈ rows, r.key.getD d 0 ≠ 0) : rows.filter (rowBy [⟨(d : Int), 0, 0⟩]) = [] := by
  rw [List.filter_eq_nil_iff]
  intro r hr hb
  rw [rowBy_one ok hd _ _ hr, Bool.and_eq_true, decide_eq_true_eq, decide_eq_true_eq] at hb
  exact h r hr (by omega)
theorem FactsOk.sub {s : SchM} {rows rows' : List RowM} (ok : FactsOk s rows) (h : rows'.Sublist rows) : FactsOk s rows' :=
  ⟨ok.dims, ok.cards, ok.ms, Nat.le_trans h.length_le ok.len, fun r hr => ok.key r (h.subset hr), fun r hr => ok.m r (h.subset hr)⟩
theorem flat_le {α β : Type} {f : α → List β} {k : Nat} : ∀ {l : List α}, (∀ x ∈ l, (f x).length ≤ k) → (l.flatMap f).length ≤ l.length * k
  | [], _ => by simp
  | x :: l, h => by
    have h1 := h x List.mem_cons_self
    have ih := flat_le (l := l) fun y hy => h y (List.mem_cons_of_mem _ hy)
    rw [List.flatMap_cons, List.length_append, List.length_cons, Nat.succ_mul]
    omega
/-- Has a fact the value 0 of a dimension? -/
def anyZ (D : Nat) (l : List RowM) : Bool := l.any fun r => decide (r.key.getD D 0 = 0)
theorem anyZ_none {D : Nat} {l : List RowM} (h : anyZ D l = false) : ∀ r ∈ l, r.key.getD D 0 ≠ 0 := fun r hr hz => by
  have := List.any_eq_false.1 h r hr
  exact this (decide_eq_true hz)
theorem anyZ_take {D : Nat} {l : List RowM} {i : Nat} (hil : i < l.length) (hDk : D < (l[i]).key.length) : anyZ D (l.take (i + 1)) = (anyZ D (l.take i) || decide ((l[i]).key[D] = 0)) := by
  unfold anyZ
  rw [List.take_add_one, List.getElem?_eq_getElem hil, Option.toList_some, List.any_append, List.any_cons, List.any_nil, Bool.or_false]
  congr 2
  rw [List.getD_eq_getElem?_getD, List.getElem?_eq_getElem hDk]
  rfl
end Go.HC

/-
  Queries in a row; a slice of one number that grows.
-/
namespace Go.HC
/-- A query: a set, filters. -/
def rQry : Rp (Int × List FilM) where
  sz := 2
  pos := by decide
  rep F h cs x := ∃ v, cs = [.int .i64 x.1, v] ∧ SlRep rFil F h v x.2
  len := by rintro F h cs c ⟨v, rfl, _⟩; rfl
  one := by
    rintro F h cs c ⟨v, rfl, h1⟩
    obtain ⟨_, _, rfl, _⟩ := h1.val
    rfl
  mono := by
    rintro F F' h h' cs c ⟨v, rfl, h1⟩ hm
    exact ⟨v, rfl, h1.mono hm⟩
/-- A slice of one number is laid. -/
theorem gr_one {M M0 : Nat → Prop} {h h0 : Heap} (x : Int) (e n : Nat) (t : Tr M0 M h0 h) :
    Gr rInt e n (fun b => M b ∨ b = h.size) (h.push (.cells #[.int .i64 x] e)) (.slice (some ⟨h.size, 0, none⟩) 1 1) [x] (some h.size) ∧ Tr M (fun b => M b ∨ b = h.size) h (h.push (.cells #[.int .i64 x] e)) := by
  have t1 := t.here.pushM (.cells #[.int .i64 x] e)
  refine ⟨⟨?_, fun b hb => .inr (by cases hb; rfl)⟩, t1⟩
  exact .inr ⟨h.size, 1, #[.int .i64 x], [.int .i64 x], rfl, rfl, push_new _ _, fun hf => hf.2.2 (.inr rfl), rfl, Nat.le_refl _, by decide, rfl, .single rfl⟩
theorem app_one {P : Program} {K : Value → Heap → Prop} {T e ty : Nat} {cs : Array Bool} {F : Nat → Prop} {y : Heap} {b : Option Addr} {m c2 : Nat} {x : Int} {ys : List Int} (hT : ElemT P T e rInt 8) (hy : SlRep rInt F y (.slice b m c2) ys) (hF : ∀ b, F b → b < y.size)
    (hl : (ys.length + 1) * 8 ≤ 140737488355328) (hk : ∀ v' h', SlRep rInt (Ft y.size none_ h') h' v' (x :: ys) → Keep none_ y h' → K v' h') :
    builtinS P .append #[T, T] ty cs #[.slice (some ⟨y.size, 0, none⟩) 1 1, .slice b m c2] (y.push (.cells #[.int .i64 x] e)) K := by
  obtain ⟨g, t⟩ := gr_one x e y.size (Tr.start y)
  have hy' : SlRep rInt F (y.push (.cells #[.int .i64 x] e)) (.slice b m c2) ys := hy.mono fun c hc => ⟨hc, push_old _ (hF c hc)⟩
  obtain ⟨news, hm, _, _, hC, hE⟩ := hy'.open_
  refine gr_append (F2 := F) hT g t.lt hm hC (ints_map.2 (ints_map.1 hE)) (by simp only [List.length_cons, List.length_nil]; omega) (by simp only [List.length_cons, List.length_nil]; omega) ?_
  intro v' h' own' g2 t2 k2 ho
  have hp : (y.push (.cells #[.int .i64 x] e)).size = y.size + 1 := by simp
  refine hk v' h' (g2.rep (Nat.le_refl _) fun c hc => ?_) ?_
  · rcases ho c hc with h1 | h1
    · cases h1; exact Nat.le_refl _
    · omega
  · refine ⟨by have := k2.size; omega, fun c hc _ => ?_⟩
    rw [k2.blk c (by omega) (fun e => by cases e; omega), push_old _ hc]
end Go.HC

/-
  How big a store gets: removals, publishing; its limit.
-/
namespace Go.HC
theorem small_remove {M : Mod} {m : Nat} (h : M.Small m) (x : Nm) : (M.remove x).2.Small (m + 1) := by
  unfold Mod.remove
  have := h.used
  have := h.files
  have := h.trace
  split
  · exact h.up (by omega)
  · have h1 := used_del (x := x) (l := M.files)
    have h2 := (delF_sub x M.files).length_le
    refine ⟨?_, ?_, ?_⟩
    · show usedF (delF _ _) ≤ _; omega
    · show (delF _ _).length ≤ _; omega
    · show (M.trace ++ [_]).length ≤ _; simp; omega
end Go.HC

/-
  Server of a store whose facts cannot be read; facts' bytes that are broken.
-/
namespace Go.HC
/-- A byte of the mark is turned. -/
theorem broken {s : SchM} {rows : List RowM} {j : Nat} (hj : j < 4) {x : UInt8} (hx : (encF s rows)[j]? = some x) {by_ : UInt8} (hb : by_ ≠ 0) : ¬ DecOk ((encF s rows).set j (byteM ((x.toNat : Int) + (by_.toNat : Int)))) := by
  intro h
  have h1 := (head_at s rows).take4
  have h2 := h.head.mark
  have hl : j < (encF s rows).length := by
    rcases Nat.lt_or_ge j (encF s rows).length with h' | h'
    · exact h'
    · rw [List.getElem?_eq_none h'] at hx; cases hx
  have e1 : ((encF s rows).take 4)[j]? = some x := by rw [List.getElem?_take_of_lt hj]; exact hx
  have e2 : (((encF s rows).set j (byteM ((x.toNat : Int) + (by_.toNat : Int)))).take 4)[j]? = some (byteM ((x.toNat : Int) + (by_.toNat : Int))) := by
    rw [List.getElem?_take_of_lt hj, List.getElem?_set_self hl]
  rw [h1] at e1
  rw [h2, e1, Option.some.injEq] at e2
  have h3 := byteM_nat ((x.toNat : Int) + (by_.toNat : Int))
  rw [← e2] at h3
  have h4 := by_.toNat_lt
  have h5 : by_.toNat = 0 := by
    have := x.toNat_lt
    omega
  exact hb (UInt8.toNat_inj.1 h5)
theorem not_removed {M : Mod} (hs : SortedF M.files) : ¬ FactsIn (M.remove nmFact).2 := by
  intro h
  have h1 := h.1
  unfold Mod.remove at h1
  split at h1
  · rename_i hn; rw [hn] at h1; cases h1
  · have : lookF nmFact (delF nmFact M.files) = none := by rw [lookF_del hs, if_pos rfl]
    unfold Mod.look at h1
    simp only at h1
    rw [this] at h1
    cases h1
theorem not_written {M : Mod} {b : List UInt8} (hn : ¬ DecOk b) (hf : (usedF M.files : Int) + b.length ≤ M.limit) : ¬ FactsIn (M.write nmFact b).2 := by
  intro h
  have h2 := h.2
  rw [write_fits fact_ok hf, nowOf_wrote, if_pos rfl] at h2
  exact hn h2
theorem Alike.facts {M N : Mod} (h : Alike M N) : FactsIn M ↔ FactsIn N := by unfold FactsIn; rw [h.isSome, h.nowOf]
end Go.HC
namespace Go.Proofs
open Go Go.HC

set_option maxHeartbeats 1000000 in
set_option maxRecDepth 10000 in
theorem pserver_not {h : Heap} {v fv : Value} {F : Nat → Prop} {M : Mod} {a : Int} {n : Nat} {fa : Option Addr} {fc : Nat} (st : StAt v F h M) (hu : usedF M.files < 1000000) (hd : (M.nowOf nmFact).length < 1000000) (hfv : fv = .slice fa n fc) (hno : ¬ FactsIn M) :
    CallH Tryz.prog 20 #[v, .agg #[.int .i64 a, fv]] h fun r h' => r = .tuple #[.int .i64 0, .bool false] ∧ Keep none_ h h' := by
  subst hfv
  refine callH_by fun K hK => ?_
  refine enter [.tmp 4, .tmp 5] Tryz.func20 rfl rfl (by kernel_rfl) rfl ?_
  simp -dsimp [boxS_eq]
  generalize hB : Array.push h _ = h0
  have k0 : Keep none_ h h0 := by rw [← hB]; exact .push _ _ _
  have wQ : h0[h.size]? = some (.cells #[.int .i64 a, .slice fa n fc] 27 (0, 0)) := by rw [← hB]; exact push_new _ _
  try simp -dsimp [wQ]
  refine call_by (pserve_not (st.keep k0 fun _ _ h => h) hu hd rfl hno) ?_
  rintro _ h1 ⟨rfl, k1⟩
  have k01 : Keep none_ h h1 := k0.trans k1 fun _ _ h => h
  simp -dsimp
  exact hK _ _ ⟨rfl, k01⟩

set_option maxHeartbeats 1000000 in
set_option maxRecDepth 10000 in
theorem server14_not {h : Heap} {v fv : Value} {F : Nat → Prop} {M : Mod} {a : Int} {n : Nat} {fa : Option Addr} {fc : Nat} (st : RefAt v F h M) (hu : usedF M.files < 1000000) (hl : M.files.length < 1000000) (hd : (M.nowOf nmFact).length < 1000000) (hfv : fv = .slice fa n fc) (hno : ¬ FactsIn M) :
    CallH Tryz.prog 21 #[v, .agg #[.int .i64 a, fv]] h fun r h' => r = .tuple #[.int .i64 0, .bool false] ∧ Keep none_ h h' := by
  refine callH_by fun K hK => ?_
  refine enter [.tmp 4, .tmp 5] Tryz.func21 rfl rfl (by kernel_rfl) rfl ?_
  subst hfv
  simp -dsimp [boxS_eq]
  generalize hB : Array.push h _ = h0
  have k0 : Keep none_ h h0 := by rw [← hB]; exact .push _ _ _
  refine call_by (facts14_spec (st.keep k0 fun _ _ h => h) hu hl hd) ?_
  rintro _ h1 ⟨cv, ms, rv, ok, rfl, k1, hcase⟩
  rcases hcase with ⟨hyes, _⟩ | ⟨_, rfl, rfl, rfl⟩
  · exact absurd hyes hno
  have k01 : Keep none_ h h1 := k0.trans k1 fun _ _ h => h
  simp -dsimp
  exact hK _ _ ⟨rfl, (k01.pushed _).setted _ fun hh => by have := k01.size; omega⟩
end Go.Proofs

/-
  Slices of numbers, with how much they take.
-/
namespace Go.HC
open Go.ChangeShapes Go.WideShapes Go.ChangeAt Go.RowKit
section
variable {H : Type} {enc : TypeId × Value → H} {P : Program} {W : World} {base : Nat}
theorem open_intW {t e : TypeId} {v : Value} {d : DataW H} {p : List MemPlace} (ht : P.underlying t = some (.slice e)) (he : P.underlying e = some (.int .i64)) (hc : P.cellsOf e = 1) (hb : P.bytesOf e = 8)
    (hval : Value.okWide P W .any base t v) (hd : DataW.Trod enc P W 0 (fun _ => true) true t v d p) (hw : (DataW.weights P t d).all (· ≤ reachBytes) = true) : ∃ xs : List Int, SlRep rInt (fun b => b < W.heap.size) W.heap v xs ∧ (xs.length + 1) * 8 ≤ 140737488355328 := by
  obtain ⟨a, n, c, zs, rfl, rfl, h1, h2, h3, _⟩ := open_rep ht he hc hval hd
  refine ⟨zs, ⟨a, c, _, rfl, h1, h2, h3, ints_map.2 rfl⟩, ?_⟩
  obtain ⟨fuel, hf⟩ := hd
  rcases DataW.trod_slice ht hf with ⟨hcs, hx⟩ | ⟨a', len, cap, elems, rest, n, _, hcs, hx, _, _, _, hlen, _⟩
  · simp [Value.cells] at hcs
    rw [hcs.2.1]
    decide
  · simp [Value.cells] at hcs
    simp only [Prod.mk.injEq] at hx
    rw [hx.1] at hw
    unfold DataW.weights at hw
    simp only [ht, List.all_cons, Bool.and_eq_true, decide_eq_true_eq, List.length_map, hb] at hw
    have h := hw.1
    have er : reachBytes = 140737488351232 := rfl
    rw [er, hlen, ← hcs.2.1] at h
    omega
end
end Go.HC
