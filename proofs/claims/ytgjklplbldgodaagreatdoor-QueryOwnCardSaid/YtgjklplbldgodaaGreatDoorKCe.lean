/-
  The document's cell out of bytes.
-/
import Derived.Test.YtgjklplbldgodaaGreatDoorKCd

namespace Go.Proofs
open Go Go.HC

set_option maxHeartbeats 8000000 in
set_option maxRecDepth 10000 in
theorem rone_spec {h : Heap} {cv xv : Value} {s : SchM} {k : Int} {c : CellM} {B : List UInt8} (hcv : SlRep rInt (Old h) h cv s.cards) (hx : SlRep rByte (Old h) h xv B) (hs : SchOk s) (hk : 0 ≤ k ∧ k < 2 ^ s.cards.length) (hc : CelOk s k c) (hn : 1 ≤ c.count ∧ c.count ≤ 300) (hB : B = cellB c) :
    CallH Tryz.prog 136 #[.agg #[cv, .int .i64 s.ms], .int .i64 k, xv] h fun r h' => ∃ ds, r = .tuple #[.agg ds.toArray, .bool true] ∧ rCell.rep (Ft h.size none_ h') h' ds c ∧ Keep none_ h h' := by
  refine callH_by fun K hK => ?_
  refine enter [.cell 6 65, .tmp 7] Tryz.func136 rfl rfl (by kernel_rfl) rfl ?_
  have C := cel_at c
  have hBl := cellB_len hc
  rw [← hB] at C hBl
  have hcv0 := hcv
  have hx0 := hx
  obtain ⟨a0, c0, rfl, _, _⟩ := hcv.val
  obtain ⟨xa, xc, rfl, hxc, _⟩ := hx.val
  have hd4 := hs.dims.2
  have hms := hs.ms
  obtain ⟨m, em⟩ : ∃ m : Nat, s.ms = m := ⟨s.ms.toNat, by omega⟩
  have emn : s.ms.toNat = m := by omega
  have hsl : c.sum.length = m := by rw [hc.sum, emn]
  have hdl : (dimsM k).length ≤ 4 := cntD_le k 4
  have hdd : cntD k s.cards.length = (dimsM k).length := by unfold cntD; rw [dims_range hk.1 hk.2 hd4]
  have hkl := hc.klen
  rw [emn, ← hkl] at hBl
  obtain ⟨w, ew⟩ : ∃ w, w = B.length := ⟨_, rfl⟩
  rw [← ew] at hBl
  have hw : ∀ c : UInt8, IntKind.i64.wrap (c.toNat : Int) = (c.toNat : Int) := fun c => by have := c.toNat_lt; exact wrap_i64 (by omega) (by omega)
  have hat : ∀ {y : Heap} {M : Nat → Prop} (j : Nat) (x : UInt8), SlRep rByte (Ft 0 M y) y (.slice xa w xc) B → B[j]? = some x → ∃ bk off, xa = some ⟨bk, off, none⟩ ∧ HC.cellIn y[bk]? (off + j) = some (.int .u8 x.toNat) := fun {y} {M} j x hy hj => by
    obtain ⟨hj', e⟩ := List.getElem?_eq_some_iff.1 hj
    obtain ⟨b', o', e', _, hcc⟩ := hy.byte_at j hj'
    exact ⟨b', o', e', by rw [hcc, e]⟩
  rw [em, ← ew]
  simp -dsimp [boxS_eq]
  generalize hH : Array.push (Array.push (Array.push h _) _) _ = h0
  have k0 : Keep none_ h h0 := by rw [← hH]; exact (((Keep.refl none_ h).pushed _).pushed _).pushed _
  have z0 : h0.size = h.size + 3 := by rw [← hH]; simp
  have wS : h0[h.size]? = some (.cells #[.slice a0 s.cards.length c0, .int .i64 m] 30 (0, 0)) := by rw [← hH]; exact push_at (push_at (push_new _ _))
  have wR : h0[h.size + 1]? = some (.cells #[.slice none 0 0, .int .i64 0, .slice none 0 0, .slice none 0 0, .slice none 0 0] 65 (0, 0)) := by rw [← hH]; exact push_at (push_get (by simp))
  have wC : h0[h.size + 2]? = some (.cells #[.slice none 0 0, .int .i64 0, .slice none 0 0, .slice none 0 0, .slice none 0 0] 65 (0, 0)) := by rw [← hH]; exact push_get (by simp)
  obtain ⟨M0, eM⟩ : ∃ M0 : Nat → Prop, M0 = fun b => b = h.size + 1 ∨ b = h.size + 2 := ⟨_, rfl⟩
  have hM0 : ∀ b, M0 b ↔ b = h.size + 1 ∨ b = h.size + 2 := fun b => by rw [eM]
  have t0 : Tr none_ M0 h h0 := ⟨k0, fun b hb => .inr (by have := (hM0 b).1 hb; omega), fun b hb => by have := (hM0 b).1 hb; omega⟩
  have hxM : ∀ {y : Heap} {M : Nat → Prop}, Tr none_ M h y → SlRep rByte (Ft 0 M y) y (.slice xa w xc) B := fun t => by rw [ew]; exact hx0.mono (t.ft (Nat.le_refl 0))
  refine loopc (σ := Nat × Value) (fun t => [(1, .int .i64 k), (2, .slice xa w xc), (3, .pointer (some ⟨h.size, 0, none⟩)), (6, .pointer (some ⟨h.size + 1, 0, none⟩)), (8, .pointer (some ⟨h.size + 2, 0, none⟩)), (9, .int .i64 (cntD k t.1)), (10, .int .i64 t.1)])
    (fun t y => ∃ M own, Tr M0 M h0 y ∧ (M (h.size + 1) ∧ M (h.size + 2)) ∧ (∀ b, own = some b → h0.size ≤ b) ∧ t.1 ≤ s.cards.length ∧ y[h.size + 1]? = some (.cells #[.slice none 0 0, .int .i64 0, .slice none 0 0, .slice none 0 0, .slice none 0 0] 65 (0, 0)) ∧
      y[h.size + 2]? = some (.cells #[t.2, .int .i64 0, .slice none 0 0, .slice none 0 0, .slice none 0 0] 65 (0, 0)) ∧ Gr rInt 3 h.size M y t.2 (c.key.take (cntD k t.1)) own)
    (fun t => s.cards.length - t.1) (0, .slice none 0 0) 0 (fun t _ => t.1 = s.cards.length) noRet noRet_le (by simp [cntD]) ⟨M0, none, t0.here, ⟨(hM0 _).2 (.inl rfl), (hM0 _).2 (.inr rfl)⟩, (fun _ h => by cases h), Nat.zero_le _, wR, wC, .nil _ _ _ _ _⟩ (by kernel_rfl) ?_ ?_
  case refine_1 =>
    rintro ⟨i, v⟩ y g ⟨M, own, t, ⟨mR, mC⟩, ho, hi, wRy, wCy, gv⟩
    simp only at hi wCy gv
    have wi := wrap_succ (k := i) (by omega)
    have wSy := t.at wS (fun e => by have := (hM0 _).1 e; omega)
    have tt := t0.trans t
    obtain ⟨va, vn, vc, ev, hvn⟩ := gv.vals
    subst ev
    have hcs := cntD_succ k i
    by_cases hil : i < s.cards.length
    · simp -dsimp [wSy, hil, shr_bit (show i < 64 by omega), bit_op]
      cases hbit : bitM k i with
      | false =>
        rw [hbit, if_neg (by decide), Nat.add_zero] at hcs
        simp -dsimp [wi]
        exact ⟨(i + 1, .slice va vn vc), by simp [hcs], rfl, ⟨M, own, t, ⟨mR, mC⟩, ho, hil, wRy, wCy, by show Gr rInt _ _ _ _ _ (c.key.take (cntD k (i + 1))) own; rw [hcs]; exact gv⟩, by show s.cards.length - (i + 1) < s.cards.length - i; omega⟩
      | true =>
        rw [hbit, if_pos rfl] at hcs
        have hdi : (dimsM k)[cntD k i]? = some i := by
          unfold dimsM cntD
          exact filter_at (by omega) hbit
        obtain ⟨hci, hdv⟩ := List.getElem?_eq_some_iff.1 hdi
        have hck : cntD k i < c.key.length := by omega
        have hkv := hc.key _ hck hci
        rw [hdv, List.getD_eq_getElem?_getD, List.getElem?_eq_getElem hil, Option.getD_some] at hkv
        have hcw : cntD k i < w := by omega
        obtain ⟨bx, ox, exa, hcx⟩ := hat (cntD k i) _ (hxM tt) (C.key _ hck)
        obtain ⟨b5, o5, rfl, _, hc5⟩ := (hcv0.mono (tt.ft (Nat.le_refl 0))).int_at i hil
        have hv16 := hs.cards _ (List.getElem_mem hil)
        have hv1 : ((byteM c.key[cntD k i]).toNat : Int) = c.key[cntD k i] := byteM_small (by omega) (by omega)
        have hnlt : ¬ (s.cards[i] ≤ c.key[cntD k i]) := by omega
        have hwk : IntKind.i64.wrap c.key[cntD k i] = c.key[cntD k i] := wrap_i64 (by omega) (by omega)
        have wc : IntKind.i64.wrap ((cntD k i : Int) + 1) = ((cntD k (i + 1) : Nat) : Int) := by rw [hcs]; exact wrap_succ (by omega)
        subst exa
        simp -dsimp [idxA_nat hcw, idxA_nat hil, hcx, hv1, hwk, wSy, hc5, hnlt, wCy]
        have hlk : (c.key.take (cntD k i)).length = cntD k i := by rw [List.length_take]; omega
        refine gr_app1 rfl intT gv t.lt rfl rfl (by omega) (by omega) ?_
        intro v5 h5 own5 g5 t5 k5 ho5
        have wC5 := k5.at wCy (fun e => by have := ho _ e; omega)
        have wR5 := k5.at wRy (fun e => by have := ho _ e; omega)
        have ho5' : ∀ b, own5 = some b → h0.size ≤ b := fun b e => (ho5 _ e).elim (ho b) (by have := t.size; omega)
        obtain ⟨va5, vn5, vc5, ev5, _⟩ := g5.vals
        subst ev5
        simp -dsimp [wC5, wi, wc]
        refine ⟨(i + 1, .slice va5 vn5 vc5), by simp, rfl, ⟨_, own5, (t.trans t5).set _ (.inl mC), ⟨.inl mR, .inl mC⟩, ho5', hil, (set_other _ (by omega)).trans wR5, set_same _ (lt_of_blk wC5), ?_⟩, by show s.cards.length - (i + 1) < s.cards.length - i; omega⟩
        have : c.key.take (cntD k (i + 1)) = c.key.take (cntD k i) ++ [c.key[cntD k i]] := by
          rw [hcs, List.take_add_one, List.getElem?_eq_getElem hck]
          rfl
        show Gr rInt _ _ _ _ _ (c.key.take (cntD k (i + 1))) own5
        rw [this]
        exact g5.set _ (.inl mC) (fun e => by have := ho5' _ e; omega)
    · simp -dsimp [wSy, hil]
      exact ⟨rfl, (i, .slice va vn vc), by simp, rfl, ⟨M, own, t, ⟨mR, mC⟩, ho, hi, wRy, wCy, gv⟩, by show i = _; omega⟩
  rintro ⟨i, v⟩ y g ⟨M, own, t, ⟨mR, mC⟩, ho, hi, wRy, wCy, gv⟩ hid
  simp only at hi wCy gv hid
  subst hid
  rw [hdd, ← hkl, List.take_length] at gv
  rw [hdd, ← hkl]
  have tt := t0.trans t
  have wSy := t.at wS (fun e => by have := (hM0 _).1 e; omega)
  obtain ⟨va, vc, rfl⟩ := gv.val
  have hcb := C.count
  have hb0 : B[c.key.length]? = some (byteM (c.count.fdiv 256)) := by
    have := congrArg (·[0]?) hcb
    simpa [w2, List.getElem?_take_of_lt, List.getElem?_drop] using this
  have hb1 : B[c.key.length + 1]? = some (byteM c.count) := by
    have := congrArg (·[1]?) hcb
    simpa [w2, List.getElem?_take_of_lt, List.getElem?_drop] using this
  obtain ⟨bx, ox, exa, hcx0⟩ := hat _ _ (hxM tt) hb0
  obtain ⟨bx', ox', exa', hcx1⟩ := hat _ _ (hxM tt) hb1
  subst exa
  cases exa'
  have w1 : IntKind.i64.wrap ((c.key.length : Int) + 1) = ((c.key.length + 1 : Nat) : Int) := wrap_succ (by omega)
  have w2' : IntKind.i64.wrap ((c.key.length : Int) + 2) = (c.key.length : Int) + 2 := wrap_i64 (by omega) (by omega)
  have hidx : ∀ (j : Nat) sz ar, j < w → idxV sz ar (.slice (some ⟨bx, ox, none⟩) w xc) (.int .i64 (j : Int)) = sz.map fun sz => .pointer (some ⟨bx, ox + j * sz, none⟩) := fun j sz ar hj =>
    idxV_nat (sz := sz) (ar := ar) (bk := bx) (off := ox) (n := w) (c := xc) (i := j) (k := .i64) hj
  have hidx0 : ∀ sz ar, idxV sz ar (.slice (some ⟨bx, ox, none⟩) w xc) (.int .i64 (c.key.length : Int)) = sz.map fun sz => .pointer (some ⟨bx, ox + c.key.length * sz, none⟩) := fun sz ar => hidx _ sz ar (by omega)
  have hidx1 : ∀ sz ar, idxV sz ar (.slice (some ⟨bx, ox, none⟩) w xc) (.int .i64 ((c.key.length : Int) + 1)) = sz.map fun sz => .pointer (some ⟨bx, ox + (c.key.length + 1) * sz, none⟩) := fun sz ar => hidx (c.key.length + 1) sz ar (by omega)
  have l2 := (byteM c.count).toNat_lt
  have hor : binV Tryz.prog .or 3 (.int .i64 (IntKind.i64.wrap (((byteM (c.count.fdiv 256)).toNat : Int) * 256))) (.int .i64 ((byteM c.count).toNat : Int)) = some (.int .i64 c.count) := by
    have := or8 ((byteM (c.count.fdiv 256)).toNat : Int) l2
    rw [show IntKind.i64.wrap (((byteM (c.count.fdiv 256)).toNat : Int) * 256 + ((byteM c.count).toNat : Int)) = c.count by
      rw [byteM_nat, byteM_nat, Int.fdiv_eq_ediv_of_nonneg _ (by decide), wrap_i64 (by omega) (by omega)]
      omega] at this
    exact this
  have hshl : ∀ n : Int, binV Tryz.prog .shl 3 (.int .i64 n) (.int .u64 8) = some (.int .i64 (IntKind.i64.wrap (n * 256))) := fun n => shl8 n
  simp -dsimp
  refine drawn_by [⟨0, true, []⟩, ⟨1, true, []⟩, ⟨2, true, []⟩, ⟨3, true, []⟩, ⟨4, true, []⟩, ⟨5, true, []⟩, ⟨6, true, []⟩, ⟨7, true, []⟩, ⟨8, true, []⟩, ⟨9, true, []⟩, ⟨10, true, []⟩, ⟨11, true, []⟩, ⟨12, true, []⟩, ⟨13, true, []⟩, ⟨14, false, []⟩] (by kernel_rfl) (by kernel_rfl) ?_
  simp -dsimp [w1, hidx0, hidx1, elSz_eq, hcx0, hcx1, hw, hshl, hor, wCy, w2']
  generalize hE : Array.setIfInBounds y (h.size + 2) _ = y0
  have u0 : Tr M M0 y y0 := by
    have := (t.here.set (.cells #[.slice va c.key.length vc, .int .i64 c.count, .slice none 0 0, .slice none 0 0, .slice none 0 0] 65) mC).less (M'' := M0) fun b hb => ((hM0 b).1 hb).elim (fun e => by rw [e]; exact mR) (fun e => by rw [e]; exact mC)
    rw [← hE]; exact this
  have tt0 : Tr none_ M0 h y0 := tt.trans u0
  have wC0 : y0[h.size + 2]? = some (.cells #[.slice va c.key.length vc, .int .i64 c.count, .slice none 0 0, .slice none 0 0, .slice none 0 0] 65 (0, 0)) := by rw [← hE]; exact set_same _ (lt_of_blk wCy)
  have wR0 : y0[h.size + 1]? = some (.cells #[.slice none 0 0, .int .i64 0, .slice none 0 0, .slice none 0 0, .slice none 0 0] 65 (0, 0)) := by rw [← hE]; exact (set_other _ (by omega)).trans wRy
  have gk : SlRep rInt (Ft h.size M0 y0) y0 (.slice va c.key.length vc) c.key := gv.grow.ints.mono fun b hb => by
    have h1 := ho b hb
    have h2 := gv.own_lt b hb
    have e : y0[b]? = y[b]? := by rw [← hE]; exact set_other _ (by omega)
    exact ⟨⟨⟨by omega, fun _ => (gv.thaw b hb).at e⟩, by have := u0.size; omega, fun hm => by have := (hM0 _).1 hm; omega⟩, e⟩
  have hBS : ∀ {z : Heap} {N : Nat → Prop}, Tr M0 N y0 z → z[h.size]? = some (.cells #[.slice a0 s.cards.length c0, .int .i64 m] 30 (0, 0)) := fun tz => ((t.trans u0).trans tz).at wS (fun e => by have := (hM0 _).1 e; omega)
  refine loopc (σ := Nat × Value × Value × Value) (fun t => [(2, .slice (some ⟨bx, ox, none⟩) w xc), (3, .pointer (some ⟨h.size, 0, none⟩)), (6, .pointer (some ⟨h.size + 1, 0, none⟩)), (8, .pointer (some ⟨h.size + 2, 0, none⟩)), (9, .int .i64 (c.key.length + 2 + 24 * t.1 : Nat)), (12, .int .i64 t.1)])
    (fun t z => ∃ N o2 o3 o4, Tr M0 N y0 z ∧ (N (h.size + 1) ∧ N (h.size + 2)) ∧ t.1 ≤ m ∧ z[h.size + 1]? = some (.cells #[.slice none 0 0, .int .i64 0, .slice none 0 0, .slice none 0 0, .slice none 0 0] 65 (0, 0)) ∧
      z[h.size + 2]? = some (.cells #[.slice va c.key.length vc, .int .i64 c.count, t.2.1, t.2.2.1, t.2.2.2] 65 (0, 0)) ∧
      Grs rInt 3 h.size N z (fun b => b = h.size + 1 ∨ b = h.size + 2) [⟨t.2.1, c.sum.take t.1, o2⟩, ⟨t.2.2.1, c.mn.take t.1, o3⟩, ⟨t.2.2.2, c.mx.take t.1, o4⟩])
    (fun t => m - t.1) (0, .slice none 0 0, .slice none 0 0, .slice none 0 0) 2 (fun t _ => t.1 = m) noRet noRet_le (by simp) ⟨M0, none, none, none, u0.here, ⟨(hM0 _).2 (.inl rfl), (hM0 _).2 (.inr rfl)⟩, Nat.zero_le _, wR0, wC0, Grs.nils 3⟩ (by kernel_rfl) ?_ ?_
  case refine_1 =>
    rintro ⟨j, v2, v3, v4⟩ z g ⟨N, o2, o3, o4, tz, ⟨nR, nC⟩, hj, wRz, wCz, gg⟩
    simp only at hj wCz gg
    have wSz := hBS tz
    have wj := wrap_succ (k := j) (by omega)
    obtain ⟨va2, vn2, vc2, rfl, _⟩ := (gg.at (i := 0) rfl).vals
    obtain ⟨va3, vn3, vc3, rfl, _⟩ := (gg.at (i := 1) rfl).vals
    obtain ⟨va4, vn4, vc4, rfl, _⟩ := (gg.at (i := 2) rfl).vals
    by_cases hjl : j < m
    · have hjl' : (j : Int) < m := by omega
      obtain ⟨q, eq⟩ : ∃ q, q = c.key.length + 2 + 24 * j := ⟨_, rfl⟩
      have hqw : q + 24 ≤ w := by omega
      rw [← eq]
      have wq : ∀ e : Nat, e < 1000 → IntKind.i64.wrap ((q : Int) + (e : Int)) = (q : Int) + (e : Int) := fun e he => wrap_i64 (by omega) (by omega)
      have wq8 : IntKind.i64.wrap ((q : Int) + 8) = (q : Int) + 8 := wq 8 (by omega)
      have wq16 : IntKind.i64.wrap ((q : Int) + 16) = (q : Int) + 16 := wq 16 (by omega)
      have wq24 : IntKind.i64.wrap ((q : Int) + 24) = (q : Int) + 24 := wq 24 (by omega)
      have hpc : ∀ lo hi : Nat, lo + 8 = hi → hi ≤ 24 → pieceV (some 1) (some (.int .i64 ((q : Int) + (lo : Int)))) (some (.int .i64 ((q : Int) + (hi : Int)))) (.slice (some ⟨bx, ox, none⟩) w xc) = some (.slice (piece (some ⟨bx, ox, none⟩) (q + lo) xc 1) 8 (xc - (q + lo))) := fun lo hi e1 e2 => by
        have e3 : ((q : Int) + (lo : Int)).toNat = q + lo := by omega
        have e4 : ((q : Int) + (hi : Int)).toNat = q + hi := by omega
        have e5 : (0 : Int) ≤ (q : Int) + (lo : Int) := by omega
        have e6 : (0 : Int) ≤ (q : Int) + (hi : Int) := by omega
        unfold pieceV
        simp only [natV, e3, e4, e5, e6, Option.bind_some, if_true]
        rw [if_pos ⟨by omega, by omega⟩]
        congr 2
        omega
      have hpc0 : pieceV (some 1) (some (.int .i64 (q : Int))) (some (.int .i64 ((q : Int) + 8))) (.slice (some ⟨bx, ox, none⟩) w xc) = some (.slice (piece (some ⟨bx, ox, none⟩) q xc 1) 8 (xc - q)) := by
        have := hpc 0 8 (by omega) (by omega)
        simpa using this
      have hpc1 : pieceV (some 1) (some (.int .i64 ((q : Int) + 8))) (some (.int .i64 ((q : Int) + 16))) (.slice (some ⟨bx, ox, none⟩) w xc) = some (.slice (piece (some ⟨bx, ox, none⟩) (q + 8) xc 1) 8 (xc - (q + 8))) := hpc 8 16 (by omega) (by omega)
      have hpc2 : pieceV (some 1) (some (.int .i64 ((q : Int) + 16))) (some (.int .i64 ((q : Int) + 24))) (.slice (some ⟨bx, ox, none⟩) w xc) = some (.slice (piece (some ⟨bx, ox, none⟩) (q + 16) xc 1) 8 (xc - (q + 16))) := hpc 16 24 (by omega) (by omega)
      have hpb : ∀ {z : Heap} {N : Nat → Prop} (lo : Nat), lo + 8 ≤ 24 → SlRep rByte (Ft 0 N z) z (.slice (some ⟨bx, ox, none⟩) w xc) B → SlRep rByte (Ft 0 N z) z (.slice (piece (some ⟨bx, ox, none⟩) (q + lo) xc 1) 8 (xc - (q + lo))) ((B.drop (q + lo)).take 8) := fun lo hlo hx => by
        have := hx.cut (i := q + lo) (j := q + lo + 8) (m := xc) (by omega) (by omega) (by omega) (Nat.le_refl _)
        rw [Nat.add_sub_cancel_left] at this
        exact this
      have l8 : ∀ lo, lo + 8 ≤ 24 → ((B.drop (q + lo)).take 8).length = 8 := fun lo hlo => by rw [List.length_take, List.length_drop]; omega
      have b0 : backM ((B.drop (q + 0)).take 8) = c.sum.getD j 0 := by
        rw [Nat.add_zero, eq, C.sum j (by omega)]; exact back8 (hc.i64 j).1.1 (hc.i64 j).1.2
      have b1 : backM ((B.drop (q + 8)).take 8) = c.mn.getD j 0 := by
        rw [eq, C.mn j (by omega)]; exact back8 (hc.i64 j).2.1.1 (hc.i64 j).2.1.2
      have b2 : backM ((B.drop (q + 16)).take 8) = c.mx.getD j 0 := by
        rw [eq, C.mx j (by omega)]; exact back8 (hc.i64 j).2.2.1 (hc.i64 j).2.2.2
      have ll : ∀ f : List Int, (f.take j).length ≤ j := fun f => by rw [List.length_take]; omega
      have wCzp : ∀ o, (z.push o)[h.size + 2]? = _ := fun o => push_at wCz
      simp -dsimp [wSz, hjl']
      refine drawn_by [⟨0, true, []⟩, ⟨1, true, []⟩, ⟨2, true, []⟩, ⟨3, true, []⟩, ⟨4, true, []⟩, ⟨5, true, []⟩, ⟨6, true, []⟩, ⟨7, false, [0, 1]⟩, ⟨8, false, [0, 1]⟩, ⟨9, false, []⟩, ⟨10, true, []⟩, ⟨11, false, []⟩] (by kernel_rfl) (by kernel_rfl) ?_
      simp -dsimp [wCz, wq8, elSz_eq, hpc0]
      refine call_by (rback_spec (hpb 0 (by omega) (hxM (tt0.trans tz))) (l8 0 (by omega))) ?_
      rintro _ z2 ⟨rfl, hh⟩
      subst z2
      rw [b0]
      simp -dsimp [wCz, wCzp, again_cons]
      refine grs_step (i := 0) (t := ⟨.slice va2 vn2 vc2, c.sum.take j, o2⟩) (b5 := h.size + 2) rfl intT gg rfl tz.lt rfl rfl (by show ((c.sum.take j).length + 1) * 8 ≤ _; have := ll c.sum; omega) (by show (c.sum.take j).length + 1 < _; have := ll c.sum; omega) (by have := lt_of_blk wRz; have := lt_of_blk wCz; rintro b (rfl | rfl) <;> omega) (by have := lt_of_blk wCz; omega) wCz nC (.inr rfl) ?_
      intro ya0 yn0 yc0 y1 N1 p0 wC1 hz1
      simp -dsimp [wC1]
      obtain ⟨z1, e1, u1, G1, wCz1, n1, hold1⟩ := hz1 (.cells #[.slice va c.key.length vc, .int .i64 c.count, .slice ya0 yn0 yc0, .slice va3 vn3 vc3, .slice va4 vn4 vc4] 65 (0, 0))
      rw [← e1]
      have U1 := tz.trans u1
      have wR1 := hold1 _ _ (show h.size + 1 ≠ h.size + 2 by omega) (.inl rfl) wRz
      have wS1 := hBS U1
      have wCp1 : ∀ o, (z1.push o)[h.size + 2]? = _ := fun o => push_at wCz1
      refine drawn_by [⟨0, true, []⟩, ⟨1, true, []⟩, ⟨2, true, []⟩, ⟨3, true, []⟩, ⟨4, true, []⟩, ⟨5, true, []⟩, ⟨6, true, []⟩, ⟨7, true, []⟩, ⟨8, false, [0, 1]⟩, ⟨9, false, [0, 1]⟩, ⟨10, false, []⟩, ⟨11, true, []⟩, ⟨12, false, []⟩] (by kernel_rfl) (by kernel_rfl) ?_
      simp -dsimp [wCz1, wq8, wq16, elSz_eq, hpc1]
      refine call_by (rback_spec (hpb 8 (by omega) (hxM (tt0.trans U1))) (l8 8 (by omega))) ?_
      rintro _ z3 ⟨rfl, hh⟩
      subst z3
      rw [b1]
      simp -dsimp [wCz1, wCp1, again_cons]
      refine grs_step (i := 1) (t := ⟨.slice va3 vn3 vc3, c.mn.take j, o3⟩) (b5 := h.size + 2) rfl intT G1 rfl U1.lt rfl rfl (by show ((c.mn.take j).length + 1) * 8 ≤ _; have := ll c.mn; omega) (by show (c.mn.take j).length + 1 < _; have := ll c.mn; omega) (by have := lt_of_blk wR1; have := lt_of_blk wCz1; rintro b (rfl | rfl) <;> omega) (by have := lt_of_blk wCz1; omega) wCz1 (n1 _ nC) (.inr rfl) ?_
      intro ya1 yn1 yc1 y2 N2 p1 wC2 hz2
      simp -dsimp [wC2]
      obtain ⟨z2, e2, u2, G2, wCz2, n2, hold2⟩ := hz2 (.cells #[.slice va c.key.length vc, .int .i64 c.count, .slice ya0 yn0 yc0, .slice ya1 yn1 yc1, .slice va4 vn4 vc4] 65 (0, 0))
      rw [← e2]
      have U2 := U1.trans u2
      have wR2 := hold2 _ _ (show h.size + 1 ≠ h.size + 2 by omega) (.inl rfl) wR1
      have wCp2 : ∀ o, (z2.push o)[h.size + 2]? = _ := fun o => push_at wCz2
      refine drawn_by [⟨0, true, []⟩, ⟨1, true, []⟩, ⟨2, true, []⟩, ⟨3, true, []⟩, ⟨4, true, []⟩, ⟨5, true, []⟩, ⟨6, true, []⟩, ⟨7, true, []⟩, ⟨8, false, [0, 1]⟩, ⟨9, false, [0, 1]⟩, ⟨10, false, []⟩, ⟨11, true, []⟩, ⟨12, false, []⟩] (by kernel_rfl) (by kernel_rfl) ?_
      simp -dsimp [wCz2, wq16, wq24, elSz_eq, hpc2]
      refine call_by (rback_spec (hpb 16 (by omega) (hxM (tt0.trans U2))) (l8 16 (by omega))) ?_
      rintro _ z3 ⟨rfl, hh⟩
      subst z3
      rw [b2]
      simp -dsimp [wCz2, wCp2, again_cons]
      refine grs_step (i := 2) (t := ⟨.slice va4 vn4 vc4, c.mx.take j, o4⟩) (b5 := h.size + 2) rfl intT G2 rfl U2.lt rfl rfl (by show ((c.mx.take j).length + 1) * 8 ≤ _; have := ll c.mx; omega) (by show (c.mx.take j).length + 1 < _; have := ll c.mx; omega) (by have := lt_of_blk wR2; have := lt_of_blk wCz2; rintro b (rfl | rfl) <;> omega) (by have := lt_of_blk wCz2; omega) wCz2 (n2 _ (n1 _ nC)) (.inr rfl) ?_
      intro ya2 yn2 yc2 y3 N3 p2 wC3 hz3
      simp -dsimp [wC3]
      obtain ⟨z3, e3, u3, G3, wCz3, n3, hold3⟩ := hz3 (.cells #[.slice va c.key.length vc, .int .i64 c.count, .slice ya0 yn0 yc0, .slice ya1 yn1 yc1, .slice ya2 yn2 yc2] 65 (0, 0))
      rw [← e3]
      have U3 := U2.trans u3
      have wR3 := hold3 _ _ (show h.size + 1 ≠ h.size + 2 by omega) (.inl rfl) wR2
      have tk : ∀ l : List Int, j < l.length → l.take (j + 1) = l.take j ++ [l.getD j 0] := fun l hl => by
        rw [List.take_add_one, List.getElem?_eq_getElem hl, List.getD_eq_getElem?_getD, List.getElem?_eq_getElem hl]
        rfl
      have G3' : Grs rInt 3 h.size N3 z3 (fun b => b = h.size + 1 ∨ b = h.size + 2) [⟨.slice ya0 yn0 yc0, c.sum.take (j + 1), p0⟩, ⟨.slice ya1 yn1 yc1, c.mn.take (j + 1), p1⟩, ⟨.slice ya2 yn2 yc2, c.mx.take (j + 1), p2⟩] := by
        rw [tk c.sum (by omega), tk c.mn (by rw [hc.mn]; omega), tk c.mx (by rw [hc.mx]; omega)]
        exact G3
      have hm1 : j < (c.mn.take (j + 1)).length := by rw [List.length_take, hc.mn]; omega
      have hm2 : j < (c.mx.take (j + 1)).length := by rw [List.length_take, hc.mx]; omega
      obtain ⟨bm, om, em', _, hcm⟩ := (G3'.at (i := 1) rfl).grow.ints.int_at j hm1
      obtain ⟨bn, on, en', _, hcn⟩ := (G3'.at (i := 2) rfl).grow.ints.int_at j hm2
      obtain ⟨_, _, _, ev1, en1⟩ := (G3'.at (i := 1) rfl).vals
      obtain ⟨_, _, _, ev2, en2⟩ := (G3'.at (i := 2) rfl).vals
      cases ev1
      cases ev2
      have gd : ∀ (l : List Int) (h : j < (l.take (j + 1)).length), (l.take (j + 1))[j] = l.getD j 0 := fun l h => by
        rw [List.getElem_take, List.getD_eq_getElem?_getD, List.getElem?_eq_getElem (by rw [List.length_take] at h; omega)]
        rfl
      have hcm' : HC.cellIn z3[bm]? (om + j) = some (.int .i64 (c.mn.getD j 0)) := by rw [← gd _ hm1]; exact hcm
      have hcn' : HC.cellIn z3[bn]? (on + j) = some (.int .i64 (c.mx.getD j 0)) := by rw [← gd _ hm2]; exact hcn
      subst em' en'
      obtain ⟨mnj, emn'⟩ : ∃ x, x = c.mn.getD j 0 := ⟨_, rfl⟩
      obtain ⟨mxj, emx'⟩ : ∃ x, x = c.mx.getD j 0 := ⟨_, rfl⟩
      have hle := hc.le j
      rw [← emn', ← emx'] at hle
      rw [← emn'] at hcm'
      rw [← emx'] at hcn'
      have hgt : ¬ (mxj < mnj) := by omega
      have ix1 : j < yn1 := by rw [en1]; exact hm1
      have ix2 : j < yn2 := by rw [en2]; exact hm2
      have wq24' : IntKind.i64.wrap ((q : Int) + 24) = ((c.key.length + 2 + 24 * (j + 1) : Nat) : Int) := by rw [wq24, eq]; omega
      refine drawn_by [⟨0, true, []⟩, ⟨1, true, []⟩, ⟨2, true, []⟩, ⟨3, true, []⟩, ⟨4, true, []⟩, ⟨5, true, []⟩, ⟨6, true, []⟩, ⟨7, true, []⟩, ⟨8, true, []⟩, ⟨9, true, []⟩, ⟨10, true, []⟩] (by kernel_rfl) (by kernel_rfl) ?_
      simp -dsimp [wCz3, idxV_nat ix1, idxV_nat ix2, elSz_eq, hcm', hcn', hgt, wj, wq24']
      exact ⟨(j + 1, _, _, _), by simp, rfl, ⟨N3, p0, p1, p2, U3, ⟨n3 _ (n2 _ (n1 _ nR)), n3 _ (n2 _ (n1 _ nC))⟩, hjl, wR3, wCz3, G3'⟩, by show m - (j + 1) < m - j; omega⟩
    · have hjl' : ¬ (j : Int) < m := by omega
      simp -dsimp [wSz, hjl']
      exact ⟨rfl, (j, _, _, _), by simp, rfl, ⟨N, o2, o3, o4, tz, ⟨nR, nC⟩, hj, wRz, wCz, gg⟩, by show j = m; omega⟩
  rintro ⟨j, v2, v3, v4⟩ z g ⟨N, o2, o3, o4, tz, ⟨nR, nC⟩, hj, wRz, wCz, gg⟩ hjm
  simp only at hj wCz gg hjm
  have tk : ∀ l : List Int, l.length = m → l.take j = l := fun l hl => List.take_of_length_le (by omega)
  rw [tk c.sum hsl, tk c.mn (by rw [hc.mn]; omega), tk c.mx (by rw [hc.mx]; omega)] at gg
  obtain ⟨va2, vn2, vc2, rfl, _⟩ := (gg.at (i := 0) rfl).vals
  obtain ⟨va3, vn3, vc3, rfl, _⟩ := (gg.at (i := 1) rfl).vals
  obtain ⟨va4, vn4, vc4, rfl, _⟩ := (gg.at (i := 2) rfl).vals
  have q1 : (1 : Int) ≤ c.count := hn.1
  have q2 : c.count ≤ (300 : Int) := hn.2
  simp -dsimp
  refine drawn_by [⟨0, true, []⟩, ⟨1, true, []⟩, ⟨2, true, []⟩, ⟨3, true, []⟩, ⟨4, true, []⟩, ⟨5, true, []⟩, ⟨6, true, []⟩, ⟨7, true, []⟩, ⟨8, true, []⟩, ⟨9, false, [5, 6, 7, 8]⟩, ⟨10, true, []⟩] (by kernel_rfl) (by kernel_rfl) ?_
  have wCs : ∀ o, (z.setIfInBounds (h.size + 1) o)[h.size + 2]? = _ := fun o => (set_other o (by omega)).trans wCz
  simp -dsimp [wCz, q1, q2, wRz, again_cons, set_same _ (lt_of_blk wRz), wCs]
  have tr := tz.set (.cells #[.slice va c.key.length vc, .int .i64 c.count, .slice va2 vn2 vc2, .slice va3 vn3 vc3, .slice va4 vn4 vc4] 65) nR
  have g9 := gg.wr (.cells #[.slice va c.key.length vc, .int .i64 c.count, .slice va2 vn2 vc2, .slice va3 vn3 vc3, .slice va4 vn4 vc4] 65) nR (.inl rfl)
  have hr := fun i t (hi : [(⟨.slice va2 vn2 vc2, c.sum, o2⟩ : GI Int), ⟨.slice va3 vn3 vc3, c.mn, o3⟩, ⟨.slice va4 vn4 vc4, c.mx, o4⟩][i]? = some t) => (g9.at hi).rep (n' := h.size) (Nat.le_refl _) fun b hb => ((g9.gr t (List.mem_of_getElem? hi)).2 b hb).2
  exact hK _ _ ⟨[.slice va c.key.length vc, .int .i64 c.count, .slice va2 vn2 vc2, .slice va3 vn3 vc3, .slice va4 vn4 vc4], rfl, ⟨_, _, _, _, rfl, (gk.mono (tr.ft (Nat.le_refl _))).mono (Ft.free (Nat.le_refl _)), hr 0 _ rfl, hr 1 _ rfl, hr 2 _ rfl⟩, (tt0.trans tr).keep⟩
end Go.Proofs

/-
  The document's cuboid out of bytes.
-/
namespace Go.HC
/-- What stands where in a cuboid's bytes. -/
structure CubAt (k : Int) (l : List CellM) (w : Nat) (b : List UInt8) : Prop where
  set : b[0]? = some (byteM k)
  hi : b[1]? = some (byteM ((l.length : Int).fdiv 256))
  lo : b[2]? = some (byteM l.length)
  cell : ∀ (i : Nat) (h : i < l.length), (b.drop (3 + i * w)).take w = cellB l[i]
  len : b.length = 3 + l.length * w
theorem cub_at {s : SchM} {k : Int} {l : List CellM} (ok : CubOk s k l) : CubAt k l ((dimsM k).length + 2 + 24 * s.ms.toNat) (encC k l) := by
  have hl : ∀ c ∈ l, (cellB c).length = (dimsM k).length + 2 + 24 * s.ms.toNat := fun c hc => cellB_len (ok.cel c hc)
  have e : encC k l = byteM k :: byteM ((l.length : Int).fdiv 256) :: byteM l.length :: l.flatMap cellB := by
    rw [encC_eq]
    unfold w2
    simp
  refine ⟨by rw [e]; rfl, by rw [e]; rfl, by rw [e]; rfl, fun i hi => ?_, ?_⟩
  · rw [e, show 3 + i * ((dimsM k).length + 2 + 24 * s.ms.toNat) = i * ((dimsM k).length + 2 + 24 * s.ms.toNat) + 1 + 1 + 1 by omega]
    simp only [List.drop_succ_cons]
    exact flat_piece hl i hi
  · rw [e]
    simp only [List.length_cons]
    rw [flat_size hl]
    omega
end Go.HC
namespace Go.Proofs
open Go Go.HC

set_option maxHeartbeats 8000000 in
set_option maxRecDepth 10000 in
theorem rcdecode_spec {h : Heap} {cv bv : Value} {s : SchM} {k : Int} {l : List CellM} (hcv : SlRep rInt (Old h) h cv s.cards) (hb : SlRep rByte (Old h) h bv (encC k l)) (ok : CubOk s k l) :
    CallH Tryz.prog 98 #[.agg #[cv, .int .i64 s.ms], bv] h fun r h' => ∃ rv, r = .tuple #[.int .i64 k, rv, .bool true] ∧ SlRep rCell (Ft h.size none_ h') h' rv l ∧ Keep none_ h h' := by
  refine callH_by fun K hK => ?_
  refine enter [.tmp 4, .tmp 5, .tmp 6] Tryz.func98 rfl rfl (by kernel_rfl) rfl ?_
  have C := cub_at ok
  obtain ⟨w, ew⟩ : ∃ w, w = (dimsM k).length + 2 + 24 * s.ms.toNat := ⟨_, rfl⟩
  rw [← ew] at C
  obtain ⟨E, eE⟩ : ∃ E, E = encC k l := ⟨_, rfl⟩
  rw [← eE] at C hb
  have hcv0 := hcv
  have hb0 := hb
  obtain ⟨a0, c0, rfl, _, _⟩ := hcv.val
  obtain ⟨xa, xc, rfl, hxc, _⟩ := hb.val
  have hd4 := ok.sch.dims.2
  have hms := ok.sch.ms
  have hdl : (dimsM k).length ≤ 4 := cntD_le k 4
  have hk := ok.set
  have hp4 : (2 : Int) ^ s.cards.length ≤ 2 ^ 4 := pow2_le hd4
  have e16 : (2 : Int) ^ 4 = 16 := by decide
  have hln := ok.len
  have hw60 : w ≤ 60 := by omega
  obtain ⟨m, em⟩ : ∃ m : Nat, s.ms = m := ⟨s.ms.toNat, by omega⟩
  have ew2 : w = (dimsM k).length + 2 + 24 * m := by rw [ew]; omega
  have hEl := C.len
  have hnw : l.length * w ≤ 300 * 60 := Nat.mul_le_mul (by omega) hw60
  have hat : ∀ (j : Nat) (x : UInt8), E[j]? = some x → ∃ bk off, xa = some ⟨bk, off, none⟩ ∧ Old h bk ∧ HC.cellIn h[bk]? (off + j) = some (.int .u8 x.toNat) := fun j x hj => by
    obtain ⟨hj', e⟩ := List.getElem?_eq_some_iff.1 hj
    obtain ⟨b', o', e', hf, hcc⟩ := hb.byte_at j hj'
    exact ⟨b', o', e', hf, by rw [hcc, e]⟩
  obtain ⟨bx, ox, exa, hfx, hx0⟩ := hat _ _ C.set
  obtain ⟨b1, o1, e1, _, hx1⟩ := hat _ _ C.hi
  obtain ⟨b2, o2, e2, _, hx2⟩ := hat _ _ C.lo
  subst exa
  cases e1
  cases e2
  rw [em]
  simp -dsimp [boxS_eq]
  generalize hH : Array.push h _ = h0
  have k0 : Keep none_ h h0 := by rw [← hH]; exact .push _ _ _
  have z0 : h0.size = h.size + 1 := by rw [← hH]; simp
  have wS : h0[h.size]? = some (.cells #[.slice a0 s.cards.length c0, .int .i64 m] 30 (0, 0)) := by rw [← hH]; exact push_new _ _
  have hxb := k0.blk bx hfx.2.1 (fun h => h)
  rw [← hxb] at hx0 hx1 hx2
  have q1 : decide ((E.length : Int) < 3) = false := decide_eq_false (by omega)
  have hidx : ∀ (j : Nat) sz ar, j < 3 → idxV sz ar (.slice (some ⟨bx, ox, none⟩) E.length xc) (.int .i64 (j : Int)) = sz.map fun sz => .pointer (some ⟨bx, ox + j * sz, none⟩) := fun j sz ar hj =>
    idxV_nat (sz := sz) (ar := ar) (bk := bx) (off := ox) (n := E.length) (c := xc) (i := j) (k := .i64) (by omega)
  have hidx0 : ∀ sz ar, idxV sz ar (.slice (some ⟨bx, ox, none⟩) E.length xc) (.int .i64 0) = sz.map fun sz => .pointer (some ⟨bx, ox + 0 * sz, none⟩) := fun sz ar => hidx 0 sz ar (by omega)
  have hidx1 : ∀ sz ar, idxV sz ar (.slice (some ⟨bx, ox, none⟩) E.length xc) (.int .i64 1) = sz.map fun sz => .pointer (some ⟨bx, ox + 1 * sz, none⟩) := fun sz ar => hidx 1 sz ar (by omega)
  have hidx2 : ∀ sz ar, idxV sz ar (.slice (some ⟨bx, ox, none⟩) E.length xc) (.int .i64 2) = sz.map fun sz => .pointer (some ⟨bx, ox + 2 * sz, none⟩) := fun sz ar => hidx 2 sz ar (by omega)
  have hk0 : ((byteM k).toNat : Int) = k := byteM_small (by omega) (by omega)
  have hkw : IntKind.i64.wrap k = k := wrap_i64 (by omega) (by omega)
  have hwb : ∀ c : UInt8, IntKind.i64.wrap (c.toNat : Int) = (c.toNat : Int) := fun c => by have := c.toNat_lt; exact wrap_i64 (by omega) (by omega)
  have l2 := (byteM (l.length : Int)).toNat_lt
  have hor : binV Tryz.prog .or 3 (.int .i64 (IntKind.i64.wrap (((byteM ((l.length : Int).fdiv 256)).toNat : Int) * 256))) (.int .i64 ((byteM (l.length : Int)).toNat : Int)) = some (.int .i64 l.length) := by
    have := or8 ((byteM ((l.length : Int).fdiv 256)).toNat : Int) l2
    rw [show IntKind.i64.wrap (((byteM ((l.length : Int).fdiv 256)).toNat : Int) * 256 + ((byteM (l.length : Int)).toNat : Int)) = l.length by
      rw [byteM_nat, byteM_nat, Int.fdiv_eq_ediv_of_nonneg _ (by decide), wrap_i64 (by omega) (by omega)]
      omega] at this
    exact this
  have hshl : ∀ n : Int, binV Tryz.prog .shl 3 (.int .i64 n) (.int .u64 8) = some (.int .i64 (IntKind.i64.wrap (n * 256))) := fun n => shl8 n
  simp -dsimp [q1]
  refine drawn_by [⟨0, true, []⟩, ⟨1, true, []⟩, ⟨2, true, []⟩, ⟨3, true, []⟩, ⟨4, true, []⟩, ⟨5, true, []⟩, ⟨6, true, []⟩, ⟨7, true, []⟩, ⟨8, true, []⟩, ⟨9, true, []⟩, ⟨10, true, []⟩, ⟨11, true, []⟩, ⟨12, true, []⟩, ⟨13, true, []⟩, ⟨14, true, []⟩, ⟨15, true, []⟩] (by kernel_rfl) (by kernel_rfl) ?_
  simp -dsimp only [Nat.add_zero] at hx0
  simp -dsimp [hidx0, hidx1, hidx2, elSz_eq, hx0, hx1, hx2, hk0, hkw, hwb, hshl, hor]
  refine drawn_by [⟨0, true, []⟩, ⟨3, true, []⟩, ⟨4, true, []⟩, ⟨5, true, []⟩, ⟨1, false, [3, 4, 5]⟩, ⟨2, true, []⟩, ⟨6, true, []⟩, ⟨7, true, []⟩] (by kernel_rfl) (by kernel_rfl) ?_
  have w1 : IntKind.i64.wrap (24 * (m : Int)) = 24 * (m : Int) := wrap_i64 (by omega) (by omega)
  have w2' : IntKind.i64.wrap (((dimsM k).length : Int) + 2) = ((dimsM k).length : Int) + 2 := wrap_i64 (by omega) (by omega)
  have w3 : IntKind.i64.wrap (((dimsM k).length : Int) + 2 + 24 * (m : Int)) = (w : Int) := by rw [wrap_i64 (by omega) (by omega), ew2]; omega
  simp -dsimp [wS, w1]
  refine call_by (rlevel_spec k h0) ?_
  rintro _ h1 ⟨rfl, hh⟩
  subst h1
  have w4 : IntKind.i64.wrap ((l.length : Int) * (w : Int)) = (l.length : Int) * (w : Int) := by rw [← Int.natCast_mul]; exact wrap_i64 (by omega) (by omega)
  have w5 : IntKind.i64.wrap (3 + (l.length : Int) * (w : Int)) = 3 + (l.length : Int) * (w : Int) := by rw [← Int.natCast_mul]; exact wrap_i64 (by omega) (by omega)
  have hz' : ((E.length : Int) != 3 + (l.length : Int) * (w : Int)) = false := by
    rw [bne_eq_false_iff_eq, hEl, ← Int.natCast_mul]
    omega
  have q2 : ¬ ((2 : Int) ^ s.cards.length ≤ k) := by omega
  have q3 : decide ((300 : Int) < (l.length : Int)) = false := decide_eq_false (by omega)
  simp -dsimp [wS, w1, w2', w3, again_cons, shl_one (k := s.cards.length) (by omega), q2, q3, w4, w5, hz']
  have cellsT' : ElemT Tryz.prog 43 65 rCell 104 := by first | exact cellT | exact cellsT
  refine loopc (σ := Nat × Value) (fun t => [(1, .slice (some ⟨bx, ox, none⟩) E.length xc), (2, .pointer (some ⟨h.size, 0, none⟩)), (7, .int .i64 k), (8, .int .i64 l.length), (9, .int .i64 w), (10, t.2), (11, .int .i64 t.1)])
    (fun t y => ∃ M own, Tr none_ M h0 y ∧ (∀ b, own = some b → h0.size ≤ b) ∧ t.1 ≤ l.length ∧ Gr rCell 65 h.size M y t.2 (l.take t.1) own)
    (fun t => l.length - t.1) (0, .slice none 0 0) 0 (fun t _ => t.1 = l.length) noRet noRet_le (by simp) ⟨none_, none, .start _, (fun _ h => by cases h), Nat.zero_le _, .nil _ _ _ _ _⟩ (by kernel_rfl) ?_ ?_
  case refine_1 =>
    rintro ⟨i, v⟩ y g ⟨M, own, t, ho, hi, gv⟩
    simp only at hi gv
    have wSy := t.at wS (fun h => h)
    have sy := t.size
    by_cases hil : i < l.length
    · have wi := wrap_succ (k := i) (by omega)
      have hiw : (i + 1) * w ≤ l.length * w := Nat.mul_le_mul hil (Nat.le_refl _)
      obtain ⟨p, ep⟩ : ∃ p, p = i * w := ⟨_, rfl⟩
      rw [Nat.succ_mul, ← ep] at hiw
      have wp : IntKind.i64.wrap ((i : Int) * (w : Int)) = (p : Int) := by rw [← Int.natCast_mul, ← ep]; exact wrap_i64 (by omega) (by omega)
      have wp3 : IntKind.i64.wrap (3 + (p : Int)) = 3 + (p : Int) := wrap_i64 (by omega) (by omega)
      have wpw : IntKind.i64.wrap (3 + (p : Int) + (w : Int)) = 3 + (p : Int) + (w : Int) := wrap_i64 (by omega) (by omega)
      have hpc : pieceV (some 1) (some (.int .i64 (3 + (p : Int)))) (some (.int .i64 (3 + (p : Int) + (w : Int)))) (.slice (some ⟨bx, ox, none⟩) E.length xc) = some (.slice (piece (some ⟨bx, ox, none⟩) (3 + p) xc 1) w (xc - (3 + p))) := by
        have e1 : (3 + (p : Int)).toNat = 3 + p := by omega
        have e2 : (3 + (p : Int) + (w : Int)).toNat = 3 + p + w := by omega
        have e3 : (0 : Int) ≤ 3 + (p : Int) := by omega
        have e4 : (0 : Int) ≤ 3 + (p : Int) + (w : Int) := by omega
        unfold pieceV
        simp only [natV, e1, e2, e3, e4, Option.bind_some, if_true]
        rw [if_pos ⟨by omega, by omega⟩, Nat.add_sub_cancel_left]
      have hpb : ∀ {z : Heap}, Keep none_ h z → SlRep rByte (Old z) z (.slice (piece (some ⟨bx, ox, none⟩) (3 + p) xc 1) w (xc - (3 + p))) (cellB l[i]) := fun kz => by
        have := (hb0.mono ((Tr.of kz).ft (Nat.le_refl 0))).cut (i := 3 + p) (j := 3 + p + w) (m := xc) (by omega) (by omega) (by omega) (Nat.le_refl _)
        rw [Nat.add_sub_cancel_left, ep, C.cell i hil] at this
        rw [ep]
        exact this
      have k0y : Keep none_ h y := k0.trans t.keep fun _ _ h => h
      have hci := List.getElem_mem hil
      have hcvz : ∀ {z : Heap}, Keep none_ h z → SlRep rInt (Old z) z (.slice a0 s.cards.length c0) s.cards := fun kz => hcv0.mono ((Tr.of kz).ft (Nat.le_refl 0))
      simp -dsimp [hil]
      refine drawn_by2 14 18 [⟨0, true, []⟩, ⟨1, true, []⟩, ⟨2, true, []⟩, ⟨3, true, []⟩, ⟨4, true, []⟩, ⟨5, true, []⟩, ⟨6, true, []⟩, ⟨7, true, []⟩, ⟨8, true, []⟩, ⟨9, true, []⟩, ⟨10, true, []⟩, ⟨11, true, []⟩, ⟨12, true, []⟩, ⟨13, true, []⟩, ⟨14, false, []⟩, ⟨15, true, []⟩, ⟨16, true, []⟩, ⟨17, true, []⟩, ⟨18, false, [15, 16, 17]⟩, ⟨19, false, [17]⟩, ⟨20, true, []⟩]
        [⟨0, true, []⟩, ⟨1, true, []⟩, ⟨2, true, []⟩, ⟨3, true, []⟩, ⟨4, true, []⟩, ⟨5, true, []⟩, ⟨6, true, []⟩, ⟨7, true, []⟩, ⟨8, true, []⟩, ⟨9, true, []⟩, ⟨10, true, []⟩, ⟨11, true, []⟩, ⟨12, true, []⟩, ⟨13, true, []⟩, ⟨18, false, [0, 1, 2, 3, 4, 5, 6, 7, 8, 9, 10, 11, 12, 13]⟩, ⟨14, false, []⟩, ⟨15, true, []⟩, ⟨16, true, []⟩, ⟨17, true, []⟩, ⟨19, false, [17]⟩, ⟨20, true, []⟩] (by kernel_rfl) (by kernel_rfl) ?A ?B
      case' A =>
        simp -dsimp [wSy, wp, wp3, wpw, elSz_eq, hpc]
        rw [← em]
        refine call_by (rone_spec (hcvz k0y) (hpb k0y) ok.sch ok.set (ok.cel _ hci) (ok.count _ hci) rfl) ?_
        rintro _ z1 ⟨ds, rfl, hds, kz1⟩
        obtain ⟨ka, kc, sa, sc, na, nc, xa', xc', rfl, r1, r2, r3, r4⟩ := cell_open hds
        simp -dsimp [again_cons]
        rw [push_set rfl]
        obtain ⟨bc, ebc⟩ : ∃ bc, bc = z1.size := ⟨_, rfl⟩
        rw [← ebc]
        generalize hZ : Array.push z1 _ = z
        have kyz : Keep none_ y z := by rw [← hZ]; exact kz1.pushed _
        have wC : z[bc]? = some (.cells #[.slice ka l[i].key.length kc, .int .i64 l[i].count, .slice sa l[i].sum.length sc, .slice na l[i].mn.length nc, .slice xa' l[i].mx.length xc'] 65 (0, 0)) := by rw [← hZ, ebc]; exact push_new _ _
        have hrep : rCell.rep (Ft y.size none_ z) z [.slice ka l[i].key.length kc, .int .i64 l[i].count, .slice sa l[i].sum.length sc, .slice na l[i].mn.length nc, .slice xa' l[i].mx.length xc'] l[i] := rCell.mono hds ((Tr.of (by rw [← hZ]; exact .push _ _ _)).ft (Nat.le_refl _))
      case' B =>
        simp -dsimp [wSy, wp, wp3, wpw, elSz_eq, hpc]
        obtain ⟨bc, ebc⟩ : ∃ bc, bc = y.size := ⟨_, rfl⟩
        rw [← ebc]
        generalize hP : Array.push y _ = yp
        have kp : Keep none_ y yp := by rw [← hP]; exact .push _ _ _
        have zp : yp.size = y.size + 1 := by rw [← hP]; simp
        have wp0 : yp[bc]? = some (.cells #[.slice none 0 0, .int .i64 0, .slice none 0 0, .slice none 0 0, .slice none 0 0] 65 (0, 0)) := by rw [← hP, ebc]; exact push_new _ _
        have wSp := kp.at wSy (fun h => h)
        have k0p : Keep none_ h yp := k0y.trans kp fun _ _ h => h
        simp -dsimp [again_cons, wSp, wp, wp3, wpw, elSz_eq, hpc]
        rw [← em]
        refine call_by (rone_spec (hcvz k0p) (hpb k0p) ok.sch ok.set (ok.cel _ hci) (ok.count _ hci) rfl) ?_
        rintro _ z1 ⟨ds, rfl, hds, kz1⟩
        obtain ⟨ka, kc, sa, sc, na, nc, xa', xc', rfl, r1, r2, r3, r4⟩ := cell_open hds
        have wp1 := kz1.at wp0 (fun h => h)
        have sz1 := kz1.size
        simp -dsimp [again_cons, wp1]
        generalize hZ : Array.setIfInBounds z1 bc _ = z
        have kyz : Keep none_ y z := by rw [← hZ]; exact (kp.trans kz1 fun _ _ h => h).setted _ fun hh => by omega
        have wC : z[bc]? = some (.cells #[.slice ka l[i].key.length kc, .int .i64 l[i].count, .slice sa l[i].sum.length sc, .slice na l[i].mn.length nc, .slice xa' l[i].mx.length xc'] 65 (0, 0)) := by rw [← hZ]; exact set_same _ (lt_of_blk wp1)
        have hrep : rCell.rep (Ft y.size none_ z) z [.slice ka l[i].key.length kc, .int .i64 l[i].count, .slice sa l[i].sum.length sc, .slice na l[i].mn.length nc, .slice xa' l[i].mx.length xc'] l[i] := rCell.mono hds fun b hb => by
          have h1 := hb.1.1
          have e : z[b]? = z1[b]? := by rw [← hZ]; exact set_other _ (by omega)
          exact ⟨⟨hb.1.at (by omega) e, by rw [← hZ]; simpa using hb.2.1, fun h => h⟩, e⟩
      all_goals
        have k0z : Keep none_ h z := k0y.trans kyz fun _ _ h => h
        have wSz := kyz.at wSy (fun h => h)
        have gz := gv.call kyz
        obtain ⟨va, vn, vc, rfl, hvn⟩ := gz.vals
        have hlt : (l.take i).length = i := by rw [List.length_take]; omega
        refine drawn_by [⟨0, true, []⟩, ⟨1, true, []⟩, ⟨2, true, []⟩, ⟨3, true, []⟩, ⟨4, true, []⟩, ⟨5, true, []⟩, ⟨6, true, []⟩, ⟨7, true, []⟩, ⟨8, true, []⟩, ⟨9, true, []⟩, ⟨10, true, []⟩, ⟨11, true, []⟩, ⟨12, true, []⟩, ⟨13, true, []⟩, ⟨14, false, []⟩, ⟨15, true, []⟩, ⟨16, true, []⟩, ⟨17, true, []⟩] (by kernel_rfl) (by kernel_rfl) ?_
      all_goals
        have sz := kyz.size
        by_cases hi0 : (i : Int) = 0
        · have hig : ¬ (0 : Int) < (i : Int) := by omega
          have hig' : ¬ 0 < i := by omega
          simp -dsimp [hig', wC]
          refine gr_app1 rfl cellT gz (t.call kyz).lt (x := l[i]) (c := [.slice ka l[i].key.length kc, .int .i64 l[i].count, .slice sa l[i].sum.length sc, .slice na l[i].mn.length nc, .slice xa' l[i].mx.length xc']) ?_ rfl (by omega) (by omega) ?_
          · exact rCell.mono hrep fun b hb => ⟨⟨hb.1.less (by omega), hb.2.1, fun hm => by have := t.lt b hm; have := hb.1.1; omega⟩, rfl⟩
          intro v7 h7 own7 g7 t7 k7 ho7
          simp -dsimp [wi]
          refine ⟨(i + 1, v7), by simp, rfl, ⟨_, own7, (t.call kyz).trans t7, (fun b e => (ho7 _ e).elim (ho b) (by omega)), hil, ?_⟩, by show l.length - (i + 1) < l.length - i; omega⟩
          show Gr rCell _ _ _ _ _ (l.take (i + 1)) own7
          rw [List.take_add_one, List.getElem?_eq_getElem hil]
          exact g7
        · have hig' : 0 < i := by omega
          have w7 : IntKind.i64.wrap ((i : Int) - 1) = ((i - 1 : Nat) : Int) := by rw [wrap_i64 (by omega) (by omega)]; omega
          have hi1 : i - 1 < (l.take i).length := by omega
          obtain ⟨bk, cs1, eva, eown, hrc, hce⟩ := gz.elem (i - 1) hi1
          subst eva
          rw [List.getElem_take] at hrc
          obtain ⟨pa, pc, _, _, _, _, _, _, rfl, rp, _, _, _⟩ := cell_open hrc
          have hcell := cellsIn_cell (d := 0) hce (by decide)
          have hkey : HC.cellIn z[bk]? ((i - 1) * 5) = some (.slice pa (l[i - 1]).key.length pc) := hcell
          obtain ⟨_, _, _, _, _, _, _, _, ers, rk, _, _, _⟩ := cell_open hrep
          cases ers
          have hix : i - 1 < vn := by omega
          have hlsrt : lessM l[i - 1].key l[i].key < 0 :=
             List.pairwise_iff_getElem.1 ok.srt (i - 1) i (by omega) hil (by omega)
          have hge : ¬ (0 ≤ lessM l[i - 1].key l[i].key) := by omega
          simp -dsimp [hig', w7, idxV_nat hix, elSz_eq, hkey, wC]
          refine call_by (rless_spec rp rk) ?_
          rintro _ z9 ⟨rfl, hh⟩
          subst z9
          simp -dsimp [hge, wC, again_cons]
          refine gr_app1 rfl cellT gz (t.call kyz).lt (x := l[i]) (c := [.slice ka l[i].key.length kc, .int .i64 l[i].count, .slice sa l[i].sum.length sc, .slice na l[i].mn.length nc, .slice xa' l[i].mx.length xc']) ?_ rfl (by omega) (by omega) ?_
          · exact rCell.mono hrep fun b hb => ⟨⟨hb.1.less (by omega), hb.2.1, fun hm => by have := t.lt b hm; have := hb.1.1; omega⟩, rfl⟩
          intro v7 h7 own7 g7 t7 k7 ho7
          simp -dsimp [wi]
          refine ⟨(i + 1, v7), by simp, rfl, ⟨_, own7, (t.call kyz).trans t7, (fun b e => (ho7 _ e).elim (ho b) (by omega)), hil, ?_⟩, by show l.length - (i + 1) < l.length - i; omega⟩
          show Gr rCell _ _ _ _ _ (l.take (i + 1)) own7
          rw [List.take_add_one, List.getElem?_eq_getElem hil]
          exact g7
    · have hil' : ¬ (i : Int) < l.length := by omega
      simp -dsimp [hil]
      exact ⟨rfl, (i, v), by simp, rfl, ⟨M, own, t, ho, hi, gv⟩, by show i = _; omega⟩
  rintro ⟨i, v⟩ y g ⟨M, own, t, ho, hi, gv⟩ hil
  simp only at hi gv hil
  rw [hil, List.take_length] at gv
  simp -dsimp
  exact hK _ _ ⟨v, rfl, gv.rep (Nat.le_refl _) (fun b e => by have := ho b e; omega), k0.trans t.keep fun _ _ h => h⟩
end Go.Proofs

/-
  The program's cuboid out of bytes.
-/
namespace Go.Proofs
open Go Go.HC

set_option maxHeartbeats 2000000 in
set_option maxRecDepth 10000 in
theorem pcdecode_spec {h : Heap} {cv bv : Value} {s : SchM} {k : Int} {l : List CellM} (hcv : SlRep rInt (Old h) h cv s.cards) (hb : SlRep rByte (Old h) h bv (encC k l)) (ok : CubOk s k l) :
    CallH Tryz.prog 88 #[.agg #[cv, .int .i64 s.ms], bv] h fun r h' => ∃ rv, r = .tuple #[.int .i64 k, rv, .bool true] ∧ SlRep rCell (Ft h.size none_ h') h' rv l ∧ Keep none_ h h' := by
  refine callH_by fun K hK => ?_
  refine enter [.tmp 4, .tmp 5, .tmp 6] Tryz.func88 rfl rfl (by kernel_rfl) rfl ?_
  have C := cub_at ok
  have hcl : ∀ c ∈ l, (cellB c).length = (dimsM k).length + 2 + 24 * s.ms.toNat := fun c hc => cellB_len (ok.cel c hc)
  obtain ⟨w, ew⟩ : ∃ w, w = (dimsM k).length + 2 + 24 * s.ms.toNat := ⟨_, rfl⟩
  rw [← ew] at C
  obtain ⟨E, eE⟩ : ∃ E, E = encC k l := ⟨_, rfl⟩
  rw [← eE] at C hb
  have hcv0 := hcv
  have hb0 := hb
  obtain ⟨a0, c0, rfl, _, _⟩ := hcv.val
  obtain ⟨xa, xc, rfl, hxc, _⟩ := hb.val
  have hd4 := ok.sch.dims.2
  have hms := ok.sch.ms
  have hdl : (dimsM k).length ≤ 4 := cntD_le k 4
  have hk := ok.set
  have hp4 : (2 : Int) ^ s.cards.length ≤ 2 ^ 4 := pow2_le hd4
  have e16 : (2 : Int) ^ 4 = 16 := by decide
  have hln := ok.len
  have hw60 : w ≤ 60 := by omega
  obtain ⟨m, em⟩ : ∃ m : Nat, s.ms = m := ⟨s.ms.toNat, by omega⟩
  have ew2 : w = (dimsM k).length + 2 + 24 * m := by rw [ew]; omega
  have hEl := C.len
  have hnw : l.length * w ≤ 300 * 60 := Nat.mul_le_mul (by omega) hw60
  rw [em]
  simp -dsimp [boxS_eq]
  generalize hH : Array.push h _ = h0
  have k0 : Keep none_ h h0 := by rw [← hH]; exact .push _ _ _
  have z0 : h0.size = h.size + 1 := by rw [← hH]; simp
  have wS : h0[h.size]? = some (.cells #[.slice a0 s.cards.length c0, .int .i64 m] 30 (0, 0)) := by rw [← hH]; exact push_new _ _
  have q1 : decide ((E.length : Int) < 3) = false := decide_eq_false (by omega)
  have hcvz : ∀ {z : Heap}, Keep none_ h z → SlRep rInt (Old z) z (.slice a0 s.cards.length c0) s.cards := fun kz => hcv0.mono ((Tr.of kz).ft (Nat.le_refl 0))
  simp -dsimp [q1, wS]
  rw [← em]
  refine call_by (pcheck_spec (hcvz k0)) ?_
  rintro _ h1 ⟨⟨t, rfl, ht⟩, k1⟩
  obtain rfl := ht.2 ok.sch
  have wS1 := k1.at wS (fun h => h)
  have k01 : Keep none_ h h1 := k0.trans k1 fun _ _ h => h
  have hbF : ∀ {z : Heap}, Keep none_ h z → SlRep rByte (Old h) z (.slice xa E.length xc) E := fun kz => hb0.mono fun b hb => ⟨hb, kz.blk b hb.2.1 (fun h => h)⟩
  have b1 : E.take 1 = [byteM k] := by
    have := C.set
    obtain ⟨hl0, e0⟩ := List.getElem?_eq_some_iff.1 this
    rw [List.take_one, List.head?_eq_getElem?, this]
    rfl
  have b2 : (E.drop 1).take 2 = HC.w2 l.length := by
    have h1 := C.hi
    have h2 := C.lo
    obtain ⟨hl1, e1⟩ := List.getElem?_eq_some_iff.1 h1
    obtain ⟨hl2, e2⟩ := List.getElem?_eq_some_iff.1 h2
    rw [List.drop_eq_getElem_cons hl1, List.drop_eq_getElem_cons hl2, List.take_succ_cons, List.take_succ_cons, List.take_zero, e1, e2]
    rfl
  have v1 : backM [byteM k] = k := by
    unfold backM
    rw [List.foldl_cons, List.foldl_nil, byteM_small (by omega) (by omega), wrap_i64 (by omega) (by omega)]
    omega
  simp -dsimp
  refine call_by (get_spec (n := 1) (hbF k01) (by omega) (by omega)) ?_
  rintro _ h2 ⟨⟨v', rfl, r2⟩, hh⟩
  subst h2
  rw [b1, v1]
  obtain ⟨va2, vn2, vc2, rfl⟩ : ∃ a n c, v' = .slice a n c := by obtain ⟨a, c, e, _⟩ := r2.val; exact ⟨_, _, _, e⟩
  simp -dsimp
  refine call_by (get_spec (n := 2) r2 (by omega) (by rw [List.length_drop]; omega)) ?_
  rintro _ h2 ⟨⟨v', rfl, r3⟩, hh⟩
  subst h2
  rw [b2, back2 (by omega) (by omega)]
  rw [List.drop_drop] at r3
  obtain ⟨va3, vc3, rfl, _, _⟩ := r3.val
  have hEd : (E.drop (1 + 2)).length = l.length * w := by rw [List.length_drop]; omega
  rw [hEd] at r3 ⊢
  have hsh : k.fdiv (2 ^ s.cards.length) = 0 := by rw [Int.fdiv_eq_ediv_of_nonneg _ (by omega)]; exact Int.ediv_eq_zero_of_lt hk.1 hk.2
  have q2 : ¬ (16 : Int) ≤ k := by omega
  have q3 : decide ((300 : Int) < (l.length : Int)) = false := decide_eq_false (by omega)
  have wu : IntKind.u64.wrap k = k := by simp [IntKind.wrap, IntKind.bits, IntKind.signed]; omega
  have w1 : IntKind.i64.wrap (24 * (m : Int)) = 24 * (m : Int) := wrap_i64 (by omega) (by omega)
  have w2' : IntKind.i64.wrap (((dimsM k).length : Int) + 2) = ((dimsM k).length : Int) + 2 := wrap_i64 (by omega) (by omega)
  have w3 : IntKind.i64.wrap (((dimsM k).length : Int) + 2 + 24 * (m : Int)) = (w : Int) := by rw [wrap_i64 (by omega) (by omega), ew2]; omega
  have w4 : IntKind.i64.wrap ((l.length : Int) * (w : Int)) = (l.length : Int) * (w : Int) := by rw [← Int.natCast_mul]; exact wrap_i64 (by omega) (by omega)
  have hz' : (((l.length * w : Nat) : Int) != (l.length : Int) * (w : Int)) = false := by rw [bne_eq_false_iff_eq, Int.natCast_mul]
  simp -dsimp
  refine drawn_by [⟨0, true, []⟩, ⟨1, true, []⟩, ⟨2, true, []⟩, ⟨3, true, []⟩, ⟨4, true, []⟩, ⟨5, true, []⟩, ⟨6, true, []⟩, ⟨7, true, []⟩, ⟨8, true, []⟩, ⟨9, true, []⟩, ⟨10, true, []⟩, ⟨11, true, []⟩, ⟨12, true, []⟩, ⟨13, true, []⟩, ⟨14, true, []⟩, ⟨15, true, []⟩, ⟨16, true, []⟩, ⟨17, true, []⟩, ⟨18, true, []⟩, ⟨19, true, []⟩, ⟨22, true, []⟩, ⟨23, true, []⟩, ⟨24, true, []⟩, ⟨20, false, [15, 16, 17, 22, 23, 24]⟩, ⟨21, true, []⟩, ⟨25, true, []⟩, ⟨26, true, []⟩, ⟨27, true, []⟩, ⟨28, true, []⟩] (by kernel_rfl) (by kernel_rfl) ?_
  simp -dsimp [q2, wS1, shr_i (s := k) (k := s.cards.length) (by omega), hsh, q3, wu, w1]
  refine call_by (ones_spec (by omega) (by omega) h1) ?_
  rintro _ h2 ⟨rfl, hh⟩
  subst h2
  simp -dsimp [again_cons, q2, wS1, shr_i (s := k) (k := s.cards.length) (by omega), hsh, q3, wu, w1, w2', w3, w4]
  have hpe : ∀ (i : Nat) (h : i < l.length), ((E.drop (3 + i * w)).take w) = cellB l[i] := C.cell
  have r3' : SlRep rByte (Old h) h1 (.slice va3 (l.length * w) vc3) (E.drop (3 + 0 * w)) := by rw [Nat.zero_mul]; exact r3
  refine loopc (σ := Nat × Value × Value) (fun t => [(1, t.2.2), (2, .pointer (some ⟨h.size, 0, none⟩)), (4, .int .i64 k), (5, t.2.1), (56, .int .i64 l.length), (57, .int .i64 t.1)])
    (fun t y => ∃ M own, Tr none_ M h1 y ∧ (∀ b, own = some b → h1.size ≤ b) ∧ t.1 ≤ l.length ∧ SlRep rByte (Old h) y t.2.2 (E.drop (3 + t.1 * w)) ∧ Gr rCell 65 h.size M y t.2.1 (l.take t.1) own)
    (fun t => l.length - t.1) (0, .slice none 0 0, .slice va3 (l.length * w) vc3) 0 (fun t _ => t.1 = l.length) noRet noRet_le (by simp) ⟨none_, none, .start _, (fun _ h => by cases h), Nat.zero_le _, r3', .nil _ _ _ _ _⟩ (by kernel_rfl) ?_ ?_
  case refine_1 =>
    rintro ⟨i, v, bv⟩ y g ⟨M, own, t, ho, hi, ry, gv⟩
    simp only at hi ry gv
    have wSy := t.at wS1 (fun h => h)
    have sy := t.size
    by_cases hil : i < l.length
    · have wi := wrap_succ (k := i) (by omega)
      have hiw : (i + 1) * w ≤ l.length * w := Nat.mul_le_mul hil (Nat.le_refl _)
      rw [Nat.succ_mul] at hiw
      have k0y : Keep none_ h y := k01.trans t.keep fun _ _ h => h
      have hci := List.getElem_mem hil
      simp -dsimp [hil]
      obtain ⟨bc, ebc⟩ : ∃ bc, bc = y.size := ⟨_, rfl⟩
      rw [← ebc]
      generalize hP : Array.push y _ = yp
      have kp : Keep none_ y yp := by rw [← hP]; exact .push _ _ _
      have zp : yp.size = y.size + 1 := by rw [← hP]; simp
      have wp0 : yp[bc]? = some (.cells #[.slice none 0 0, .int .i64 0, .slice none 0 0, .slice none 0 0, .slice none 0 0] 65 (0, 0)) := by rw [← hP, ebc]; exact push_new _ _
      have wSp := kp.at wSy (fun h => h)
      have k0p : Keep none_ h yp := k0y.trans kp fun _ _ h => h
      have rp : SlRep rByte (Old h) yp bv (E.drop (3 + i * w)) := ry.mono fun b hb => ⟨hb, kp.blk b (by have := hb.2.1; have := k0y.size; omega) (fun h => h)⟩
      simp -dsimp [wSp]
      rw [← em]
      refine call_by (pone_spec (w := w) (hcvz k0p) (fun b hb => by have := hb.2.1; have := k0p.size; omega) rp ok.sch ok.set (ok.cel _ hci) (ok.count _ hci) (by rw [ew]) (by rw [List.length_drop]; omega) (hpe i hil)) ?_
      rintro _ z1 ⟨ds, bv', rfl, hds, rz, kz1⟩
      obtain ⟨ka, kc, sa, sc, na, nc, xa', xc', rfl, r1, r2', r3'', r4⟩ := cell_open hds
      have wp1 := kz1.at wp0 (fun h => h)
      have sz1 := kz1.size
      simp -dsimp [wp1]
      generalize hZ : Array.setIfInBounds z1 bc _ = z
      have kyz : Keep none_ y z := by rw [← hZ]; exact (kp.trans kz1 fun _ _ h => h).setted _ fun hh => by omega
      have wC : z[bc]? = some (.cells #[.slice ka l[i].key.length kc, .int .i64 l[i].count, .slice sa l[i].sum.length sc, .slice na l[i].mn.length nc, .slice xa' l[i].mx.length xc'] 65 (0, 0)) := by rw [← hZ]; exact set_same _ (lt_of_blk wp1)
      have holdz : ∀ b, b ≠ bc → z[b]? = z1[b]? := fun b hb => by rw [← hZ]; exact set_other _ (fun e => hb e.symm)
      have hrep : rCell.rep (Ft y.size none_ z) z [.slice ka l[i].key.length kc, .int .i64 l[i].count, .slice sa l[i].sum.length sc, .slice na l[i].mn.length nc, .slice xa' l[i].mx.length xc'] l[i] := rCell.mono hds fun b hb => by
        have h1 := hb.1.1
        have e := holdz b (by omega)
        exact ⟨⟨hb.1.at (by omega) e, by rw [← hZ]; simpa using hb.2.1, fun h => h⟩, e⟩
      have k0z : Keep none_ h z := k0y.trans kyz fun _ _ h => h
      have rzz : SlRep rByte (Old h) z bv' (E.drop (3 + (i + 1) * w)) := by
        rw [List.drop_drop] at rz
        have e : 3 + (i + 1) * w = 3 + i * w + w := by rw [Nat.succ_mul]; omega
        rw [e]
        exact rz.mono fun b hb => ⟨hb, holdz b (by have := hb.2.1; have := k0y.size; omega)⟩
      have wSz := kyz.at wSy (fun h => h)
      have gz := gv.call kyz
      obtain ⟨va, vn, vc, rfl, hvn⟩ := gz.vals
      have hlt : (l.take i).length = i := by rw [List.length_take]; omega
      have sz := kyz.size
      refine drawn_by [⟨0, true, []⟩, ⟨1, true, []⟩, ⟨2, true, []⟩, ⟨3, true, []⟩, ⟨4, true, []⟩, ⟨5, true, []⟩, ⟨6, true, []⟩, ⟨7, true, []⟩, ⟨8, true, []⟩, ⟨9, true, []⟩, ⟨10, true, []⟩, ⟨11, true, []⟩, ⟨12, true, []⟩, ⟨13, true, []⟩, ⟨14, true, []⟩, ⟨15, true, []⟩, ⟨16, false, []⟩, ⟨17, true, []⟩, ⟨18, true, []⟩, ⟨19, true, []⟩] (by kernel_rfl) (by kernel_rfl) ?_
      by_cases hi0 : (i : Int) = 0
      · have hvn0 : vn = 0 := by omega
        subst hvn0
        simp -dsimp [wC]
        refine gr_app1 rfl cellT gz (t.call kyz).lt (x := l[i]) (c := [.slice ka l[i].key.length kc, .int .i64 l[i].count, .slice sa l[i].sum.length sc, .slice na l[i].mn.length nc, .slice xa' l[i].mx.length xc']) ?_ rfl (by omega) (by omega) ?_
        · exact rCell.mono hrep fun b hb => ⟨⟨hb.1.less (by have := k0y.size; omega), hb.2.1, fun hm => by have := t.lt b hm; have := hb.1.1; omega⟩, rfl⟩
        intro v7 h7 own7 g7 t7 k7 ho7
        simp -dsimp [wi]
        refine ⟨(i + 1, v7, bv'), by simp, rfl, ⟨_, own7, (t.call kyz).trans t7, (fun b e => (ho7 _ e).elim (ho b) (by omega)), hil, rzz.mono fun b hb => ⟨hb, k7.blk b (by have := hb.2.1; have := k0z.size; omega) (fun e => by have := ho _ e; have := hb.2.1; have := k01.size; omega)⟩, ?_⟩, by show l.length - (i + 1) < l.length - i; omega⟩
        show Gr rCell _ _ _ _ _ (l.take (i + 1)) own7
        rw [List.take_add_one, List.getElem?_eq_getElem hil]
        exact g7
      · have hig' : 0 < vn := by omega
        have w7 : IntKind.i64.wrap ((vn : Int) - 1) = ((i - 1 : Nat) : Int) := by rw [wrap_i64 (by omega) (by omega)]; omega
        have hi1 : i - 1 < (l.take i).length := by omega
        obtain ⟨bk, cs1, eva, eown, hrc, hce⟩ := gz.elem (i - 1) hi1
        subst eva
        rw [List.getElem_take] at hrc
        obtain ⟨pa, pc, _, _, _, _, _, _, rfl, rpp, _, _, _⟩ := cell_open hrc
        have hcell := cellsIn_cell (d := 0) hce (by decide)
        have hkey : HC.cellIn z[bk]? ((i - 1) * 5) = some (.slice pa (l[i - 1]).key.length pc) := hcell
        obtain ⟨_, _, _, _, _, _, _, _, ers, rk, _, _, _⟩ := cell_open hrep
        cases ers
        have hix : i - 1 < vn := by omega
        have hlsrt : lessM l[i - 1].key l[i].key < 0 := List.pairwise_iff_getElem.1 ok.srt (i - 1) i (by omega) hil (by omega)
        have hge : ¬ (0 ≤ lessM l[i - 1].key l[i].key) := by omega
        simp -dsimp [hig', w7, idxV_nat hix, elSz_eq, hkey, wC]
        refine call_by (cless_spec rpp rk) ?_
        rintro _ z9 ⟨rfl, hh⟩
        subst z9
        simp -dsimp [hge, wC, again_cons]
        refine gr_app1 rfl cellT gz (t.call kyz).lt (x := l[i]) (c := [.slice ka l[i].key.length kc, .int .i64 l[i].count, .slice sa l[i].sum.length sc, .slice na l[i].mn.length nc, .slice xa' l[i].mx.length xc']) ?_ rfl (by omega) (by omega) ?_
        · exact rCell.mono hrep fun b hb => ⟨⟨hb.1.less (by have := k0y.size; omega), hb.2.1, fun hm => by have := t.lt b hm; have := hb.1.1; omega⟩, rfl⟩
        intro v7 h7 own7 g7 t7 k7 ho7
        simp -dsimp [wi]
        refine ⟨(i + 1, v7, bv'), by simp, rfl, ⟨_, own7, (t.call kyz).trans t7, (fun b e => (ho7 _ e).elim (ho b) (by omega)), hil, rzz.mono fun b hb => ⟨hb, k7.blk b (by have := hb.2.1; have := k0z.size; omega) (fun e => by have := ho _ e; have := hb.2.1; have := k01.size; omega)⟩, ?_⟩, by show l.length - (i + 1) < l.length - i; omega⟩
        show Gr rCell _ _ _ _ _ (l.take (i + 1)) own7
        rw [List.take_add_one, List.getElem?_eq_getElem hil]
        exact g7
    · simp -dsimp [hil]
      exact ⟨rfl, (i, v, bv), by simp, rfl, ⟨M, own, t, ho, hi, ry, gv⟩, by show i = _; omega⟩
  rintro ⟨i, v, bv⟩ y g ⟨M, own, t, ho, hi, ry, gv⟩ hil
  simp only at hi gv hil
  rw [hil, List.take_length] at gv
  simp -dsimp
  refine call_by (cloneCell_spec gv.grow (fun b hb => hb.2.1) (by omega)) ?_
  rintro rv y2 ⟨own2, g2, k2, ho2⟩
  obtain ⟨ra, rc, rfl⟩ := g2.val
  simp -dsimp
  have tt : Tr M M y y2 := t.here.call k2
  have s1 := k01.size
  have s2 := t.size
  refine hK _ _ ⟨_, rfl, g2.rep.mono fun b hb => ?_, (k01.trans t.keep fun _ _ h => h).trans k2 fun _ _ h => h⟩
  rcases hb with hb | hb
  · have := (tt.ft (Nat.le_refl _) b hb).1
    exact ⟨⟨this.1, this.2.1, fun h => h⟩, rfl⟩
  · have h1 := ho2 b hb
    exact ⟨⟨⟨by omega, fun _ => g2.thaw b hb⟩, g2.own_lt b hb, fun h => h⟩, rfl⟩
end Go.Proofs

/-
  Names of sets' files: both.
-/
namespace Go.HC
def nameL : List ByteArray := [⟨#[99, 48]⟩, ⟨#[99, 49]⟩, ⟨#[99, 50]⟩, ⟨#[99, 51]⟩, ⟨#[99, 52]⟩, ⟨#[99, 53]⟩, ⟨#[99, 54]⟩, ⟨#[99, 55]⟩, ⟨#[99, 56]⟩, ⟨#[99, 57]⟩, ⟨#[99, 49, 48]⟩, ⟨#[99, 49, 49]⟩, ⟨#[99, 49, 50]⟩, ⟨#[99, 49, 51]⟩, ⟨#[99, 49, 52]⟩, ⟨#[99, 49, 53]⟩]
/-- A set's file. -/
def nameK (k : Int) : ByteArray := nameL.getD k.toNat ⟨#[]⟩
theorem nameK_inj : ∀ x y : Fin 16, nameK (x.val : Int) = nameK (y.val : Int) → x = y := by decide +kernel
end Go.HC
namespace Go.Proofs
open Go Go.HC

set_option maxHeartbeats 4000000 in
set_option maxRecDepth 10000 in
theorem small_spec (x : Fin 16) (h : Heap) : CallH Tryz.prog 187 #[.int .i64 (x.val : Int)] h fun r h' => (∃ s : ByteArray, r = .string s ∧ (⟨#[99]⟩ : ByteArray) ++ s = nameK (x.val : Int)) ∧ h' = h := by
  refine callH_by fun K hK => ?_
  refine enter [.tmp 2] Tryz.func187 rfl rfl (by kernel_rfl) rfl ?_
  obtain ⟨x, hx⟩ := x
  by_cases h10 : x < 10
  · have q1 : (x : Int) < 10 := by omega
    have w1 := wrap_succ (k := x) (by omega)
    have hs : ∀ (s : ByteArray) (K : Value → Heap → Prop), x + 1 ≤ s.size → sliceS Tryz.prog 9 (.string s) (some (.int .i64 (x : Int))) (some (.int .i64 ((x : Int) + 1))) none h K = K (.string (s.extract x (x + 1))) h := fun s K hl => by
      have := sliceS_string (P := Tryz.prog) (T := 9) (s := s) (lo := some (.int .i64 (x : Int))) (hi := some (.int .i64 ((x + 1 : Nat) : Int))) (i := x) (j := x + 1) (K := K) (h := h) Tryz.strT9 (.inr ⟨_, rfl⟩) (.inr ⟨_, rfl⟩) (by omega) hl
      exact this
    simp -dsimp [q1, w1]
    rw [hs _ _ (by show x + 1 ≤ 36; omega)]
    simp -dsimp
    refine hK _ _ ⟨⟨_, rfl, ?_⟩, rfl⟩
    clear hK hs w1 q1
    have key : ∀ x : Fin 10, (⟨#[99]⟩ : ByteArray) ++ ByteArray.extract ⟨#[48, 49, 50, 51, 52, 53, 54, 55, 56, 57, 97, 98, 99, 100, 101, 102, 103, 104, 105, 106, 107, 108, 109, 110, 111, 112, 113, 114, 115, 116, 117, 118, 119, 120, 121, 122]⟩ x.val (x.val + 1) = nameK (x.val : Int) := by decide +kernel
    exact key ⟨x, h10⟩
  · have q1 : ¬ (x : Int) < 10 := by omega
    have w1 : IntKind.i64.wrap ((x : Int) * 2) = ((2 * x : Nat) : Int) := by rw [wrap_i64 (by omega) (by omega)]; omega
    have w2 : IntKind.i64.wrap (((2 * x : Nat) : Int) + 2) = ((2 * x + 2 : Nat) : Int) := by rw [wrap_i64 (by omega) (by omega)]; omega
    have w2' : IntKind.i64.wrap (2 * (x : Int) + 2) = 2 * (x : Int) + 2 := wrap_i64 (by omega) (by omega)
    have hs : ∀ (s : ByteArray) (K : Value → Heap → Prop), 2 * x + 2 ≤ s.size → sliceS Tryz.prog 9 (.string s) (some (.int .i64 (2 * (x : Int)))) (some (.int .i64 (2 * (x : Int) + 2))) none h K = K (.string (s.extract (2 * x) (2 * x + 2))) h := fun s K hl => by
      have := sliceS_string (P := Tryz.prog) (T := 9) (s := s) (lo := some (.int .i64 ((2 * x : Nat) : Int))) (hi := some (.int .i64 ((2 * x + 2 : Nat) : Int))) (i := 2 * x) (j := 2 * x + 2) (K := K) (h := h) Tryz.strT9 (.inr ⟨_, rfl⟩) (.inr ⟨_, rfl⟩) (by omega) hl
      rw [Int.natCast_add, Int.natCast_mul] at this
      exact this
    simp -dsimp [q1, w1, w2']
    rw [hs _ _ (by show 2 * x + 2 ≤ 200; omega)]
    simp -dsimp
    refine hK _ _ ⟨⟨_, rfl, ?_⟩, rfl⟩
    clear hK hs w1 w2 w2' q1
    have hx6 : x - 10 < 6 := by omega
    obtain ⟨y, rfl⟩ : ∃ y, x = y + 10 := ⟨x - 10, by omega⟩
    have key : ∀ x : Fin 6, (⟨#[99]⟩ : ByteArray) ++ ByteArray.extract ⟨#[48, 48, 48, 49, 48, 50, 48, 51, 48, 52, 48, 53, 48, 54, 48, 55, 48, 56, 48, 57, 49, 48, 49, 49, 49, 50, 49, 51, 49, 52, 49, 53, 49, 54, 49, 55, 49, 56, 49, 57, 50, 48, 50, 49, 50, 50, 50, 51, 50, 52, 50, 53, 50, 54, 50, 55, 50, 56, 50, 57, 51, 48, 51, 49, 51, 50, 51, 51, 51, 52, 51, 53, 51, 54, 51, 55, 51, 56, 51, 57, 52, 48, 52, 49, 52, 50, 52, 51, 52, 52, 52, 53, 52, 54, 52, 55, 52, 56, 52, 57, 53, 48, 53, 49, 53, 50, 53, 51, 53, 52, 53, 53, 53, 54, 53, 55, 53, 56, 53, 57, 54, 48, 54, 49, 54, 50, 54, 51, 54, 52, 54, 53, 54, 54, 54, 55, 54, 56, 54, 57, 55, 48, 55, 49, 55, 50, 55, 51, 55, 52, 55, 53, 55, 54, 55, 55, 55, 56, 55, 57, 56, 48, 56, 49, 56, 50, 56, 51, 56, 52, 56, 53, 56, 54, 56, 55, 56, 56, 56, 57, 57, 48, 57, 49, 57, 50, 57, 51, 57, 52, 57, 53, 57, 54, 57, 55, 57, 56, 57, 57]⟩ (2 * (x.val + 10)) (2 * (x.val + 10) + 2) = nameK ((x.val + 10 : Nat) : Int) := by decide +kernel
    exact key ⟨y, by omega⟩

set_option maxHeartbeats 4000000 in
set_option maxRecDepth 10000 in
theorem rname_spec {k : Int} (h0 : 0 ≤ k) (hk : k < 16) (h : Heap) : CallH Tryz.prog 42 #[.int .i64 k] h fun r h' => r = .string (nameK k) ∧ Keep none_ h h' := by
  refine callH_by fun K hK => ?_
  refine enter [.tmp 2] Tryz.func42 rfl rfl (by kernel_rfl) rfl ?_
  by_cases h10 : (10 : Int) ≤ k
  · have w1 : IntKind.i64.wrap (48 + k) = 48 + k := wrap_i64 (by omega) (by omega)
    have w2 : IntKind.i64.wrap (48 + k - 10) = 48 + k - 10 := wrap_i64 (by omega) (by omega)
    simp -dsimp [h10, w1, w2, wrap_byte]
    have hs : SlRep rByte (fun b => b = h.size) (h.push (.cells #[.int .u8 ((byteM (48 + k - 10)).toNat : Int)] 5)) (.slice (some ⟨h.size, 0, none⟩) 1 1) [byteM (48 + k - 10)] := ⟨_, 1, [.int .u8 ((byteM (48 + k - 10)).toNat : Int)], rfl, Nat.le_refl _, by decide, .inr ⟨h.size, 0, _, _, _, rfl, rfl, push_new _ _, rfl⟩, bytes_map.2 rfl⟩
    rw [conv_bytes_str Tryz.elS66 Tryz.intK5 Tryz.strT9 hs]
    simp -dsimp
    refine hK _ _ ⟨congrArg Value.string ?_, .push _ _ _⟩
    obtain ⟨y, rfl⟩ : ∃ y : Nat, k = y + 10 := ⟨(k - 10).toNat, by omega⟩
    have key : ∀ x : Fin 6, (⟨#[99, 49]⟩ : ByteArray) ++ strOf [byteM (48 + ((x.val : Int) + 10) - 10)] = nameK ((x.val : Int) + 10) := by decide +kernel
    exact key ⟨y, by omega⟩
  · have w1 : IntKind.i64.wrap (48 + k) = 48 + k := wrap_i64 (by omega) (by omega)
    simp -dsimp [h10, w1, wrap_byte]
    have hs : SlRep rByte (fun b => b = h.size) (h.push (.cells #[.int .u8 ((byteM (48 + k)).toNat : Int)] 5)) (.slice (some ⟨h.size, 0, none⟩) 1 1) [byteM (48 + k)] := ⟨_, 1, [.int .u8 ((byteM (48 + k)).toNat : Int)], rfl, Nat.le_refl _, by decide, .inr ⟨h.size, 0, _, _, _, rfl, rfl, push_new _ _, rfl⟩, bytes_map.2 rfl⟩
    rw [conv_bytes_str Tryz.elS66 Tryz.intK5 Tryz.strT9 hs]
    simp -dsimp
    refine hK _ _ ⟨congrArg Value.string ?_, .push _ _ _⟩
    obtain ⟨y, rfl⟩ : ∃ y : Nat, k = y := ⟨k.toNat, by omega⟩
    have key : ∀ x : Fin 10, (⟨#[99]⟩ : ByteArray) ++ strOf [byteM (48 + (x.val : Int))] = nameK (x.val : Int) := by decide +kernel
    exact key ⟨y, by omega⟩

set_option maxHeartbeats 4000000 in
set_option maxRecDepth 10000 in
theorem pname_spec {k : Int} (h0 : 0 ≤ k) (hk : k < 16) (h : Heap) : CallH Tryz.prog 87 #[.int .i64 k] h fun r h' => r = .string (nameK k) ∧ h' = h := by
  obtain ⟨x, rfl⟩ : ∃ x : Fin 16, k = (x.val : Int) := ⟨⟨k.toNat, by omega⟩, by simp; omega⟩
  refine callH_by fun K hK => ?_
  refine enter [.tmp 2] Tryz.func87 rfl rfl (by kernel_rfl) rfl ?_
  simp -dsimp
  refine call_by (K' := fun r h' => (∃ s : ByteArray, r = .string s ∧ (⟨#[99]⟩ : ByteArray) ++ s = nameK (x.val : Int)) ∧ h' = h) ?_ ?_
  · refine callH_by fun K hK => ?_
    refine enter [.tmp 2] Tryz.func124 rfl rfl (by kernel_rfl) rfl ?_
    simp -dsimp
    refine call_by (K' := fun r h' => (∃ s : ByteArray, r = .string s ∧ (⟨#[99]⟩ : ByteArray) ++ s = nameK (x.val : Int)) ∧ h' = h) ?_ ?_
    · refine callH_by fun K hK => ?_
      refine enter [.tmp 2] Tryz.func155 rfl rfl (by kernel_rfl) rfl ?_
      simp -dsimp
      refine call_by (K' := fun r h' => (∃ s : ByteArray, r = .string s ∧ (⟨#[99]⟩ : ByteArray) ++ s = nameK (x.val : Int)) ∧ h' = h) ?_ ?_
      · refine callH_by fun K hK => ?_
        refine enter [.tmp 4] Tryz.func178 rfl rfl (by kernel_rfl) rfl ?_
        have q1 : (0 : Int) ≤ (x.val : Int) := by omega
        have q2 : (x.val : Int) < 100 := by omega
        simp -dsimp [q1, q2]
        refine call_by (small_spec x h) ?_
        rintro _ y ⟨⟨s, rfl, hs⟩, hh⟩
        subst y
        simp -dsimp
        exact hK _ _ ⟨⟨_, rfl, hs⟩, rfl⟩
      rintro _ y ⟨⟨s, rfl, hs⟩, hh⟩
      subst y
      simp -dsimp
      exact hK _ _ ⟨⟨_, rfl, hs⟩, rfl⟩
    rintro _ y ⟨⟨s, rfl, hs⟩, hh⟩
    subst y
    simp -dsimp
    exact hK _ _ ⟨⟨_, rfl, hs⟩, rfl⟩
  rintro _ y ⟨⟨s, rfl, hs⟩, hh⟩
  subst y
  have hsz := congrArg ByteArray.size hs
  have hs3 : ∀ x : Fin 16, (nameK (x.val : Int)).size ≤ 3 := by decide +kernel
  have hs4 := hs3 x
  rw [ByteArray.size_append] at hsz
  simp -dsimp [strRes_add (⟨#[99]⟩ : ByteArray) s (by omega)]
  exact hK _ _ ⟨congrArg Value.string hs, rfl⟩
end Go.Proofs

/-
  The program's serve.
-/
namespace Go.HC
def nmFact : Nm := ⟨#[102, 97, 99, 116]⟩
/-- A store that holds facts, and cuboids of some sets. -/
structure CubeAt (M : Mod) (s : SchM) (rows : List RowM) : Prop where
  there : (M.look nmFact).isSome = true
  fact : M.nowOf nmFact = encF s rows
  ok : FactsOk s rows
  set : ∀ k : Nat, k < 2 ^ s.cards.length → (M.look (nameK k)).isSome = true → M.nowOf (nameK k) = encC k (groupC (rows.map (ofM k)))
/-- What is committed. -/
def comM (M : Mod) (rows : List RowM) (k : Nat) : Option (List CellM) := if (M.look (nameK k)).isSome = true then some (groupC (rows.map (ofM (k : Int)))) else none
theorem fold_filter {com : Nat → Option (List CellM)} {need : Int} (l : List Nat) : ∀ b, (l.filter fun j : Nat => decide (andM (j : Int) need = need)).foldl (stepM com need) b = l.foldl (stepM com need) b := by
  induction l with
  | nil => intro b; rfl
  | cons x l ih =>
    intro b
    rw [List.filter_cons, List.foldl_cons]
    by_cases hx : andM (x : Int) need = need
    · rw [if_pos (by simpa using hx), List.foldl_cons, ih]
    · rw [if_neg (by simpa using hx), ih]
      congr 1
      unfold stepM
      rw [if_neg hx]
theorem sets_perm : ∀ d : Fin 5, (setsL d.val).isPerm (numsL (2 ^ d.val)) = true := by decide +kernel
theorem sets_sorted {d : Nat} (hd : d ≤ 4) : sortI (setsL d) = numsL (2 ^ d) := by
  have hp := (sortI_perm (setsL d)).trans (List.isPerm_iff.1 (sets_perm ⟨d, by omega⟩))
  have h1 := sortI_sorted (setsL d)
  have h2 : (numsL (2 ^ d)).Pairwise (· ≤ ·) := by
    unfold numsL
    rw [List.pairwise_map]
    exact List.pairwise_lt_range.imp fun h => by omega
  exact hp.eq_of_pairwise (fun a b _ _ h1 h2 => Int.le_antisymm h1 h2) h1 h2
end Go.HC
namespace Go.Proofs
open Go Go.HC

set_option maxHeartbeats 4000000 in
set_option maxRecDepth 10000 in
theorem pserve_spec {h : Heap} {v fv : Value} {F : Nat → Prop} {M : Mod} {s : SchM} {rows : List RowM} {a : Int} {fs : List FilM} (st : StAt v F h M) (hu : usedF M.files < 1000000) (hq : SlRep rFil (Old h) h fv fs) (C : CubeAt M s rows) :
    CallH Tryz.prog 43 #[v, .agg #[.int .i64 a, fv]] h fun r h' => ∃ x cv e, r = .tuple #[.int .i64 x, cv, .int .i64 e] ∧ Keep none_ h h' ∧
      ((rightM s.cards a fs = false ∧ x = 0 ∧ cv = .slice none 0 0 ∧ e = 7) ∨ (rightM s.cards a fs = true ∧ serveM (comM M rows) (needM a fs) (2 ^ s.cards.length) = none ∧ x = 0 ∧ cv = .slice none 0 0 ∧ e = 8) ∨
        (rightM s.cards a fs = true ∧ ∃ k l, serveM (comM M rows) (needM a fs) (2 ^ s.cards.length) = some (k, l) ∧ x = k ∧ e = 0 ∧ SlRep rCell (Ft h.size none_ h') h' cv l)) := by
  refine callH_by fun K hK => ?_
  refine enter [.cell 4 3, .cell 5 43, .tmp 6] Tryz.func43 rfl rfl (by kernel_rfl) rfl ?_
  have hq0 := hq
  obtain ⟨fa, fc, rfl, _, _⟩ := hq.val
  have hvp : ∃ p, v = .pointer p := by obtain ⟨bs, bm, es, clock, tv, own, R, rfl, _⟩ := st; exact ⟨_, rfl⟩
  obtain ⟨vp, rfl⟩ := hvp
  simp -dsimp [boxS_eq]
  rw [show h.size + 1 + 1 + 1 = h.size + 3 from rfl, show h.size + 1 + 1 = h.size + 2 from rfl]
  generalize hB : Array.push (Array.push (Array.push (Array.push h _) _) _) _ = h0
  have k0 : Keep none_ h h0 := by rw [← hB]; exact ((((Keep.refl none_ h).pushed _).pushed _).pushed _).pushed _
  have z0 : h0.size = h.size + 4 := by rw [← hB]; simp
  have wV : h0[h.size]? = some (.cells #[.pointer vp] 36 (0, 0)) := by rw [← hB]; exact push_at (push_at (push_at (push_new _ _)))
  have wQ : h0[h.size + 1]? = some (.cells #[.int .i64 a, .slice fa fs.length fc] 27 (0, 0)) := by rw [← hB]; exact push_at (push_at (push_get (by simp)))
  have wK : h0[h.size + 2]? = some (.cells #[.int .i64 0] 3 (0, 0)) := by rw [← hB]; exact push_at (push_get (by simp))
  have wL : h0[h.size + 3]? = some (.cells #[.slice none 0 0] 43 (0, 0)) := by rw [← hB]; exact push_get (by simp)
  have stz : ∀ {z : Heap}, Keep none_ h z → StAt (.pointer vp) F z M := fun kz => st.keep kz fun _ _ h => h
  have hqz : ∀ {z : Heap}, Keep none_ h z → SlRep rFil (Old z) z (.slice fa fs.length fc) fs := fun kz => hq0.mono ((Tr.of kz).ft (Nat.le_refl 0))
  simp -dsimp [wV]
  refine call_by (read_spec (stz k0) (by omega) nmFact) ?_
  rintro _ h1 ⟨u, ou, rfl, gu, k1, hou⟩
  rw [C.there]
  rw [C.fact] at gu
  have k01 : Keep none_ h h1 := k0.trans k1 fun _ _ h => h
  have hub : SlRep rByte (Old h1) h1 u (encF s rows) := gu.bytes.mono fun b hb => ⟨⟨nz, gu.own_lt b hb, fun h => h⟩, rfl⟩
  obtain ⟨ua, uc, rfl⟩ := gu.val
  obtain ⟨hdec, hsch, hrows⟩ := dec_enc C.ok
  have hsz := C.ok.dims
  simp -dsimp
  refine call_by (pdecode_spec hub (by have := now_le st.ok nmFact; rw [C.fact] at this; omega)) ?_
  rintro _ h2 ⟨cv, ms, rv, e, rfl, k2, hcase⟩
  rcases hcase with ⟨_, rfl, ems, hcv, hrv⟩ | ⟨hno, _⟩
  rotate_left
  · exact absurd hdec hno
  rw [hsch] at ems hcv
  obtain ⟨ca, cc, rfl, _, _⟩ := hcv.val
  obtain ⟨ra, rc, rfl, _, _⟩ := hrv.val
  have k02 : Keep none_ h h2 := k01.trans k2 fun _ _ h => h
  simp -dsimp
  rw [push_set rfl]
  obtain ⟨bs, ebs⟩ : ∃ bs, bs = h2.size := ⟨_, rfl⟩
  rw [← ebs]
  generalize hD : Array.push h2 _ = h3
  have hbs : h.size + 4 ≤ bs := by have := k1.size; have := k2.size; omega
  have k3 : Keep none_ h2 h3 := by rw [← hD]; exact .push _ _ _
  have k03 : Keep none_ h h3 := k02.trans k3 fun _ _ h => h
  have z3 : h3.size = h2.size + 1 := by rw [← hD]; simp
  have wS : h3[bs]? = some (.cells #[.slice ca s.cards.length cc, .int .i64 ms] 30 (0, 0)) := by rw [← hD, ebs]; exact push_new _ _
  have ka3 : Keep none_ h0 h3 := (k1.trans k2 fun _ _ h => h).trans k3 fun _ _ h => h
  have wV3 := ka3.at wV (fun h => h)
  have wQ3 := ka3.at wQ (fun h => h)
  have wK3 := ka3.at wK (fun h => h)
  have wL3 := ka3.at wL (fun h => h)
  have hcz : ∀ {z : Heap}, Keep none_ h3 z → SlRep rInt (Old z) z (.slice ca s.cards.length cc) s.cards := fun kz => ((hcv.mono ((Tr.of k3).ft (Nat.zero_le _))).mono ((Tr.of kz).ft (Nat.le_refl 0)))
  simp -dsimp [wQ3]
  rw [ems]
  refine call_by (pqright_spec (hcz (.refl _ _)) (hqz k03) hsz.2) ?_
  rintro _ h4 ⟨rfl, k4⟩
  have k04 : Keep none_ h h4 := k03.trans k4 fun _ _ h => h
  have hs44 : h.size + 4 ≤ h4.size := by have := k4.size; omega
  have wS4 := k4.at wS (fun h => h)
  have wV4 := k4.at wV3 (fun h => h)
  have wQ4 := k4.at wQ3 (fun h => h)
  have wK4 := k4.at wK3 (fun h => h)
  have wL4 := k4.at wL3 (fun h => h)
  have s04 := k04.size
  have hsetk : ∀ {z : Heap} (o o' : Obj), Keep none_ h z → Keep none_ h ((z.setIfInBounds (h.size + 2) o).setIfInBounds (h.size + 3) o') := fun o o' kz => (kz.setted _ fun hh => by omega).setted _ fun hh => by omega
  have n23 : h.size + 2 ≠ h.size + 3 := by omega
  have hget2 : ∀ (z : Heap) (o o' : Obj), h.size + 2 < z.size → ((z.setIfInBounds (h.size + 2) o).setIfInBounds (h.size + 3) o')[h.size + 2]? = some o := fun z o o' hz => (set_other _ (by omega)).trans (set_same _ hz)
  have hget3 : ∀ (z : Heap) (o o' : Obj), h.size + 3 < z.size → ((z.setIfInBounds (h.size + 2) o).setIfInBounds (h.size + 3) o')[h.size + 3]? = some o' := fun z o o' hz => set_same _ (by simpa using hz)
  cases hright : rightM s.cards a fs with
  | false =>
    simp -dsimp [wK4, wL4, set_other _ n23, hget2 _ _ _ (lt_of_blk wK4), hget3 _ _ _ (lt_of_blk wL4)]
    exact hK _ _ ⟨_, _, _, rfl, hsetk _ _ k04, .inl ⟨hright, rfl, rfl, rfl⟩⟩
  | true =>
    have hfs : ∀ f ∈ fs, 0 ≤ f.dim ∧ f.dim < 4 := fun f hf => by
      have hr := hright
      unfold rightM at hr
      split at hr
      · cases hr
      · have := rightF_ok hr f hf
        omega
    simp -dsimp [wS4]
    refine call_by (psets_spec (by omega) h4) ?_
    rintro v5 h5 ⟨own5, g5, k5, ho5⟩
    have g5' := g5
    obtain ⟨va5, vc5, rfl⟩ := g5.val
    simp -dsimp
    have hsl : (setsL s.cards.length).length = 2 ^ s.cards.length := by unfold setsL; rw [insL_len, numsL_len]
    have hp4 : 2 ^ s.cards.length ≤ 2 ^ 4 := Nat.pow_le_pow_right (by decide) hsz.2
    rw [hsl] at g5' ⊢
    refine call_by (sorti_spec g5' (fun _ h => h.elim) (by omega)) ?_
    rintro _ h6 ⟨rfl, g6, k6⟩
    rw [sets_sorted hsz.2] at g6
    have k46 : Keep (fun b => h4.size ≤ b) h4 h6 := (k5.none : Keep (fun b => h4.size ≤ b) h4 h5).trans k6 fun b hb e => by have := ho5 b e; omega
    have k06 : Keep none_ h h6 := ⟨by have := k46.size; omega, fun b hb _ => by rw [k46.blk b (by omega) (by omega), k04.blk b hb (fun h => h)]⟩
    have wS6 := k46.at wS4 (by have := lt_of_blk wS4; omega)
    have wV6 := k46.at wV4 (by have := lt_of_blk wV4; omega)
    have wQ6 := k46.at wQ4 (by have := lt_of_blk wQ4; omega)
    have wK6 := k46.at wK4 (by have := lt_of_blk wK4; omega)
    have wL6 := k46.at wL4 (by have := lt_of_blk wL4; omega)
    have s46 := k46.size
    simp -dsimp [wK6]
    generalize hE : Array.setIfInBounds h6 (h.size + 2) _ = h7
    have k7 : Keep (fun b => b = h.size + 2) h6 h7 := by rw [← hE]; exact (Keep.refl _ _).setted _ fun _ => rfl
    have z7 : h7.size = h6.size := by rw [← hE]; simp
    have wK7 : h7[h.size + 2]? = some (.cells #[.int .i64 (-1)] 3 (0, 0)) := by rw [← hE]; exact set_same _ (lt_of_blk wK6)
    have wS7 := k7.at wS6 (by omega)
    have wV7 := k7.at wV6 (by omega)
    have wQ7 := k7.at wQ6 (by omega)
    have wL7 := k7.at wL6 (by omega)
    have k07 : Keep none_ h h7 := by rw [← hE]; exact k06.setted _ fun hh => by omega
    have hlb5 : ∀ b, own5 = some b → h4.size ≤ b := ho5
    have g7 : Grow rInt 3 none_ h7 (.slice va5 (2 ^ s.cards.length) vc5) (numsL (2 ^ s.cards.length)) own5 := by
      rw [← hE]
      exact g6.mono (fun _ h => h.elim) fun b hb => ⟨fun h => h, set_other _ (by have := hlb5 b hb; omega)⟩
    refine call_by (K' := fun r h' => r = .func (.func 123) #[] #[.pointer (some ⟨h7.size, 0, none⟩), .pointer (some ⟨h7.size + 1, 0, none⟩)] ∧ h' = (h7.push (.cells #[.slice va5 (2 ^ s.cards.length) vc5] 22)).push (.cells #[.func (.func 85) #[] #[.pointer (some ⟨h.size + 1, 0, none⟩)]] 150)) ?_ ?_
    · refine callH_by fun K hK => ?_
      refine enter [.tmp 4] Tryz.func84 rfl rfl (by kernel_rfl) rfl ?_
      simp -dsimp [boxS_eq]
      exact hK _ _ ⟨rfl, rfl⟩
    rintro _ h8 ⟨rfl, e8⟩
    have k8 : Keep none_ h7 h8 := by rw [e8]; exact ((Keep.refl none_ h7).pushed _).pushed _
    have z8 : h8.size = h7.size + 2 := by rw [e8]; simp
    have wX8 : h8[h7.size]? = some (.cells #[.slice va5 (2 ^ s.cards.length) vc5] 22 (0, 0)) := by rw [e8]; exact push_at (push_new _ _)
    have wY8 : h8[h7.size + 1]? = some (.cells #[.func (.func 85) #[] #[.pointer (some ⟨h.size + 1, 0, none⟩)]] 150 (0, 0)) := by rw [e8]; exact push_get (by simp)
    clear e8
    have k08 : Keep none_ h h8 := k07.trans k8 fun _ _ h => h
    have wS8 := k8.at wS7 (fun h => h)
    have wV8 := k8.at wV7 (fun h => h)
    have wQ8 := k8.at wQ7 (fun h => h)
    have wK8 := k8.at wK7 (fun h => h)
    have wL8 := k8.at wL7 (fun h => h)
    have hg8 : SlRep rInt (fun b => own5 = some b) h8 (.slice va5 (2 ^ s.cards.length) vc5) (numsL (2 ^ s.cards.length)) := g7.ints.mono fun b hb => ⟨hb, k8.blk b (g7.own_lt b hb) (fun h => h)⟩
    have hf8 : SlRep rFil (Old h) h8 (.slice fa fs.length fc) fs := hq0.mono fun b hb => ⟨hb, k08.blk b hb.2.1 (fun h => h)⟩
    obtain ⟨com, ecom⟩ : ∃ com, com = comM M rows := ⟨_, rfl⟩
    obtain ⟨need, eneed⟩ : ∃ need, need = needM a fs := ⟨_, rfl⟩
    obtain ⟨N, eN⟩ : ∃ N : Nat → Prop, N = fun b => b = h.size + 2 ∨ b = h.size + 3 := ⟨_, rfl⟩
    have hN : ∀ b, N b ↔ b = h.size + 2 ∨ b = h.size + 3 := fun b => by rw [eN]
    obtain ⟨Best, hBest⟩ : ∃ Best : List Nat → (Nat → Prop) → Heap → Int → Value → Prop, ∀ xs M' h' x cv, Best xs M' h' x cv ↔ ((xs.foldl (stepM com need) none = none ∧ x = -1 ∧ cv = .slice none 0 0) ∨ ∃ k l, xs.foldl (stepM com need) none = some (k, l) ∧ x = (k : Int) ∧ SlRep rCell (Ft h.size M' h') h' cv l) := ⟨_, fun _ _ _ _ _ => Iff.rfl⟩
    have hBmono : ∀ {xs M1 M2 y z x cv}, Best xs M1 y x cv → Tr M1 M2 y z → Best xs M2 z x cv := fun hb tr => (hBest _ _ _ _ _).2 (((hBest _ _ _ _ _).1 hb).imp id fun ⟨k, l, e1, e2, e3⟩ => ⟨k, l, e1, e2, e3.mono (tr.ft (Nat.le_refl _))⟩)
    obtain ⟨I, hI⟩ : ∃ I : List Nat → (Nat → Prop) → Heap → Prop, ∀ xs M' h', I xs M' h' ↔ ((∀ b, N b → M' b) ∧ (∀ b, M' b → b < h'.size ∧ h.size + 2 ≤ b) ∧ ∃ x cv, h'[h.size + 2]? = some (.cells #[.int .i64 x] 3 (0, 0)) ∧ h'[h.size + 3]? = some (.cells #[cv] 43 (0, 0)) ∧ Best xs M' h' x cv) := ⟨_, fun _ _ _ => Iff.rfl⟩
    simp -dsimp
    refine range_m (val := fun i : Nat => #[.int .i64 (i : Int)]) (first := #[]) (by simp) (by simp) (keptI_iter wX8 hg8 wY8 wQ8 hf8 hfs (by omega)) I
      ?_ ?_ N ?_ ?_ (by kernel_rfl) (by kernel_rfl) (fun _ => rfl) (by intro p hp; simp at hp; subst hp; decide) ?_ ?_
    · exact fun hi b hb => (((hI _ _ _).1 hi).2.1 b hb).1
    · intro xs M' y z hi m1 m2 kk
      obtain ⟨hM, hlt, x, cv, w1, w2, hb⟩ := (hI _ _ _).1 hi
      have hne := lt_of_blk wK8
      have hne3 := lt_of_blk wL8
      exact (hI _ _ _).2 ⟨hM, fun b hb => ⟨Nat.lt_of_lt_of_le (hlt b hb).1 kk.size, (hlt b hb).2⟩, x, cv, kk.at w1 (by omega), kk.at w2 (by omega), hBmono hb (Tr.lp (fun b hb => (hlt b hb).1) m2 kk)⟩
    · intro b hb
      have hl2 := lt_of_blk wK7
      have hl3 := lt_of_blk wL7
      have hs4 : h.size + 4 ≤ h7.size := by have := k1.size; have := k2.size; have := k3.size; have := k4.size; omega
      rcases hb with rfl | rfl | rfl | hb | hb
      · exact ⟨by omega, fun e => by have := (hN _).1 e; omega⟩
      · exact ⟨by omega, fun e => by have := (hN _).1 e; omega⟩
      · exact ⟨by have := k08.size; have := lt_of_blk wQ8; omega, fun e => by have := (hN _).1 e; omega⟩
      · have h1 := hlb5 b hb
        have h2 := g7.own_lt b hb
        exact ⟨by omega, fun e => by have := (hN _).1 e; omega⟩
      · have h1 := hb.2.1
        exact ⟨by have := k08.size; omega, fun e => by have := (hN _).1 e; omega⟩
    · intro y ky zy
      refine (hI _ _ _).2 ⟨fun b hb => .inl hb, fun b hb => ?_, -1, .slice none 0 0, ky.at wK8 (fun h => h), ky.at wL8 (fun h => h), (hBest _ _ _ _ _).2 (.inl ⟨rfl, rfl, rfl⟩)⟩
      have h1 := lt_of_blk wK8
      have h2 := lt_of_blk wL8
      rcases hb with hb | hb | hb
      · have := (hN _).1 hb; omega
      · omega
      · omega
    · rintro xs i M' y hiy ⟨hxs, hin, hai⟩ hzy m1 m2 t
      simp -dsimp
      refine ⟨.refl _ _, fun y5 k5' e5' => ?_⟩
      obtain ⟨hM, hlt, x, cv', w1, w2, hb⟩ := (hI _ _ _).1 hiy
      have hlt' : ∀ b, M' b → b < y.size := fun b hb => (hlt b hb).1
      have t5 := Tr.lp hlt' m2 k5'
      have u5 := t.trans t5
      have hnN : ∀ b, b ≠ h.size + 2 → b ≠ h.size + 3 → ¬ N b := fun b n1 n2 hb => by have := (hN b).1 hb; omega
      have K05 := Tr.from_ k08 u5 (fun b hb => by have := (hN b).1 hb; omega)
      have hl2 := lt_of_blk wK8
      have hl3 := lt_of_blk wL8
      have w1' := k5'.at w1 (by omega)
      have w2' := k5'.at w2 (by omega)
      have hb5 := hBmono hb t5
      have wV5 := u5.at wV8 (hnN _ (by omega) (by omega))
      have wS5 := u5.at wS8 (hnN _ (by omega) (by omega))
      have i16 : i < 16 := by omega
      have K5 : Keep none_ h y5 := K05.keep
      refine drawn_by [⟨0, true, []⟩, ⟨1, true, []⟩, ⟨2, false, [0]⟩, ⟨3, false, []⟩, ⟨4, true, []⟩, ⟨5, true, []⟩, ⟨6, true, []⟩, ⟨7, true, []⟩, ⟨8, true, []⟩] (by kernel_rfl) (by kernel_rfl) ?_
      simp -dsimp [wV5]
      refine call_by (pname_spec (k := (i : Int)) (by omega) (by omega) y5) ?_
      rintro _ y6 ⟨rfl, ez⟩
      subst y6
      simp -dsimp [again_cons, wV5]
      refine call_by (read_spec (stz K5) (by omega) (nameK (i : Int))) ?_
      rintro _ y6 ⟨u6, ou6, rfl, gu6, k6', hou6⟩
      obtain ⟨ua6, uc6, rfl⟩ := gu6.val
      have w1'' := k6'.at w1' (fun h => h)
      have w2'' := k6'.at w2' (fun h => h)
      have t6 : Tr M' M' y y6 := t5.call k6'
      have hdm8 : y6[h8.size]? = y5[h8.size]? := k6'.blk _ (by omega) (fun h => h)
      have hdm9 : y6[h8.size + 1]? = y5[h8.size + 1]? := k6'.blk _ (by omega) (fun h => h)
      have hfo : ∀ b, (xs ++ [i]).foldl (stepM com need) b = stepM com need (xs.foldl (stepM com need) b) i := fun b => by rw [List.foldl_append]; rfl
      cases hthere : (M.look (nameK (i : Int))).isSome with
      | false =>
        have hst : ∀ b, stepM com need b i = b := fun b => by
          unfold stepM
          rw [eneed, if_pos hai, ecom]
          unfold comM
          rw [hthere]
          rfl
        simp -dsimp [again_cons]
        refine ⟨M', (hI _ _ _).2 ⟨hM, fun b hb => ⟨Nat.lt_of_lt_of_le (hlt b hb).1 t6.size, (hlt b hb).2⟩, x, cv', w1'', w2'', ?_⟩, t6, m1, m2, hdm8, hdm9⟩
        have hb6 := hBmono hb t6
        rw [hBest] at hb6 ⊢
        rw [hfo, hst]
        exact hb6
      | true =>
        rw [C.set i hin hthere] at gu6 ⊢
        have hgs : com i = some (groupC (rows.map (ofM (i : Int)))) := by rw [ecom]; unfold comM; rw [if_pos hthere]
        have hub6 : SlRep rByte (Old y6) y6 _ (encC (i : Int) (groupC (rows.map (ofM (i : Int))))) := gu6.bytes.mono fun b hb => ⟨⟨nz, gu6.own_lt b hb, fun h => h⟩, rfl⟩
        have hold6 : ∀ b, h.size + 4 ≤ b → b < h2.size → b < y6.size ∧ y6[b]? = h2[b]? := fun b h1 h2 => by
          have s3 := k3.size
          have s4 := k4.size
          have s5 := u5.size
          have s6 := k6'.size
          refine ⟨by omega, ?_⟩
          rw [k6'.blk b (by omega) (fun h => h), u5.keep.blk b (by omega) (hnN b (by omega) (by omega)), k8.blk b (by omega) (fun h => h), k7.blk b (by omega) (by omega), k46.blk b (by omega) (by omega), k4.blk b (by omega) (fun h => h), k3.blk b (by omega) (fun h => h)]
        have hc6 : SlRep rInt (Old y6) y6 (.slice ca s.cards.length cc) s.cards := hcv.mono fun b hb => by
          have s1 := k1.size
          obtain ⟨q1, q2⟩ := hold6 b (by have := hb.1.1; omega) hb.2.1
          exact ⟨⟨nz, q1, fun h => h⟩, q2⟩
        have wS6' := k6'.at wS5 (fun h => h)
        simp -dsimp [again_cons, wS6']
        rw [ems]
        refine call_by (pcdecode_spec hc6 hub6 (cub_ok C.ok (by omega) (by exact_mod_cast hin))) ?_
        rintro _ y7 ⟨rv7, rfl, r7, k7'⟩
        have t7 : Tr M' M' y y7 := t6.call k7'
        have w1t := k7'.at w1'' (fun h => h)
        have w2t := k7'.at w2'' (fun h => h)
        have hdm8' : y7[h8.size]? = y5[h8.size]? := (k7'.blk _ (by have := k6'.size; omega) (fun h => h)).trans hdm8
        have hdm9' : y7[h8.size + 1]? = y5[h8.size + 1]? := (k7'.blk _ (by have := k6'.size; omega) (fun h => h)).trans hdm9
        obtain ⟨gl, egl⟩ : ∃ gl, gl = groupC (rows.map (ofM (i : Int))) := ⟨_, rfl⟩
        rw [← egl] at r7 hgs
        have hrv7 := r7.mono (t6.ret (n := h.size) (by have := t6.size; omega))
        obtain ⟨ra7, rc7, rfl, _, _⟩ := r7.val
        have mK := hM _ ((hN (h.size + 2)).2 (.inl rfl))
        have mL := hM _ ((hN (h.size + 3)).2 (.inr rfl))
        have hb7 := hBmono hb t7
        -- it takes this one
        have htake : xs.foldl (stepM com need) none = none ∨ (∃ k l, xs.foldl (stepM com need) none = some (k, l) ∧ gl.length < l.length) → bodyM h8.size M' y y5 I (xs ++ [i]) ⟨⟩ ((y7.setIfInBounds (h.size + 2) (.cells #[.int .i64 (i : Int)] 3)).setIfInBounds (h.size + 3) (.cells #[.slice ra7 gl.length rc7] 43)) := by
          intro hx
          have hst : (xs ++ [i]).foldl (stepM com need) none = some (i, gl) := by
            rw [hfo]
            rcases hx with hx | ⟨k, l, hx, hl⟩
            · rw [hx]; unfold stepM; rw [eneed, if_pos hai, hgs]
            · rw [hx]; unfold stepM; rw [eneed, if_pos hai, hgs]; simp only; rw [if_pos hl]
          have tt : Tr M' M' y7 ((y7.setIfInBounds (h.size + 2) (.cells #[.int .i64 (i : Int)] 3)).setIfInBounds (h.size + 3) (.cells #[.slice ra7 gl.length rc7] 43)) := (t7.here.set _ mK).set _ mL
          refine ⟨M', (hI _ _ _).2 ⟨hM, fun b hb => ⟨Nat.lt_of_lt_of_le (hlt b hb).1 (t7.trans tt).size, (hlt b hb).2⟩, i, .slice ra7 gl.length rc7, (set_other _ (by omega)).trans (set_same _ (lt_of_blk w1t)), set_same _ (by have := lt_of_blk w2t; simpa using this), ?_⟩, t7.trans tt, m1, m2, ?_, ?_⟩
          · exact (hBest _ _ _ _ _).2 (.inr ⟨i, gl, hst, rfl, hrv7.mono (tt.ft (Nat.le_refl _))⟩)
          · rw [set_other _ (by omega), set_other _ (by omega)]; exact hdm8'
          · rw [set_other _ (by omega), set_other _ (by omega)]; exact hdm9'
        simp -dsimp [w1t]
        rcases (hBest _ _ _ _ _).1 hb7 with ⟨hx, rfl, rfl⟩ | ⟨k, l, hx, rfl, hl7⟩
        · have hneg : (-1 : Int) < 0 := by decide
          simp -dsimp [w1t, w2t]
          exact htake (.inl hx)
        · obtain ⟨la, lc, rfl, _, _⟩ := hl7.val
          have hneg : ¬ ((k : Int) < 0) := by omega
          by_cases hlt7 : gl.length < l.length
          · simp -dsimp [w1t, w2t, hneg, hlt7]
            exact htake (.inr ⟨k, l, hx, hlt7⟩)
          · simp -dsimp [w2t, hneg, hlt7]
            refine ⟨M', (hI _ _ _).2 ⟨hM, fun b hb => ⟨Nat.lt_of_lt_of_le (hlt b hb).1 t7.size, (hlt b hb).2⟩, _, _, w1t, w2t, ?_⟩, t7, m1, m2, hdm8', hdm9'⟩
            refine (hBest _ _ _ _ _).2 (.inr ⟨k, l, ?_, rfl, hl7⟩)
            rw [hfo, hx]
            unfold stepM
            rw [eneed, if_pos hai, hgs]
            simp only
            rw [if_neg hlt7]
    · rintro xs M' y hdn hiy hdm hzy m1 m2 t
      have T := Tr.from_ k08 t (fun b hb => by have := (hN b).1 hb; omega)
      obtain ⟨hM, hlt, x, cv', w1, w2, hb⟩ := (hI _ _ _).1 hiy
      have hfold : serveM (comM M rows) (needM a fs) (2 ^ s.cards.length) = xs.foldl (stepM com need) none := by
        unfold serveM
        rw [← ecom, ← eneed, hdn, ← eneed, fold_filter]
      have mK := hM _ ((hN (h.size + 2)).2 (.inl rfl))
      have mL := hM _ ((hN (h.size + 3)).2 (.inr rfl))
      have hiyT : Tr M' M' y y := t.here
      have hl2 := lt_of_blk w1
      have hl3 := lt_of_blk w2
      have hs8 := k08.size
      have hl8 := lt_of_blk wL8
      rcases (hBest _ _ _ _ _).1 hb with ⟨hx, rfl, rfl⟩ | ⟨k, l, hx, rfl, hl7⟩
      · simp -dsimp [w1, w2]
        rw [takeS_cons (by rw [set_other _ (by omega), set_other _ (by omega)]; exact hdm)]
        generalize hZ : Array.setIfInBounds (Array.setIfInBounds (Array.setIfInBounds y (h.size + 2) _) (h.size + 3) _) h8.size _ = z
        have kz : Tr M' M' y z := by rw [← hZ]; exact ((hiyT.set _ mK).set _ mL).set _ m1
        have z2 : z[h.size + 2]? = some (.cells #[.int .i64 0] 3 (0, 0)) := by rw [← hZ]; exact (set_other _ (by omega)).trans ((set_other _ (by omega)).trans (set_same _ hl2))
        have z3 : z[h.size + 3]? = some (.cells #[.slice none 0 0] 43 (0, 0)) := by rw [← hZ]; exact (set_other _ (by omega)).trans (set_same _ (by simpa using hl3))
        simp -dsimp [z2, z3]
        exact hK _ _ ⟨_, _, _, rfl, (T.trans kz).keep, .inr (.inl ⟨hright, hfold.trans hx, rfl, rfl, rfl⟩)⟩
      · obtain ⟨la, lc, rfl, _, _⟩ := hl7.val
        have hneg : ¬ ((k : Int) < 0) := by omega
        simp -dsimp [w1, hneg]
        refine drawn_by [⟨0, true, []⟩, ⟨1, true, []⟩, ⟨2, false, [1]⟩, ⟨3, false, []⟩, ⟨4, true, []⟩] (by kernel_rfl) (by kernel_rfl) ?_
        simp -dsimp [w1, w2]
        simp -dsimp [again_cons, w2]
        rw [takeS_cons (by rw [set_other _ (by omega), set_other _ (by omega)]; exact hdm)]
        generalize hZ : Array.setIfInBounds (Array.setIfInBounds (Array.setIfInBounds y (h.size + 2) _) (h.size + 3) _) h8.size _ = z
        have kz : Tr M' M' y z := by rw [← hZ]; exact ((hiyT.set _ mK).set _ mL).set _ m1
        have z2 : z[h.size + 2]? = some (.cells #[.int .i64 k] 3 (0, 0)) := by rw [← hZ]; exact (set_other _ (by omega)).trans ((set_other _ (by omega)).trans (set_same _ hl2))
        have z3 : z[h.size + 3]? = some (.cells #[.slice la l.length lc] 43 (0, 0)) := by rw [← hZ]; exact (set_other _ (by omega)).trans (set_same _ (by simpa using hl3))
        simp -dsimp [z2, z3]
        exact hK _ _ ⟨_, _, _, rfl, (T.trans kz).keep, .inr (.inr ⟨hright, k, l, hfold.trans hx, rfl, rfl, (hl7.mono (kz.ft (Nat.le_refl _))).mono fun b hb => ⟨⟨hb.1, hb.2.1, fun h => h⟩, rfl⟩⟩)⟩
end Go.Proofs

/-
  The program's filters over a cell; a serve of nothing.
-/
namespace Go.Proofs
open Go Go.HC

set_option maxHeartbeats 4000000 in
set_option maxRecDepth 10000 in
theorem pby_spec {h : Heap} {cs : List Value} {c : CellM} {fv : Value} {a : Int} {fs : List FilM} (hr : rCell.rep (Old h) h cs c) (hc : CellSmall c) (hf : SlRep rFil (Old h) h fv fs) (hfs : ∀ f ∈ fs, 0 ≤ f.dim ∧ f.dim < 4) :
    CallH Tryz.prog 46 #[.agg cs.toArray, .int .i64 a, fv] h fun r h' => r = .bool (letM a fs c.key) ∧ Keep none_ h h' := by
  refine callH_by fun K hK => ?_
  refine enter [.tmp 6] Tryz.func46 rfl rfl (by kernel_rfl) rfl ?_
  have hf0 := hf
  have hr0 := hr
  obtain ⟨fa, fc, rfl, hfc, hfc'⟩ := hf.val
  obtain ⟨ka, kc, sa, sc, na, nc, xa, xc, rfl, r1, r2, r3, r4⟩ := cell_open hr
  simp -dsimp [boxS_eq]
  generalize hB : Array.push h _ = h1
  have k1 : Keep none_ h h1 := by rw [← hB]; exact .push _ _ _
  have w1 : h1[h.size]? = some (.cells #[.slice ka c.key.length kc, .int .i64 c.count, .slice sa c.sum.length sc, .slice na c.mn.length nc, .slice xa c.mx.length xc] 65 (0, 0)) := by rw [← hB]; exact push_new _ _
  refine loopc (σ := Nat) (fun i => [(1, .int .i64 a), (3, .pointer (some ⟨h.size, 0, none⟩)), (10, .slice fa fs.length fc), (11, .int .i64 fs.length), (12, .int .i64 i)])
    (fun i y => Keep none_ h1 y ∧ i ≤ fs.length ∧ letM a (fs.drop i) c.key = letM a fs c.key) (fun i => fs.length - i) 0 0 (fun i _ => i = fs.length) (endR Tryz.prog [.tmp 6] K).rt (fun _ _ _ h => h) (by simp) ⟨.refl _ _, Nat.zero_le _, rfl⟩ (by kernel_rfl) ?_ ?_
  case refine_1 =>
    rintro i y g ⟨ky, hi, hlet⟩
    have v1 := ky.at w1 (fun h => h)
    have k0y : Keep none_ h y := k1.trans ky fun _ _ h => h
    by_cases hil : i < fs.length
    · have wi := wrap_succ (k := i) (by omega)
      obtain ⟨bk, off, cs, rfl, hfb, hrep, hcs⟩ := (hf0.mono ((Tr.of k0y).ft (Nat.le_refl 0))).get i hil
      obtain rfl : cs = [.int .i64 fs[i].dim, .int .i64 fs[i].lo, .int .i64 fs[i].hi] := hrep
      have hcs : HC.cellsIn y[bk]? (off + i * 3) 3 = some [.int .i64 fs[i].dim, .int .i64 fs[i].lo, .int .i64 fs[i].hi] := hcs
      have hd := hfs _ (List.getElem_mem hil)
      have hstep : letM a (fs.drop i) c.key = ((match pickN (2 ^ fs[i].dim.toNat) (dimsM a) c.key with | [v] => decide (fs[i].lo ≤ v) && decide (v ≤ fs[i].hi) | _ => false) && letM a (fs.drop (i + 1)) c.key) := by
        rw [List.drop_eq_getElem_cons hil]
        rfl
      rw [hlet] at hstep
      obtain ⟨f, ef⟩ : ∃ f, f = fs[i] := ⟨_, rfl⟩
      rw [← ef] at hcs hd hstep
      obtain ⟨D, eD⟩ : ∃ D : Nat, f.dim = D := ⟨f.dim.toNat, by omega⟩
      have hshl := shl_int (k := D) (by omega)
      rw [eD] at hcs hstep
      rw [Int.toNat_natCast] at hstep
      simp -dsimp [-intRes_shl, hil, idxA_nat hil, hcs]
      rw [push_set rfl]
      generalize hP : Array.push y _ = y2
      have k2 : Keep none_ y y2 := by rw [← hP]; exact .push _ _ _
      have k02 : Keep none_ h y2 := k0y.trans k2 fun _ _ h => h
      have wF : y2[y.size]? = some (.cells #[.int .i64 D, .int .i64 f.lo, .int .i64 f.hi] 57 (0, 0)) := by rw [← hP]; exact push_new _ _
      have u1 := k2.at v1 (fun h => h)
      refine drawn_by [⟨0, true, []⟩, ⟨1, true, []⟩, ⟨2, true, []⟩, ⟨3, true, []⟩, ⟨4, true, []⟩, ⟨5, false, []⟩, ⟨6, true, []⟩, ⟨7, true, []⟩] (by kernel_rfl) (by kernel_rfl) ?_
      simp -dsimp [-intRes_shl, wF, u1, hshl]
      refine call_by (narrow_spec a (2 ^ D) (rCell.mono hr0 ((Tr.of k02).ft (Nat.le_refl 0))) hc) ?_
      rintro _ y3 ⟨ds, rfl, rd, k3⟩
      obtain ⟨ka', kc', sa', sc', na', nc', xa', xc', rfl, q1, _⟩ := cell_open rd
      have q1 : SlRep rInt (Ft y2.size none_ y3) y3 (.slice ka' (pickN (2 ^ D) (dimsM a) c.key).length kc') (pickN (2 ^ D) (dimsM a) c.key) := q1
      have ekey : (narrowC a (2 ^ D) c).key = pickN (2 ^ D) (dimsM a) c.key := rfl
      have wF3 := k3.at wF (fun h => h)
      have u3 := k3.at u1 (fun h => h)
      have k03 : Keep none_ h y3 := k02.trans k3 fun _ _ h => h
      obtain ⟨p, ep⟩ : ∃ p, p = pickN (2 ^ D) (dimsM a) c.key := ⟨_, rfl⟩
      rw [ekey]
      rw [← ep] at q1 hstep ⊢
      simp -dsimp [-intRes_shl, again_cons, hshl]
      refine drawn_by [⟨0, true, []⟩, ⟨1, true, []⟩, ⟨2, true, []⟩, ⟨3, true, []⟩, ⟨4, true, []⟩, ⟨5, true, []⟩, ⟨6, true, []⟩, ⟨7, true, []⟩, ⟨8, true, []⟩, ⟨9, true, []⟩, ⟨10, true, []⟩, ⟨11, true, []⟩, ⟨12, true, []⟩, ⟨13, true, []⟩, ⟨14, true, []⟩, ⟨15, true, []⟩, ⟨16, true, []⟩, ⟨17, true, []⟩, ⟨18, true, []⟩] (by kernel_rfl) (by kernel_rfl) ?_
      by_cases hp1 : p.length = 1
      · obtain ⟨v, rfl⟩ : ∃ v, p = [v] := List.length_eq_one_iff.1 hp1
        obtain ⟨b5, o5, e5, _, hc5⟩ := q1.int_at 0 (by simp)
        subst e5
        simp only at hstep
        have h01 : (0 : Nat) < 1 := by decide
        have ix : ∀ sz ar, idxV sz ar (.slice (some ⟨b5, o5, none⟩) 1 kc') (.int .i64 0) = sz.map fun s => .pointer (some ⟨b5, o5 + 0 * s, none⟩) := fun sz ar => idxV_nat (i := 0) h01
        simp only [List.length_singleton, List.getElem_singleton, Nat.add_zero] at hc5 ⊢
        by_cases c1 : v < f.lo
        · simp -dsimp [wF3, hc5, elSz_eq, ix, c1]
          have hf : letM a fs c.key = false := by rw [hstep, decide_eq_false (by omega : ¬ f.lo ≤ v)]; rfl
          exact hK _ _ ⟨by rw [hf], k03⟩
        · by_cases c2 : f.hi < v
          · simp -dsimp [wF3, hc5, elSz_eq, ix, c1, c2]
            have hf : letM a fs c.key = false := by rw [hstep, decide_eq_false (by omega : ¬ v ≤ f.hi), Bool.and_false]; rfl
            exact hK _ _ ⟨by rw [hf], k03⟩
          · simp -dsimp [wF3, hc5, elSz_eq, ix, c1, c2, wi]
            have hf : letM a fs c.key = letM a (fs.drop (i + 1)) c.key := by rw [hstep, decide_eq_true (by omega : f.lo ≤ v), decide_eq_true (by omega : v ≤ f.hi)]; rfl
            exact ⟨i + 1, by simp, rfl, ⟨(ky.trans k2 fun _ _ h => h).trans k3 fun _ _ h => h, hil, hf.symm⟩, by show fs.length - (i + 1) < fs.length - i; omega⟩
      · have hf : letM a fs c.key = false := by
          rw [hstep]
          match p, hp1 with
          | [], _ => rfl
          | [_], h => exact absurd rfl h
          | _ :: _ :: _, _ => rfl
        rw [hf] at hK
        have hb : ((p.length : Int) != 1) = true := by rw [bne_iff_ne]; omega
        simp -dsimp [hb]
        exact hK _ _ ⟨rfl, k03⟩
    · simp -dsimp [hil]
      exact ⟨rfl, i, by simp, rfl, ⟨ky, hi, hlet⟩, by show i = _; omega⟩
  rintro i y g ⟨ky, hi, hlet⟩ hil
  have hil : i = fs.length := hil
  subst hil
  rw [List.drop_length] at hlet
  rw [← hlet] at hK
  simp -dsimp
  exact hK _ _ ⟨rfl, k1.trans ky fun _ _ h => h⟩
end Go.Proofs

/-
  The program's Ask: filters over a set's cells, one by one.
-/
namespace Go.HC
theorem filter_cut {α : Type} (p : α → Bool) (l : List α) {i : Nat} (hi : i < l.length) : l.filter p = (l.take i).filter p ++ ((if p l[i] = true then [l[i]] else []) ++ (l.drop (i + 1)).filter p) := by
  have h1 : l = l.take i ++ l[i] :: l.drop (i + 1) := by rw [← List.drop_eq_getElem_cons hi, List.take_append_drop]
  have h2 : (l.take i ++ l[i] :: l.drop (i + 1)).filter p = (l.take i).filter p ++ ((if p l[i] = true then [l[i]] else []) ++ (l.drop (i + 1)).filter p) := by
    rw [List.filter_append, List.filter_cons]
    split <;> rfl
  rw [← h2, ← h1]
theorem filter_take_succ {α : Type} (p : α → Bool) (l : List α) {i : Nat} (hi : i < l.length) : (l.take (i + 1)).filter p = (l.take i).filter p ++ (if p l[i] = true then [l[i]] else []) := by
  rw [List.take_add_one, List.getElem?_eq_getElem hi, Option.toList_some, List.filter_append, List.filter_cons]
  split <;> rfl
theorem filter_here {α : Type} (p : α → Bool) (l : List α) {i n : Nat} (hi : i < l.length) (hp : p l[i] = true) (hn : n = ((l.take i).filter p).length) : ∃ h : n < (l.filter p).length, (l.filter p)[n] = l[i] := by
  have h1 := filter_cut p l hi
  rw [if_pos hp] at h1
  subst hn
  have hlt : ((l.take i).filter p).length < (l.filter p).length := by rw [h1, List.length_append, List.length_append]; simp; omega
  refine ⟨hlt, ?_⟩
  rw [← Option.some_inj, ← List.getElem?_eq_getElem hlt, h1, List.getElem?_append_right (Nat.le_refl _), Nat.sub_self]
  rfl
end Go.HC
namespace Go.Proofs
open Go Go.HC

set_option maxHeartbeats 2000000 in
set_option maxRecDepth 10000 in
theorem pkeepC_spec {h : Heap} {bs bq : Nat} {fv : Value} {k a : Int} {cs : List Value} {c : CellM} {fs : List FilM} (hbs : h[bs]? = some (.cells #[.int .i64 k] 3 (0, 0))) (hbq : h[bq]? = some (.cells #[.int .i64 a, fv] 27 (0, 0)))
    (hr : rCell.rep (Old h) h cs c) (hc : CellSmall c) (hf : SlRep rFil (Old h) h fv fs) (hfs : ∀ f ∈ fs, 0 ≤ f.dim ∧ f.dim < 4) :
    CallH Tryz.prog 45 #[.agg cs.toArray, .pointer (some ⟨bs, 0, none⟩), .pointer (some ⟨bq, 0, none⟩)] h fun r h' => r = .bool (letM k fs c.key) ∧ Keep none_ h h' := by
  refine callH_by fun K hK => ?_
  refine enter [.tmp 4] Tryz.func45 rfl rfl (by kernel_rfl) rfl ?_
  have hf0 := hf
  have hr0 := hr
  obtain ⟨fa, fc, rfl, hfc, hfc'⟩ := hf.val
  obtain ⟨ka, kc, sa, sc, na, nc, xa, xc, rfl, r1, r2, r3, r4⟩ := cell_open hr
  simp -dsimp [boxS_eq]
  generalize hB : Array.push h _ = h1
  have k1 : Keep none_ h h1 := by rw [← hB]; exact .push _ _ _
  have w1 : h1[h.size]? = some (.cells #[.slice ka c.key.length kc, .int .i64 c.count, .slice sa c.sum.length sc, .slice na c.mn.length nc, .slice xa c.mx.length xc] 65 (0, 0)) := by rw [← hB]; exact push_new _ _
  have w2 := k1.at hbs (fun h => h)
  have w3 := k1.at hbq (fun h => h)
  simp -dsimp [w2, w3]
  refine call_by (pby_spec (rCell.mono hr0 ((Tr.of k1).ft (Nat.le_refl 0))) hc (hf0.mono ((Tr.of k1).ft (Nat.le_refl 0))) hfs) ?_
  rintro _ h2 ⟨rfl, k2⟩
  simp -dsimp
  exact hK _ _ ⟨rfl, k1.trans k2 fun _ _ h => h⟩

set_option maxHeartbeats 4000000 in
set_option maxRecDepth 10000 in
theorem keptC_iter {h0 : Heap} {b1 b2 bs bq : Nat} {lv fv : Value} {k a : Int} {l : List CellM} {fs : List FilM} {F G : Nat → Prop} (hb1 : h0[b1]? = some (.cells #[lv] 43 (0, 0))) (hl : SlRep rCell F h0 lv l) (hb2 : h0[b2]? = some (.cells #[.func (.func 45) #[] #[.pointer (some ⟨bs, 0, none⟩), .pointer (some ⟨bq, 0, none⟩)]] 96 (0, 0)))
    (hbs : h0[bs]? = some (.cells #[.int .i64 k] 3 (0, 0))) (hbq : h0[bq]? = some (.cells #[.int .i64 a, fv] 27 (0, 0))) (hf : SlRep rFil G h0 fv fs) (hfs : ∀ f ∈ fs, 0 ≤ f.dim ∧ f.dim < 4) (hn : l.length < 1000000) (hsm : ∀ d ∈ l, CellSmall d) :
    IterM Tryz.prog 89 #[] #[.pointer (some ⟨b1, 0, none⟩), .pointer (some ⟨b2, 0, none⟩)] (fun cs : List Value => #[.agg cs.toArray]) (cellsA 0 (l.filter fun c => letM k fs c.key))
      (fun xs => xs.length = (l.filter fun c => letM k fs c.key).length) (fun b => b = b1 ∨ b = b2 ∨ b = bs ∨ b = bq ∨ F b ∨ G b) h0 := by
  intro y J M0 h ⟨yf, yu, yv', hyf⟩ hy hJ hsz hFp
  subst hyf
  obtain ⟨p, ep⟩ : ∃ p : CellM → Bool, p = fun c => letM k fs c.key := ⟨_, rfl⟩
  rw [← ep] at hy ⊢
  have hp : ∀ c, letM k fs c.key = p c := fun c => by rw [ep]
  have w1 := (hFp b1 (.inl rfl)).2.2.trans hb1
  have w2 := (hFp b2 (.inr (.inl rfl))).2.2.trans hb2
  have w3 := (hFp bs (.inr (.inr (.inl rfl)))).2.2.trans hbs
  have w4 := (hFp bq (.inr (.inr (.inr (.inl rfl))))).2.2.trans hbq
  have n1 := (hFp b1 (.inl rfl)).2.1
  have n2 := (hFp b2 (.inr (.inl rfl))).2.1
  have n3 := (hFp bs (.inr (.inr (.inl rfl)))).2.1
  have n4 := (hFp bq (.inr (.inr (.inr (.inl rfl))))).2.1
  have hlh : SlRep rCell (Ft 0 M0 h) h lv l := hl.mono fun x hx => by
    obtain ⟨g1, g2, g3⟩ := hFp x (.inr (.inr (.inr (.inr (.inl hx)))))
    exact ⟨⟨nz, by omega, g2⟩, g3⟩
  have hfh : SlRep rFil (Ft 0 M0 h) h fv fs := hf.mono fun x hx => by
    obtain ⟨g1, g2, g3⟩ := hFp x (.inr (.inr (.inr (.inr (.inr hx)))))
    exact ⟨⟨nz, by omega, g2⟩, g3⟩
  obtain ⟨a0, c0, rfl, _, _⟩ := hl.val
  refine callH_by fun K hK => ?_
  refine enter [] Tryz.func89 rfl rfl (by kernel_rfl) rfl ?_
  simp -dsimp [w1]
  refine loopc (σ := Nat) (fun i => [(0, .func yf yu yv'), (1, .pointer (some ⟨b1, 0, none⟩)), (2, .pointer (some ⟨b2, 0, none⟩)), (6, .slice a0 l.length c0), (7, .int .i64 l.length), (8, .int .i64 i)]) (fun i h1 => i ≤ l.length ∧ ∃ xs M, xs.length = ((l.take i).filter p).length ∧ J xs M h1 ∧ Tr M0 M h h1) (fun i => l.length - i) 0 0 (fun i _ => i = l.length) noRet noRet_le (by simp)
    ⟨by omega, [], M0, rfl, hJ, ⟨.refl _ _, fun _ h => .inl h, fun b hb => hy.lt hJ b hb⟩⟩ (by kernel_rfl) ?_ ?_
  · rintro i h1 g ⟨hi, xs, M, hxs, hJ1, t⟩
    by_cases hil : i < l.length
    · have wk := wrap_succ (k := i) (by omega)
      obtain ⟨bl, ol, cs, e1, _, hrep, hx1⟩ := (hlh.mono (t.ft (Nat.le_refl 0))).get i hil
      have hrep0 := hrep
      obtain ⟨ka, kc, sa, sc, na, nc, xa, xc, rfl, r1, _⟩ := cell_open hrep
      have hx1' : HC.cellsIn h1[bl]? (ol + i * 5) 5 = _ := hx1
      simp -dsimp [hil, e1, idxA_nat hil, hx1']
      rw [push_set rfl]
      generalize hB2 : Array.push h1 _ = h2
      have k2 : Keep none_ h1 h2 := by rw [← hB2]; exact .push _ _ _
      have hC : h2[h1.size]? = some (.cells #[.slice ka l[i].key.length kc, .int .i64 l[i].count, .slice sa l[i].sum.length sc, .slice na l[i].mn.length nc, .slice xa l[i].mx.length xc] 65 (0, 0)) := by rw [← hB2]; exact push_new _ _
      have t2 := t.call k2
      have v2 := t2.at w2 n2
      have v3 := t2.at w3 n3
      have v4 := t2.at w4 n4
      have hrep2 := rCell.mono hrep0 ((t.here.call k2).ft (Nat.le_refl 0))
      simp -dsimp [hC, v2]
      refine call_by (pkeepC_spec v3 v4 (rCell.mono hrep2 (Ft.free (Nat.le_refl 0))) (hsm _ (List.getElem_mem hil)) ((hfh.mono (t2.ft (Nat.le_refl 0))).mono (Ft.free (Nat.le_refl 0))) hfs) ?_
      rintro _ h3 ⟨rfl, k3⟩
      have t3 := t2.call k3
      have k13 : Keep none_ h1 h3 := k2.trans k3 fun _ _ h => h
      have hJ3 := hy.call hJ1 k13
      have hC3 := k3.at hC (fun h => h)
      have hrs := filter_take_succ p l hil
      rw [hp]
      cases hk : p l[i] with
      | true =>
        rw [hk, if_pos rfl] at hrs
        simp -dsimp [hC3]
        have hrep3 := rCell.mono hrep0 ((t.here.call k13).ft (Nat.le_refl 0))
        refine callV_by (hy.step (x := _) hJ3 ?_) ?_
        · obtain ⟨h5, e5⟩ := filter_here p l hil hk hxs
          exact ⟨h5, by rw [e5]; exact hrep3⟩
        rintro _ h4 ⟨rfl, M', hJ4, t4⟩
        simp -dsimp [wk]
        exact ⟨i + 1, by simp [e1], rfl, ⟨by omega, _, M', by rw [hrs, List.length_append, List.length_append, hxs]; rfl, hJ4, t3.trans t4⟩, by show l.length - (i + 1) < l.length - i; omega⟩
      | false =>
        rw [hk, if_neg (by decide), List.append_nil] at hrs
        simp -dsimp [wk]
        exact ⟨i + 1, by simp [e1], rfl, ⟨by omega, xs, M, by rw [hrs]; exact hxs, hJ3, t3⟩, by show l.length - (i + 1) < l.length - i; omega⟩
    · simp -dsimp [hil]
      exact ⟨rfl, i, by simp, rfl, ⟨hi, xs, M, hxs, hJ1, t⟩, by show i = l.length; omega⟩
  · rintro i h1 g ⟨hi, xs, M, hxs, hJ1, t⟩ rfl
    simp -dsimp
    rw [List.take_length] at hxs
    exact hK _ _ ⟨xs, M, hxs, hJ1, t⟩
end Go.Proofs

/-
  The program's Ask and Server.
-/
namespace Go.HC
theorem serve_com {M : Mod} {s : SchM} {rows : List RowM} {need : Int} {k : Nat} {l : List CellM} (hs : serveM (comM M rows) need (2 ^ s.cards.length) = some (k, l)) : k < 2 ^ s.cards.length ∧ l = groupC (rows.map (ofM (k : Int))) ∧ (M.look (nameK (k : Int))).isSome = true ∧ andM (k : Int) need = need := by
  obtain ⟨h1, h2, h3⟩ := serve_some hs
  unfold comM at h2
  split at h2
  · rename_i h
    exact ⟨h1, (Option.some.inj h2).symm, h, h3⟩
  · cases h2
theorem set_small {s : SchM} {rows : List RowM} (ok : FactsOk s rows) (k : Int) : (groupC (rows.map (ofM k))).length ≤ 300 ∧ ∀ d ∈ groupC (rows.map (ofM k)), CellSmall d := by
  refine ⟨Nat.le_trans (groupC_le _) (by rw [List.length_map]; exact ok.len), small_group fun d hd => ?_⟩
  obtain ⟨r, hr, rfl⟩ := List.mem_map.1 hd
  have h1 := (ok.key r hr).1
  have h2 := ok.dims.2
  have h3 := ok.ms
  have h4 := (ok.m r hr).1
  have h5 := pickM_le k r.key 0
  exact ⟨show (pickM k 0 r.key).length < _ by omega, show r.m.length < _ by omega, show r.m.length < _ by omega, show r.m.length < _ by omega⟩
end Go.HC
namespace Go.Proofs
open Go Go.HC

set_option maxHeartbeats 4000000 in
set_option maxRecDepth 10000 in
theorem pserver_spec {h : Heap} {v fv : Value} {F : Nat → Prop} {M : Mod} {s : SchM} {rows : List RowM} {a : Int} {fs : List FilM} (st : StAt v F h M) (hu : usedF M.files < 1000000) (hq : SlRep rFil (Old h) h fv fs) (C : CubeAt M s rows) :
    CallH Tryz.prog 20 #[v, .agg #[.int .i64 a, fv]] h fun r h' => ∃ x ok, r = .tuple #[.int .i64 x, .bool ok] ∧ Keep none_ h h' ∧
      ((rightM s.cards a fs = false ∧ x = 0 ∧ ok = false) ∨ (rightM s.cards a fs = true ∧ serveM (comM M rows) (needM a fs) (2 ^ s.cards.length) = none ∧ x = 0 ∧ ok = false) ∨
        (rightM s.cards a fs = true ∧ ∃ k l, serveM (comM M rows) (needM a fs) (2 ^ s.cards.length) = some (k, l) ∧ x = k ∧ ok = true)) := by
  refine callH_by fun K hK => ?_
  refine enter [.tmp 4, .tmp 5] Tryz.func20 rfl rfl (by kernel_rfl) rfl ?_
  have hq0 := hq
  obtain ⟨fa, fc, rfl, _, _⟩ := hq.val
  simp -dsimp [boxS_eq]
  generalize hB : Array.push h _ = h0
  have k0 : Keep none_ h h0 := by rw [← hB]; exact .push _ _ _
  have wQ : h0[h.size]? = some (.cells #[.int .i64 a, .slice fa fs.length fc] 27 (0, 0)) := by rw [← hB]; exact push_new _ _
  try simp -dsimp [wQ]
  refine call_by (pserve_spec (st.keep k0 fun _ _ h => h) hu (hq0.mono ((Tr.of k0).ft (Nat.le_refl 0))) C) ?_
  rintro _ h1 ⟨x, cv, e, rfl, k1, hcase⟩
  have k01 : Keep none_ h h1 := k0.trans k1 fun _ _ h => h
  simp -dsimp
  rcases hcase with ⟨hr, rfl, rfl, rfl⟩ | ⟨hr, hs, rfl, rfl, rfl⟩ | ⟨hr, k, l, hs, rfl, rfl, hl⟩
  · exact hK _ _ ⟨_, _, rfl, k01, .inl ⟨hr, rfl, rfl⟩⟩
  · exact hK _ _ ⟨_, _, rfl, k01, .inr (.inl ⟨hr, hs, rfl, rfl⟩)⟩
  · exact hK _ _ ⟨_, _, rfl, k01, .inr (.inr ⟨hr, k, l, hs, rfl, rfl⟩)⟩

set_option maxHeartbeats 4000000 in
set_option maxRecDepth 10000 in
theorem pask_spec {h : Heap} {v fv : Value} {F : Nat → Prop} {M : Mod} {s : SchM} {rows : List RowM} {a : Int} {fs : List FilM} (st : StAt v F h M) (hu : usedF M.files < 1000000) (hq : SlRep rFil (Old h) h fv fs) (C : CubeAt M s rows) :
    CallH Tryz.prog 18 #[v, .agg #[.int .i64 a, fv]] h fun r h' => ∃ cv e, r = .tuple #[cv, .int .i64 e] ∧ Keep none_ h h' ∧
      ((rightM s.cards a fs = false ∧ cv = .slice none 0 0 ∧ e = 7) ∨ (rightM s.cards a fs = true ∧ serveM (comM M rows) (needM a fs) (2 ^ s.cards.length) = none ∧ cv = .slice none 0 0 ∧ e = 8) ∨
        (rightM s.cards a fs = true ∧ ∃ (k : Nat) (l : List CellM), serveM (comM M rows) (needM a fs) (2 ^ s.cards.length) = some (k, l) ∧ e = 0 ∧ NewC 65 h.size h' cv (askM k l a fs))) := by
  refine callH_by fun K hK => ?_
  refine enter [.tmp 4, .tmp 5] Tryz.func18 rfl rfl (by kernel_rfl) rfl ?_
  have hq0 := hq
  obtain ⟨fa, fc, rfl, _, _⟩ := hq.val
  simp -dsimp [boxS_eq]
  generalize hB : Array.push h _ = h0
  have k0 : Keep none_ h h0 := by rw [← hB]; exact .push _ _ _
  have z0 : h0.size = h.size + 1 := by rw [← hB]; simp
  have wQ : h0[h.size]? = some (.cells #[.int .i64 a, .slice fa fs.length fc] 27 (0, 0)) := by rw [← hB]; exact push_new _ _
  try simp -dsimp [wQ]
  refine call_by (pserve_spec (st.keep k0 fun _ _ h => h) hu (hq0.mono ((Tr.of k0).ft (Nat.le_refl 0))) C) ?_
  rintro _ h1 ⟨x, cv, e, rfl, k1, hcase⟩
  have k01 : Keep none_ h h1 := k0.trans k1 fun _ _ h => h
  simp -dsimp
  rcases hcase with ⟨hr, rfl, rfl, rfl⟩ | ⟨hr, hs, rfl, rfl, rfl⟩ | ⟨hr, k, l, hs, rfl, rfl, hl⟩
  · simp -dsimp
    exact hK _ _ ⟨_, _, rfl, (k01.pushed _).setted _ fun hh => by have := k01.size; omega, .inl ⟨hr, rfl, rfl⟩⟩
  · simp -dsimp
    exact hK _ _ ⟨_, _, rfl, (k01.pushed _).setted _ fun hh => by have := k01.size; omega, .inr (.inl ⟨hr, hs, rfl, rfl⟩)⟩
  obtain ⟨hkl, el, hlook, hand⟩ := serve_com hs
  obtain ⟨hln, hsm⟩ := set_small C.ok (k : Int)
  rw [← el] at hln hsm
  have hfs : ∀ f ∈ fs, 0 ≤ f.dim ∧ f.dim < 4 := fun f hf => by
    have hr' := hr
    have hd := C.ok.dims
    unfold rightM at hr'
    split at hr'
    · cases hr'
    · have := rightF_ok hr' f hf
      omega
  obtain ⟨la, lc, rfl, _, _⟩ := hl.val
  simp -dsimp
  rw [push_set rfl]
  generalize hD : Array.push (Array.push h1 _) _ = h2
  have s1 := k01.size
  have sz0 := k1.size
  have z2 : h2.size = h1.size + 2 := by rw [← hD]; simp
  have k2 : Keep none_ h1 h2 := by rw [← hD]; exact ((Keep.refl none_ h1).pushed _).pushed _
  have k02 : Keep none_ h h2 := k01.trans k2 fun _ _ h => h
  have wS2 : h2[h1.size]? = some (.cells #[.int .i64 k] 3 (0, 0)) := by rw [← hD]; exact push_at (push_new _ _)
  have wO2 : h2[h1.size + 1]? = some (.cells #[.slice none 0 0] 43 (0, 0)) := by rw [← hD]; exact push_get (by simp)
  have wQ2 := (k1.trans k2 fun _ _ h => h).at wQ (fun h => h)
  refine call_by (K' := fun r h' => r = .func (.func 89) #[] #[.pointer (some ⟨h2.size, 0, none⟩), .pointer (some ⟨h2.size + 1, 0, none⟩)] ∧ h' = (h2.push (.cells #[.slice la l.length lc] 43)).push (.cells #[.func (.func 45) #[] #[.pointer (some ⟨h1.size, 0, none⟩), .pointer (some ⟨h.size, 0, none⟩)]] 96)) ?_ ?_
  · refine callH_by fun K hK => ?_
    refine enter [.tmp 4] Tryz.func44 rfl rfl (by kernel_rfl) rfl ?_
    simp -dsimp [boxS_eq]
    exact hK _ _ ⟨rfl, rfl⟩
  rintro _ h3 ⟨rfl, e3⟩
  have k3 : Keep none_ h2 h3 := by rw [e3]; exact ((Keep.refl none_ h2).pushed _).pushed _
  have z3 : h3.size = h2.size + 2 := by rw [e3]; simp
  have wX : h3[h2.size]? = some (.cells #[.slice la l.length lc] 43 (0, 0)) := by rw [e3]; exact push_at (push_new _ _)
  have wY : h3[h2.size + 1]? = some (.cells #[.func (.func 45) #[] #[.pointer (some ⟨h1.size, 0, none⟩), .pointer (some ⟨h.size, 0, none⟩)]] 96 (0, 0)) := by rw [e3]; exact push_get (by simp)
  clear e3
  have k03 : Keep none_ h h3 := k02.trans k3 fun _ _ h => h
  have wS := k3.at wS2 (fun h => h)
  have wO := k3.at wO2 (fun h => h)
  have wQ := k3.at wQ2 (fun h => h)
  have hl3 : SlRep rCell (Ft h0.size none_ h1) h3 (.slice la l.length lc) l := hl.mono fun b hb => ⟨hb, (k2.trans k3 fun _ _ h => h : Keep none_ h1 h3).blk b hb.2.1 (fun h => h)⟩
  have hf3 : SlRep rFil (Old h) h3 (.slice fa fs.length fc) fs := hq0.mono fun b hb => ⟨hb, k03.blk b hb.2.1 (fun h => h)⟩
  obtain ⟨b8, e8⟩ : ∃ b8, b8 = h1.size + 1 := ⟨_, rfl⟩
  rw [← e8] at wO
  obtain ⟨L, eL⟩ : ∃ L : List CellM, L = l.filter fun c => letM k fs c.key := ⟨_, rfl⟩
  have hLl : L.length ≤ l.length := by rw [eL]; exact List.length_filter_le _ _
  have hLs : ∀ d ∈ L, CellSmall d := fun d hd => hsm d (by rw [eL] at hd; exact (List.mem_filter.1 hd).1)
  have hit := keptC_iter wX hl3 wY wS wQ hf3 hfs (by omega) hsm
  rw [← eL] at hit
  obtain ⟨I, hI⟩ : ∃ I : List (List Value) → (Nat → Prop) → Heap → Prop, ∀ xs M h', I xs M h' ↔ (M b8 ∧ (∀ b, M b → b < h'.size ∧ (b = b8 ∨ h3.size ≤ b)) ∧ xs.length ≤ L.length ∧ ∃ v own, h'[b8]? = some (.cells #[v] 43 (0, 0)) ∧
      Gr rCell 65 h.size M h' v ((L.take xs.length).map (narrowC k a)) own ∧ ∀ bk, own = some bk → h3.size + 2 ≤ bk) := ⟨_, fun _ _ _ => Iff.rfl⟩
  simp -dsimp
  rw [← e8]
  refine range_m (val := fun cs : List Value => #[.agg cs.toArray]) (first := #[]) (by simp) (by simp) hit I
    ?_ ?_ (fun b => b = b8) ?_ ?_ (by kernel_rfl) (by kernel_rfl) (fun _ => rfl) (by intro p hp; simp at hp; subst hp; decide) ?_ ?_
  · exact fun hi b hb => (((hI _ _ _).1 hi).2.1 b hb).1
  · intro xs M h4 h5 hi m1 m2 k
    obtain ⟨hM, hlt, hx, v, own, w1, g, ho⟩ := (hI _ _ _).1 hi
    exact (hI _ _ _).2 ⟨hM, fun b hb => ⟨Nat.lt_of_lt_of_le (hlt b hb).1 k.size, (hlt b hb).2⟩, hx, v, own, k.at w1 (by omega), g.lp (fun b hb => (hlt b hb).1) m2 (fun e => by have := ho _ e; omega) k, ho⟩
  · intro b hb
    rcases hb with rfl | rfl | rfl | rfl | hb | hb
    · exact ⟨by omega, by omega⟩
    · exact ⟨by omega, by omega⟩
    · exact ⟨by omega, by omega⟩
    · exact ⟨by omega, by omega⟩
    · have q1 := hb.2.1
      have q2 := hb.1.1
      exact ⟨by omega, by omega⟩
    · have q1 := hb.2.1
      exact ⟨by omega, by omega⟩
  · intro h4 k4 hz4
    refine (hI _ _ _).2 ⟨.inl rfl, fun b hb => ?_, Nat.zero_le _, _, none, k4.at wO (fun h => h), .nil _ _ _ _ _, fun b hb => by cases hb⟩
    rcases hb with hb | hb | hb
    · exact ⟨by omega, .inl hb⟩
    · exact ⟨by omega, .inr (by omega)⟩
    · exact ⟨by omega, .inr (by omega)⟩
  · rintro xs cs M h4 hi4 ⟨hxk, hrep⟩ hz4 m1 m2 t
    obtain ⟨hM, hlt, hx, v, own, w1, g, ho⟩ := (hI _ _ _).1 hi4
    obtain ⟨ka, kc, sa, sc, na, nc, xa, xc, rfl, r1, _⟩ := cell_open hrep
    have hlt' : ∀ b, M b → b < h4.size := fun b hb => (hlt b hb).1
    simp -dsimp
    rw [push_set rfl]
    generalize hB2 : Array.push h4 _ = h5
    have k5 : Keep none_ h4 h5 := by rw [← hB2]; exact .push _ _ _
    have hC : h5[h4.size]? = some (.cells #[.slice ka L[xs.length].key.length kc, .int .i64 L[xs.length].count, .slice sa L[xs.length].sum.length sc, .slice na L[xs.length].mn.length nc, .slice xa L[xs.length].mx.length xc] 65 (0, 0)) := by rw [← hB2]; exact push_new _ _
    refine ⟨k5, fun h6 k6 hz6 => ?_⟩
    have l4 := lt_of_blk w1
    have hzz : h5.size = h4.size + 1 := by rw [← hB2]; simp
    have t46 : Tr M M h4 h6 := (Tr.call ⟨.refl _ _, fun _ h => .inl h, hlt'⟩ k5).trans (.lp (fun b hb => Nat.lt_of_lt_of_le (hlt' b hb) k5.size) m2 k6)
    have g6 := (g.call k5).lp (fun b hb => Nat.lt_of_lt_of_le (hlt' b hb) k5.size) m2 (fun e => by have := ho _ e; omega) k6
    have w6 := k6.at (k5.at w1 (fun h => h)) (by omega)
    have hC6 := k6.at hC (by omega)
    have u6 := t.trans t46
    have wS6 := u6.at wS (by omega)
    have wQ6 := u6.at wQ (by omega)
    have hrep6 := rCell.mono hrep (t46.ft (Nat.le_refl _))
    obtain ⟨va, vn, vc, rfl, hvn⟩ := g6.vals
    refine drawn_by [⟨0, true, []⟩, ⟨1, true, []⟩, ⟨2, true, []⟩, ⟨3, true, []⟩, ⟨4, true, []⟩, ⟨5, false, [0]⟩, ⟨6, false, [0]⟩, ⟨7, false, []⟩, ⟨8, false, []⟩] (by kernel_rfl) (by kernel_rfl) ?_
    simp -dsimp [w6, hC6, wS6, wQ6]
    refine call_by (narrow_spec k a (rCell.mono hrep6 (Ft.free (Nat.zero_le _))) (hLs _ (List.getElem_mem hxk))) ?_
    rintro _ h7 ⟨ds, rfl, rd, k7⟩
    have rd7 := rCell.mono rd (t46.ret (n := h.size) (by have := k03.size; have := t.size; have := t46.size; omega))
    obtain ⟨ka', kc', sa', sc', na', nc', xa', xc', rfl, q1, _⟩ := cell_open rd
    have w7 := k7.at w6 (fun h => h)
    have t7 := t46.call k7
    have g7 := g6.call k7
    have hlm : ((L.take xs.length).map (narrowC k a)).length = xs.length := by rw [List.length_map, List.length_take]; omega
    have w7p : ∀ o, (h7.push o)[b8]? = some (.cells #[.slice va vn vc] 43 (0, 0)) := fun o => push_at w7
    simp -dsimp [again_cons, w7, w7p]
    refine gr_app1 (x := narrowC k a L[xs.length]) rfl cellT g7 t7.lt rd7 rfl (by omega) (by omega) ?_
    intro v' h8 own' g8 t8 k8 ho8
    have w8 := k8.at w7 (fun e => by have := ho _ e; omega)
    have ho8' : ∀ b, own' = some b → h3.size + 2 ≤ b := fun b e => (ho8 _ e).elim (ho b) (by have := t7.size; omega)
    obtain ⟨va', vn', vc', rfl, hvn'⟩ := g8.vals
    have hl8 := lt_of_blk w8
    simp -dsimp [again_cons, w8]
    have t9 := (t7.trans t8).set (.cells #[.slice va' vn' vc'] 43) (.inl hM)
    refine ⟨_, (hI _ _ _).2 ⟨.inl hM, fun b hb => ⟨t9.lt b hb, ?_⟩, by simp; omega, _, own', set_same _ hl8, ?_, ho8'⟩, t9, .inl m1, .inl m2, (set_other _ (by omega)).trans ((k8.blk _ (by have := t7.size; omega) fun e => by have := ho _ e; omega).trans (k7.blk _ (by omega) fun h => h)), (set_other _ (by omega)).trans ((k8.blk _ (by have := t7.size; omega) fun e => by have := ho _ e; omega).trans (k7.blk _ (by omega) fun h => h))⟩
    · rcases hb with hb | hb
      · exact (hlt b hb).2
      · exact .inr (by have := ho8' b hb; omega)
    rw [List.length_append, List.length_singleton, take_snoc hxk, List.map_append]
    exact g8.set _ (.inl hM) (fun e => by have := ho8' _ e; omega)
  · rintro xs M h4 hxl hi4 hdm hz4 m1 m2 t
    obtain ⟨hM, hlt, hx, v, own, w1, g, ho⟩ := (hI _ _ _).1 hi4
    have T4 := Tr.from_ k03 t (fun b hb => by omega)
    rw [hxl, List.take_length] at g
    obtain ⟨va, vn, vc, rfl, hvn⟩ := g.vals
    have hLL : (L.map (narrowC (k : Int) a)).length = L.length := List.length_map _
    simp -dsimp [w1]
    refine call_by (cgroup_spec ((g.newC (n0 := 0) (Nat.zero_le _) (fun _ _ => Nat.zero_le _)).rep (Nat.le_refl 0)) (by omega) fun d hd => ?_) ?_
    · obtain ⟨c, hc, rfl⟩ := List.mem_map.1 hd
      exact narrow_small (hLs c hc)
    rintro v5 h5 ⟨g5, k5⟩
    have T5 := T4.call k5
    have hdm5 := k5.at hdm (fun h => h)
    simp -dsimp
    rw [takeS_cons hdm5]
    simp -dsimp
    have u := T5.set (.deferred none) m1
    have ek : Keep none_ h5 (h5.setIfInBounds h3.size (.deferred none)) → True := fun _ => trivial
    refine hK _ _ ⟨_, _, rfl, u.keep, .inr (.inr ⟨hr, k, l, hs, rfl, ?_⟩)⟩
    have e : groupC (L.map (narrowC (k : Int) a)) = askM k l a fs := by rw [eL]; rfl
    rw [← e]
    have hk4 := t.size
    exact (g5.keepS ((Keep.refl (fun b => b = h3.size) h5).setted _ fun _ => rfl) (fun b hb => by omega)).older (by omega)
end Go.Proofs

/-
  The document's facts, cells and Server.
-/
namespace Go.HC
/-- What the facts' file says. -/
def FactsIn (M : Mod) : Prop := (M.look nmFact).isSome = true ∧ DecOk (M.nowOf nmFact)
theorem CubeAt.facts {M : Mod} {s : SchM} {rows : List RowM} (C : CubeAt M s rows) : FactsIn M ∧ schB (M.nowOf nmFact) = s ∧ rowsB (M.nowOf nmFact) = rows := by
  obtain ⟨h1, h2, h3⟩ := dec_enc C.ok
  rw [← C.fact] at h1 h2 h3
  exact ⟨⟨C.there, h1⟩, h2, h3⟩
end Go.HC
namespace Go.Proofs
open Go Go.HC

set_option maxHeartbeats 4000000 in
set_option maxRecDepth 10000 in
theorem facts14_spec {h : Heap} {v : Value} {F : Nat → Prop} {M : Mod} (st : RefAt v F h M) (hu : usedF M.files < 1000000) (hl : M.files.length < 1000000) (hd : (M.nowOf nmFact).length < 1000000) :
    CallH Tryz.prog 49 #[v] h fun r h' => ∃ cv ms rv ok, r = .tuple #[.agg #[cv, .int .i64 ms], rv, .bool ok] ∧ Keep none_ h h' ∧
      ((FactsIn M ∧ ok = true ∧ ms = (schB (M.nowOf nmFact)).ms ∧ SlRep rInt (Ft h.size none_ h') h' cv (schB (M.nowOf nmFact)).cards) ∨ (¬ FactsIn M ∧ ok = false ∧ cv = .slice none 0 0 ∧ ms = 0)) := by
  refine callH_by fun K hK => ?_
  refine enter [.cell 2 30, .tmp 3, .tmp 4] Tryz.func49 rfl rfl (by kernel_rfl) rfl ?_
  simp -dsimp
  generalize hB : Array.push h _ = h0
  have k0 : Keep none_ h h0 := by rw [← hB]; exact .push _ _ _
  have z0 : h0.size = h.size + 1 := by rw [← hB]; simp
  have wC : h0[h.size]? = some (.cells #[.slice none 0 0, .int .i64 0] 30 (0, 0)) := by rw [← hB]; exact push_new _ _
  refine call_by (rread_spec (st.keep k0 fun _ _ h => h) (by omega) (by omega) nmFact) ?_
  rintro _ h1 ⟨u, ou, rfl, gu, k1, hou⟩
  obtain ⟨ua, uc, rfl⟩ := gu.val
  have w1 := k1.at wC (fun h => h)
  have l1 := lt_of_blk w1
  have k01 : Keep none_ h h1 := k0.trans k1 fun _ _ h => h
  cases hth : (M.look nmFact).isSome with
  | false =>
    simp -dsimp [w1, set_same _ l1]
    exact hK _ _ ⟨_, _, _, _, rfl, k01.setted _ fun hh => by omega, .inr ⟨fun hf => Bool.noConfusion (hf.1.symm.trans hth), rfl, rfl, rfl⟩⟩
  | true =>
    have hub : SlRep rByte (Old h1) h1 (.slice ua (M.nowOf nmFact).length uc) (M.nowOf nmFact) := gu.bytes.mono fun b hb => ⟨⟨nz, gu.own_lt b hb, fun h => h⟩, rfl⟩
    simp -dsimp
    refine call_by (rdecode_spec hub hd) ?_
    rintro _ h2 ⟨cv, ms, rv, e, rfl, k2, hcase⟩
    have w2 := k2.at w1 (fun h => h)
    have l2 := lt_of_blk w2
    have k02 : Keep none_ h h2 := k01.trans k2 fun _ _ h => h
    have hne : h.size ≠ h2.size := by omega
    rcases hcase with ⟨hdk, rfl, rfl, hcv, hrv⟩ | ⟨hno, rfl, rfl, rfl, rfl⟩
    · obtain ⟨ca, cc, rfl, _, _⟩ := hcv.val
      simp -dsimp
      rw [push_set rfl]
      generalize hD : Array.push h2 _ = h3
      have k3 : Keep none_ h2 h3 := by rw [← hD]; exact .push _ _ _
      have k03 : Keep none_ h h3 := k02.trans k3 fun _ _ h => h
      have w3 := k3.at w2 (fun h => h)
      have l3 := lt_of_blk w3
      have wN : h3[h2.size]? = some (.cells #[.slice ca (schB (M.nowOf nmFact)).cards.length cc, .int .i64 (schB (M.nowOf nmFact)).ms] 30 (0, 0)) := by rw [← hD]; exact push_new _ _
      simp -dsimp [w3, set_same _ l3]
      have kk : Keep none_ h (h3.setIfInBounds h.size (.cells #[.slice ca (schB (M.nowOf nmFact)).cards.length cc, .int .i64 (schB (M.nowOf nmFact)).ms] 30)) := k03.setted _ fun hh => by omega
      refine hK _ _ ⟨_, _, _, _, rfl, kk, .inl ⟨⟨hth, hdk⟩, rfl, rfl, hcv.mono fun b hb => ?_⟩⟩
      have q1 := hb.1.1
      have q2 := hb.2.1
      have e : (h3.setIfInBounds h.size (.cells #[.slice ca (schB (M.nowOf nmFact)).cards.length cc, .int .i64 (schB (M.nowOf nmFact)).ms] 30))[b]? = h2[b]? := by
        rw [set_other _ (by have := k1.size; omega)]
        exact k3.blk b q2 (fun h => h)
      exact ⟨⟨hb.1.at (by have := k1.size; omega) e, by have := k3.size; simp; omega, fun h => h⟩, e⟩
    · simp -dsimp
      rw [push_set rfl]
      generalize hD : Array.push h2 _ = h3
      have k3 : Keep none_ h2 h3 := by rw [← hD]; exact .push _ _ _
      have k03 : Keep none_ h h3 := k02.trans k3 fun _ _ h => h
      have w3 := k3.at w2 (fun h => h)
      have l3 := lt_of_blk w3
      have wN : h3[h2.size]? = some (.cells #[.slice none 0 0, .int .i64 0] 30 (0, 0)) := by rw [← hD]; exact push_new _ _
      simp -dsimp [w3, set_same _ l3]
      exact hK _ _ ⟨_, _, _, _, rfl, k03.setted _ fun hh => by omega, .inr ⟨fun hf => hno hf.2, rfl, rfl, rfl⟩⟩

set_option maxHeartbeats 4000000 in
set_option maxRecDepth 10000 in
theorem cells14_spec {h : Heap} {v cv : Value} {F : Nat → Prop} {M : Mod} {s : SchM} {rows : List RowM} {k : Nat} (st : RefAt v F h M) (hu : usedF M.files < 1000000) (hl : M.files.length < 1000000) (hcv : SlRep rInt (Old h) h cv s.cards) (C : CubeAt M s rows) (hk : k < 2 ^ s.cards.length) :
    CallH Tryz.prog 51 #[v, .agg #[cv, .int .i64 s.ms], .int .i64 k] h fun r h' => ∃ rv, r = .tuple #[rv, .bool (comM M rows k).isSome] ∧ Keep none_ h h' ∧ SlRep rCell (Ft h.size none_ h') h' rv ((comM M rows k).getD []) := by
  refine callH_by fun K hK => ?_
  refine enter [.tmp 6, .tmp 7] Tryz.func51 rfl rfl (by kernel_rfl) rfl ?_
  have hcv0 := hcv
  have hd4 := C.ok.dims.2
  have hp4 : 2 ^ s.cards.length ≤ 2 ^ 4 := Nat.pow_le_pow_right (by decide) hd4
  obtain ⟨ca, cc, rfl, _, _⟩ := hcv.val
  simp -dsimp [boxS_eq]
  generalize hB : Array.push h _ = h0
  have k0 : Keep none_ h h0 := by rw [← hB]; exact .push _ _ _
  have z0 : h0.size = h.size + 1 := by rw [← hB]; simp
  have wC : h0[h.size]? = some (.cells #[.slice ca s.cards.length cc, .int .i64 s.ms] 30 (0, 0)) := by rw [← hB]; exact push_new _ _
  refine call_by (rname_spec (k := (k : Int)) (by omega) (by omega) h0) ?_
  rintro _ h1 ⟨rfl, k1⟩
  have k01 : Keep none_ h h1 := k0.trans k1 fun _ _ h => h
  simp -dsimp
  refine call_by (rread_spec (st.keep k01 fun _ _ h => h) (by omega) (by omega) (nameK (k : Int))) ?_
  rintro _ h2 ⟨u, ou, rfl, gu, k2, hou⟩
  obtain ⟨ua, uc, rfl⟩ := gu.val
  have k02 : Keep none_ h h2 := k01.trans k2 fun _ _ h => h
  have w2 := (k1.trans k2 fun _ _ h => h).at wC (fun h => h)
  cases hth : (M.look (nameK (k : Int))).isSome with
  | false =>
    have e : comM M rows k = none := by unfold comM; rw [hth]; rfl
    rw [e] at hK
    simp -dsimp
    exact hK _ _ ⟨_, rfl, k02, SlRep.nil _ _ _⟩
  | true =>
    have e : comM M rows k = some (groupC (rows.map (ofM (k : Int)))) := by unfold comM; rw [if_pos hth]
    rw [e] at hK
    rw [C.set k hk hth] at gu ⊢
    have hub : SlRep rByte (Old h2) h2 _ (encC (k : Int) (groupC (rows.map (ofM (k : Int))))) := gu.bytes.mono fun b hb => ⟨⟨nz, gu.own_lt b hb, fun h => h⟩, rfl⟩
    simp -dsimp [w2]
    refine call_by (rcdecode_spec (hcv0.mono ((Tr.of k02).ft (Nat.le_refl 0))) hub (cub_ok C.ok (by omega) (by exact_mod_cast hk))) ?_
    rintro _ h3 ⟨rv, rfl, hrv, k3⟩
    simp -dsimp
    exact hK _ _ ⟨_, rfl, k02.trans k3 fun _ _ h => h, hrv.mono fun b hb => ⟨⟨hb.1.less (by have := k02.size; omega), hb.2.1, fun h => h⟩, rfl⟩⟩
end Go.Proofs

/-
  The document's Server.
-/
namespace Go.HC
/-- How many cells the best has: -1 if there is none. -/
def bestN : Option (Nat × List CellM) → Int
  | none => -1
  | some b => b.2.length
def bestK : Option (Nat × List CellM) → Int
  | none => 0
  | some b => b.1
end Go.HC
namespace Go.Proofs
open Go Go.HC

set_option maxHeartbeats 1000000 in
set_option maxRecDepth 10000 in
theorem server14_spec {h : Heap} {v fv : Value} {F : Nat → Prop} {M : Mod} {s : SchM} {rows : List RowM} {a : Int} {fs : List FilM} (st : RefAt v F h M) (hu : usedF M.files < 1000000) (hl : M.files.length < 1000000) (hq : SlRep rFil (Old h) h fv fs) (C : CubeAt M s rows) :
    CallH Tryz.prog 21 #[v, .agg #[.int .i64 a, fv]] h fun r h' => ∃ x ok, r = .tuple #[.int .i64 x, .bool ok] ∧ Keep none_ h h' ∧
      ((rightM s.cards a fs = false ∧ x = 0 ∧ ok = false) ∨ (rightM s.cards a fs = true ∧ serveM (comM M rows) (needM a fs) (2 ^ s.cards.length) = none ∧ x = 0 ∧ ok = false) ∨
        (rightM s.cards a fs = true ∧ ∃ k l, serveM (comM M rows) (needM a fs) (2 ^ s.cards.length) = some (k, l) ∧ x = k ∧ ok = true)) := by
  refine callH_by fun K hK => ?_
  refine enter [.tmp 4, .tmp 5] Tryz.func21 rfl rfl (by kernel_rfl) rfl ?_
  have hq0 := hq
  obtain ⟨fa, fc, rfl, _, _⟩ := hq.val
  obtain ⟨hfin, hsch, hrows⟩ := C.facts
  have hd4 := C.ok.dims
  have hp4 : 2 ^ s.cards.length ≤ 2 ^ 4 := Nat.pow_le_pow_right (by decide) hd4.2
  simp -dsimp [boxS_eq]
  generalize hB : Array.push h _ = h0
  have k0 : Keep none_ h h0 := by rw [← hB]; exact .push _ _ _
  have z0 : h0.size = h.size + 1 := by rw [← hB]; simp
  have wQ : h0[h.size]? = some (.cells #[.int .i64 a, .slice fa fs.length fc] 27 (0, 0)) := by rw [← hB]; exact push_new _ _
  refine call_by (facts14_spec (st.keep k0 fun _ _ h => h) hu hl (by have := now_le st.ok nmFact; omega)) ?_
  rintro _ h1 ⟨cv, ms, rv, ok, rfl, k1, hcase⟩
  rcases hcase with ⟨_, rfl, ems, hcv⟩ | ⟨hno, _⟩
  rotate_left
  · exact absurd hfin hno
  rw [hsch] at ems hcv
  subst ems
  obtain ⟨ca, cc, rfl, _, _⟩ := hcv.val
  have k01 : Keep none_ h h1 := k0.trans k1 fun _ _ h => h
  have wQ1 := k1.at wQ (fun h => h)
  simp -dsimp
  rw [push_set rfl]
  obtain ⟨b6, e6⟩ : ∃ b6, b6 = h1.size := ⟨_, rfl⟩
  rw [← e6]
  generalize hD : Array.push h1 _ = h2
  have k2 : Keep none_ h1 h2 := by rw [← hD]; exact .push _ _ _
  have k02 : Keep none_ h h2 := k01.trans k2 fun _ _ h => h
  have wS : h2[b6]? = some (.cells #[.slice ca s.cards.length cc, .int .i64 s.ms] 30 (0, 0)) := by rw [← hD, e6]; exact push_new _ _
  have wQ2 := k2.at wQ1 (fun h => h)
  have hcz : ∀ {z : Heap}, Keep none_ h2 z → SlRep rInt (Old z) z (.slice ca s.cards.length cc) s.cards := fun kz => ((hcv.mono ((Tr.of k2).ft (Nat.zero_le _))).mono ((Tr.of kz).ft (Nat.le_refl 0)))
  have hqz : ∀ {z : Heap}, Keep none_ h2 z → SlRep rFil (Old z) z (.slice fa fs.length fc) fs := fun kz => hq0.mono ((Tr.of (k02.trans kz fun _ _ h => h)).ft (Nat.le_refl 0))
  simp -dsimp [wQ2]
  refine call_by (rqright_spec (hcz (.refl _ _)) (hqz (.refl _ _)) hd4.2) ?_
  rintro _ h3 ⟨rfl, k3⟩
  have k03 : Keep none_ h h3 := k02.trans k3 fun _ _ h => h
  have wS3 := k3.at wS (fun h => h)
  have wQ3 := k3.at wQ2 (fun h => h)
  cases hright : rightM s.cards a fs with
  | false =>
    simp -dsimp
    exact hK _ _ ⟨_, _, rfl, k03, .inl ⟨hright, rfl, rfl⟩⟩
  | true =>
    have hfs : ∀ f ∈ fs, 0 ≤ f.dim ∧ f.dim < 4 := fun f hf => by
      have hr' := hright
      unfold rightM at hr'
      split at hr'
      · cases hr'
      · have := rightF_ok hr' f hf
        omega
    obtain ⟨com, ecom⟩ : ∃ com, com = comM M rows := ⟨_, rfl⟩
    obtain ⟨need, eneed⟩ : ∃ need, need = needM a fs := ⟨_, rfl⟩
    have hsh := shl_one (k := s.cards.length) (by omega)
    obtain ⟨n, en⟩ : ∃ n : Nat, n = 2 ^ s.cards.length := ⟨_, rfl⟩
    have hn : ((2 : Int) ^ s.cards.length) = (n : Int) := by rw [en]; simp
    rw [hn] at hsh
    rw [← en] at hp4 hK
    obtain ⟨B, hB0, hBs⟩ : ∃ B : Nat → Option (Nat × List CellM), B 0 = none ∧ (∀ i, B (i + 1) = stepM com need (B i) i) ∧ B n = serveM (comM M rows) (needM a fs) n := ⟨serveM com need, rfl, fun i => serve_succ _ _ _, by rw [ecom, eneed]⟩
    obtain ⟨hBs, hBn⟩ := hBs
    rw [← hBn] at hK
    simp -dsimp
    refine loopc (σ := Nat) (fun i => [(0, v), (3, .pointer (some ⟨h.size, 0, none⟩)), (6, .pointer (some ⟨b6, 0, none⟩)), (9, .int .i64 (bestK (B i))), (10, .int .i64 (bestN (B i))), (11, .int .i64 i)])
      (fun i y => Keep none_ h3 y ∧ i ≤ n) (fun i => n - i) 0 0 (fun i _ => i = n) noRet noRet_le (by simp [hB0, bestK, bestN]) ⟨.refl _ _, Nat.zero_le _⟩ (by kernel_rfl) ?_ ?_
    · rintro i y g ⟨ky, hi⟩
      have wSy := ky.at wS3 (fun h => h)
      have wQy := ky.at wQ3 (fun h => h)
      have k0y : Keep none_ h y := k03.trans ky fun _ _ h => h
      have k2y : Keep none_ h2 y := k3.trans ky fun _ _ h => h
      by_cases hin : i < n
      · have wi := wrap_succ (k := i) (by omega)
        simp -dsimp [-intRes_shl, wSy, hsh, hin]
        refine call_by (cells14_spec (st.keep k0y fun _ _ h => h) hu hl (hcz k2y) C (by rw [← en]; exact hin)) ?_
        rintro _ y1 ⟨rv, rfl, k1y, hrv⟩
        obtain ⟨ra, rc, rfl, _, _⟩ := hrv.val
        have kyy : Keep none_ h3 y1 := ky.trans k1y fun _ _ h => h
        have k2y1 : Keep none_ h2 y1 := k3.trans kyy fun _ _ h => h
        have wQ1y := k1y.at wQy (fun h => h)
        have hstep := hBs i
        unfold stepM at hstep
        rw [ecom] at hstep
        cases hc : comM M rows i with
        | none =>
          rw [hc] at hstep
          have hstep : B (i + 1) = B i := by rw [hstep]; split <;> rfl
          simp -dsimp
          refine drawn_by [⟨0, true, []⟩, ⟨1, true, []⟩, ⟨2, true, []⟩, ⟨3, true, []⟩, ⟨6, true, []⟩, ⟨4, false, [2, 6]⟩, ⟨5, true, []⟩, ⟨7, false, [2, 5]⟩, ⟨8, true, []⟩, ⟨9, true, []⟩, ⟨10, true, []⟩, ⟨11, true, []⟩, ⟨12, true, []⟩, ⟨13, true, []⟩, ⟨14, true, []⟩, ⟨15, true, []⟩, ⟨16, true, []⟩, ⟨17, true, []⟩, ⟨18, true, []⟩, ⟨19, true, []⟩] (by kernel_rfl) (by kernel_rfl) ?_
          simp -dsimp [wi]
          exact ⟨i + 1, by simp [hstep], rfl, ⟨kyy, hin⟩, by show n - (i + 1) < n - i; omega⟩
        | some l =>
          rw [hc] at hstep
          simp -dsimp
          refine drawn_by [⟨0, true, []⟩, ⟨1, true, []⟩, ⟨2, true, []⟩, ⟨3, true, []⟩, ⟨6, true, []⟩, ⟨4, false, [2, 6]⟩, ⟨5, true, []⟩, ⟨7, false, [2, 5]⟩, ⟨8, true, []⟩, ⟨9, true, []⟩, ⟨10, true, []⟩, ⟨11, true, []⟩, ⟨12, true, []⟩, ⟨13, true, []⟩, ⟨14, true, []⟩, ⟨15, true, []⟩, ⟨16, true, []⟩, ⟨17, true, []⟩, ⟨18, true, []⟩, ⟨19, true, []⟩] (by kernel_rfl) (by kernel_rfl) ?_
          simp -dsimp [wQ1y]
          refine call_by (rneed_spec (hqz k2y1) hfs) ?_
          rintro _ y2 ⟨rfl, k2'⟩
          have wQ2y := k2'.at wQ1y (fun h => h)
          have k2y2 : Keep none_ h2 y2 := k2y1.trans k2' fun _ _ h => h
          simp -dsimp [-intRes_and, again_cons, wQ2y, and_op]
          refine call_by (rneed_spec (hqz k2y2) hfs) ?_
          rintro _ y3 ⟨rfl, k3'⟩
          have wQ3y := k3'.at wQ2y (fun h => h)
          have kyz : Keep none_ h3 y3 := (kyy.trans k2' fun _ _ h => h).trans k3' fun _ _ h => h
          rw [← eneed]
          by_cases hand : andM (i : Int) need = need
          · rw [if_pos hand] at hstep
            simp -dsimp [-intRes_and, again_cons, wQ3y, and_op, hand]
            cases hb : B i with
            | none =>
              rw [hb] at hstep
              have e1 : bestN (none : Option (Nat × List CellM)) = -1 := rfl
              have hneg : (-1 : Int) < 0 := by decide
              have hstep : B (i + 1) = some (i, l) := hstep
              simp -dsimp [e1, wi]
              exact ⟨i + 1, by simp [hstep, bestN, bestK], rfl, ⟨kyz, hin⟩, by show n - (i + 1) < n - i; omega⟩
            | some b =>
              rw [hb] at hstep
              have e1 : bestN (some b) = (b.2.length : Int) := rfl
              have hneg : ¬ ((b.2.length : Int) < 0) := by omega
              have hstep : B (i + 1) = if l.length < b.2.length then some (i, l) else some b := hstep
              by_cases hlt : l.length < b.2.length
              · rw [if_pos hlt] at hstep
                simp -dsimp [e1, hneg, hlt, wi]
                exact ⟨i + 1, by simp [hstep, bestN, bestK], rfl, ⟨kyz, hin⟩, by show n - (i + 1) < n - i; omega⟩
              · rw [if_neg hlt] at hstep
                simp -dsimp [e1, hneg, hlt, wi]
                exact ⟨i + 1, by simp [hstep, bestN, bestK], rfl, ⟨kyz, hin⟩, by show n - (i + 1) < n - i; omega⟩
          · rw [if_neg hand] at hstep
            have hbne : (andM (i : Int) need == need) = false := by rw [beq_eq_false_iff_ne]; exact hand
            simp -dsimp [-intRes_and, again_cons, wQ3y, and_op, hbne, wi]
            exact ⟨i + 1, by simp [hstep], rfl, ⟨kyz, hin⟩, by show n - (i + 1) < n - i; omega⟩
      · simp -dsimp [-intRes_shl, wSy, hsh, hin]
        exact ⟨rfl, i, by simp, rfl, ⟨ky, hi⟩, by show i = n; omega⟩
    · rintro i y g ⟨ky, hi⟩ hil
      have hil : i = n := hil
      subst hil
      have k0y : Keep none_ h y := k03.trans ky fun _ _ h => h
      cases hb : B i with
      | none =>
        simp -dsimp [bestN, bestK]
        exact hK _ _ ⟨_, _, rfl, k0y, .inr (.inl ⟨hright, hb, rfl, rfl⟩)⟩
      | some b =>
        obtain ⟨k, l⟩ := b
        have hneg : (0 : Int) ≤ (l.length : Int) := by omega
        simp -dsimp [bestN, bestK, hneg]
        exact hK _ _ ⟨_, _, rfl, k0y, .inr (.inr ⟨hright, k, l, hb, rfl, rfl⟩)⟩
end Go.Proofs

/-
  The document's filters over a cell.
-/
namespace Go.HC
theorem pick_not (D : Nat) (hD : D < 4) : ∀ (ds : List Nat) (key : List Int), (∀ d ∈ ds, d < 4 ∧ d ≠ D) → pickN (2 ^ D) ds key = []
  | [], key, _ => by unfold pickN; simp
  | d :: ds, [], _ => by unfold pickN; simp
  | d :: ds, x :: key, h => by
    obtain ⟨h1, h2⟩ := h d (List.mem_cons_self ..)
    rw [pickN_cons, bit_pow hD h1, if_neg (by simpa using h2), pick_not D hD ds key fun d hd => h d (List.mem_cons_of_mem _ hd)]
theorem pick_here (D : Nat) (hD : D < 4) : ∀ (ds : List Nat) (key : List Int) (j : Nat), ds.Nodup → (∀ d ∈ ds, d < 4) → ds[j]? = some D → (hj : j < key.length) → pickN (2 ^ D) ds key = [key[j]]
  | [], key, j, _, _, h, _ => by simp at h
  | d :: ds, [], j, _, _, _, hj => by simp at hj
  | d :: ds, x :: key, 0, hn, h4, h, hj => by
    have e : d = D := by simpa using h
    subst e
    obtain ⟨n1, n2⟩ := List.nodup_cons.1 hn
    rw [pickN_cons, bit_pow hD hD, if_pos (by simp), pick_not d hD ds key fun y hy => ⟨h4 y (List.mem_cons_of_mem _ hy), fun e => n1 (e ▸ hy)⟩]
    rfl
  | d :: ds, x :: key, j + 1, hn, h4, h, hj => by
    obtain ⟨n1, n2⟩ := List.nodup_cons.1 hn
    have h' : ds[j]? = some D := by simpa using h
    have hm : D ∈ ds := List.mem_of_getElem? h'
    have hne : d ≠ D := fun e => n1 (e ▸ hm)
    rw [pickN_cons, bit_pow hD (h4 d (List.mem_cons_self ..)), if_neg (by simpa using hne)]
    rw [pick_here D hD ds key j n2 (fun y hy => h4 y (List.mem_cons_of_mem _ hy)) h' (by simpa using hj)]
    rfl
/-- A dimension's value in a cell of a set that has it. -/
theorem pick_set {a : Int} {D : Nat} {key : List Int} (hD : D < 4) (hb : bitM a D = true) (hk : key.length = (dimsM a).length) : ∃ h : cntD a D < key.length, pickN (2 ^ D) (dimsM a) key = [key[cntD a D]] := by
  have h1 : (dimsM a)[cntD a D]? = some D := filter_at hD hb
  have h2 : cntD a D < key.length := by rw [hk]; exact (List.getElem?_eq_some_iff.1 h1).1
  refine ⟨h2, pick_here D hD _ key _ (List.nodup_range.sublist List.filter_sublist) (fun d hd => ?_) h1 h2⟩
  have := (List.mem_filter.1 hd).1
  simpa using this
/-- Does a filter let a key by? -/
def okF (a : Int) (key : List Int) (f : FilM) : Bool := match pickN (2 ^ f.dim.toNat) (dimsM a) key with
  | [v] => decide (f.lo ≤ v) && decide (v ≤ f.hi)
  | _ => false
theorem letM_okF (a : Int) (fs : List FilM) (key : List Int) : letM a fs key = fs.all (okF a key) := rfl
end Go.HC
namespace Go.Proofs
open Go Go.HC

set_option maxHeartbeats 1000000 in
set_option maxRecDepth 10000 in
theorem by14_spec {h : Heap} {cs : List Value} {c : CellM} {fv : Value} {k a : Int} {fs : List FilM} (hr : rCell.rep (Old h) h cs c) (hf : SlRep rFil (Old h) h fv fs) (hfs : ∀ f ∈ fs, 0 ≤ f.dim ∧ f.dim < 4 ∧ bitM k f.dim.toNat = true) (hk : c.key.length = (dimsM k).length) :
    CallH Tryz.prog 52 #[.agg cs.toArray, .int .i64 k, .agg #[.int .i64 a, fv]] h fun r h' => r = .bool (letM k fs c.key) ∧ Keep none_ h h' := by
  refine callH_by fun K hK => ?_
  refine enter [.tmp 6] Tryz.func52 rfl rfl (by kernel_rfl) rfl ?_
  have hf0 := hf
  have hr0 := hr
  obtain ⟨fa, fc, rfl, hfc, hfc'⟩ := hf.val
  obtain ⟨ka, kc, sa, sc, na, nc, xa, xc, rfl, r1, r2, r3, r4⟩ := cell_open hr
  rw [letM_okF] at hK
  obtain ⟨P, hP⟩ : ∃ P, P = okF k c.key := ⟨_, rfl⟩
  rw [← hP] at hK
  -- what one filter says
  have hone : ∀ f ∈ fs, ∃ hx : cntD k f.dim.toNat < c.key.length, P f = (decide (f.lo ≤ c.key[cntD k f.dim.toNat]) && decide (c.key[cntD k f.dim.toNat] ≤ f.hi)) := fun f hm => by
    obtain ⟨h1, h2, h3⟩ := hfs f hm
    obtain ⟨hx, e⟩ := pick_set (key := c.key) (D := f.dim.toNat) (by omega) h3 hk
    refine ⟨hx, ?_⟩
    rw [hP]
    unfold okF
    rw [e]
  simp -dsimp [boxS_eq]
  generalize hB : Array.push (Array.push h _) _ = h1
  have k1 : Keep none_ h h1 := by rw [← hB]; exact ((Keep.refl none_ h).pushed _).pushed _
  have w1 : h1[h.size]? = some (.cells #[.slice ka c.key.length kc, .int .i64 c.count, .slice sa c.sum.length sc, .slice na c.mn.length nc, .slice xa c.mx.length xc] 65 (0, 0)) := by rw [← hB]; exact push_at (push_new _ _)
  have w2 : h1[h.size + 1]? = some (.cells #[.int .i64 a, .slice fa fs.length fc] 27 (0, 0)) := by rw [← hB]; exact push_get (by simp)
  refine loopc (σ := Nat) (fun d => [(1, .int .i64 k), (3, .pointer (some ⟨h.size, 0, none⟩)), (5, .pointer (some ⟨h.size + 1, 0, none⟩)), (7, .int .i64 (cntD k d)), (8, .int .i64 d)])
    (fun d y => Keep none_ h1 y ∧ d ≤ 4 ∧ ∀ f ∈ fs, f.dim < d → P f = true) (fun d => 4 - d) 0 0 (fun d _ => d = 4) (endR Tryz.prog [.tmp 6] K).rt (fun _ _ _ h => h) (by simp [cntD]) ⟨.refl _ _, Nat.zero_le _, fun f hm hd => absurd hd (by have := (hfs f hm).1; omega)⟩ (by kernel_rfl) ?_ ?_
  case refine_1 =>
    rintro d y g ⟨ky, hd, hdone⟩
    by_cases hd4 : d < 4
    · have hd4' : (d : Int) < 4 := by omega
      have wk : IntKind.u64.wrap (d : Int) = d := by simp [IntKind.wrap, IntKind.bits, IntKind.signed]; omega
      have hsb : intRes .shr .i64 k (d : Int) = some (.int .i64 (k.fdiv (2 ^ d))) := shr_i (by omega)
      have hc := cntD_le k d
      have wd := wrap_succ (k := d) (by omega)
      have e := cntD_succ k d
      cases hb : bitM k d with
      | false =>
        rw [hb, if_neg (by decide), Nat.add_zero] at e
        simp -dsimp [hd4', hsb, bit_val, wk, hb, wd]
        refine ⟨d + 1, by simp [e], rfl, ⟨ky, by omega, fun f hm hlt => ?_⟩, by show 4 - (d + 1) < 4 - d; omega⟩
        obtain ⟨q1, q2, q3⟩ := hfs f hm
        by_cases he : f.dim = d
        · rw [he, Int.toNat_natCast, hb] at q3; cases q3
        · exact hdone f hm (by omega)
      | true =>
        rw [hb, if_pos rfl] at e
        simp -dsimp [hd4', hsb, bit_val, wk, hb]
        refine loopc (σ := Nat) (fun j => [(1, .int .i64 k), (3, .pointer (some ⟨h.size, 0, none⟩)), (5, .pointer (some ⟨h.size + 1, 0, none⟩)), (7, .int .i64 (cntD k d)), (8, .int .i64 d), (9, .int .i64 j)])
          (fun j z => Keep none_ h1 z ∧ j ≤ fs.length ∧ ∀ f ∈ fs.take j, f.dim = d → P f = true) (fun j => fs.length - j) 0 2 (fun j _ => j = fs.length) (endR Tryz.prog [.tmp 6] K).rt (fun _ _ _ h => h) (by simp) ⟨ky, Nat.zero_le _, fun f hm _ => by simp at hm⟩ (by kernel_rfl) ?_ ?_
        case refine_1 =>
          rintro j z g' ⟨kz, hj, hin⟩
          have v1 := kz.at w1 (fun h => h)
          have v2 := kz.at w2 (fun h => h)
          have k0z : Keep none_ h z := k1.trans kz fun _ _ h => h
          by_cases hjl : j < fs.length
          · have wi := wrap_succ (k := j) (by omega)
            obtain ⟨bk, off, cs, rfl, hfb, hrep, hcs⟩ := (hf0.mono ((Tr.of k0z).ft (Nat.le_refl 0))).get j hjl
            obtain rfl : cs = [.int .i64 fs[j].dim, .int .i64 fs[j].lo, .int .i64 fs[j].hi] := hrep
            have hcs : HC.cellsIn z[bk]? (off + j * 3) 3 = some [.int .i64 fs[j].dim, .int .i64 fs[j].lo, .int .i64 fs[j].hi] := hcs
            have hmf := List.getElem_mem hjl
            have htk : fs.take (j + 1) = fs.take j ++ [fs[j]] := by rw [List.take_add_one, List.getElem?_eq_getElem hjl]; rfl
            obtain ⟨f, ef⟩ : ∃ f, f = fs[j] := ⟨_, rfl⟩
            rw [← ef] at hcs hmf htk
            obtain ⟨hx, hPf⟩ := hone f hmf
            simp -dsimp [v2, hjl, idxA_nat hjl, hcs]
            rw [push_set rfl]
            generalize hQ : Array.push z _ = z2
            have k2 : Keep none_ z z2 := by rw [← hQ]; exact .push _ _ _
            have k02 : Keep none_ h z2 := k0z.trans k2 fun _ _ h => h
            have k12 : Keep none_ h1 z2 := kz.trans k2 fun _ _ h => h
            have wF : z2[z.size]? = some (.cells #[.int .i64 f.dim, .int .i64 f.lo, .int .i64 f.hi] 57 (0, 0)) := by rw [← hQ]; exact push_new _ _
            have u1 := k2.at v1 (fun h => h)
            have hnext : (f.dim = d → P f = true) → ∀ f' ∈ fs.take (j + 1), f'.dim = d → P f' = true := fun hh f' hm' he => by
              rw [htk] at hm'
              rcases List.mem_append.1 hm' with hm' | hm'
              · exact hin f' hm' he
              · rw [List.mem_singleton] at hm'; subst hm'; exact hh he
            refine drawn_by [⟨0, true, []⟩, ⟨1, true, []⟩, ⟨2, true, []⟩, ⟨3, true, []⟩, ⟨4, true, []⟩, ⟨5, true, []⟩, ⟨6, true, []⟩, ⟨7, true, []⟩, ⟨8, true, []⟩, ⟨9, true, []⟩, ⟨10, true, []⟩, ⟨11, true, []⟩, ⟨12, true, []⟩, ⟨13, true, []⟩, ⟨14, true, []⟩, ⟨15, true, []⟩, ⟨16, true, []⟩, ⟨17, true, []⟩, ⟨18, true, []⟩, ⟨19, true, []⟩, ⟨20, true, []⟩, ⟨21, true, []⟩, ⟨22, true, []⟩, ⟨23, true, []⟩] (by kernel_rfl) (by kernel_rfl) ?_
            by_cases hdim : f.dim = d
            · have ix1 : cntD k f.dim.toNat = cntD k d := by rw [hdim, Int.toNat_natCast]
              simp only [ix1] at hx hPf
              obtain ⟨b5, o5, e5, _, hc5⟩ := ((show SlRep rInt (Old h) h (.slice ka c.key.length kc) c.key from r1).mono ((Tr.of k02).ft (Nat.le_refl 0))).int_at (cntD k d) hx
              subst e5
              have ix : ∀ sz ar, idxV sz ar (.slice (some ⟨b5, o5, none⟩) c.key.length kc) (.int .i64 (cntD k d : Int)) = sz.map fun s => .pointer (some ⟨b5, o5 + cntD k d * s, none⟩) := fun sz ar => idxV_nat hx
              generalize c.key[cntD k d] = v at hc5 hPf
              by_cases c1 : v < f.lo
              · simp -dsimp [wF, u1, hdim, ix, hc5, elSz_eq, c1]
                have hfl : P f = false := by rw [hPf, decide_eq_false (by omega : ¬ f.lo ≤ v)]; rfl
                have hall : fs.all P = false := by rw [List.all_eq_false]; exact ⟨f, hmf, by rw [hfl]; decide⟩
                exact hK _ _ ⟨by rw [hall], k02⟩
              · by_cases c2 : f.hi < v
                · simp -dsimp [wF, u1, hdim, ix, hc5, elSz_eq, c1, c2]
                  have hfl : P f = false := by rw [hPf, decide_eq_false (by omega : ¬ v ≤ f.hi), Bool.and_false]
                  have hall : fs.all P = false := by rw [List.all_eq_false]; exact ⟨f, hmf, by rw [hfl]; decide⟩
                  exact hK _ _ ⟨by rw [hall], k02⟩
                · simp -dsimp [wF, u1, hdim, ix, hc5, elSz_eq, c1, c2, wi]
                  have htr : P f = true := by rw [hPf, decide_eq_true (by omega : f.lo ≤ v), decide_eq_true (by omega : v ≤ f.hi)]; rfl
                  exact ⟨j + 1, by simp, rfl, ⟨k12, hjl, hnext fun _ => htr⟩, by show fs.length - (j + 1) < fs.length - j; omega⟩
            · have hne : (f.dim == (d : Int)) = false := by rw [beq_eq_false_iff_ne]; exact hdim
              simp -dsimp [wF, hne, wi]
              exact ⟨j + 1, by simp, rfl, ⟨k12, hjl, hnext fun he => absurd he hdim⟩, by show fs.length - (j + 1) < fs.length - j; omega⟩
          · simp -dsimp [v2, hjl]
            exact ⟨rfl, j, by simp, rfl, ⟨kz, hj, hin⟩, by show j = _; omega⟩
        rintro j z g' ⟨kz, hj, hin⟩ hjl
        have hjl : j = fs.length := hjl
        subst hjl
        rw [List.take_length] at hin
        have wc := wrap_succ (k := cntD k d) (by omega)
        simp -dsimp [wc, wd]
        refine ⟨d + 1, by simp [e], rfl, ⟨kz, by omega, fun f hm hlt => ?_⟩, by show 4 - (d + 1) < 4 - d; omega⟩
        by_cases he : f.dim = d
        · exact hin f hm he
        · exact hdone f hm (by omega)
    · have hd4' : ¬ (d : Int) < 4 := by omega
      simp -dsimp [hd4']
      exact ⟨rfl, d, by simp, rfl, ⟨ky, hd, hdone⟩, by show d = 4; omega⟩
  rintro d y g ⟨ky, hd, hdone⟩ hd4
  have hd4 : d = 4 := hd4
  subst hd4
  have hall : fs.all P = true := List.all_eq_true.2 fun f hm => hdone f hm (by have := (hfs f hm).2.1; omega)
  rw [hall] at hK
  simp -dsimp
  exact hK _ _ ⟨rfl, k1.trans ky fun _ _ h => h⟩
end Go.Proofs

/-
  The document's Ask.
-/
namespace Go.HC
theorem right_set {cards : List Int} {a : Int} {fs : List FilM} (h : rightM cards a fs = true) : (0 ≤ a ∧ a < 2 ^ cards.length) ∧ ∀ f ∈ fs, 0 ≤ f.dim ∧ f.dim < cards.length := by
  unfold rightM at h
  split at h
  · cases h
  · rename_i hn
    exact ⟨by omega, fun f hf => by have := rightF_ok h f hf; omega⟩
theorem serve_bits {s : SchM} {a : Int} {fs : List FilM} {k : Nat} (hd : s.cards.length ≤ 4) (hr : rightM s.cards a fs = true) (hk : k < 2 ^ s.cards.length) (ha : andM (k : Int) (needM a fs) = needM a fs) : ∀ f ∈ fs, 0 ≤ f.dim ∧ f.dim < 4 ∧ bitM (k : Int) f.dim.toNat = true := by
  obtain ⟨h1, h2⟩ := right_set hr
  have hp : (2 : Nat) ^ s.cards.length ≤ 2 ^ 4 := Nat.pow_le_pow_right (by decide) hd
  have hp' : ((2 : Int) ^ s.cards.length) ≤ 16 := by exact_mod_cast hp
  have hf : ∀ f ∈ fs, 0 ≤ f.dim ∧ f.dim < 4 := fun f hm => by have := h2 f hm; omega
  obtain ⟨n1, n2⟩ := need_ok fs (set := a) (by omega) hf
  intro f hm
  obtain ⟨q1, q2⟩ := hf f hm
  refine ⟨q1, q2, ?_⟩
  exact (and_iff (by omega) n1).1 ha f.dim.toNat (by omega) ((n2 _ (by omega)).2 (.inr ⟨f, hm, rfl⟩))
theorem cel_sml {s : SchM} {k : Int} {c : CellM} (h : CelOk s k c) : Sml s.ms.toNat c := ⟨by have := h.klen; have : (dimsM k).length ≤ 4 := cntD_le k 4; omega, h.sum, h.mn, h.mx⟩
theorem narrow_sml {a b : Int} {m : Nat} {c : CellM} (h : Sml m c) : Sml m (narrowC a b c) := ⟨by have := pickN_le b (dimsM a) c.key; have := h.key; show (pickN b (dimsM a) c.key).length ≤ _; omega, h.sum, h.mn, h.mx⟩
theorem group_snoc (l : List CellM) (c : CellM) : groupC (l ++ [c]) = putC (groupC l) c := by unfold groupC; rw [List.foldl_append]; rfl
end Go.HC
namespace Go.Proofs
open Go Go.HC

set_option maxHeartbeats 1000000 in
set_option maxRecDepth 10000 in
theorem ask14_spec {h : Heap} {v fv : Value} {F : Nat → Prop} {M : Mod} {s : SchM} {rows : List RowM} {a : Int} {fs : List FilM} (st : RefAt v F h M) (hu : usedF M.files < 1000000) (hl : M.files.length < 1000000) (hq : SlRep rFil (Old h) h fv fs) (C : CubeAt M s rows) :
    CallH Tryz.prog 19 #[v, .agg #[.int .i64 a, fv]] h fun r h' => ∃ cv e, r = .tuple #[cv, .int .i64 e] ∧ Keep none_ h h' ∧
      ((rightM s.cards a fs = false ∧ cv = .slice none 0 0 ∧ e = 7) ∨ (rightM s.cards a fs = true ∧ serveM (comM M rows) (needM a fs) (2 ^ s.cards.length) = none ∧ cv = .slice none 0 0 ∧ e = 8) ∨
        (rightM s.cards a fs = true ∧ ∃ (k : Nat) (l : List CellM), serveM (comM M rows) (needM a fs) (2 ^ s.cards.length) = some (k, l) ∧ e = 0 ∧ SlRep rCell (Ft h.size none_ h') h' cv (askM k l a fs))) := by
  refine callH_by fun K hK => ?_
  refine enter [.tmp 4, .tmp 5] Tryz.func19 rfl rfl (by kernel_rfl) rfl ?_
  have hq0 := hq
  obtain ⟨fa, fc, rfl, _, _⟩ := hq.val
  obtain ⟨hfin, hsch, hrows⟩ := C.facts
  have hd4 := C.ok.dims
  have hms := C.ok.ms
  simp -dsimp [boxS_eq]
  generalize hB : Array.push h _ = h0
  have k0 : Keep none_ h h0 := by rw [← hB]; exact .push _ _ _
  have z0 : h0.size = h.size + 1 := by rw [← hB]; simp
  have wQ : h0[h.size]? = some (.cells #[.int .i64 a, .slice fa fs.length fc] 27 (0, 0)) := by rw [← hB]; exact push_new _ _
  refine call_by (facts14_spec (st.keep k0 fun _ _ h => h) hu hl (by have := now_le st.ok nmFact; omega)) ?_
  rintro _ h1 ⟨cv, ms, rv, ok, rfl, k1, hcase⟩
  rcases hcase with ⟨_, rfl, ems, hcv⟩ | ⟨hno, _⟩
  rotate_left
  · exact absurd hfin hno
  rw [hsch] at ems hcv
  subst ems
  obtain ⟨ca, cc, rfl, _, _⟩ := hcv.val
  have k01 : Keep none_ h h1 := k0.trans k1 fun _ _ h => h
  have wQ1 := k1.at wQ (fun h => h)
  simp -dsimp
  rw [push_set rfl]
  obtain ⟨b6, e6⟩ : ∃ b6, b6 = h1.size := ⟨_, rfl⟩
  rw [← e6]
  generalize hD : Array.push h1 _ = h2
  have k2 : Keep none_ h1 h2 := by rw [← hD]; exact .push _ _ _
  have k02 : Keep none_ h h2 := k01.trans k2 fun _ _ h => h
  have wS : h2[b6]? = some (.cells #[.slice ca s.cards.length cc, .int .i64 s.ms] 30 (0, 0)) := by rw [← hD, e6]; exact push_new _ _
  have wQ2 := k2.at wQ1 (fun h => h)
  have hcz : ∀ {z : Heap}, Keep none_ h2 z → SlRep rInt (Old z) z (.slice ca s.cards.length cc) s.cards := fun kz => ((hcv.mono ((Tr.of k2).ft (Nat.zero_le _))).mono ((Tr.of kz).ft (Nat.le_refl 0)))
  have hqz : ∀ {z : Heap}, Keep none_ h2 z → SlRep rFil (Old z) z (.slice fa fs.length fc) fs := fun kz => hq0.mono ((Tr.of (k02.trans kz fun _ _ h => h)).ft (Nat.le_refl 0))
  simp -dsimp [wQ2]
  refine call_by (rqright_spec (hcz (.refl _ _)) (hqz (.refl _ _)) hd4.2) ?_
  rintro _ h3 ⟨rfl, k3⟩
  have k03 : Keep none_ h h3 := k02.trans k3 fun _ _ h => h
  have wS3 := k3.at wS (fun h => h)
  have wQ3 := k3.at wQ2 (fun h => h)
  cases hright : rightM s.cards a fs with
  | false =>
    simp -dsimp
    exact hK _ _ ⟨_, _, rfl, k03, .inl ⟨hright, rfl, rfl⟩⟩
  | true =>
    simp -dsimp [wQ3]
    refine call_by (server14_spec (st.keep k03 fun _ _ h => h) hu hl (hqz k3) C) ?_
    rintro _ h4 ⟨x, ok, rfl, k4, hcase⟩
    have k04 : Keep none_ h h4 := k03.trans k4 fun _ _ h => h
    have k24 : Keep none_ h2 h4 := k3.trans k4 fun _ _ h => h
    have wS4 := k4.at wS3 (fun h => h)
    have wQ4 := k4.at wQ3 (fun h => h)
    rcases hcase with ⟨hr, _⟩ | ⟨_, hs, rfl, rfl⟩ | ⟨_, k, l, hs, rfl, rfl⟩
    · rw [hright] at hr; cases hr
    · simp -dsimp
      exact hK _ _ ⟨_, _, rfl, k04, .inr (.inl ⟨hright, hs, rfl, rfl⟩)⟩
    obtain ⟨hkl, el, hlook, hand⟩ := serve_com hs
    have ecom : comM M rows k = some l := by unfold comM; rw [if_pos hlook, el]
    have hcub := cub_ok C.ok (k := (k : Int)) (by omega) (by exact_mod_cast hkl)
    rw [← el] at hcub
    have hfs := serve_bits hd4.2 hright hkl hand
    simp -dsimp [wS4]
    refine call_by (cells14_spec (st.keep k04 fun _ _ h => h) hu hl (hcz k24) C hkl) ?_
    rintro _ h5 ⟨lv, rfl, k5, hlv⟩
    rw [ecom, Option.getD_some] at hlv
    have hlv0 := hlv
    obtain ⟨la, lc, rfl, _, _⟩ := hlv.val
    have k05 : Keep none_ h h5 := k04.trans k5 fun _ _ h => h
    have k25 : Keep none_ h2 h5 := k24.trans k5 fun _ _ h => h
    have wQ5 := k5.at wQ4 (fun h => h)
    have hl300 := hcub.len
    obtain ⟨p, ep⟩ : ∃ p : CellM → Bool, p = fun c => letM (k : Int) fs c.key := ⟨_, rfl⟩
    obtain ⟨R, hR⟩ : ∃ R : Nat → List CellM, ∀ i, R i = groupC (((l.take i).filter p).map (narrowC (k : Int) a)) := ⟨_, fun _ => rfl⟩
    have hRl : ∀ i, (R i).length ≤ 300 := fun i => by
      rw [hR]
      refine Nat.le_trans (groupC_le _) ?_
      rw [List.length_map]
      exact Nat.le_trans (List.length_filter_le _ _) (by rw [List.length_take]; omega)
    have hRs : ∀ i, ∀ d ∈ R i, Sml s.ms.toNat d := fun i => by
      rw [hR]
      refine sml_group fun d hd => ?_
      obtain ⟨c, hc, rfl⟩ := List.mem_map.1 hd
      exact narrow_sml (cel_sml (hcub.cel c (List.mem_of_mem_take (List.mem_filter.1 hc).1)))
    simp -dsimp
    refine loopc (σ := Nat × Value) (fun t => [(3, .pointer (some ⟨h.size, 0, none⟩)), (9, .int .i64 k), (11, .slice la l.length lc), (13, t.2), (14, .int .i64 t.1)])
      (fun t y => Keep none_ h5 y ∧ t.1 ≤ l.length ∧ SlRep rCell (Ft h.size none_ y) y t.2 (R t.1)) (fun t => l.length - t.1) (0, .slice none 0 0) 0 (fun t _ => t.1 = l.length) noRet noRet_le (by simp) ⟨.refl _ _, Nat.zero_le _, by rw [hR]; exact SlRep.nil _ _ _⟩ (by kernel_rfl) ?_ ?_
    · rintro ⟨i, ov⟩ y g ⟨ky, hi, ho⟩
      simp only at hi ho
      have wQy := ky.at wQ5 (fun h => h)
      have k0y : Keep none_ h y := k05.trans ky fun _ _ h => h
      have k2y : Keep none_ h2 y := k25.trans ky fun _ _ h => h
      by_cases hil : i < l.length
      · have wi := wrap_succ (k := i) (by omega)
        obtain ⟨bl, ol, cs, e1, hfb, hrep, hx1⟩ := (hlv0.mono ((Tr.of ky).ft (Nat.zero_le _))).get i hil
        have hrep0 := hrep
        obtain ⟨ka, kc, sa, sc, na, nc, xa, xc, rfl, r1, _⟩ := cell_open hrep
        have hx1' : HC.cellsIn y[bl]? (ol + i * 5) 5 = _ := hx1
        have hcel := hcub.cel _ (List.getElem_mem hil)
        have hrs := filter_take_succ p l hil
        subst e1
        simp -dsimp [hil]
        refine drawn_by [⟨0, true, []⟩, ⟨1, true, []⟩, ⟨2, true, []⟩, ⟨3, true, []⟩, ⟨4, true, []⟩, ⟨5, true, []⟩, ⟨6, false, []⟩] (by kernel_rfl) (by kernel_rfl) ?_
        have ix : ∀ sz ar, idxV sz ar (.slice (some ⟨bl, ol, none⟩) l.length lc) (.int .i64 (i : Int)) = sz.map fun s => .pointer (some ⟨bl, ol + i * s, none⟩) := fun sz ar => idxV_nat hil
        simp -dsimp [ix, elSz_eq, hx1', wQy]
        refine call_by (by14_spec hrep0 (hqz k2y) hfs hcel.klen) ?_
        rintro _ y2 ⟨rfl, k2'⟩
        have hpe : letM (k : Int) fs l[i].key = p l[i] := by rw [ep]
        rw [hpe]
        have ho2 := ho.mono ((Tr.of k2').ft (Nat.le_refl _))
        have ky2 : Keep none_ h5 y2 := ky.trans k2' fun _ _ h => h
        have wQy2 := k2'.at wQy (fun h => h)
        cases hp : p l[i] with
        | false =>
          rw [hp, if_neg (by decide), List.append_nil] at hrs
          simp -dsimp [again_cons, wi]
          exact ⟨(i + 1, ov), by simp, rfl, ⟨ky2, hil, by show SlRep _ _ _ _ (R (i + 1)); rw [hR, hrs, ← hR]; exact ho2⟩, by show l.length - (i + 1) < l.length - i; omega⟩
        | true =>
          rw [hp, if_pos rfl] at hrs
          have hR1 : R (i + 1) = putC (R i) (narrowC (k : Int) a l[i]) := by rw [hR, hrs, List.map_append, hR, ← group_snoc]; rfl
          simp -dsimp [again_cons]
          refine drawn_by [⟨0, true, []⟩, ⟨1, true, []⟩, ⟨2, true, []⟩, ⟨3, true, []⟩, ⟨4, true, []⟩, ⟨5, true, []⟩, ⟨6, true, []⟩, ⟨7, true, []⟩, ⟨8, false, [0]⟩, ⟨9, false, []⟩, ⟨10, true, []⟩] (by kernel_rfl) (by kernel_rfl) ?_
          have hx2 : HC.cellsIn y2[bl]? (ol + i * 5) 5 = some [.slice ka l[i].key.length kc, .int .i64 l[i].count, .slice sa l[i].sum.length sc, .slice na l[i].mn.length nc, .slice xa l[i].mx.length xc] := by
            rw [k2'.blk _ hfb.2.1 (fun h => h)]
            exact hx1'
          have hrep2 := rCell.mono hrep0 ((Tr.of k2').ft (Nat.le_refl 0))
          simp -dsimp [ix, elSz_eq, hx2, wQy2]
          refine call_by (rnarrow_spec k a hrep2 (Sml.small (cel_sml hcel) (by omega)) hcel.klen) ?_
          rintro _ y3 ⟨dsv, rfl, rd, k3'⟩
          simp -dsimp [again_cons]
          refine call_by (rput_at (m := s.ms.toNat) (ho2.mono ((Tr.of k3').ft (Nat.le_refl _))) (rCell.mono rd (Ft.free (Nat.zero_le _))) (by have := hRl i; omega) (by omega) (hRs i) (narrow_sml (cel_sml hcel)) (by have := k05.size; have := ky2.size; have := k3'.size; omega)) ?_
          rintro ov' y4 ⟨ho4, k4'⟩
          rw [← hR1] at ho4
          simp -dsimp [again_cons, wi]
          exact ⟨(i + 1, ov'), by simp, rfl, ⟨(ky2.trans k3' fun _ _ h => h).trans k4' fun _ _ h => h, hil, ho4⟩, by show l.length - (i + 1) < l.length - i; omega⟩
      · simp -dsimp [hil]
        exact ⟨rfl, (i, ov), by simp, rfl, ⟨ky, hi, ho⟩, by show i = l.length; omega⟩
    · rintro ⟨i, ov⟩ y g ⟨ky, hi, ho⟩ hil
      have hil : i = l.length := hil
      subst hil
      have e : R l.length = askM k l a fs := by rw [hR, List.take_length, ep]; rfl
      simp only at ho
      rw [e] at ho
      simp -dsimp
      exact hK _ _ ⟨_, _, rfl, k05.trans ky fun _ _ h => h, .inr (.inr ⟨hright, k, l, hs, rfl, ho⟩)⟩
end Go.Proofs

/-
  Ask of a store whose facts cannot be read.
-/
namespace Go.Proofs
open Go Go.HC

set_option maxHeartbeats 1000000 in
set_option maxRecDepth 10000 in
theorem pserve_not {h : Heap} {v fv : Value} {F : Nat → Prop} {M : Mod} {a : Int} {n : Nat} {fa : Option Addr} {fc : Nat} (st : StAt v F h M) (hu : usedF M.files < 1000000) (hd : (M.nowOf nmFact).length < 1000000) (hfv : fv = .slice fa n fc) (hno : ¬ FactsIn M) :
    CallH Tryz.prog 43 #[v, .agg #[.int .i64 a, fv]] h fun r h' => r = .tuple #[.int .i64 0, .slice none 0 0, .int .i64 8] ∧ Keep none_ h h' := by
  subst hfv
  refine callH_by fun K hK => ?_
  refine enter [.cell 4 3, .cell 5 43, .tmp 6] Tryz.func43 rfl rfl (by kernel_rfl) rfl ?_
  have hvp : ∃ p, v = .pointer p := by obtain ⟨bs, bm, es, clock, tv, own, R, rfl, _⟩ := st; exact ⟨_, rfl⟩
  obtain ⟨vp, rfl⟩ := hvp
  simp -dsimp [boxS_eq]
  rw [show h.size + 1 + 1 + 1 = h.size + 3 from rfl, show h.size + 1 + 1 = h.size + 2 from rfl]
  generalize hB : Array.push (Array.push (Array.push (Array.push h _) _) _) _ = h0
  have k0 : Keep none_ h h0 := by rw [← hB]; exact ((((Keep.refl none_ h).pushed _).pushed _).pushed _).pushed _
  have z0 : h0.size = h.size + 4 := by rw [← hB]; simp
  have wV : h0[h.size]? = some (.cells #[.pointer vp] 36 (0, 0)) := by rw [← hB]; exact push_at (push_at (push_at (push_new _ _)))
  have wK : h0[h.size + 2]? = some (.cells #[.int .i64 0] 3 (0, 0)) := by rw [← hB]; exact push_at (push_get (by simp))
  have wL : h0[h.size + 3]? = some (.cells #[.slice none 0 0] 43 (0, 0)) := by rw [← hB]; exact push_get (by simp)
  have hsetk : ∀ {z : Heap} (o o' : Obj), Keep none_ h z → Keep none_ h ((z.setIfInBounds (h.size + 2) o).setIfInBounds (h.size + 3) o') := fun o o' kz => (kz.setted _ fun hh => by omega).setted _ fun hh => by omega
  have n23 : h.size + 2 ≠ h.size + 3 := by omega
  have hget2 : ∀ (z : Heap) (o o' : Obj), h.size + 2 < z.size → ((z.setIfInBounds (h.size + 2) o).setIfInBounds (h.size + 3) o')[h.size + 2]? = some o := fun z o o' hz => (set_other _ (by omega)).trans (set_same _ hz)
  have hget3 : ∀ (z : Heap) (o o' : Obj), h.size + 3 < z.size → ((z.setIfInBounds (h.size + 2) o).setIfInBounds (h.size + 3) o')[h.size + 3]? = some o' := fun z o o' hz => set_same _ (by simpa using hz)
  simp -dsimp [wV]
  refine call_by (read_spec (st.keep k0 fun _ _ h => h) (by omega) nmFact) ?_
  rintro _ h1 ⟨u, ou, rfl, gu, k1, hou⟩
  have k01 : Keep none_ h h1 := k0.trans k1 fun _ _ h => h
  have wK1 := k1.at wK (fun h => h)
  have wL1 := k1.at wL (fun h => h)
  cases hth : (M.look nmFact).isSome with
  | false =>
    obtain ⟨ua, uc, rfl⟩ := gu.val
    simp -dsimp [wK1, wL1, set_other _ n23, hget2 _ _ _ (lt_of_blk wK1), hget3 _ _ _ (lt_of_blk wL1)]
    exact hK _ _ ⟨rfl, hsetk _ _ k01⟩
  | true =>
    have hub : SlRep rByte (Old h1) h1 u (M.nowOf nmFact) := gu.bytes.mono fun b hb => ⟨⟨nz, gu.own_lt b hb, fun h => h⟩, rfl⟩
    obtain ⟨ua, uc, rfl⟩ := gu.val
    simp -dsimp
    refine call_by (pdecode_spec hub hd) ?_
    rintro _ h2 ⟨cv, ms, rv, e, rfl, k2, hcase⟩
    rcases hcase with ⟨hyes, _⟩ | ⟨_, rfl, rfl, rfl, rfl⟩
    · exact absurd ⟨hth, hyes⟩ hno
    have k02 : Keep none_ h h2 := k01.trans k2 fun _ _ h => h
    simp -dsimp
    rw [push_set rfl]
    generalize hD : Array.push h2 _ = h3
    have k3 : Keep none_ h2 h3 := by rw [← hD]; exact .push _ _ _
    have k03 : Keep none_ h h3 := k02.trans k3 fun _ _ h => h
    have wK3 := k3.at (k2.at wK1 (fun h => h)) (fun h => h)
    have wL3 := k3.at (k2.at wL1 (fun h => h)) (fun h => h)
    simp -dsimp [wK3, wL3, set_other _ n23, hget2 _ _ _ (lt_of_blk wK3), hget3 _ _ _ (lt_of_blk wL3)]
    exact hK _ _ ⟨rfl, hsetk _ _ k03⟩

set_option maxHeartbeats 1000000 in
set_option maxRecDepth 10000 in
theorem pask_not {h : Heap} {v fv : Value} {F : Nat → Prop} {M : Mod} {a : Int} {n : Nat} {fa : Option Addr} {fc : Nat} (st : StAt v F h M) (hu : usedF M.files < 1000000) (hd : (M.nowOf nmFact).length < 1000000) (hfv : fv = .slice fa n fc) (hno : ¬ FactsIn M) :
    CallH Tryz.prog 18 #[v, .agg #[.int .i64 a, fv]] h fun r h' => r = .tuple #[.slice none 0 0, .int .i64 8] ∧ Keep none_ h h' := by
  refine callH_by fun K hK => ?_
  refine enter [.tmp 4, .tmp 5] Tryz.func18 rfl rfl (by kernel_rfl) rfl ?_
  subst hfv
  simp -dsimp [boxS_eq]
  generalize hB : Array.push h _ = h0
  have k0 : Keep none_ h h0 := by rw [← hB]; exact .push _ _ _
  have wQ : h0[h.size]? = some (.cells #[.int .i64 a, .slice fa n fc] 27 (0, 0)) := by rw [← hB]; exact push_new _ _
  try simp -dsimp [wQ]
  refine call_by (pserve_not (st.keep k0 fun _ _ h => h) hu hd rfl hno) ?_
  rintro _ h1 ⟨rfl, k1⟩
  have k01 : Keep none_ h h1 := k0.trans k1 fun _ _ h => h
  simp -dsimp
  exact hK _ _ ⟨rfl, (k01.pushed _).setted _ fun hh => by have := k01.size; omega⟩

end Go.Proofs

/-
  law13's and law14's small functions.
-/
namespace Go.Proofs
open Go Go.HC

theorem within13_spec (a n : Int) (hn : 0 < n) (hn' : n < 1000000000) (h : Heap) : CallH Tryz.prog 40 #[.int .i64 a, .int .i64 n] h fun r h' => r = .int .i64 (withinM a n) ∧ h' = h := by
  refine enter [.tmp 4] Tryz.func40 rfl rfl (by kernel_rfl) rfl ?_
  have h1 := Int.tmod_lt_of_pos a hn
  have hne : n ≠ 0 := by omega
  simp -dsimp [hne]
  by_cases hlt : a.tmod n < 0
  · have hw : IntKind.i64.wrap (a.tmod n + n) = a.tmod n + n := by
      have h2 : -n < a.tmod n := by
        have := Int.tmod_lt_of_pos (-a) hn
        rw [Int.neg_tmod] at this
        omega
      exact wrap_i64 (by omega) (by omega)
    simp -dsimp [hlt, hw, withinM]
  · simp -dsimp [hlt, withinM]

theorem within14_spec (a n : Int) (hn : 0 < n) (hn' : n < 1000000000) (h : Heap) : CallH Tryz.prog 17 #[.int .i64 a, .int .i64 n] h fun r h' => r = .int .i64 (withinM a n) ∧ h' = h := by
  refine enter [.tmp 4] Tryz.func17 rfl rfl (by kernel_rfl) rfl ?_
  have h1 := Int.tmod_lt_of_pos a hn
  have hne : n ≠ 0 := by omega
  simp -dsimp [hne]
  by_cases hlt : a.tmod n < 0
  · have hw : IntKind.i64.wrap (a.tmod n + n) = a.tmod n + n := by
      have h2 : -n < a.tmod n := by
        have := Int.tmod_lt_of_pos (-a) hn
        rw [Int.neg_tmod] at this
        omega
      exact wrap_i64 (by omega) (by omega)
    simp -dsimp [hlt, hw, withinM]
  · simp -dsimp [hlt, withinM]

set_option maxHeartbeats 1000000 in
theorem few_spec {d m p q : Int} {ca sa : Option Addr} {cn cc sn sc : Nat} (h : Heap) :
    CallH Tryz.prog 13 #[.agg #[.int .i64 d, .int .i64 m, .int .i64 p, .int .i64 q, .slice ca cn cc, .slice sa sn sc]] h fun r h' => r = .bool (decide (cn ≤ 20) && decide (sn ≤ 60)) ∧ Keep none_ h h' := by
  refine callH_by fun K hK => ?_
  refine enter [.tmp 2] Tryz.func13 rfl rfl (by kernel_rfl) rfl ?_
  simp -dsimp [boxS_eq]
  by_cases h1 : cn ≤ 20
  · have h1' : (cn : Int) ≤ 20 := by omega
    by_cases h2 : sn ≤ 60
    · have h2' : (sn : Int) ≤ 60 := by omega
      simp -dsimp [h1', h2']
      exact hK _ _ ⟨by rw [decide_eq_true h1, decide_eq_true h2]; rfl, .push _ _ _⟩
    · have h2' : ¬ (sn : Int) ≤ 60 := by omega
      simp -dsimp [h1', h2']
      exact hK _ _ ⟨by rw [decide_eq_true h1, decide_eq_false h2]; rfl, .push _ _ _⟩
  · have h1' : ¬ (cn : Int) ≤ 20 := by omega
    simp -dsimp [h1']
    exact hK _ _ ⟨by rw [decide_eq_false h1]; rfl, .push _ _ _⟩

set_option maxHeartbeats 1000000 in
set_option maxRecDepth 10000 in
theorem smake_spec {d m p q : Int} {ca sa : Option Addr} {cn cc sn sc : Nat} {h : Heap} {s : SchM} {rows : List RowM}
    (hfacts : ∀ y : Heap, Keep none_ h y → CallH Tryz.prog 39 #[.int .i64 d, .slice ca cn cc, .int .i64 m, .slice sa sn sc] y fun r h' => ∃ sv rv, r = .tuple #[.agg #[sv, .int .i64 s.ms], rv] ∧ SlRep rInt (Ft y.size none_ h') h' sv s.cards ∧ SlRep rRow (Ft y.size none_ h') h' rv rows ∧ Keep none_ y h') :
    CallH Tryz.prog 14 #[.agg #[.int .i64 d, .int .i64 m, .int .i64 p, .int .i64 q, .slice ca cn cc, .slice sa sn sc]] h fun r h' => ∃ sv rv, r = .tuple #[.agg #[sv, .int .i64 s.ms], rv, .agg #[.int .i64 (3 + withinM p 12), .int .i64 (withinM q 2)]] ∧ Keep none_ h h' ∧ SlRep rInt (Ft h.size none_ h') h' sv s.cards ∧ SlRep rRow (Ft h.size none_ h') h' rv rows := by
  refine callH_by fun K hK => ?_
  refine enter [.cell 2 30, .tmp 3, .cell 4 33] Tryz.func14 rfl rfl (by kernel_rfl) rfl ?_
  simp -dsimp [boxS_eq]
  generalize hB : Array.push (Array.push (Array.push h _) _) _ = h0
  have k0 : Keep none_ h h0 := by rw [← hB]; exact (((Keep.refl none_ h).pushed _).pushed _).pushed _
  have z0 : h0.size = h.size + 3 := by rw [← hB]; simp
  have wA : h0[h.size]? = some (.cells #[.int .i64 d, .int .i64 m, .int .i64 p, .int .i64 q, .slice ca cn cc, .slice sa sn sc] 24 (0, 0)) := by rw [← hB]; exact push_at (push_at (push_new _ _))
  have wS : h0[h.size + 1]? = some (.cells #[.slice none 0 0, .int .i64 0] 30 (0, 0)) := by rw [← hB]; exact push_at (push_get (by simp))
  have wC : h0[h.size + 2]? = some (.cells #[.int .i64 0, .int .i64 0] 33 (0, 0)) := by rw [← hB]; exact push_get (by simp)
  try simp -dsimp [wA]
  refine call_by (hfacts _ k0) ?_
  rintro _ h1 ⟨sv, rv, rfl, hs, hr, k1⟩
  obtain ⟨a1, c1, rfl, _, _⟩ := hs.val
  obtain ⟨a2, c2, rfl, _, _⟩ := hr.val
  have k01 : Keep none_ h h1 := k0.trans k1 fun _ _ h => h
  simp -dsimp
  rw [push_set rfl]
  obtain ⟨b5, e5⟩ : ∃ b5, b5 = h1.size := ⟨_, rfl⟩
  rw [← e5]
  generalize hD : Array.push h1 _ = h2
  have k2 : Keep none_ h1 h2 := by rw [← hD]; exact .push _ _ _
  have k02 : Keep none_ h h2 := k01.trans k2 fun _ _ h => h
  have k12 : Keep none_ h0 h2 := k1.trans k2 fun _ _ h => h
  have wN : h2[b5]? = some (.cells #[.slice a1 s.cards.length c1, .int .i64 s.ms] 30 (0, 0)) := by rw [← hD, e5]; exact push_new _ _
  have wA2 := k12.at wA (fun h => h)
  have wS2 := k12.at wS (fun h => h)
  have wC2 := k12.at wC (fun h => h)
  have l1 := lt_of_blk wS2
  have l2 := lt_of_blk wC2
  have hw1 := withinM_bound (a := p) (n := 12) (by omega)
  have hw3 : IntKind.i64.wrap (3 + withinM p 12) = 3 + withinM p 12 := wrap_i64 (by omega) (by omega)
  refine drawn_byT (.node 9 10 (.leaf [⟨0, true, []⟩, ⟨1, true, []⟩, ⟨2, true, []⟩, ⟨3, true, []⟩, ⟨6, true, []⟩, ⟨7, true, []⟩, ⟨4, false, [0, 1, 6, 7]⟩, ⟨5, true, []⟩, ⟨8, false, [0, 1, 5]⟩, ⟨9, false, [0, 1]⟩, ⟨10, false, [1]⟩, ⟨11, true, []⟩, ⟨12, false, []⟩]) (.leaf [⟨0, true, []⟩, ⟨1, true, []⟩, ⟨2, true, []⟩, ⟨3, true, []⟩, ⟨6, true, []⟩, ⟨7, true, []⟩, ⟨4, false, [0, 1, 6, 7]⟩, ⟨5, true, []⟩, ⟨8, false, [0, 1, 5]⟩, ⟨10, false, [1, 5]⟩, ⟨11, true, []⟩, ⟨9, false, [1, 11]⟩, ⟨12, false, []⟩])) (by kernel_rfl) (by kernel_rfl) ⟨?L0, ?L1⟩
  all_goals
    rw [treeW_leaf]
    simp -dsimp [wN, wA2]
    refine call_by (within13_spec p 12 (by omega) (by omega) _) ?_
    rintro _ h3 ⟨rfl, eh⟩
    subst h3
    simp -dsimp [again_cons, wN, wA2, hw3]
    refine call_by (within13_spec q 2 (by omega) (by omega) _) ?_
    rintro _ h3 ⟨rfl, eh⟩
    subst h3
    simp -dsimp [again_cons, wN, wA2, wS2, wC2, hw3]
    generalize hZ : Array.setIfInBounds (Array.setIfInBounds h2 (h.size + 1) _) (h.size + 1 + 1) _ = z
    have y1 : z[h.size + 1]? = some (.cells #[.slice a1 s.cards.length c1, .int .i64 s.ms] 30 (0, 0)) := by rw [← hZ]; exact (set_other _ (by omega)).trans (set_same _ l1)
    have y2 : z[h.size + 1 + 1]? = some (.cells #[.int .i64 (3 + withinM p 12), .int .i64 (withinM q 2)] 33 (0, 0)) := by rw [← hZ]; exact set_same _ (by simpa using l2)
    have kz : Keep none_ h z := by rw [← hZ]; exact (k02.setted _ fun hh => by omega).setted _ fun hh => by omega
    have ez : ∀ b, Ft h0.size none_ h1 b → Ft h.size none_ z b ∧ z[b]? = h1[b]? := fun b hb => by
      have q1 := hb.1.1
      have q2 := hb.2.1
      have e : z[b]? = h1[b]? := by rw [← hZ, set_other _ (by omega), set_other _ (by omega)]; exact k2.blk b q2 (fun h => h)
      exact ⟨⟨hb.1.at (by omega) e, by rw [← hZ]; have := k2.size; simp; omega, fun h => h⟩, e⟩
    have hsm1 : ∀ o, (Array.setIfInBounds h2 (h.size + 1) o)[h.size + 1]? = some o := fun o => set_same _ l1
    simp -dsimp [y2, hsm1]
    exact hK _ _ ⟨_, _, rfl, kz, hs.mono ez, hr.mono ez⟩
end Go.Proofs

/-
  law13's and law14's put.
-/
namespace Go.Proofs
open Go Go.HC

set_option maxHeartbeats 1000000 in
set_option maxRecDepth 10000 in
theorem put14_spec {v : Value} {F G : Nat → Prop} {h : Heap} {M : Mod} (s : StAt v F h M) {n n' : Nat} (hn : M.Small n) (hn' : n < 1000000000) (x : Nm) {bv : Value} {b : List UInt8}
    (hb : SlRep rByte G h bv b) (hG : ∀ b, G b → b < h.size) (hbl : b.length < 1000000000) (hm : (M.write x b).2.Small n') (hm' : n' < 1000000000) :
    CallH Tryz.prog 32 #[v, .string x, bv] h fun _ h' => ∃ F', StAt v F' h' ((M.write x b).2.sync x).2 ∧ Keep F h h' ∧ ∀ b, F' b → F b ∨ h.size ≤ b := by
  refine callH_by fun K hK => ?_
  refine enter [] Tryz.func32 rfl rfl (by kernel_rfl) rfl ?_
  simp -dsimp
  refine call_by (write_spec s hn hn' x hb hG hbl) ?_
  rintro _ h1 ⟨rfl, F1, s1, k1, hF1⟩
  simp -dsimp
  refine call_by (sync_spec s1 hm hm' x) ?_
  rintro _ h2 ⟨rfl, F2, s2, k2, hF2⟩
  simp -dsimp
  refine hK _ _ ⟨F2, s2, k1.trans k2 (fun b hb hf => (hF1 b hf).elim id fun h => absurd hb (by omega)), fun b hf => ?_⟩
  rcases hF2 b hf with h3 | h3
  · exact hF1 b h3
  · exact .inr (by have := k1.size; omega)

set_option maxHeartbeats 1000000 in
set_option maxRecDepth 10000 in
theorem put13_spec {v : Value} {F G : Nat → Prop} {h : Heap} {M : Mod} (s : StAt v F h M) {n n' : Nat} (hn : M.Small n) (hn' : n < 1000000000) (x : Nm) {bv : Value} {b : List UInt8}
    (hb : SlRep rByte G h bv b) (hG : ∀ b, G b → b < h.size) (hbl : b.length < 1000000000) (hm : (M.write x b).2.Small n') (hm' : n' < 1000000000) :
    CallH Tryz.prog 78 #[v, .string x, bv] h fun _ h' => ∃ F', StAt v F' h' ((M.write x b).2.sync x).2 ∧ Keep F h h' ∧ ∀ b, F' b → F b ∨ h.size ≤ b := by
  refine callH_by fun K hK => ?_
  refine enter [] Tryz.func78 rfl rfl (by kernel_rfl) rfl ?_
  simp -dsimp
  refine call_by (write_spec s hn hn' x hb hG hbl) ?_
  rintro _ h1 ⟨rfl, F1, s1, k1, hF1⟩
  simp -dsimp
  refine call_by (sync_spec s1 hm hm' x) ?_
  rintro _ h2 ⟨rfl, F2, s2, k2, hF2⟩
  simp -dsimp
  refine hK _ _ ⟨F2, s2, k1.trans k2 (fun b hb hf => (hF1 b hf).elim id fun h => absurd hb (by omega)), fun b hf => ?_⟩
  rcases hF2 b hf with h3 | h3
  · exact hF1 b h3
  · exact .inr (by have := k1.size; omega)
end Go.Proofs

/-
  The document's cells as bytes.
-/
namespace Go.HC
def tripB (c : CellM) (k : Nat) : List UInt8 := w8 (c.sum.getD k 0) ++ w8 (c.mn.getD k 0) ++ w8 (c.mx.getD k 0)
def zcellB (c : CellM) : List UInt8 := c.key.map byteM ++ w2 c.count ++ (List.range c.sum.length).flatMap (tripB c)
theorem zencC_eq (set : Int) (l : List CellM) : encC set l = [byteM set] ++ w2 l.length ++ l.flatMap zcellB := rfl
theorem tripB_len (c : CellM) (k : Nat) : (tripB c k).length = 24 := by unfold tripB; simp [w8_len]
theorem rangeF_snoc {n j : Nat} (f : Nat → List UInt8) (hj : j < n) : ((List.range n).take (j + 1)).flatMap f = ((List.range n).take j).flatMap f ++ f j := by
  have h := flat_snoc f (l := List.range n) (i := j) (by simpa using hj)
  rw [List.getElem_range] at h
  exact h
end Go.HC
namespace Go.Proofs
open Go Go.HC

set_option maxHeartbeats 8000000 in
set_option maxRecDepth 10000 in
theorem cencode_spec {h : Heap} {lv : Value} {l : List CellM} {m : Nat} (set : Int) (hl : SlRep rCell (Old h) h lv l) (hn : l.length ≤ 1000) (hm : m ≤ 4) (hc : ∀ c ∈ l, Sml m c) :
    CallH Tryz.prog 38 #[.int .i64 set, lv] h fun r h' => SlRep rByte (Ft h.size none_ h') h' r (encC set l) ∧ Keep none_ h h' := by
  refine callH_by fun K hK => ?_
  refine enter [.tmp 4] Tryz.func38 rfl rfl (by kernel_rfl) rfl ?_
  obtain ⟨a1, c1, rfl, _, _⟩ := hl.val
  have hcb : ∀ c ∈ l, (zcellB c).length ≤ 200 := fun c hcc => by
    have h1 := hc c hcc
    have h2 := flat_len (f := tripB c) (k := 24) (l := List.range c.sum.length) fun x _ => by rw [tripB_len]; exact Nat.le_refl _
    rw [List.length_range, h1.sum] at h2
    have h3 := h1.key
    have h4 : (w2 c.count).length = 2 := rfl
    unfold zcellB
    rw [List.length_append, List.length_append, List.length_map, h4, h1.sum]
    omega
  have hpre : ∀ i, ((l.take i).flatMap zcellB).length ≤ 200000 := fun i => by
    have h2 := flat_len (f := zcellB) (k := 200) (l := l.take i) fun x hx => hcb x (List.mem_of_mem_take hx)
    rw [List.length_take] at h2
    omega
  simp -dsimp [wrap_byte]
  generalize hB : Array.push h _ = h1
  have z1 : h1.size = h.size + 1 := by rw [← hB]; simp
  have k01 : Keep none_ h h1 := by rw [← hB]; exact .push _ _ _
  have wB : h1[h.size]? = some (.cells #[.int .u8 (byteM set).toNat] 5 (0, 0)) := by rw [← hB]; exact push_new _ _
  obtain ⟨M1, eM⟩ : ∃ M1 : Nat → Prop, M1 = fun b => b = h.size := ⟨_, rfl⟩
  have hM1 : ∀ b, M1 b ↔ b = h.size := fun b => by rw [eM]
  have g1 : Gr rByte 5 h.size M1 h1 (.slice (some ⟨h.size, 0, none⟩) 1 1) [byteM set] (some h.size) := Gr.raw wB ((hM1 _).2 rfl) rfl rfl (Nat.le_refl _) (by decide) rfl (bytes_map.2 rfl)
  have t1 : Tr none_ M1 h h1 := ⟨k01, fun b hb => .inr (by have := (hM1 b).1 hb; omega), fun b hb => by have := (hM1 b).1 hb; omega⟩
  refine call_by (rtwo1_spec l.length h1) ?_
  rintro _ h2 ⟨⟨aw, cw, rfl⟩, sw, k2⟩
  have hw2 : ∀ n, (w2 n).length = 2 := fun n => rfl
  simp -dsimp
  refine gr_bytes byteT (g1.call k2) (t1.call k2).lt sw (by simp [hw2]) (by simp [hw2]) ?_
  intro v3 h3 own3 g3 t3 k3 ho3
  have t03 := (t1.call k2).trans t3
  obtain ⟨P, eP⟩ : ∃ P, P = [byteM set] ++ w2 l.length := ⟨_, rfl⟩
  have hPl : P.length = 3 := by rw [eP]; rfl
  rw [← eP] at g3
  simp -dsimp
  refine loopc (σ := Nat × Value) (fun t => [(1, .slice a1 l.length c1), (5, t.2), (6, .int .i64 t.1)])
    (fun t y => t.1 ≤ l.length ∧ ∃ M own, Tr none_ M h y ∧ Gr rByte 5 h.size M y t.2 (P ++ (l.take t.1).flatMap zcellB) own) (fun t => l.length - t.1) (0, v3) 0 (fun t _ => t.1 = l.length) noRet noRet_le (by simp)
    ⟨Nat.zero_le _, _, own3, t03, by simpa using g3⟩ (by kernel_rfl) ?_ ?_
  · rintro ⟨i, v⟩ y g ⟨hi, M, own, t, gv⟩
    simp only at hi gv
    have wi := wrap_succ (k := i) (by omega)
    by_cases hil : i < l.length
    · obtain ⟨bl, ol, cs, rfl, hFl, hrep, hxl⟩ := hl.get i hil
      obtain ⟨ka, kc, sa, sc, na, nc, xa, xc, rfl, qk, qs, qn, qx⟩ := cell_open hrep
      have hx := (congrArg (HC.cellsIn · (ol + i * 5) 5) (t.old bl hFl).2).trans hxl
      have hci := hc l[i] (List.getElem_mem hil)
      have hpi := hpre i
      obtain ⟨c, ec⟩ : ∃ c, c = l[i] := ⟨_, rfl⟩
      rw [← ec] at qk qs qn qx hx hci
      obtain ⟨B, eB⟩ : ∃ B, B = P ++ (l.take i).flatMap zcellB := ⟨_, rfl⟩
      have hBl : B.length ≤ 200003 := by rw [eB, List.length_append]; omega
      rw [← eB] at gv
      have hkl := hci.key
      have hsl := hci.sum
      have hnl := hci.mn
      have hxl' := hci.mx
      simp -dsimp [hil, idxA_nat hil, hx]
      rw [push_set rfl]
      generalize hY : Array.push y _ = y1
      have ky : Keep none_ y y1 := by rw [← hY]; exact .push _ _ _
      have wC : y1[y.size]? = some (.cells #[.slice ka c.key.length kc, .int .i64 c.count, .slice sa c.sum.length sc, .slice na c.mn.length nc, .slice xa c.mx.length xc] 65 (0, 0)) := by rw [← hY]; exact push_new _ _
      have t0 := t.call ky
      have gv0 := gv.call ky
      have fC : ∀ {M' : Nat → Prop} {z : Heap}, Tr M M' y1 z → z[y.size]? = _ := fun T => T.at wC fun hb => by have := t.lt _ hb; omega
      refine loopc (σ := Nat × Value) (fun t => [(1, .slice (some ⟨bl, ol, none⟩) l.length c1), (5, t.2), (6, .int .i64 i), (7, .pointer (some ⟨y.size, 0, none⟩)), (8, .int .i64 t.1)])
        (fun t z => t.1 ≤ c.key.length ∧ ∃ M' own, Tr M M' y1 z ∧ Gr rByte 5 h.size M' z t.2 (B ++ (c.key.take t.1).map byteM) own) (fun t => c.key.length - t.1) (0, v) 2 (fun t _ => t.1 = c.key.length) noRet noRet_le (by simp)
        ⟨Nat.zero_le _, M, own, t0.here, by simpa using gv0⟩ (by kernel_rfl) ?_ ?_
      · rintro ⟨j, v⟩ z g ⟨hj, M', own, T, gv⟩
        simp only at hj gv
        have wj := wrap_succ (k := j) (by omega)
        by_cases hjl : j < c.key.length
        · obtain ⟨b5, o5, rfl, hF5, hc5⟩ := (qk.mono (t0.trans T).old).int_at j hjl
          simp -dsimp [fC T, idxA_nat hjl, hjl, hc5, wrap_byte]
          refine gr_app1 (x := byteM c.key[j]) rfl byteT gv T.lt rfl rfl (by simp; omega) (by simp; omega) ?_
          intro v5 h5 own5 g5 t5 k5 ho5
          simp -dsimp [wj]
          exact ⟨(j + 1, v5), by simp, rfl, ⟨by show j + 1 ≤ _; omega, _, own5, T.trans t5, by show Gr rByte _ _ _ h5 v5 _ own5; rw [map_snoc byteM hjl, ← List.append_assoc]; exact g5⟩, by show c.key.length - (j + 1) < c.key.length - j; omega⟩
        · simp -dsimp [fC T, hjl]
          exact ⟨rfl, (j, v), by simp, rfl, ⟨hj, M', own, T, gv⟩, by show j = c.key.length; omega⟩
      rintro ⟨j, v⟩ z g ⟨hj, M', own, T, gv⟩ hjl
      simp only at hj gv hjl
      subst hjl
      rw [List.take_length] at gv
      simp -dsimp [fC T]
      refine call_by (rtwo1_spec c.count z) ?_
      rintro _ z2 ⟨⟨aw, cw, rfl⟩, sw, kz⟩
      simp -dsimp
      refine gr_bytes byteT (gv.call kz) (T.call kz).lt sw (by simp [hw2]; omega) (by simp [hw2]; omega) ?_
      intro v5 z3 own5 g5 t5 k5 ho5
      have T3 := (T.call kz).trans t5
      obtain ⟨C, eC⟩ : ∃ C, C = B ++ c.key.map byteM ++ w2 c.count := ⟨_, rfl⟩
      have hCl : C.length ≤ 201000 := by rw [eC]; simp [hw2]; omega
      rw [← eC] at g5
      simp -dsimp
      refine loopc (σ := Nat × Value) (fun t => [(1, .slice (some ⟨bl, ol, none⟩) l.length c1), (5, t.2), (6, .int .i64 i), (7, .pointer (some ⟨y.size, 0, none⟩)), (9, .int .i64 t.1)])
        (fun t z => t.1 ≤ c.sum.length ∧ ∃ M' own, Tr M M' y1 z ∧ Gr rByte 5 h.size M' z t.2 (C ++ ((List.range c.sum.length).take t.1).flatMap (tripB c)) own) (fun t => c.sum.length - t.1) (0, v5) 4 (fun t _ => t.1 = c.sum.length) noRet noRet_le (by simp)
        ⟨Nat.zero_le _, _, own5, T3, by simpa using g5⟩ (by kernel_rfl) ?_ ?_
      · rintro ⟨j, v⟩ z0 g ⟨hj, M0, own0, T0, gv⟩
        simp only at hj gv
        have wj := wrap_succ (k := j) (by omega)
        by_cases hjl : j < c.sum.length
        · have hjn : j < c.mn.length := by omega
          have hjx : j < c.mx.length := by omega
          obtain ⟨bs, os', e1, hFs, hs0⟩ := qs.int_at j hjl
          obtain ⟨bn, on, e2, hFn, hn0⟩ := qn.int_at j hjn
          obtain ⟨bx, ox, e3, hFx, hx0⟩ := qx.int_at j hjx
          subst e1; subst e2; subst e3
          have fs : ∀ {M' : Nat → Prop} {z : Heap}, Tr M M' y1 z → HC.cellIn z[bs]? (os' + j) = _ := fun T => (congrArg (HC.cellIn · (os' + j)) ((t0.trans T).old bs hFs).2).trans hs0
          have fn : ∀ {M' : Nat → Prop} {z : Heap}, Tr M M' y1 z → HC.cellIn z[bn]? (on + j) = _ := fun T => (congrArg (HC.cellIn · (on + j)) ((t0.trans T).old bn hFn).2).trans hn0
          have fx : ∀ {M' : Nat → Prop} {z : Heap}, Tr M M' y1 z → HC.cellIn z[bx]? (ox + j) = _ := fun T => (congrArg (HC.cellIn · (ox + j)) ((t0.trans T).old bx hFx).2).trans hx0
          have hfl := flat_len (f := tripB c) (k := 24) (l := (List.range c.sum.length).take j) fun x _ => by rw [tripB_len]; exact Nat.le_refl _
          rw [List.length_take] at hfl
          obtain ⟨D, eD⟩ : ∃ D, D = C ++ ((List.range c.sum.length).take j).flatMap (tripB c) := ⟨_, rfl⟩
          have hDl : D.length ≤ 202000 := by rw [eD, List.length_append]; omega
          rw [← eD] at gv
          have e8 := w8_len c.sum[j]
          have e9 := w8_len c.mn[j]
          have e10 := w8_len c.mx[j]
          simp -dsimp [fC T0, hjl]
          refine drawn_by [⟨0, true, []⟩, ⟨1, true, []⟩, ⟨2, true, []⟩, ⟨3, true, []⟩, ⟨4, true, []⟩, ⟨5, true, []⟩, ⟨8, true, []⟩, ⟨9, true, []⟩, ⟨10, true, []⟩, ⟨11, true, []⟩, ⟨12, true, []⟩, ⟨15, true, []⟩, ⟨16, true, []⟩, ⟨17, true, []⟩, ⟨18, true, []⟩, ⟨19, true, []⟩, ⟨6, false, [0, 8, 9, 10, 11, 12, 15, 16, 17, 18, 19]⟩, ⟨7, false, [8, 9, 10, 11, 12, 15, 16, 17, 18, 19]⟩, ⟨13, false, [15, 16, 17, 18, 19]⟩, ⟨14, false, [15, 16, 17, 18, 19]⟩, ⟨20, false, []⟩, ⟨21, false, []⟩, ⟨22, true, []⟩] (by kernel_rfl) (by kernel_rfl) ?_
          simp -dsimp [fC T0, idxV_nat hjl, idxV_nat hjn, idxV_nat hjx, elSz_eq, fs T0, fn T0, fx T0]
          refine call_by (reight_spec c.sum[j] z0) ?_
          rintro _ z1 ⟨⟨aw, cw, rfl⟩, sw1, k1⟩
          have T1 := T0.call k1
          simp -dsimp [again_cons, fC T1, idxV_nat hjl, idxV_nat hjn, idxV_nat hjx, elSz_eq, fs T1, fn T1, fx T1]
          refine gr_bytes byteT (gv.call k1) T1.lt sw1 (by rw [e8]; omega) (by rw [e8]; omega) ?_
          intro v2 z2 own2 g2 t2 k2 ho2
          have T2 := T1.trans t2
          simp -dsimp [again_cons, fC T2, idxV_nat hjl, idxV_nat hjn, idxV_nat hjx, elSz_eq, fs T2, fn T2, fx T2]
          refine call_by (reight_spec c.mn[j] z2) ?_
          rintro _ z3 ⟨⟨aw, cw, rfl⟩, sw3, k3⟩
          have T3 := T2.call k3
          simp -dsimp [again_cons, fC T3, idxV_nat hjl, idxV_nat hjn, idxV_nat hjx, elSz_eq, fs T3, fn T3, fx T3]
          refine gr_bytes byteT (g2.call k3) T3.lt sw3 (by rw [List.length_append, e8, e9]; omega) (by rw [List.length_append, e8, e9]; omega) ?_
          intro v4 z4 own4 g4 t4 k4 ho4
          have T4 := T3.trans t4
          simp -dsimp [again_cons, fC T4, idxV_nat hjl, idxV_nat hjn, idxV_nat hjx, elSz_eq, fs T4, fn T4, fx T4]
          refine call_by (reight_spec c.mx[j] z4) ?_
          rintro _ z5 ⟨⟨aw, cw, rfl⟩, sw5, k5⟩
          have T5 := T4.call k5
          simp -dsimp [again_cons]
          refine gr_bytes byteT (g4.call k5) T5.lt sw5 (by rw [List.length_append, List.length_append, e8, e9, e10]; omega) (by rw [List.length_append, List.length_append, e8, e9, e10]; omega) ?_
          intro v6 z6 own6 g6 t6 k6 ho6
          have T6 := T5.trans t6
          have etr : tripB c j = w8 c.sum[j] ++ w8 c.mn[j] ++ w8 c.mx[j] := by
            unfold tripB
            rw [List.getD_eq_getElem?_getD, List.getD_eq_getElem?_getD, List.getD_eq_getElem?_getD, List.getElem?_eq_getElem hjl, List.getElem?_eq_getElem hjn, List.getElem?_eq_getElem hjx]
            rfl
          simp -dsimp [wj]
          exact ⟨(j + 1, v6), by simp, rfl, ⟨by show j + 1 ≤ _; omega, _, own6, T6, by show Gr rByte _ _ _ z6 v6 _ own6; rw [rangeF_snoc _ hjl, ← List.append_assoc, ← eD, etr, ← List.append_assoc, ← List.append_assoc]; exact g6⟩, by show c.sum.length - (j + 1) < c.sum.length - j; omega⟩
        · simp -dsimp [fC T0, hjl]
          exact ⟨rfl, (j, v), by simp, rfl, ⟨hj, M0, own0, T0, gv⟩, by show j = c.sum.length; omega⟩
      rintro ⟨j, v⟩ z4 g ⟨hj, M', own, T, gv⟩ hjl
      simp only at hj gv hjl
      subst hjl
      rw [List.take_of_length_le (by simp)] at gv
      simp -dsimp [wi]
      exact ⟨(i + 1, v), by simp, rfl, ⟨by show i + 1 ≤ _; omega, M', own, t0.trans T, by
        show Gr rByte _ _ _ z4 v _ own
        rw [flat_snoc zcellB hil, ← List.append_assoc, ← eB, ← ec]
        unfold zcellB
        rw [← List.append_assoc, ← List.append_assoc, ← eC]
        exact gv⟩, by show l.length - (i + 1) < l.length - i; omega⟩
    · simp -dsimp [hil]
      exact ⟨rfl, (i, v), by simp, rfl, ⟨hi, M, own, t, gv⟩, by show i = l.length; omega⟩
  rintro ⟨i, v⟩ y g ⟨hi, M, own, t, gv⟩ hil
  simp only at hi gv hil
  subst hil
  rw [List.take_length, eP, ← zencC_eq] at gv
  simp -dsimp
  exact hK _ _ ⟨gv.rep (Nat.le_refl _) (fun b hb => t.fresh b (gv.mu b hb)), t.keep⟩
end Go.Proofs

/-
  How big a store gets: writes, syncs.
-/
namespace Go.HC
theorem Mod.Small.up {M : Mod} {m m' : Nat} (h : M.Small m) (hm : m ≤ m') : M.Small m' := ⟨Nat.le_trans h.used hm, Nat.le_trans h.files hm, Nat.le_trans h.trace hm⟩
theorem small_write {M : Mod} {m : Nat} (hs : SortedF M.files) (h : M.Small m) (x : Nm) (b : List UInt8) : (M.write x b).2.Small (m + b.length + 1) := by
  unfold Mod.write
  split
  · exact h.up (by omega)
  · split
    · exact h.up (by omega)
    · have h1 := used_put (x := x) (f := ⟨b, (M.look x).bind (·.sure), false⟩) hs
      have h2 := length_put (x := x) (f := ⟨b, (M.look x).bind (·.sure), false⟩) (l := M.files)
      have := h.used
      have := h.files
      have := h.trace
      simp only at h1
      refine ⟨?_, ?_, ?_⟩
      · show usedF (putF _ _ _) ≤ _; omega
      · show (putF _ _ _).length ≤ _; omega
      · show (M.trace ++ [_]).length ≤ _; simp; omega
theorem small_sync {M : Mod} {m : Nat} (hs : SortedF M.files) (h : M.Small m) (x : Nm) : (M.sync x).2.Small (m + 1) := by
  unfold Mod.sync
  split
  · exact h.up (by omega)
  · rename_i f hf
    have h1 := used_put (x := x) (f := ⟨f.now, some f.now, true⟩) hs
    have h2 := length_put (x := x) (f := ⟨f.now, some f.now, true⟩) (l := M.files)
    have hf' : lookF x M.files = some f := hf
    rw [hf'] at h1
    have := h.used
    have := h.files
    have := h.trace
    simp only [Option.map_some, Option.getD_some] at h1
    refine ⟨?_, ?_, ?_⟩
    · show usedF (putF _ _ _) ≤ _; omega
    · show (putF _ _ _).length ≤ _; omega
    · show (M.trace ++ [_]).length ≤ _; simp; omega
end Go.HC

/-
  law14's stores, plainly: two that hold the same; what is there behind Start and Both.
-/
namespace Go.HC
/-- Names, and what stands in the files. -/
def nowL (l : Files) : List (Nm × List UInt8) := l.map fun p => (p.1, p.2.now)
def putN (x : Nm) (b : List UInt8) : List (Nm × List UInt8) → List (Nm × List UInt8)
  | [] => [(x, b)]
  | p :: l => if x = p.1 then (x, b) :: l else if nLt x p.1 then (x, b) :: p :: l else p :: putN x b l
def lookN (x : Nm) : List (Nm × List UInt8) → Option (List UInt8)
  | [] => none
  | p :: l => if x = p.1 then some p.2 else lookN x l
theorem nowL_put (x : Nm) (f : FileM) : ∀ l : Files, nowL (putF x f l) = putN x f.now (nowL l)
  | [] => rfl
  | p :: l => by
    have ih := nowL_put x f l
    unfold nowL at ih ⊢
    rw [putF, List.map_cons, putN]
    split
    · rfl
    · split
      · rfl
      · rw [List.map_cons, ih]
theorem lookN_now (x : Nm) : ∀ l : Files, lookN x (nowL l) = (lookF x l).map (·.now)
  | [] => rfl
  | p :: l => by
    have ih := lookN_now x l
    unfold nowL at ih ⊢
    rw [List.map_cons, lookN, lookF]
    split
    · rfl
    · exact ih
theorem nowL_same {x : Nm} {f g : FileM} (he : f.now = g.now) : ∀ {l : Files}, SortedF l → lookF x l = some f → nowL (putF x g l) = nowL l
  | [], _, h => by cases h
  | p :: l, hs, h => by
    obtain ⟨h1, h2⟩ := List.pairwise_cons.1 hs
    rw [lookF] at h
    rw [putF]
    split
    · rename_i hx
      rw [if_pos hx] at h
      cases h
      unfold nowL
      rw [List.map_cons, List.map_cons]
      simp only
      rw [← he, hx]
    · rename_i hx
      rw [if_neg hx] at h
      rw [if_neg fun hlt => by
        have := h1 _ (mem_lookF h)
        exact nLt_asymm hlt this]
      have ih := nowL_same he h2 h
      unfold nowL at ih ⊢
      rw [List.map_cons, List.map_cons, ih]
theorem usedF_now : ∀ l : Files, usedF l = ((nowL l).map fun p => p.2.length).sum
  | [] => rfl
  | p :: l => by
    have ih := usedF_now l
    unfold nowL at ih ⊢
    rw [usedF_cons, List.map_cons, List.map_cons, List.sum_cons, ih]
/-- Two stores that hold the same files. -/
structure Alike (M N : Mod) : Prop where
  now : nowL M.files = nowL N.files
  limit : M.limit = N.limit
theorem Alike.refl (M : Mod) : Alike M M := ⟨rfl, rfl⟩
theorem Alike.symm {M N : Mod} (h : Alike M N) : Alike N M := ⟨h.now.symm, h.limit.symm⟩
theorem Alike.trans {M N O : Mod} (h : Alike M N) (h' : Alike N O) : Alike M O := ⟨h.now.trans h'.now, h.limit.trans h'.limit⟩
theorem Alike.look {M N : Mod} (h : Alike M N) (x : Nm) : (M.look x).map (·.now) = (N.look x).map (·.now) := by
  unfold Mod.look
  rw [← lookN_now, ← lookN_now, h.now]
theorem Alike.isSome {M N : Mod} (h : Alike M N) (x : Nm) : (M.look x).isSome = (N.look x).isSome := by
  have := congrArg Option.isSome (h.look x)
  rwa [Option.isSome_map, Option.isSome_map] at this
theorem Alike.nowOf {M N : Mod} (h : Alike M N) (x : Nm) : M.nowOf x = N.nowOf x := by unfold Mod.nowOf; rw [h.look]
theorem Alike.used {M N : Mod} (h : Alike M N) : usedF M.files = usedF N.files := by rw [usedF_now, usedF_now, h.now]
theorem Alike.names {M N : Mod} (h : Alike M N) : M.names = N.names := by
  have e : ∀ M : Mod, M.names = (nowL M.files).map (·.1) := fun M => by unfold Mod.names nowL; rw [List.map_map]; rfl
  rw [e, e, h.now]
theorem Alike.fits {M N : Mod} (h : Alike M N) (x : Nm) (b : List UInt8) : M.fits x b = N.fits x b := by unfold Mod.fits; rw [h.used, h.nowOf, h.limit]
theorem Alike.write {M N : Mod} (h : Alike M N) (x : Nm) (b : List UInt8) : Alike (M.write x b).2 (N.write x b).2 := by
  unfold Mod.write
  split
  · exact h
  · rw [h.fits]
    split
    · exact h
    · exact ⟨by unfold Mod.wrote; simp only; rw [nowL_put, nowL_put, h.now], h.limit⟩
theorem Alike.sync {M : Mod} (hs : SortedF M.files) (x : Nm) : Alike M (M.sync x).2 := by
  unfold Mod.sync
  split
  · exact .refl _
  · rename_i f hf
    exact ⟨(nowL_same (f := f) (g := ⟨f.now, some f.now, true⟩) rfl hs hf).symm, rfl⟩
/-- A write that fits. -/
theorem write_fits {M : Mod} {x : Nm} {b : List UInt8} (hn : nameOk x = true) (hf : (usedF M.files : Int) + b.length ≤ M.limit) : M.write x b = (0, M.wrote x b) := by
  unfold Mod.write
  rw [if_neg (by rw [hn]; decide)]
  have : M.fits x b = true := by
    unfold Mod.fits
    have := Int.natCast_nonneg (M.nowOf x).length
    exact decide_eq_true (by omega)
  rw [if_neg (by rw [this]; decide)]
theorem look_wrote (M : Mod) (x y : Nm) (b : List UInt8) : ((M.wrote x b).look y).map (·.now) = if y = x then some b else (M.look y).map (·.now) := by
  unfold Mod.look Mod.wrote
  simp only
  rw [lookF_put]
  split <;> rfl
theorem isSome_wrote (M : Mod) (x y : Nm) (b : List UInt8) : ((M.wrote x b).look y).isSome = (decide (y = x) || (M.look y).isSome) := by
  have := congrArg Option.isSome (look_wrote M x y b)
  rw [Option.isSome_map] at this
  rw [this]
  by_cases h : y = x
  · rw [if_pos h, decide_eq_true h]; rfl
  · rw [if_neg h, decide_eq_false h, Option.isSome_map]; rfl
theorem nowOf_wrote (M : Mod) (x y : Nm) (b : List UInt8) : (M.wrote x b).nowOf y = if y = x then b else M.nowOf y := by
  unfold Mod.nowOf
  rw [look_wrote]
  split <;> rfl
theorem name_ok : ∀ k : Fin 16, nameOk (nameK (k.val : Int)) = true ∧ nameK (k.val : Int) ≠ nmFact := by decide +kernel
theorem nameK_ok {k : Nat} (hk : k < 16) : nameOk (nameK (k : Int)) = true ∧ nameK (k : Int) ≠ nmFact := name_ok ⟨k, hk⟩
theorem nameK_eq {j k : Nat} (hj : j < 16) (hk : k < 16) : nameK (j : Int) = nameK (k : Int) ↔ j = k := ⟨fun h => by have := nameK_inj ⟨j, hj⟩ ⟨k, hk⟩ h; exact congrArg Fin.val this, fun h => by rw [h]⟩
theorem fact_ok : nameOk nmFact = true := by decide +kernel
/-- How long files are. -/
theorem encF_len {s : SchM} {rows : List RowM} (ok : FactsOk s rows) : (encF s rows).length = 8 + s.cards.length + rows.length * (s.cards.length + 8 * s.ms.toNat) := by
  have h := flat_size (f := rowB) (w := s.cards.length + 8 * s.ms.toNat) (l := rows) fun r hr => by rw [rowB_len, (ok.key r hr).1, (ok.m r hr).1]
  have e : encF s rows = [67, 85, 66, 49] ++ [byteM s.cards.length] ++ s.cards.map byteM ++ [byteM s.ms] ++ w2 rows.length ++ rows.flatMap rowB := rfl
  rw [e]
  simp only [List.length_append, h, List.length_map, List.length_cons, List.length_nil, w2]
  omega
theorem encC_len {s : SchM} {rows : List RowM} (ok : FactsOk s rows) {k : Int} (h0 : 0 ≤ k) (hk : k < 2 ^ s.cards.length) : (encC k (groupC (rows.map (ofM k)))).length ≤ 3 + rows.length * 54 := by
  have c := cub_ok ok h0 hk
  have hd := ok.dims
  have hm := ok.ms
  have hl : (dimsM k).length ≤ 4 := List.length_filter_le (bitM k) (List.range 4)
  have h := flat_size (f := cellB) (w := (dimsM k).length + 2 + 24 * s.ms.toNat) (l := groupC (rows.map (ofM k))) fun x hx => cellB_len (c.cel x hx)
  have hg := groupC_le (rows.map (ofM k))
  rw [List.length_map] at hg
  rw [encC_eq]
  simp only [List.length_append, h, List.length_cons, List.length_nil, w2]
  have h1 : (groupC (rows.map (ofM k))).length * ((dimsM k).length + 2 + 24 * s.ms.toNat) ≤ rows.length * 54 := Nat.mul_le_mul hg (by omega)
  omega
/-- The two stores of a law: the program's, the document's; facts, and cuboids of these sets. -/
structure Two (L : Int) (M N : Mod) (s : SchM) (rows : List RowM) (ks : List Nat) (n : Nat) : Prop where
  alike : Alike M N
  cube : CubeAt M s rows
  okM : M.Ok
  okN : N.Ok
  com : ∀ k : Nat, k < 16 → ((M.look (nameK k)).isSome = true ↔ k ∈ ks)
  smM : M.Small n
  smN : N.Small n
  limit : M.limit = L
theorem Alike.cube {M N : Mod} {s : SchM} {rows : List RowM} (h : Alike M N) (c : CubeAt M s rows) : CubeAt N s rows :=
  ⟨by rw [← h.isSome]; exact c.there, by rw [← h.nowOf]; exact c.fact, c.ok, fun k hk hs => by rw [← h.nowOf]; exact c.set k hk (by rw [h.isSome]; exact hs)⟩
theorem Alike.com {M N : Mod} (h : Alike M N) (rows : List RowM) : comM M rows = comM N rows := by
  funext k
  unfold comM
  rw [h.isSome]
/-- One cuboid more. -/
theorem Two.add {L : Int} {M N : Mod} {s : SchM} {rows : List RowM} {ks : List Nat} {n : Nat} (t : Two L M N s rows ks n) {k : Nat} (hk : k < 2 ^ s.cards.length) (hn : ((n + (encC k (groupC (rows.map (ofM k)))).length : Nat) : Int) ≤ L) :
    Two L (((M.write (nameK k) (encC k (groupC (rows.map (ofM k))))).2.sync (nameK k)).2) ((N.write (nameK k) (encC k (groupC (rows.map (ofM k))))).2) s rows (k :: ks) (n + (encC k (groupC (rows.map (ofM k)))).length + 2) := by
  have hd := t.cube.ok.dims
  have hp : 2 ^ s.cards.length ≤ 2 ^ 4 := Nat.pow_le_pow_right (by decide) hd.2
  have hk16 : k < 16 := by omega
  obtain ⟨b, eb⟩ : ∃ b, b = encC (k : Int) (groupC (rows.map (ofM (k : Int)))) := ⟨_, rfl⟩
  rw [← eb] at hn ⊢
  have hu := t.smM.used
  have hw := write_fits (M := M) (b := b) (nameK_ok hk16).1 (by rw [t.limit]; omega)
  have a1 := t.alike.write (nameK k) b
  have o1 := t.okM.write (nameK (k : Int)) b
  have a2 := Alike.sync o1.sorted (nameK (k : Int))
  have a3 := a2.symm.trans a1
  have hc : CubeAt (M.write (nameK (k : Int)) b).2 s rows := by
    rw [hw]
    refine ⟨?_, ?_, t.cube.ok, fun j hj hs => ?_⟩
    · rw [isSome_wrote, t.cube.there, Bool.or_true]
    · rw [nowOf_wrote, if_neg fun e => (nameK_ok hk16).2 e.symm]; exact t.cube.fact
    · have hj16 : j < 16 := by omega
      rw [nowOf_wrote]
      by_cases e : j = k
      · subst e; rw [if_pos rfl, eb]
      · rw [if_neg fun e' => e ((nameK_eq hj16 hk16).1 e')]
        rw [isSome_wrote, decide_eq_false fun e' => e ((nameK_eq hj16 hk16).1 e'), Bool.false_or] at hs
        exact t.cube.set j hj hs
  have s1 := small_write t.okM.sorted t.smM (nameK (k : Int)) b
  have s2 := small_sync o1.sorted s1 (nameK (k : Int))
  have s3 := small_write t.okN.sorted t.smN (nameK (k : Int)) b
  refine ⟨a3, a2.cube hc, o1.sync _, t.okN.write _ _, fun j hj => ?_, s2.up (by omega), s3.up (by omega), by rw [← a2.limit, hw]; exact t.limit⟩
  rw [← a2.isSome, hw, isSome_wrote, Bool.or_eq_true, t.com j hj, decide_eq_true_eq, nameK_eq hj hk16, List.mem_cons]
/-- Facts alone. -/
theorem Two.start {L : Int} {s : SchM} {rows : List RowM} (ok : FactsOk s rows) (hL : ((encF s rows).length : Int) ≤ L) :
    Two L (((Mod.new L).write nmFact (encF s rows)).2.sync nmFact).2 (((Mod.new L).write nmFact (encF s rows)).2.sync nmFact).2 s rows [] ((encF s rows).length + 2) := by
  obtain ⟨b, eb⟩ : ∃ b, b = encF s rows := ⟨_, rfl⟩
  rw [← eb] at hL ⊢
  have hw := write_fits (M := Mod.new L) (x := nmFact) (b := b) fact_ok (by show ((0 : Nat) : Int) + _ ≤ L; omega)
  have o0 := Mod.Ok.new L
  have o1 := o0.write nmFact b
  have a2 := Alike.sync o1.sorted nmFact
  have hno : ∀ x, (Mod.new L).look x = none := fun x => rfl
  have hd := ok.dims
  have hp : 2 ^ s.cards.length ≤ 2 ^ 4 := Nat.pow_le_pow_right (by decide) hd.2
  have hc : CubeAt ((Mod.new L).write nmFact b).2 s rows := by
    rw [hw]
    refine ⟨?_, ?_, ok, fun j hj hs => ?_⟩
    · rw [isSome_wrote, decide_eq_true rfl]; rfl
    · rw [nowOf_wrote, if_pos rfl, eb]
    · rw [isSome_wrote, decide_eq_false (nameK_ok (k := j) (by omega)).2, hno] at hs
      cases hs
  have s0 : (Mod.new L).Small 0 := ⟨Nat.le_refl _, Nat.le_refl _, Nat.le_refl _⟩
  have s1 := small_write o0.sorted s0 nmFact b
  have s2 := small_sync o1.sorted s1 nmFact
  refine ⟨.refl _, a2.cube hc, o1.sync _, o1.sync _, fun j hj => ?_, s2.up (by omega), s2.up (by omega), by rw [← a2.limit, hw]; rfl⟩
  rw [← a2.isSome, hw, isSome_wrote, decide_eq_false (nameK_ok hj).2, hno]
  simp
/-- What facts of numbers take. -/
theorem facts_len {s : SchM} {rows : List RowM} (ok : FactsOk s rows) (hr : rows.length ≤ 40) : (encF s rows).length ≤ 812 := by
  have hd := ok.dims
  have hm := ok.ms
  have hl := encF_len ok
  have h1 : rows.length * (s.cards.length + 8 * s.ms.toNat) ≤ 40 * 20 := Nat.mul_le_mul hr (by omega)
  omega
theorem factsM_len (d : Int) (cards : List Int) (m : Int) (ns : List Int) : (factsM d cards m ns).2.length ≤ 40 := by
  simp only [factsM, List.length_map]
  exact List.length_take_le 40 ns
end Go.HC

/-
  law13's Start, law14's Both.
-/
namespace Go.HC
/-- What stands ahead of n is as it was; what lay there reads as it did. -/
theorem late_old {hs y : Heap} (kk : Keep (fun b => hs.size ≤ b) hs y) : ∀ b, Old hs b → Old y b ∧ y[b]? = hs[b]? := fun b hb => by
  have e1 : y[b]? = hs[b]? := kk.blk b hb.2.1 (by have := hb.2.1; omega)
  exact ⟨⟨nz, Nat.lt_of_lt_of_le hb.2.1 kk.size, fun h => h⟩, e1⟩
theorem late_none {hs y : Heap} (kk : Keep (fun b => hs.size ≤ b) hs y) : Keep none_ hs y := ⟨kk.size, fun b hb _ => kk.blk b hb (by omega)⟩
theorem late_trans {hs y z : Heap} {F : Nat → Prop} (kk : Keep (fun b => hs.size ≤ b) hs y) (k : Keep F y z) (hF : ∀ b, F b → hs.size ≤ b) : Keep (fun b => hs.size ≤ b) hs z :=
  kk.trans k fun b _ hf => hF b hf
/-- The store with facts alone. -/
def stM (L : Int) (s : SchM) (rows : List RowM) : Mod := (((Mod.new L).write nmFact (encF s rows)).2.sync nmFact).2
end Go.HC
namespace Go.Proofs
open Go Go.HC
/-- Two stores that lie apart, and behind h0. -/
structure Pair (v w : Value) (F G : Nat → Prop) (n : Nat) (h : Heap) (M N : Mod) : Prop where
  st : StAt v F h M
  rf : RefAt w G h N
  f0 : ∀ b, F b → n ≤ b
  g0 : ∀ b, G b → n ≤ b
  dis : ∀ b, F b → ¬ G b
theorem Pair.keep {v w : Value} {F G S : Nat → Prop} {n : Nat} {h h' : Heap} {M N : Mod} (p : Pair v w F G n h M N) (k : Keep S h h') (hS : ∀ b, S b → b < n) : Pair v w F G n h' M N :=
  ⟨p.st.keep k fun b hb hs => by have := p.f0 b hb; have := hS b hs; omega, p.rf.keep k fun b hb hs => by have := p.g0 b hb; have := hS b hs; omega, p.f0, p.g0, p.dis⟩
theorem Pair.none {v w : Value} {F G : Nat → Prop} {n : Nat} {h h' : Heap} {M N : Mod} (p : Pair v w F G n h M N) (k : Keep none_ h h') : Pair v w F G n h' M N := p.keep k fun _ h => h.elim
/-- The program's store is changed. -/
theorem Pair.stepF {v w : Value} {F F' G : Nat → Prop} {n : Nat} {h h' : Heap} {M M' N : Mod} (p : Pair v w F G n h M N) (hn : n ≤ h.size) (s : StAt v F' h' M') (k : Keep F h h') (hF : ∀ b, F' b → F b ∨ h.size ≤ b) : Pair v w F' G n h' M' N :=
  ⟨s, p.rf.keep k fun b hb hs => p.dis b hs hb, fun b hb => (hF b hb).elim (p.f0 b) fun h => by omega, p.g0, fun b hb hg => (hF b hb).elim (fun h => p.dis b h hg) fun h => by have := p.rf.lt b hg; omega⟩
theorem Pair.stepG {v w : Value} {F G G' : Nat → Prop} {n : Nat} {h h' : Heap} {M N N' : Mod} (p : Pair v w F G n h M N) (hn : n ≤ h.size) (s : RefAt w G' h' N') (k : Keep G h h') (hG : ∀ b, G' b → G b ∨ h.size ≤ b) : Pair v w F G' n h' M N' :=
  ⟨p.st.keep k fun b hb hs => p.dis b hb hs, s, p.f0, fun b hb => (hG b hb).elim (p.g0 b) fun h => by omega, fun b hb hg => (hG b hg).elim (fun h => p.dis b hb h) fun h => by have := p.st.lt b hb; omega⟩

set_option maxHeartbeats 1000000 in
set_option maxRecDepth 10000 in
theorem start_spec {h : Heap} {cv rv : Value} {s : SchM} {rows : List RowM} (L : Int) (hc : SlRep rInt (Old h) h cv s.cards) (hr : SlRep rRow (Old h) h rv rows) (ok : FactsOk s rows) (hL : ((encF s rows).length : Int) ≤ L) (hL' : L ≤ 1000000000) :
    CallH Tryz.prog 41 #[.agg #[cv, .int .i64 s.ms], rv, .int .i64 L] h fun r h' => ∃ p w F G, r = .tuple #[.pointer (some p), w] ∧ Pair (.pointer (some p)) w F G h.size h' (stM L s rows) (stM L s rows) ∧ Keep none_ h h' := by
  refine callH_by fun K hK => ?_
  refine enter [.tmp 6, .tmp 7] Tryz.func41 rfl rfl (by kernel_rfl) rfl ?_
  have hc0 := hc
  have hr0 := hr
  obtain ⟨ca, cc, rfl, _, _⟩ := hc.val
  obtain ⟨ra, rc, rfl, _, _⟩ := hr.val
  have hlen := encF_len ok
  have hd := ok.dims
  have hms := ok.ms
  have hll := ok.len
  have hle : (encF s rows).length < 100000 := by
    have : rows.length * (s.cards.length + 8 * s.ms.toNat) ≤ 300 * 20 := Nat.mul_le_mul hll (by omega)
    omega
  simp -dsimp [boxS_eq]
  generalize hB : Array.push h _ = h0
  have k0 : Keep none_ h h0 := by rw [← hB]; exact .push _ _ _
  have z0 : h0.size = h.size + 1 := by rw [← hB]; simp
  have wA : h0[h.size]? = some (.cells #[.slice ca s.cards.length cc, .int .i64 s.ms] 30 (0, 0)) := by rw [← hB]; exact push_new _ _
  refine call_by (new_spec L h0) ?_
  rintro v h1 ⟨F0, s0, k1, hF0⟩
  have hvp : ∃ p, v = .pointer (some p) := by obtain ⟨bs, bm, es, clock, tv, own, R, rfl, _⟩ := s0; exact ⟨_, rfl⟩
  obtain ⟨vp, rfl⟩ := hvp
  simp -dsimp
  refine call_by (rnew_spec L h1) ?_
  rintro w h2 ⟨G0, g0, k2, hG0⟩
  have hwp : ∃ p, w = .pointer (some p) := by obtain ⟨bs, fv, of, lv, ol, R, rfl, _⟩ := g0; exact ⟨_, rfl⟩
  obtain ⟨wp, rfl⟩ := hwp
  have k02 : Keep none_ h h2 := (k0.trans k1 fun _ _ h => h).trans k2 fun _ _ h => h
  have wA2 := (k1.trans k2 fun _ _ h => h).at wA (fun h => h)
  have p2 : Pair (.pointer (some vp)) (.pointer (some wp)) F0 G0 h.size h2 (Mod.new L) (Mod.new L) := ⟨s0.keep k2 fun _ _ h => h, g0, fun b hb => by have := hF0 b hb; omega, fun b hb => by have := hG0 b hb; have := k1.size; omega, fun b hb hg => by have := s0.lt b hb; have := hG0 b hg; omega⟩
  simp -dsimp [wA2]
  refine call_by (rencode_spec (hc0.mono ((Tr.of k02).ft (Nat.le_refl 0))) (hr0.mono ((Tr.of k02).ft (Nat.le_refl 0))) hd.2 (by omega) fun r hr => ⟨by rw [(ok.key r hr).1]; omega, by rw [(ok.m r hr).1]; omega⟩) ?_
  rintro bv h3 ⟨hb, k3⟩
  have k03 : Keep none_ h h3 := k02.trans k3 fun _ _ h => h
  have p3 := p2.none k3
  have sm0 : (Mod.new L).Small 0 := ⟨Nat.le_refl _, Nat.le_refl _, Nat.le_refl _⟩
  have o0 := Mod.Ok.new L
  have sm1 := small_write o0.sorted sm0 nmFact (encF s rows)
  have o1 := o0.write nmFact (encF s rows)
  have z3 := k03.size
  have e1 : ((Mod.new L).write nmFact (encF s rows)).2.limit = L := by
    unfold Mod.write
    split
    · rfl
    · split <;> rfl
  simp -dsimp
  refine call_by (put13_spec p3.st sm0 (by omega) nmFact hb (fun b h => h.2.1) (by omega) sm1 (by omega)) ?_
  rintro _ h4 ⟨F1, s1, k4, hF1⟩
  have p4 := p3.stepF z3 s1 k4 hF1
  have t34 : ∀ b, Ft h2.size none_ h3 b → Old h4 b ∧ h4[b]? = h3[b]? := fun b hb => by
    have e : h4[b]? = h3[b]? := k4.blk b hb.2.1 fun hf => by have := p2.st.lt b hf; have := hb.1.1; omega
    exact ⟨⟨nz, Nat.lt_of_lt_of_le hb.2.1 k4.size, fun h => h⟩, e⟩
  simp -dsimp
  refine call_by (rwrite_spec p4.rf sm0 (by omega) (by show _ ≤ L; omega) (by show L ≤ _; omega) nmFact (hb.mono t34) (fun b h => h.2.1) (by omega)) ?_
  rintro _ h5 ⟨rfl, G1, g1, k5, hG1⟩
  have p5 := p4.stepG (by have := k4.size; omega) g1 k5 hG1
  simp -dsimp
  refine call_by (rsync_spec p5.rf sm1 (by omega) nmFact) ?_
  rintro _ h6 ⟨rfl, G2, g2, k6, hG2⟩
  have p6 := p5.stepG (by have := k4.size; have := k5.size; omega) g2 k6 hG2
  simp -dsimp
  refine hK _ _ ⟨vp, _, F1, G2, rfl, p6, ?_⟩
  have q4 : Keep none_ h h4 := k03.trans k4 fun b hb hf => absurd (p3.f0 b hf) (by omega)
  have q5 : Keep none_ h h5 := q4.trans k5 fun b hb hf => absurd (p4.g0 b hf) (by omega)
  exact q5.trans k6 fun b hb hf => absurd (p5.g0 b hf) (by omega)
end Go.Proofs

/-
  law14's Both.
-/
namespace Go.Proofs
open Go Go.HC

/-- The set that a number stands for. -/
def setN (cards : List Int) (x : Int) : Nat := (withinM x (2 ^ cards.length)).toNat
theorem setN_eq {cards : List Int} (x : Int) : ((setN cards x : Nat) : Int) = withinM x (2 ^ cards.length) := by
  have := withinM_bound (a := x) (pow2_pos cards.length)
  unfold setN
  omega
theorem setN_lt {cards : List Int} (x : Int) : setN cards x < 2 ^ cards.length := by
  have h1 := withinM_bound (a := x) (pow2_pos cards.length)
  have h2 := setN_eq (cards := cards) x
  have : ((2 ^ cards.length : Nat) : Int) = 2 ^ cards.length := by simp
  omega

set_option maxHeartbeats 1000000 in
set_option maxRecDepth 100000 in
theorem both14_spec {h : Heap} {d m p q : Int} {cv nv sv : Value} {cards ns sets : List Int} (hc : SlRep rInt (Old h) h cv cards) (hn : SlRep rInt (Old h) h nv ns) (hs : SlRep rInt (Old h) h sv sets) :
    CallH Tryz.prog 15 #[.agg #[.int .i64 d, .int .i64 m, .int .i64 p, .int .i64 q, cv, nv], sv] h fun r h' => ∃ vp w F G M N ks n, r = .tuple #[.pointer (some vp), w] ∧ Keep none_ h h' ∧ Pair (.pointer (some vp)) w F G h.size h' M N ∧
      Two 100000 M N (factsM d cards m ns).1 (factsM d cards m ns).2 ks n ∧ n ≤ 23000 ∧ ∀ j, (hj : j < sets.length) → j < 10 → setN (factsM d cards m ns).1.cards sets[j] ∈ ks := by
  refine callH_by fun K hK => ?_
  refine enter [.tmp 4, .tmp 5] Tryz.func15 rfl rfl (by kernel_rfl) rfl ?_
  have hc0 := hc
  have hn0 := hn
  have hs0 := hs
  obtain ⟨ca, cc, rfl, _, _⟩ := hc.val
  obtain ⟨na, nc, rfl, _, _⟩ := hn.val
  obtain ⟨sa, sc, rfl, hsc, _⟩ := hs.val
  have hok := factsM_ok d cards m ns
  have hr40 := factsM_len d cards m ns
  simp -dsimp [boxS_eq]
  generalize hB : Array.push h _ = h0
  have k0 : Keep none_ h h0 := by rw [← hB]; exact .push _ _ _
  have z0 : h0.size = h.size + 1 := by rw [← hB]; simp
  have wA : h0[h.size]? = some (.cells #[.int .i64 d, .int .i64 m, .int .i64 p, .int .i64 q, .slice ca cards.length cc, .slice na ns.length nc] 24 (0, 0)) := by rw [← hB]; exact push_new _ _
  try simp -dsimp [wA]
  refine call_by (smake_spec fun y ky => facts1_spec d m ((hc0.mono ((Tr.of (k0.trans ky fun _ _ h => h)).ft (Nat.le_refl 0)))) (hn0.mono ((Tr.of (k0.trans ky fun _ _ h => h)).ft (Nat.le_refl 0)))) ?_
  rintro _ h1 ⟨cv1, rv1, rfl, k1, hcv, hrv⟩
  generalize hfs : (factsM d cards m ns).1 = s at *
  generalize hfr : (factsM d cards m ns).2 = rows at *
  obtain ⟨c1a, c1c, rfl, _, _⟩ := hcv.val
  obtain ⟨r1a, r1c, rfl, _, _⟩ := hrv.val
  simp -dsimp
  generalize hD : Array.push (Array.push h1 _) _ = h2
  have k2 : Keep none_ h1 h2 := by rw [← hD]; exact ((Keep.refl none_ h1).pushed _).pushed _
  have z2 : h2.size = h1.size + 2 := by rw [← hD]; simp
  have v1 : h2[h1.size]? = some (.cells #[.slice none 0 0, .int .i64 0] 30 (0, 0)) := by rw [← hD]; exact push_at (push_new _ _)
  have v2 : h2[h1.size + 1]? = some (.cells #[.int .i64 0, .int .i64 0] 33 (0, 0)) := by rw [← hD]; exact push_get (by simp)
  have hsm1 : ∀ o, (Array.setIfInBounds h2 h1.size o)[h1.size]? = some o := fun o => set_same _ (lt_of_blk v1)
  simp -dsimp [v1, v2, set_other _ (show h1.size ≠ h1.size + 1 by omega), hsm1]
  generalize hE : Array.setIfInBounds (Array.setIfInBounds h2 _ _) _ _ = h3
  have kE : Keep none_ h1 h3 := by rw [← hE]; exact (k2.setted _ fun hh => by omega).setted _ fun hh => by omega
  have k13 : Keep none_ h h3 := (k0.trans k1 fun _ _ h => h).trans kE fun _ _ h => h
  have vS : h3[h1.size]? = some (.cells #[.slice c1a s.cards.length c1c, .int .i64 s.ms] 30 (0, 0)) := by rw [← hE]; exact (set_other _ (by omega)).trans (set_same _ (by omega))
  have hL : ((encF s rows).length : Int) ≤ 100000 := by have := facts_len hok hr40; omega
  have hd := hok.dims
  have hms := hok.ms
  have tE : ∀ b, Ft h0.size none_ h1 b → Old h3 b ∧ h3[b]? = h1[b]? := fun b hb => by
    have e : h3[b]? = h1[b]? := kE.blk b hb.2.1 (fun h => h)
    exact ⟨⟨nz, Nat.lt_of_lt_of_le hb.2.1 kE.size, fun h => h⟩, e⟩
  have rc3 := hcv.mono tE
  have rr3 := hrv.mono tE
  try simp -dsimp [vS]
  refine call_by (start_spec 100000 rc3 rr3 hok hL (by decide)) ?_
  rintro _ h4 ⟨vp, w, F0, G0, rfl, p4, k4⟩
  simp -dsimp
  have hp0 := pow2_pos s.cards.length
  have hp4 : (2 : Int) ^ s.cards.length ≤ 2 ^ 4 := pow2_le hd.2
  have hsh := shl_one (k := s.cards.length) (by omega)
  have hshv : binV Tryz.prog .shl 3 (.int .i64 1) (.int .u64 (IntKind.u64.wrap (s.cards.length : Int))) = some (.int .i64 (2 ^ s.cards.length)) := hsh
  have z13 := k13.size
  have vS4 := k4.at vS (fun h => h)
  have w0 : Keep (fun b => h3.size ≤ b) h3 h4 := k4.weaken fun _ _ h => h.elim
  have hle := facts_len hok hr40
  have hs3 : SlRep rInt (Old h3) h3 (.slice sa sets.length sc) sets := hs0.mono ((Tr.of k13).ft (Nat.le_refl 0))
  have hl1 := lt_of_blk vS
  refine loopc (σ := Nat) (fun i => [(1, .slice sa sets.length sc), (6, .pointer (some ⟨h1.size, 0, none⟩)), (7, .slice r1a rows.length r1c), (9, .pointer (some vp)), (10, w), (11, .int .i64 i)])
    (fun i y => (i ≤ sets.length ∧ i ≤ 10) ∧ Keep (fun b => h3.size ≤ b) h3 y ∧ ∃ F G M N ks n, Pair (.pointer (some vp)) w F G h3.size y M N ∧ Two 100000 M N s rows ks n ∧ n ≤ 900 + 2200 * i ∧ ∀ j, (hj : j < sets.length) → j < i → setN s.cards sets[j] ∈ ks)
    (fun i => 10 - i) 0 0 (fun i _ => ¬ (i < sets.length ∧ i < 10)) noRet noRet_le (by simp)
    ⟨⟨Nat.zero_le _, Nat.zero_le _⟩, w0, F0, G0, _, _, [], _, p4, Two.start hok hL, by omega, fun j _ hj => absurd hj (by omega)⟩ (by kernel_rfl) ?_ ?_
  case refine_2 =>
    rintro i y g ⟨⟨hi1, hi2⟩, ky, F, G, M, N, ks, n, py, ty, hn, hks⟩ hin
    simp -dsimp
    refine hK _ _ ⟨vp, w, F, G, M, N, ks, n, rfl, k13.trans (late_none ky) fun _ _ h => h, ⟨py.st, py.rf, fun b hb => by have := py.f0 b hb; omega, fun b hb => by have := py.g0 b hb; omega, py.dis⟩, ty, by omega, fun j hj h10 => hks j hj (by omega)⟩
  rintro i y g ⟨⟨hi1, hi2⟩, ky, F, G, M, N, ks, n, py, ty, hn, hks⟩
  have wi := wrap_succ (k := i) (by omega)
  have vSy : y[h1.size]? = _ := ky.at vS (by omega)
  by_cases hil : i < sets.length
  · by_cases h10 : i < 10
    · have h10' : (i : Int) < 10 := by omega
      obtain ⟨b1, o1, e1, _, hx⟩ := (hs3.mono (late_old ky)).int_at i hil
      subst e1
      obtain ⟨x, ex⟩ : ∃ x, x = sets[i] := ⟨_, rfl⟩
      rw [← ex] at hx
      have hk := setN_lt (cards := s.cards) x
      have hke := setN_eq (cards := s.cards) x
      have hkb := withinM_bound (a := x) hp0
      simp -dsimp [hil, h10']
      refine drawn_by [⟨0, true, []⟩, ⟨1, true, []⟩, ⟨2, true, []⟩, ⟨3, true, []⟩, ⟨4, true, []⟩, ⟨5, true, []⟩, ⟨6, true, []⟩, ⟨7, true, []⟩, ⟨8, true, []⟩, ⟨9, false, []⟩, ⟨10, true, []⟩] (by kernel_rfl) (by kernel_rfl) ?_
      simp -dsimp [-intRes_shl, vSy, idxV_nat hil, elSz_eq, hx, hshv]
      refine call_by (within14_spec x _ hp0 (by omega) _) ?_
      rintro _ y' ⟨rfl, hh⟩
      obtain rfl := hh.symm
      rw [← hke]
      obtain ⟨k, ek⟩ : ∃ k, k = setN s.cards x := ⟨_, rfl⟩
      rw [← ek] at hk hke ⊢
      simp -dsimp [again_cons]
      have hrow : ∀ r ∈ rows, r.key.length < 64 ∧ r.m.length = s.ms.toNat := fun r hr => ⟨by rw [(hok.key r hr).1]; omega, (hok.m r hr).1⟩
      refine call_by (rfacts_spec (m := s.ms.toNat) (k : Int) (rr3.mono (late_old ky)) (by omega) (by omega) hrow) ?_
      rintro lv y1 ⟨hl, k1'⟩
      have hz0 : (0 : Int) ≤ k := by omega
      have hz1 : (k : Int) < 2 ^ s.cards.length := by omega
      have hcub := cub_ok hok hz0 hz1
      simp -dsimp
      refine call_by (cencode_spec (m := s.ms.toNat) (k : Int) hl (by have := hcub.len; omega) (by omega) fun c hc => cel_sml (hcub.cel c hc)) ?_
      rintro bv y2 ⟨hb, k2'⟩
      have hlb := encC_len hok hz0 hz1
      have sm1 := small_write ty.okM.sorted ty.smM (nameK (k : Int)) (encC (k : Int) (groupC (rows.map (ofM (k : Int)))))
      simp -dsimp
      refine call_by (rname_spec hz0 (by omega) y2) ?_
      rintro _ y2a ⟨rfl, kna⟩
      have ky2 : Keep none_ y y2a := (k1'.trans k2' fun _ _ h => h).trans kna fun _ _ h => h
      have p2 := py.none ky2
      have z2' := ky2.size
      have zy := ky.size
      have hb := hb.mono fun b hb => (show Ft y1.size none_ y2a b ∧ y2a[b]? = y2[b]? from ⟨⟨hb.1.at (Nat.le_refl _) (kna.blk b hb.2.1 fun h => h), Nat.lt_of_lt_of_le hb.2.1 kna.size, fun h => h⟩, kna.blk b hb.2.1 fun h => h⟩)
      simp -dsimp
      refine call_by (put14_spec p2.st ty.smM (by omega) (nameK (k : Int)) hb (fun b h => h.2.1) (by omega) sm1 (by omega)) ?_
      rintro _ y3 ⟨F1, s3, k3, hF1⟩
      have p3 := p2.stepF (by omega) s3 k3 hF1
      have t23 : ∀ b, Ft y1.size none_ y2a b → Old y3 b ∧ y3[b]? = y2a[b]? := fun b hb => by
        have e : y3[b]? = y2a[b]? := k3.blk b hb.2.1 fun hf => by have := py.st.lt b hf; have := hb.1.1; have := k1'.size; omega
        exact ⟨⟨nz, Nat.lt_of_lt_of_le hb.2.1 k3.size, fun h => h⟩, e⟩
      simp -dsimp
      refine call_by (rname_spec hz0 (by omega) y3) ?_
      rintro _ y3a ⟨rfl, knb⟩
      have p3 := p3.none knb
      have hb3 := (hb.mono t23).mono ((Tr.of knb).ft (Nat.le_refl 0))
      simp -dsimp
      have hlim : N.limit = 100000 := by rw [← ty.alike.limit]; exact ty.limit
      refine call_by (rwrite_spec p3.rf ty.smN (by omega) (by omega) (by omega) (nameK (k : Int)) hb3 (fun b h => h.2.1) (by omega)) ?_
      rintro _ y4 ⟨rfl, G1, g4, k4', hG1⟩
      have z3' := k3.size
      have z3b := knb.size
      have p5 := p3.stepG (by omega) g4 k4' hG1
      have t5 := ty.add (k := k) hk (by omega)
      have q4 : Keep (fun b => h3.size ≤ b) h3 y4 := late_trans (late_trans (late_trans (late_trans ky ky2 fun _ h => h.elim) k3 p2.f0) knb fun _ h => h.elim) k4' p3.g0
      simp -dsimp [wi]
      refine ⟨i + 1, by simp, rfl, ⟨⟨hil, h10⟩, q4, F1, G1, _, _, k :: ks, _, p5, t5, by omega, fun j hj hji => ?_⟩, by show 10 - (i + 1) < 10 - i; omega⟩
      rcases Nat.lt_or_ge j i with h' | h'
      · exact List.mem_cons_of_mem _ (hks j hj h')
      · have : j = i := by omega
        subst this
        rw [← ex, ← ek]
        exact List.mem_cons_self
    · have h10' : ¬ (i : Int) < 10 := by omega
      simp -dsimp [hil, h10']
      exact ⟨rfl, i, by simp, rfl, ⟨⟨hi1, hi2⟩, ky, F, G, M, N, ks, n, py, ty, hn, hks⟩, fun hh => h10 hh.2⟩
  · simp -dsimp [hil]
    exact ⟨rfl, i, by simp, rfl, ⟨⟨hi1, hi2⟩, ky, F, G, M, N, ks, n, py, ty, hn, hks⟩, fun hh => hil hh.1⟩
end Go.Proofs

/-
  Queries, plainly: what is told, of any store of facts and cuboids.
-/
namespace Go.HC
/-- The cells that a query is told; its word; who serves it. -/
def ansM (com : Nat → Option (List CellM)) (cards : List Int) (a : Int) (fs : List FilM) : List CellM :=
  if rightM cards a fs = true then match serveM com (needM a fs) (2 ^ cards.length) with
    | some b => askM b.1 b.2 a fs
    | none => []
  else []
def errM (com : Nat → Option (List CellM)) (cards : List Int) (a : Int) (fs : List FilM) : Int :=
  if rightM cards a fs = true then match serveM com (needM a fs) (2 ^ cards.length) with
    | some _ => 0
    | none => 8
  else 7
def srvM (com : Nat → Option (List CellM)) (cards : List Int) (a : Int) (fs : List FilM) : Int × Bool :=
  if rightM cards a fs = true then match serveM com (needM a fs) (2 ^ cards.length) with
    | some b => (b.1, true)
    | none => (0, false)
  else (0, false)
/-- A query's set, its filters' dimensions, lie within who serves it. -/
theorem serve_within {s : SchM} {rows : List RowM} (ok : FactsOk s rows) {a : Int} {fs : List FilM} (hr : rightM s.cards a fs = true) {k : Nat} (hk : k < 2 ^ s.cards.length) (ha : andM (k : Int) (needM a fs) = needM a fs) : Within (k : Int) a s.cards.length := by
  have hd := ok.dims
  have hp : 2 ^ s.cards.length ≤ 2 ^ 4 := Nat.pow_le_pow_right (by decide) hd.2
  have hpz : ((2 ^ s.cards.length : Nat) : Int) = 2 ^ s.cards.length := by simp
  obtain ⟨h1, h2⟩ := right_set hr
  have hn := need_ok fs (set := a) (by omega) fun f hf => by have := h2 f hf; omega
  have hi := (and_iff (x := (k : Int)) (y := needM a fs) (by omega) hn.1).1 ha
  exact ⟨by omega, by omega, h1.1, h1.2, fun i hi4 hb => hi i hi4 ((hn.2 i hi4).2 (.inl hb))⟩
theorem ans_rows {M : Mod} {s : SchM} {rows : List RowM} (ok : FactsOk s rows) {a : Int} {fs : List FilM} (hr : rightM s.cards a fs = true) (he : errM (comM M rows) s.cards a fs = 0) :
    ansM (comM M rows) s.cards a fs = groupC ((rows.filter (rowBy fs)).map (ofM a)) := by
  unfold errM at he
  unfold ansM
  rw [if_pos hr] at he ⊢
  cases hs : serveM (comM M rows) (needM a fs) (2 ^ s.cards.length) with
  | none => rw [hs] at he; cases he
  | some b =>
    obtain ⟨k, l⟩ := b
    obtain ⟨hk, rfl, _, ha⟩ := serve_com hs
    simp only
    exact ask_rows ok (serve_within ok hr hk ha) (serve_bits ok.dims.2 hr hk ha)
end Go.HC

/-
  law14's Query, plainly: filters of numbers; each row's own law.
-/
namespace Go.HC
def filOne (cards : List Int) (x : Int) : FilM :=
  let d := withinM x cards.length
  let lo := withinM (IntKind.i64.wrap (x.tdiv 4)) (cardAt cards d)
  ⟨d, lo, lo + withinM (IntKind.i64.wrap (x.tdiv 70)) (cardAt cards d - lo)⟩
def filStep (cards : List Int) (t : Int × List FilM) (x : Int) : Int × List FilM :=
  if bitM t.1 (withinM x cards.length).toNat = true then t else (orM t.1 (2 ^ (withinM x cards.length).toNat), t.2 ++ [filOne cards x])
/-- The filters of numbers. -/
def filsM (cards : List Int) (ns : List Int) : List FilM := ((ns.take 4).foldl (filStep cards) (0, [])).2
theorem rightF_append (cards : List Int) : ∀ (fs gs : List FilM) (s : Int), rightF cards s (fs ++ gs) = (rightF cards s fs && rightF cards (needM s fs) gs)
  | [], gs, s => by rw [List.nil_append, rightF, Bool.true_and]; rfl
  | f :: fs, gs, s => by
    rw [List.cons_append, rightF, rightF]
    split
    · rfl
    · rw [rightF_append cards fs gs]
      rfl
theorem cardAt_get {cards : List Int} {d : Int} (h0 : 0 ≤ d) (h : d < cards.length) : cardAt cards d = cards[d.toNat]'(by omega) := by
  unfold cardAt
  rw [List.getElem?_eq_getElem (by omega)]
  rfl
theorem filOne_ok {s : SchM} (ok : SchOk s) (x : Int) : (0 ≤ (filOne s.cards x).dim ∧ (filOne s.cards x).dim < s.cards.length) ∧ 0 ≤ (filOne s.cards x).lo ∧ (filOne s.cards x).lo ≤ (filOne s.cards x).hi ∧ (filOne s.cards x).hi < cardAt s.cards (filOne s.cards x).dim := by
  have hd := ok.dims
  have h1 := withinM_bound (a := x) (n := (s.cards.length : Int)) (by omega)
  have hc := ok.cards _ (List.getElem_mem (show (withinM x s.cards.length).toNat < s.cards.length by omega))
  rw [← cardAt_get h1.1 h1.2] at hc
  have h2 := withinM_bound (a := IntKind.i64.wrap (x.tdiv 4)) (n := cardAt s.cards (withinM x s.cards.length)) (by omega)
  have h3 := withinM_bound (a := IntKind.i64.wrap (x.tdiv 70)) (n := cardAt s.cards (withinM x s.cards.length) - withinM (IntKind.i64.wrap (x.tdiv 4)) (cardAt s.cards (withinM x s.cards.length))) (by omega)
  unfold filOne
  simp only
  omega
theorem filStep_ok {s : SchM} (ok : SchOk s) : ∀ (ns : List Int) (t : Int × List FilM), t.1 = needM 0 t.2 → rightF s.cards 0 t.2 = true → (ns.foldl (filStep s.cards) t).1 = needM 0 (ns.foldl (filStep s.cards) t).2 ∧ rightF s.cards 0 (ns.foldl (filStep s.cards) t).2 = true ∧ (ns.foldl (filStep s.cards) t).2.length ≤ t.2.length + ns.length
  | [], t, h1, h2 => ⟨h1, h2, Nat.le_refl _⟩
  | x :: ns, t, h1, h2 => by
    rw [List.foldl_cons]
    have key : (filStep s.cards t x).1 = needM 0 (filStep s.cards t x).2 ∧ rightF s.cards 0 (filStep s.cards t x).2 = true ∧ (filStep s.cards t x).2.length ≤ t.2.length + 1 := by
      unfold filStep
      split
      · exact ⟨h1, h2, Nat.le_succ _⟩
      · rename_i hb
        have ho := filOne_ok ok x
        have ed : (filOne s.cards x).dim = withinM x s.cards.length := rfl
        refine ⟨?_, ?_, by simp⟩
        · unfold needM at h1 ⊢
          rw [List.foldl_append, ← h1]
          rfl
        · rw [rightF_append, h2, Bool.true_and, rightF, ← h1, if_neg (fun hh => by
            rcases hh with hh | hh | hh | hh | hh | hh
            all_goals first | omega | exact hb (by rw [ed] at hh; exact hh))]
          rfl
    have := filStep_ok ok ns _ key.1 key.2.1
    refine ⟨this.1, this.2.1, ?_⟩
    have := this.2.2
    rw [List.length_cons]
    omega
theorem fils_right {s : SchM} (ok : SchOk s) {a : Int} (ha : 0 ≤ a ∧ a < 2 ^ s.cards.length) (ns : List Int) : rightM s.cards a (filsM s.cards ns) = true := by
  unfold rightM
  rw [if_neg (by omega)]
  exact (filStep_ok ok (ns.take 4) (0, []) rfl rfl).2.1
end Go.HC

/-
  law14's Query.
-/
namespace Go.Proofs
open Go Go.HC

theorem filStep_at (cards : List Int) (t : Int × List FilM) (x : Int) : filStep cards t x = if bitM t.1 (withinM x cards.length).toNat = true then t else (orM t.1 (2 ^ (withinM x cards.length).toNat), t.2 ++ [filOne cards x]) := rfl
theorem filT : ElemT Tryz.prog 25 57 rFil 24 := ⟨Tryz.elS25, Tryz.szS57, Tryz.byS57, _, Tryz.zS57, rfl⟩

set_option maxHeartbeats 1000000 in
set_option maxRecDepth 10000 in
theorem query14_spec {h : Heap} {cv fv : Value} {s : SchM} {ns : List Int} (ok : SchOk s) (a : Int) (hc : SlRep rInt (Old h) h cv s.cards) (hf : SlRep rInt (Old h) h fv ns) :
    CallH Tryz.prog 16 #[.agg #[cv, .int .i64 s.ms], .int .i64 a, fv] h fun r h' => ∃ qv, r = .agg #[.int .i64 (withinM a (2 ^ s.cards.length)), qv] ∧ SlRep rFil (Ft h.size none_ h') h' qv (filsM s.cards ns) ∧ Keep none_ h h' := by
  refine callH_by fun K hK => ?_
  refine enter [.cell 6 27] Tryz.func16 rfl rfl (by kernel_rfl) rfl ?_
  have hc0 := hc
  have hf0 := hf
  obtain ⟨ca, cc, rfl, _, _⟩ := hc.val
  obtain ⟨fa, fc, rfl, hfc, _⟩ := hf.val
  have hd := ok.dims
  have hsh := shl_one (k := s.cards.length) (by omega)
  have hp4 : (2 : Int) ^ s.cards.length ≤ 2 ^ 4 := pow2_le hd.2
  have hp0 := pow2_pos s.cards.length
  simp -dsimp [boxS_eq]
  generalize hB : Array.push (Array.push h _) _ = h0
  have k0 : Keep none_ h h0 := by rw [← hB]; exact ((Keep.refl none_ h).pushed _).pushed _
  have z0 : h0.size = h.size + 2 := by rw [← hB]; simp
  have w1 : h0[h.size]? = some (.cells #[.slice ca s.cards.length cc, .int .i64 s.ms] 30 (0, 0)) := by rw [← hB]; exact push_at (push_new _ _)
  have w2 : h0[h.size + 1]? = some (.cells #[.int .i64 0, .slice none 0 0] 27 (0, 0)) := by rw [← hB]; exact push_get (by simp)
  simp -dsimp [-intRes_shl, w1, hsh]
  refine call_by (within14_spec a _ hp0 (by omega) _) ?_
  rintro _ h0' ⟨rfl, hh⟩
  obtain rfl := hh.symm
  simp -dsimp
  rw [push_set rfl]
  obtain ⟨a0, ea⟩ : ∃ a0, a0 = withinM a (2 ^ s.cards.length) := ⟨_, rfl⟩
  rw [← ea] at hK ⊢
  generalize hD : Array.push h0 _ = h1
  have t1 : Tr none_ (fun b => b = h.size + 2) h h1 := by
    have t := (Tr.of k0).pushM (.cells #[.int .i64 a0, .slice none 0 0] 27)
    rw [hD, z0] at t
    exact t.less fun b hb => .inr hb
  have w3 : h1[h.size + 2]? = some (.cells #[.int .i64 a0, .slice none 0 0] 27 (0, 0)) := by rw [← hD]; exact push_get (by omega)
  have w11 : h1[h.size]? = some (.cells #[.slice ca s.cards.length cc, .int .i64 s.ms] 30 (0, 0)) := by rw [← hD]; exact push_at w1
  have w21 : h1[h.size + 1]? = some (.cells #[.int .i64 0, .slice none 0 0] 27 (0, 0)) := by rw [← hD]; exact push_at w2
  rw [z0]
  refine loopc (σ := Nat × Value) (fun t => [(2, .slice fa ns.length fc), (3, .pointer (some ⟨h.size, 0, none⟩)), (6, .pointer (some ⟨h.size + 1, 0, none⟩)), (7, .pointer (some ⟨h.size + 2, 0, none⟩)), (8, .int .i64 ((ns.take t.1).foldl (filStep s.cards) (0, [])).1), (9, .int .i64 t.1)])
    (fun t y => ∃ M own, Tr none_ M h y ∧ M (h.size + 2) ∧ (∀ b, own = some b → h.size + 3 ≤ b) ∧ (∀ b, M b → h.size + 2 ≤ b) ∧ (t.1 ≤ ns.length ∧ t.1 ≤ 4) ∧ y[h.size]? = some (.cells #[.slice ca s.cards.length cc, .int .i64 s.ms] 30 (0, 0)) ∧
      y[h.size + 1]? = some (.cells #[.int .i64 0, .slice none 0 0] 27 (0, 0)) ∧ y[h.size + 2]? = some (.cells #[.int .i64 a0, t.2] 27 (0, 0)) ∧ Gr rFil 57 (h.size + 3) M y t.2 ((ns.take t.1).foldl (filStep s.cards) (0, [])).2 own)
    (fun t => 4 - t.1) (0, .slice none 0 0) 0 (fun t _ => ¬ (t.1 < ns.length ∧ t.1 < 4)) noRet noRet_le (by simp)
    ⟨_, none, t1, rfl, (fun _ h => by cases h), (fun b hb => by rw [hb]; omega), ⟨Nat.zero_le _, Nat.zero_le _⟩, w11, w21, w3, .nil _ _ _ _ _⟩ (by kernel_rfl) ?_ ?_
  case refine_2 =>
    rintro ⟨i, v⟩ y g ⟨M, own, t, hM2, hown, hMn, ⟨hi1, hi2⟩, v1, v2, v3, gr⟩ hin
    simp only at hi1 hi2 v1 v2 v3 gr hin
    have ei : ns.take i = ns.take 4 := by
      rcases Nat.lt_or_ge i 4 with h4 | h4
      · rw [List.take_of_length_le (by omega), List.take_of_length_le (by omega)]
      · rw [show i = 4 by omega]
    rw [ei] at gr
    obtain ⟨va, vn, vc, rfl, _⟩ := gr.vals
    simp -dsimp [v3, v2]
    have hy2 := lt_of_blk v2
    have hs : (y.setIfInBounds (h.size + 1) (.cells #[.int .i64 a0, .slice va vn vc] 27 (0, 0)))[h.size + 1]? = some (.cells #[.int .i64 a0, .slice va vn vc] 27 (0, 0)) := set_same _ hy2
    simp -dsimp [hs]
    have kk : Keep none_ h y := ⟨t.size, fun b hb _ => t.keep.blk b hb (fun h => h)⟩
    have e : (filsM s.cards ns) = ((ns.take 4).foldl (filStep s.cards) (0, [])).2 := rfl
    refine hK _ _ ⟨_, rfl, ?_, kk.setted _ fun hh => by omega⟩
    rw [e]
    refine (gr.rep (Nat.le_refl _) hown).mono fun b hb => ?_
    have hb1 := hb.1.1
    have e : (y.setIfInBounds (h.size + 1) (.cells #[.int .i64 a0, .slice va vn vc] 27))[b]? = y[b]? := set_other _ (by omega)
    exact ⟨⟨hb.1.at (by omega) e, by simpa using hb.2.1, fun h => h⟩, e⟩
  rintro ⟨i, v⟩ y g ⟨M, own, t, hM2, hown, hMn, ⟨hi1, hi2⟩, v1, v2, v3, gr⟩
  simp only at hi1 hi2 v1 v2 v3 gr
  have wi := wrap_succ (k := i) (by omega)
  obtain ⟨va, vn, vc, rfl, hvn⟩ := gr.vals
  have hsz := t.size
  by_cases hil : i < ns.length
  · by_cases h4 : i < 4
    · have h4' : (i : Int) < 4 := by omega
      obtain ⟨b1, o1, e1, _, hx⟩ := (hf0.mono t.old).int_at i hil
      subst e1
      obtain ⟨x, ex⟩ : ∃ x, x = ns[i] := ⟨_, rfl⟩
      rw [← ex] at hx
      have hD0 := withinM_bound (a := x) (n := (s.cards.length : Int)) (by omega)
      obtain ⟨D, eD⟩ : ∃ D : Nat, withinM x s.cards.length = D := ⟨(withinM x s.cards.length).toNat, by omega⟩
      have hDl : D < s.cards.length := by omega
      have eT : (withinM x s.cards.length).toNat = D := by omega
      have hst : (ns.take (i + 1)).foldl (filStep s.cards) (0, []) = filStep s.cards ((ns.take i).foldl (filStep s.cards) (0, [])) x := by
        rw [List.take_add_one, List.getElem?_eq_getElem hil, Option.toList_some, List.foldl_append, ← ex]
        rfl
      have hfo := filOne_ok ok x
      have hso := filStep_ok ok (ns.take i) (0, []) rfl rfl
      obtain ⟨st, est⟩ : ∃ st, st = (ns.take i).foldl (filStep s.cards) (0, []) := ⟨_, rfl⟩
      rw [← est] at hst gr hso hvn ⊢
      have hfl : st.2.length ≤ 4 := by
        have h1 := hso.2.2
        have h2 := List.length_take_le i ns
        simp only [List.length_nil] at h1
        omega
      rw [filStep_at, eT] at hst
      simp -dsimp [hil, h4']
      refine drawn_by [⟨0, true, []⟩, ⟨1, true, []⟩, ⟨2, true, []⟩, ⟨3, true, []⟩, ⟨4, true, []⟩, ⟨5, true, []⟩, ⟨6, true, []⟩, ⟨7, false, []⟩, ⟨8, true, []⟩] (by kernel_rfl) (by kernel_rfl) ?_
      simp -dsimp [v1, idxV_nat hil, elSz_eq, hx]
      refine call_by (within14_spec x _ (by omega) (by omega) _) ?_
      rintro _ y' ⟨rfl, hh⟩
      obtain rfl := hh.symm
      rw [eD]
      have hshr : intRes .shr .i64 st.1 (IntKind.u64.wrap (D : Int)) = some (.int .i64 (st.1.fdiv (2 ^ D))) := shr_bit (s := st.1) (k := D) (by omega)
      have hshl := shl_one (k := D) (by omega)
      by_cases c6 : bitM st.1 D = true
      · rw [if_pos c6] at hst
        simp -dsimp [-intRes_shr, again_cons, hshr, bit_op, c6, wi]
        refine ⟨(i + 1, .slice va vn vc), by simp [hst], rfl, ⟨M, own, t, hM2, hown, hMn, ⟨hil, h4⟩, v1, v2, v3, by rw [hst]; exact gr⟩, by show 4 - (i + 1) < 4 - i; omega⟩
      · have c6' : bitM st.1 D = false := by simpa using c6
        rw [if_neg c6] at hst
        obtain ⟨b5, o5, e5, _, hc5⟩ := (hc0.mono t.old).int_at D hDl
        subst e5
        obtain ⟨c, ec⟩ : ∃ c, c = s.cards[D] := ⟨_, rfl⟩
        rw [← ec] at hc5
        have hcb := ok.cards _ (List.getElem_mem hDl)
        rw [← ec] at hcb
        have hca : cardAt s.cards D = c := by rw [ec]; exact cardAt_get (by omega) (by omega)
        have hone : filOne s.cards x = ⟨D, withinM (IntKind.i64.wrap (x.tdiv 4)) c, withinM (IntKind.i64.wrap (x.tdiv 4)) c + withinM (IntKind.i64.wrap (x.tdiv 70)) (c - withinM (IntKind.i64.wrap (x.tdiv 4)) c)⟩ := by
          unfold filOne
          simp only [eD, hca]
        rw [hone] at hst
        have b1' := withinM_bound (a := IntKind.i64.wrap (x.tdiv 4)) (n := c) (by omega)
        obtain ⟨lo, elo⟩ : ∃ lo, lo = withinM (IntKind.i64.wrap (x.tdiv 4)) c := ⟨_, rfl⟩
        rw [← elo] at b1' hst
        have b2' := withinM_bound (a := IntKind.i64.wrap (x.tdiv 70)) (n := c - lo) (by omega)
        have wc : IntKind.i64.wrap (c - lo) = c - lo := wrap_i64 (by omega) (by omega)
        obtain ⟨dh, edh⟩ : ∃ dh, dh = withinM (IntKind.i64.wrap (x.tdiv 70)) (c - lo) := ⟨_, rfl⟩
        rw [← edh] at b2' hst
        have wh : IntKind.i64.wrap (lo + dh) = lo + dh := wrap_i64 (by omega) (by omega)
        simp -dsimp [-intRes_shr, -intRes_shl, -intRes_or, again_cons, hshr, hshl, or_op, bit_op, c6']
        refine drawn_by [⟨0, true, []⟩, ⟨1, true, []⟩, ⟨2, true, []⟩, ⟨3, true, []⟩, ⟨4, true, []⟩, ⟨5, true, []⟩, ⟨6, true, []⟩, ⟨7, true, []⟩, ⟨8, true, []⟩, ⟨9, true, []⟩, ⟨10, false, []⟩, ⟨11, true, []⟩] (by kernel_rfl) (by kernel_rfl) ?_
        simp -dsimp [v1, idxV_nat hil, idxV_nat hDl, elSz_eq, hx, hc5]
        refine call_by (within14_spec _ c (by omega) (by omega) _) ?_
        rintro _ y' ⟨rfl, hh⟩
        obtain rfl := hh.symm
        rw [← elo]
        simp -dsimp [again_cons]
        refine drawn_by [⟨0, true, []⟩, ⟨1, true, []⟩, ⟨2, true, []⟩, ⟨3, true, []⟩, ⟨4, true, []⟩, ⟨5, true, []⟩, ⟨6, true, []⟩, ⟨7, true, []⟩, ⟨8, true, []⟩, ⟨9, true, []⟩, ⟨10, true, []⟩, ⟨11, true, []⟩, ⟨12, true, []⟩, ⟨13, true, []⟩, ⟨14, true, []⟩, ⟨15, true, []⟩, ⟨16, true, []⟩, ⟨17, false, [0, 1, 2, 3, 4]⟩, ⟨18, true, []⟩, ⟨19, false, [0, 1]⟩, ⟨20, false, [0, 1]⟩, ⟨21, false, []⟩, ⟨22, true, []⟩, ⟨23, false, []⟩] (by kernel_rfl) (by kernel_rfl) ?_
        simp -dsimp [v1, v3, idxV_nat hil, idxV_nat hDl, elSz_eq, hx, hc5, wc]
        refine call_by (within14_spec _ (c - lo) (by omega) (by omega) _) ?_
        rintro _ y' ⟨rfl, hh⟩
        obtain rfl := hh.symm
        rw [← edh]
        have v3p : ∀ o, (y.push o)[h.size + 2]? = _ := fun o => push_at v3
        simp -dsimp [again_cons, wh, v3, v3p]
        refine gr_app1 (x := ⟨(D : Int), lo, lo + dh⟩) rfl filT gr t.lt rfl rfl (by omega) (by omega) ?_
        intro v' y2 own' g2 t2 k2 ho
        have u1 := k2.at v1 (fun e => by have := hown _ e; omega)
        have u2 := k2.at v2 (fun e => by have := hown _ e; omega)
        have u3 := k2.at v3 (fun e => by have := hown _ e; omega)
        have hown' : ∀ b, own' = some b → h.size + 3 ≤ b := fun b e => (ho _ e).elim (hown b) (by have := lt_of_blk v3; omega)
        obtain ⟨va', vn', vc', rfl, _⟩ := g2.vals
        simp -dsimp [u3, wi]
        refine ⟨(i + 1, .slice va' vn' vc'), by simp [hst], rfl, ⟨_, own', (t.trans t2).set _ (.inl hM2), .inl hM2, hown', fun b hb => hb.elim (hMn b) fun e => by have := hown' b e; omega, ⟨hil, h4⟩, (set_other _ (by omega)).trans u1, (set_other _ (by omega)).trans u2, set_same _ (lt_of_blk u3), ?_⟩, by show 4 - (i + 1) < 4 - i; omega⟩
        rw [hst]
        exact g2.set _ (.inl hM2) (fun e => by have := hown' _ e; omega)
    · have h4' : ¬ (i : Int) < 4 := by omega
      simp -dsimp [hil, h4']
      exact ⟨rfl, (i, .slice va vn vc), by simp, rfl, ⟨M, own, t, hM2, hown, hMn, ⟨hi1, hi2⟩, v1, v2, v3, gr⟩, fun hh => h4 hh.2⟩
  · simp -dsimp [hil]
    exact ⟨rfl, (i, .slice va vn vc), by simp, rfl, ⟨M, own, t, hM2, hown, hMn, ⟨hi1, hi2⟩, v1, v2, v3, gr⟩, fun hh => hil hh.1⟩
end Go.Proofs

/-
  Ask and Server of both, told by ansM, errM, srvM.
-/
namespace Go.Proofs
open Go Go.HC

theorem pask2_spec {h : Heap} {v fv : Value} {F : Nat → Prop} {M : Mod} {s : SchM} {rows : List RowM} {a : Int} {fs : List FilM} (st : StAt v F h M) (hu : usedF M.files < 1000000) (hq : SlRep rFil (Old h) h fv fs) (C : CubeAt M s rows) :
    CallH Tryz.prog 18 #[v, .agg #[.int .i64 a, fv]] h fun r h' => ∃ cv, r = .tuple #[cv, .int .i64 (errM (comM M rows) s.cards a fs)] ∧ Keep none_ h h' ∧ SlRep rCell (Ft h.size none_ h') h' cv (ansM (comM M rows) s.cards a fs) := by
  refine (pask_spec st hu hq C).mono fun r h1 hr => ?_
  obtain ⟨cv, e, rfl, k, hc⟩ := hr
  refine ⟨cv, ?_, k, ?_⟩
  · unfold errM
    rcases hc with ⟨h1, _, rfl⟩ | ⟨h1, h2, _, rfl⟩ | ⟨h1, x, l, h2, rfl, _⟩
    · rw [if_neg (by rw [h1]; decide)]
    · rw [if_pos h1, h2]
    · rw [if_pos h1, h2]
  · unfold ansM
    rcases hc with ⟨h1, rfl, rfl⟩ | ⟨h1, h2, rfl, rfl⟩ | ⟨h1, x, l, h2, rfl, hn⟩
    · rw [if_neg (by rw [h1]; decide)]; exact ⟨none, 0, [], rfl, Nat.le_refl _, by decide, .inl rfl, rfl⟩
    · rw [if_pos h1, h2]; exact ⟨none, 0, [], rfl, Nat.le_refl _, by decide, .inl rfl, rfl⟩
    · rw [if_pos h1, h2]; exact hn.rep (Nat.le_refl _)

theorem ask14b_spec {h : Heap} {v fv : Value} {F : Nat → Prop} {M : Mod} {s : SchM} {rows : List RowM} {a : Int} {fs : List FilM} (st : RefAt v F h M) (hu : usedF M.files < 1000000) (hl : M.files.length < 1000000) (hq : SlRep rFil (Old h) h fv fs) (C : CubeAt M s rows) :
    CallH Tryz.prog 19 #[v, .agg #[.int .i64 a, fv]] h fun r h' => ∃ cv, r = .tuple #[cv, .int .i64 (errM (comM M rows) s.cards a fs)] ∧ Keep none_ h h' ∧ SlRep rCell (Ft h.size none_ h') h' cv (ansM (comM M rows) s.cards a fs) := by
  refine (ask14_spec st hu hl hq C).mono fun r h1 hr => ?_
  obtain ⟨cv, e, rfl, k, hc⟩ := hr
  refine ⟨cv, ?_, k, ?_⟩
  · unfold errM
    rcases hc with ⟨h1, _, rfl⟩ | ⟨h1, h2, _, rfl⟩ | ⟨h1, x, l, h2, rfl, _⟩
    · rw [if_neg (by rw [h1]; decide)]
    · rw [if_pos h1, h2]
    · rw [if_pos h1, h2]
  · unfold ansM
    rcases hc with ⟨h1, rfl, rfl⟩ | ⟨h1, h2, rfl, rfl⟩ | ⟨h1, x, l, h2, rfl, hn⟩
    · rw [if_neg (by rw [h1]; decide)]; exact ⟨none, 0, [], rfl, Nat.le_refl _, by decide, .inl rfl, rfl⟩
    · rw [if_pos h1, h2]; exact ⟨none, 0, [], rfl, Nat.le_refl _, by decide, .inl rfl, rfl⟩
    · rw [if_pos h1, h2]; exact hn

theorem srv_of {com : Nat → Option (List CellM)} {cards : List Int} {a : Int} {fs : List FilM} {x : Int} {ok : Bool} (h : (rightM cards a fs = false ∧ x = 0 ∧ ok = false) ∨ (rightM cards a fs = true ∧ serveM com (needM a fs) (2 ^ cards.length) = none ∧ x = 0 ∧ ok = false) ∨
        (rightM cards a fs = true ∧ ∃ k l, serveM com (needM a fs) (2 ^ cards.length) = some (k, l) ∧ x = k ∧ ok = true)) : x = (srvM com cards a fs).1 ∧ ok = (srvM com cards a fs).2 := by
  unfold srvM
  rcases h with ⟨h1, rfl, rfl⟩ | ⟨h1, h2, rfl, rfl⟩ | ⟨h1, k, l, h2, rfl, rfl⟩
  · rw [if_neg (by rw [h1]; decide)]; exact ⟨rfl, rfl⟩
  · rw [if_pos h1, h2]; exact ⟨rfl, rfl⟩
  · rw [if_pos h1, h2]; exact ⟨rfl, rfl⟩

theorem pserver2_spec {h : Heap} {v fv : Value} {F : Nat → Prop} {M : Mod} {s : SchM} {rows : List RowM} {a : Int} {fs : List FilM} (st : StAt v F h M) (hu : usedF M.files < 1000000) (hq : SlRep rFil (Old h) h fv fs) (C : CubeAt M s rows) :
    CallH Tryz.prog 20 #[v, .agg #[.int .i64 a, fv]] h fun r h' => r = .tuple #[.int .i64 (srvM (comM M rows) s.cards a fs).1, .bool (srvM (comM M rows) s.cards a fs).2] ∧ Keep none_ h h' := by
  refine (pserver_spec st hu hq C).mono fun r h1 hr => ?_
  obtain ⟨x, ok, rfl, k, hc⟩ := hr
  obtain ⟨rfl, rfl⟩ := srv_of hc
  exact ⟨rfl, k⟩

end Go.Proofs

/-
  law14's known.
-/
namespace Go.HC
def sch1 : SchM := ⟨[2], 0⟩
def row1 : RowM := ⟨[1], []⟩
def cel1 : CellM := ⟨[1], 1, [], [], []⟩
theorem facts1_ok : FactsOk sch1 [row1] := by
  refine ⟨by decide, fun c hc => ?_, by decide, by decide, fun r hr => ?_, fun r hr => ?_⟩
  · rw [show sch1.cards = [2] from rfl, List.mem_singleton] at hc; subst hc; decide
  · rw [List.mem_singleton] at hr; subst hr
    refine ⟨rfl, fun i h h' => ?_⟩
    have : i = 0 := by have : i < 1 := h; omega
    subst this
    show (0 : Int) ≤ 1 ∧ (1 : Int) < 2
    decide
  · rw [List.mem_singleton] at hr; subst hr
    exact ⟨rfl, fun x hx => by cases hx⟩
theorem group1 : groupC ([row1].map (ofM ((1 : Nat) : Int))) = [cel1] := by kernel_rfl
theorem two1 : ∃ M N n, M = (((stM 1000 sch1 [row1]).write (nameK ((1 : Nat) : Int)) (encC ((1 : Nat) : Int) [cel1])).2.sync (nameK ((1 : Nat) : Int))).2 ∧ Two 1000 M N sch1 [row1] [1] n ∧ n ≤ 1000 := by
  have l1 : (encF sch1 [row1]).length = 10 := by kernel_rfl
  have l2 : (encC ((1 : Nat) : Int) [cel1]).length = 6 := by kernel_rfl
  have t0 := Two.start (L := 1000) facts1_ok (by rw [l1]; decide)
  have t1 := t0.add (k := 1) (by decide) (by rw [group1, l1, l2]; decide)
  rw [group1, l1, l2] at t1
  exact ⟨_, _, _, rfl, t1, by decide⟩
theorem ask1 {M : Mod} (h0 : (M.look (nameK ((0 : Nat) : Int))).isSome = false) (h1 : (M.look (nameK ((1 : Nat) : Int))).isSome = true) :
    errM (comM M [row1]) [2] 0 [] = 0 ∧ ansM (comM M [row1]) [2] 0 [] = [⟨[], 1, [], [], []⟩] ∧ srvM (comM M [row1]) [2] 1 [] = (1, true) := by
  have c0 : comM M [row1] 0 = none := by unfold comM; rw [if_neg (by rw [h0]; decide)]
  have c1 : comM M [row1] 1 = some [cel1] := by unfold comM; rw [if_pos h1, group1]
  have hs : ∀ need : Int, andM ((1 : Nat) : Int) need = need → serveM (comM M [row1]) need 2 = some (1, [cel1]) := fun need hn => by
    have e1 : serveM (comM M [row1]) need 1 = none := by
      rw [serve_none]
      intro x hx _
      rw [show x = 0 by omega, c0]
    rw [serve_succ, e1]
    unfold stepM
    rw [if_pos hn, c1]
  have q0 : serveM (comM M [row1]) (needM 0 []) (2 ^ [(2 : Int)].length) = some (1, [cel1]) := hs 0 (by decide)
  have q1 : serveM (comM M [row1]) (needM 1 []) (2 ^ [(2 : Int)].length) = some (1, [cel1]) := hs 1 (by decide)
  have r0 : rightM [2] 0 [] = true := by decide
  have r1 : rightM [2] 1 [] = true := by decide
  unfold errM ansM srvM
  rw [if_pos r0, if_pos r0, if_pos r1, q0, q1]
  exact ⟨rfl, by kernel_rfl, rfl⟩
end Go.HC
namespace Go.Proofs
open Go Go.HC

set_option maxHeartbeats 4000000 in
set_option maxRecDepth 10000 in
theorem known14_spec (h : Heap) : CallH Tryz.prog 12 #[] h fun r h' => r = .bool true ∧ Keep none_ h h' := by
  refine callH_by fun K hK => ?_
  refine enter [.tmp 0] Tryz.func12 rfl rfl (by kernel_rfl) rfl ?_
  simp -dsimp
  refine call_by (new_spec 1000 h) ?_
  rintro v h1 ⟨F0, s0, k1, hF0⟩
  have hvp : ∃ p, v = .pointer (some p) := by obtain ⟨bs, bm, es, clock, tv, own, R, rfl, _⟩ := s0; exact ⟨_, rfl⟩
  obtain ⟨vp, rfl⟩ := hvp
  simp -dsimp
  refine call_by (pask_not s0 (by decide) (by decide) rfl fun hf => by have := hf.1; cases this) ?_
  rintro _ h2 ⟨rfl, k2⟩
  have s2 := s0.keep k2 fun _ _ h => h
  simp -dsimp
  generalize hB : Array.push (Array.push (Array.push h2 _) _) _ = h3
  have k3 : Keep none_ h2 h3 := by rw [← hB]; exact (((Keep.refl none_ h2).pushed _).pushed _).pushed _
  have s3 := s2.keep k3 fun _ _ h => h
  have w1 : h3[h2.size]? = some (.cells #[.int .i64 2] 3 (0, 0)) := by rw [← hB]; exact push_at (push_at (push_new _ _))
  have w2 : h3[h2.size + 1]? = some (.cells #[.int .i64 1] 3 (0, 0)) := by rw [← hB]; exact push_at (push_get (by simp))
  have w3 : h3[h2.size + 2]? = some (.cells #[.slice (some ⟨h2.size + 1, 0, none⟩) 1 1, .slice none 0 0] 62 (0, 0)) := by rw [← hB]; exact push_get (by simp)
  have rC : SlRep rInt (Old h3) h3 (.slice (some ⟨h2.size, 0, none⟩) 1 1) sch1.cards :=
    ⟨_, 1, _, rfl, Nat.le_refl _, by decide, .inr ⟨h2.size, 0, _, _, _, rfl, ⟨nz, lt_of_blk w1, fun h => h⟩, w1, rfl⟩, .single rfl⟩
  have rR : SlRep rRow (Old h3) h3 (.slice (some ⟨h2.size + 2, 0, none⟩) 1 1) [row1] := by
    refine ⟨_, 1, [.slice (some ⟨h2.size + 1, 0, none⟩) 1 1, .slice none 0 0], rfl, Nat.le_refl _, by decide, .inr ⟨h2.size + 2, 0, _, _, _, rfl, ⟨nz, lt_of_blk w3, fun h => h⟩, w3, rfl⟩, .single ?_⟩
    refine ⟨_, _, rfl, ?_, .nil _ _ _⟩
    exact ⟨_, 1, _, rfl, Nat.le_refl _, by decide, .inr ⟨h2.size + 1, 0, _, _, _, rfl, ⟨nz, lt_of_blk w2, fun h => h⟩, w2, rfl⟩, .single rfl⟩
  have hzz : h2.size + 1 + 1 = h2.size + 2 := rfl
  refine call_by (rencode_spec (s := sch1) rC rR (by decide) (by decide) fun r hr => by rw [List.mem_singleton] at hr; subst hr; decide) ?_
  rintro bv h4 ⟨hb, k4⟩
  have s4 := s3.keep k4 fun _ _ h => h
  have sm0 : (Mod.new 1000).Small 0 := ⟨Nat.le_refl _, Nat.le_refl _, Nat.le_refl _⟩
  have o0 := Mod.Ok.new 1000
  have l1 : (encF sch1 [row1]).length = 10 := by kernel_rfl
  have sm1 := small_write o0.sorted sm0 nmFact (encF sch1 [row1])
  have o1 := o0.write nmFact (encF sch1 [row1])
  have sm2 := small_sync o1.sorted sm1 nmFact
  rw [l1] at sm1 sm2
  simp -dsimp
  refine call_by (put14_spec s4 sm0 (by omega) nmFact hb (fun b h => h.2.1) (by omega) sm1 (by omega)) ?_
  rintro _ h5 ⟨F1, s5, k5, hF1⟩
  simp -dsimp
  generalize hC : Array.push (Array.push h5 _) _ = h6
  have k6 : Keep none_ h5 h6 := by rw [← hC]; exact ((Keep.refl none_ h5).pushed _).pushed _
  have s6 := s5.keep k6 fun _ _ h => h
  have w4 : h6[h5.size]? = some (.cells #[.int .i64 1] 3 (0, 0)) := by rw [← hC]; exact push_at (push_new _ _)
  have w5 : h6[h5.size + 1]? = some (.cells #[.slice (some ⟨h5.size, 0, none⟩) 1 1, .int .i64 1, .slice none 0 0, .slice none 0 0, .slice none 0 0] 65 (0, 0)) := by rw [← hC]; exact push_get (by simp)
  have rL : SlRep rCell (Old h6) h6 (.slice (some ⟨h5.size + 1, 0, none⟩) 1 1) [cel1] := by
    refine ⟨_, 1, [.slice (some ⟨h5.size, 0, none⟩) 1 1, .int .i64 1, .slice none 0 0, .slice none 0 0, .slice none 0 0], rfl, Nat.le_refl _, by decide, .inr ⟨h5.size + 1, 0, _, _, _, rfl, ⟨nz, lt_of_blk w5, fun h => h⟩, w5, rfl⟩, .single ?_⟩
    refine ⟨_, _, _, _, rfl, ?_, .nil _ _ _, .nil _ _ _, .nil _ _ _⟩
    exact ⟨_, 1, _, rfl, Nat.le_refl _, by decide, .inr ⟨h5.size, 0, _, _, _, rfl, ⟨nz, lt_of_blk w4, fun h => h⟩, w4, rfl⟩, .single rfl⟩
  refine call_by (cencode_spec (m := 0) 1 rL (by decide) (by decide) fun c hc => by rw [List.mem_singleton] at hc; subst hc; exact ⟨by decide, rfl, rfl, rfl⟩) ?_
  rintro cv h7 ⟨hc, k7⟩
  have s7 := s6.keep k7 fun _ _ h => h
  obtain ⟨M, N, n, eM, tw, hn⟩ := two1
  have l2 : (encC 1 [cel1]).length = 6 := by kernel_rfl
  have sm3 := small_write (o1.sync nmFact).sorted sm2 (nameK 1) (encC 1 [cel1])
  rw [l2] at sm3
  simp -dsimp
  refine call_by (put14_spec s7 sm2 (by omega) (nameK 1) hc (fun b h => h.2.1) (by omega) sm3 (by omega)) ?_
  rintro _ h8 ⟨F2, s8, k8, hF2⟩
  replace s8 : StAt (.pointer (some vp)) F2 h8 M := by rw [eM]; exact s8
  have hu := tw.smM.used
  have hc0 : (M.look (nameK ((0 : Nat) : Int))).isSome = false := by
    cases hq : (M.look (nameK ((0 : Nat) : Int))).isSome with
    | false => rfl
    | true => exact absurd ((tw.com 0 (by decide)).1 hq) (by decide)
  have hc1 : (M.look (nameK ((1 : Nat) : Int))).isSome = true := (tw.com 1 (by decide)).2 (by decide)
  obtain ⟨a1, a2, a3⟩ := ask1 hc0 hc1
  simp -dsimp
  refine call_by (pask2_spec (a := 0) (fs := []) s8 (by omega) (.nil _ _ _) tw.cube) ?_
  rintro _ h9 ⟨lv, rfl, k9, hl⟩
  rw [show sch1.cards = [2] from rfl, a1] 
  rw [show sch1.cards = [2] from rfl, a2] at hl
  have s9 := s8.keep k9 fun _ _ h => h
  have r9 : SlRep rCell (Old h9) h9 lv [⟨[], 1, [], [], []⟩] := hl.mono (Ft.free (Nat.zero_le _))
  obtain ⟨la, lc, rfl, _, _⟩ := r9.val
  simp -dsimp
  refine call_by (pserver2_spec (a := 1) (fs := []) s9 (by omega) (.nil _ _ _) tw.cube) ?_
  rintro _ h10 ⟨rfl, k10⟩
  rw [show sch1.cards = [2] from rfl, a3]
  have r10 := r9.mono ((Tr.of k10).ft (Nat.le_refl 0))
  obtain ⟨b3, o3, cs3, e3, hf3, hrep3, hx3⟩ := r10.get 0 (by simp)
  obtain ⟨ka, kc, sa, sc, na', nc', xa, xc, rfl, _⟩ := cell_open hrep3
  have hx3' : HC.cellIn h10[b3]? (o3 + 1) = some (.int .i64 1) := by
    have := cellsIn_cell (d := 1) hx3 (by decide)
    simpa using this
  cases e3
  simp -dsimp [hx3', idxA_zero (show 0 < 1 by decide)]
  have q2 : Keep none_ h h4 := ((k1.trans k2 fun _ _ h => h).trans k3 fun _ _ h => h).trans k4 fun _ _ h => h
  have q5 : Keep none_ h h5 := q2.trans k5 fun b hb hf => absurd (hF0 b hf) (by omega)
  have q7 : Keep none_ h h7 := (q5.trans k6 fun _ _ h => h).trans k7 fun _ _ h => h
  have q8 : Keep none_ h h8 := q7.trans k8 fun b hb hf => by
    rcases hF1 b hf with h1' | h1'
    · have := hF0 b h1'; omega
    · have := q2.size; omega
  exact hK _ _ ⟨rfl, (q8.trans k9 fun _ _ h => h).trans k10 fun _ _ h => h⟩
end Go.Proofs

/-
  The rows of law14, plainly.
-/
namespace Go.HC
theorem FactsOk.sub {s : SchM} {rows rows' : List RowM} (ok : FactsOk s rows) (h : rows'.Sublist rows) : FactsOk s rows' :=
  ⟨ok.dims, ok.cards, ok.ms, Nat.le_trans h.length_le ok.len, fun r hr => ok.key r (h.subset hr), fun r hr => ok.m r (h.subset hr)⟩
end Go.HC

/-
  A query's cells, plainly: how long their parts are.
-/
namespace Go.HC
theorem ans_cells {M : Mod} {s : SchM} {rows : List RowM} (ok : FactsOk s rows) {a : Int} {fs : List FilM} (hr : rightM s.cards a fs = true) : ∀ c ∈ ansM (comM M rows) s.cards a fs, CelOk s a c := by
  intro c hc
  by_cases he : errM (comM M rows) s.cards a fs = 0
  · rw [ans_rows ok hr he] at hc
    have h := (right_set hr).1
    exact (cub_ok (ok.sub List.filter_sublist) h.1 h.2).cel c hc
  · unfold ansM at hc
    unfold errM at he
    rw [if_pos hr] at hc he
    cases hs : serveM (comM M rows) (needM a fs) (2 ^ s.cards.length) with
    | none => rw [hs] at hc; cases hc
    | some b => rw [hs] at he; exact absurd rfl he
theorem ans_len {M : Mod} {s : SchM} {rows : List RowM} (ok : FactsOk s rows) {a : Int} {fs : List FilM} (hr : rightM s.cards a fs = true) : (ansM (comM M rows) s.cards a fs).length ≤ 300 := by
  by_cases he : errM (comM M rows) s.cards a fs = 0
  · rw [ans_rows ok hr he]
    have h := (right_set hr).1
    exact (cub_ok (ok.sub List.filter_sublist) h.1 h.2).len
  · unfold ansM
    unfold errM at he
    rw [if_pos hr] at he ⊢
    cases hs : serveM (comM M rows) (needM a fs) (2 ^ s.cards.length) with
    | none => simp
    | some b => rw [hs] at he; exact absurd rfl he
end Go.HC

/-
  Queries in a row; a slice of one number that grows.
-/
namespace Go.HC
end Go.HC

/-
  Integers written over: integers they stay.
-/
namespace Go.HC
theorem ints_some : ∀ {cs : List Value}, (∀ v ∈ cs, ∃ x, v = .int .i64 x) → ∃ xs : List Int, cs = xs.map (Value.int .i64)
  | [], _ => ⟨[], rfl⟩
  | v :: cs, h => by
    obtain ⟨x, rfl⟩ := h v List.mem_cons_self
    obtain ⟨xs, rfl⟩ := ints_some fun w hw => h w (List.mem_cons_of_mem _ hw)
    exact ⟨x :: xs, rfl⟩
/-- Integers, one of which is written: integers they stay. -/
theorem SlRep.written {F : Nat → Prop} {h : Heap} {v : Value} {xs : List Int} (hs : SlRep rInt F h v xs) {bk j : Nat} {arr : Array Value} {e : TypeId} {fz : Nat × Nat} (hb : h[bk]? = some (.cells arr e fz)) (y : Int) :
    ∃ ys : List Int, ys.length = xs.length ∧ SlRep rInt F (h.setIfInBounds bk (.cells (arr.setIfInBounds j (.int .i64 y)) e fz)) v ys := by
  obtain ⟨a, c, cs, rfl, h1, h2, h3, h4⟩ := hs
  have hcs := ints_map.1 h4
  have hl : cs.length = xs.length := by rw [hcs, List.length_map]
  rcases h3 with rfl | ⟨b, off, c', e', fz', rfl, hf, hw, ht⟩
  · have : xs = [] := by cases xs with | nil => rfl | cons _ _ => cases hcs
    subst this
    exact ⟨[], rfl, a, c, [], rfl, h1, h2, .inl rfl, rfl⟩
  · by_cases hbb : bk = b
    · subst hbb
      rw [hb] at hw
      cases hw
      have hlt := lt_of_blk hb
      have hz0 : arr.toList.length = arr.size := Array.length_toList
      obtain ⟨ys, hys⟩ : ∃ ys : List Int, (((arr.setIfInBounds j (.int .i64 y)).toList.drop off).take xs.length) = ys.map (Value.int .i64) := by
        refine ints_some fun v hv => ?_
        obtain ⟨i, hi, rfl⟩ := List.mem_iff_getElem.1 hv
        rw [List.getElem_take, List.getElem_drop]
        have hi' : i < xs.length := by rw [List.length_take] at hi; omega
        have hi2 : i < cs.length := by omega
        have hcl : ((arr.toList.drop off).take cs.length).length = xs.length := by rw [ht, hl]
        rw [List.length_take, List.length_drop, hz0] at hcl
        simp only [Array.toList_setIfInBounds, List.getElem_set]
        split
        · exact ⟨y, rfl⟩
        · have e2 : ((arr.toList.drop off).take cs.length)[i]? = cs[i]? := by rw [ht]
          rw [List.getElem?_take, if_pos hi2, List.getElem?_drop, hcs, List.getElem?_map, List.getElem?_eq_getElem hi'] at e2
          have hlt2 : off + i < arr.toList.length := by omega
          rw [List.getElem?_eq_getElem hlt2] at e2
          exact ⟨_, Option.some.inj e2⟩
      have hyl : ys.length = xs.length := by
        have := congrArg List.length hys
        have hz : (arr.setIfInBounds j (.int .i64 y)).toList.length = arr.size := by simp
        have hcl : ((arr.toList.drop off).take cs.length).length = xs.length := by rw [ht, hl]
        rw [List.length_take, List.length_drop, hz0] at hcl
        rw [List.length_take, List.length_drop, hz, List.length_map] at this
        omega
      refine ⟨ys, hyl, _, c, ys.map (Value.int .i64), by rw [hyl], by rw [hyl]; exact h1, h2, .inr ⟨bk, off, _, _, _, rfl, hf, set_same _ hlt, ?_⟩, ints_map.2 rfl⟩
      rw [List.length_map, hyl, hys]
    · exact ⟨xs, rfl, _, c, cs, rfl, h1, h2, .inr ⟨b, off, c', e', fz', rfl, hf, (set_other _ hbb).trans hw, ht⟩, ints_map.2 hcs⟩
/-- Cells alike long. -/
def Like (c d : CellM) : Prop := c.key.length = d.key.length ∧ c.mn.length = d.mn.length ∧ c.mx.length = d.mx.length ∧ c.sum.length = d.sum.length
theorem Like.refl (c : CellM) : Like c c := ⟨rfl, rfl, rfl, rfl⟩
theorem Elems.written {F : Nat → Prop} {h : Heap} {bk j : Nat} {arr : Array Value} {e : TypeId} {fz : Nat × Nat} (hb : h[bk]? = some (.cells arr e fz)) (y : Int) :
    ∀ {l : List CellM} {cs : List Value}, Elems rCell F h cs l → ∃ m : List CellM, m.length = l.length ∧ (∀ (i : Nat) (hi : i < l.length) (hi' : i < m.length), Like m[i] l[i]) ∧ Elems rCell F (h.setIfInBounds bk (.cells (arr.setIfInBounds j (.int .i64 y)) e fz)) cs m
  | [], cs, he => ⟨[], rfl, fun i hi => by simp at hi, he⟩
  | c :: l, cs, ⟨c1, c2, e0, ⟨kv, sv, nv, xv, e1, q1, q2, q3, q4⟩, he⟩ => by
    obtain ⟨m, m1, m2, m3⟩ := Elems.written hb y he
    obtain ⟨k', k1, k2⟩ := q1.written (j := j) hb y
    obtain ⟨s', s1, s2⟩ := q2.written (j := j) hb y
    obtain ⟨n', n1, n2⟩ := q3.written (j := j) hb y
    obtain ⟨x', x1, x2⟩ := q4.written (j := j) hb y
    refine ⟨⟨k', c.count, s', n', x'⟩ :: m, by simp [m1], fun i hi hi' => ?_, c1, c2, e0, ⟨kv, sv, nv, xv, e1, k2, s2, n2, x2⟩, m3⟩
    cases i with
    | zero => exact ⟨k1, n1, x1, s1⟩
    | succ i => exact m2 i (by simpa using hi) (by simpa using hi')
end Go.HC

/-
  Cells in blocks that may be changed are written over.
-/
namespace Go.HC
theorem Elems.setInt {F : Nat → Prop} {h : Heap} (y : Int) : ∀ {l : List CellM} {cs : List Value} {q : Nat} {z : Int}, Elems rCell F h cs l → cs[q]? = some (.int .i64 z) →
    ∃ m : List CellM, m.length = l.length ∧ (∀ (i : Nat) (hi : i < l.length) (hi' : i < m.length), Like m[i] l[i]) ∧ Elems rCell F h (cs.set q (.int .i64 y)) m
  | [], cs, q, z, he, hq => by
    have : cs = [] := he
    subst this
    cases hq
  | c :: l, cs, q, z, ⟨c1, c2, e0, ⟨kv, sv, nv, xv, e1, q1, q2, q3, q4⟩, he⟩, hq => by
    subst e0; subst e1
    obtain ⟨_, _, rfl, _, _⟩ := q1.val
    obtain ⟨_, _, rfl, _, _⟩ := q2.val
    obtain ⟨_, _, rfl, _, _⟩ := q3.val
    obtain ⟨_, _, rfl, _, _⟩ := q4.val
    rcases q with _ | _ | _ | _ | _ | q
    · cases hq
    · exact ⟨⟨c.key, y, c.sum, c.mn, c.mx⟩ :: l, rfl, fun i hi hi' => by cases i with | zero => exact ⟨rfl, rfl, rfl, rfl⟩ | succ i => exact .refl _, _, c2, rfl, ⟨_, _, _, _, rfl, q1, q2, q3, q4⟩, he⟩
    · cases hq
    · cases hq
    · cases hq
    · obtain ⟨m, m1, m2, m3⟩ := Elems.setInt y he (q := q) (z := z) (by simpa using hq)
      exact ⟨c :: m, by simp [m1], fun i hi hi' => by cases i with | zero => exact .refl _ | succ i => exact m2 i (by simpa using hi) (by simpa using hi'), _, _, rfl, ⟨_, _, _, _, rfl, q1, q2, q3, q4⟩, m3⟩
/-- Cells, an integer of whose blocks is written. -/
theorem SlRep.over {F : Nat → Prop} {h : Heap} {v : Value} {l : List CellM} (hs : SlRep rCell F h v l) {bk q : Nat} {arr : Array Value} {e : TypeId} {fz : Nat × Nat} {z : Int} (hb : h[bk]? = some (.cells arr e fz)) (hq : arr[q]? = some (.int .i64 z)) (y : Int) :
    ∃ m : List CellM, m.length = l.length ∧ (∀ (i : Nat) (hi : i < l.length) (hi' : i < m.length), Like m[i] l[i]) ∧ SlRep rCell F (h.setIfInBounds bk (.cells (arr.setIfInBounds q (.int .i64 y)) e fz)) v m := by
  obtain ⟨a, c, cs, rfl, h1, h2, h3, h4⟩ := hs
  obtain ⟨m, m1, m2, m3⟩ := Elems.written (j := q) hb y h4
  rcases h3 with rfl | ⟨b, off, c', e', fz', rfl, hf, hw, ht⟩
  · exact ⟨m, m1, m2, _, c, [], by rw [m1], by rw [m1]; exact h1, h2, .inl rfl, m3⟩
  · by_cases hbb : bk = b
    · subst hbb
      rw [hb] at hw
      cases hw
      have hlt := lt_of_blk hb
      have hc : ((arr.setIfInBounds q (.int .i64 y)).toList.drop off).take cs.length = if q < off then cs else cs.set (q - off) (.int .i64 y) := by
        rw [Array.toList_setIfInBounds, List.drop_set]
        split
        · exact ht
        · rw [List.take_set, ht]
      by_cases hqo : q < off ∨ cs.length ≤ q - off
      · have hc' : ((arr.setIfInBounds q (.int .i64 y)).toList.drop off).take cs.length = cs := by
          rw [hc]
          split
          · rfl
          · exact List.set_eq_of_length_le (by omega)
        exact ⟨m, m1, m2, _, c, cs, by rw [m1], by rw [m1]; exact h1, h2, .inr ⟨bk, off, _, _, _, rfl, hf, set_same _ hlt, hc'⟩, m3⟩
      · have hcq : cs[q - off]? = some (.int .i64 z) := by
          have e2 : ((arr.toList.drop off).take cs.length)[q - off]? = cs[q - off]? := by rw [ht]
          rw [List.getElem?_take, if_pos (by omega), List.getElem?_drop, show off + (q - off) = q by omega, Array.getElem?_toList, hq] at e2
          exact e2.symm
        obtain ⟨m', n1, n2, n3⟩ := Elems.setInt y m3 hcq
        rw [if_neg (by omega)] at hc
        refine ⟨m', by rw [n1, m1], fun i hi hi' => ?_, _, c, cs.set (q - off) (.int .i64 y), by rw [n1, m1], by rw [n1, m1]; exact h1, h2, .inr ⟨bk, off, _, _, _, rfl, hf, set_same _ hlt, by rw [List.length_set]; exact hc⟩, n3⟩
        have a1 := n2 i (by omega) hi'
        have a2 := m2 i hi (by omega)
        exact ⟨a1.1.trans a2.1, a1.2.1.trans a2.2.1, a1.2.2.1.trans a2.2.2.1, a1.2.2.2.trans a2.2.2.2⟩
    · exact ⟨m, m1, m2, _, c, cs, by rw [m1], by rw [m1]; exact h1, h2, .inr ⟨b, off, c', e', fz', rfl, hf, (set_other _ hbb).trans hw, ht⟩, m3⟩
/-- Cells in blocks from lo up to hi, that may be changed; p: of their lengths alone. -/
structure Sh (F : Nat → Prop) (lo hi n : Nat) (p : CellM → Prop) (v : Value) (h0 h : Heap) : Prop where
  ex : ∃ l : List CellM, l.length = n ∧ SlRep rCell F h v l ∧ ∀ c ∈ l, p c
  foot : ∀ b, F b → lo ≤ b ∧ b < hi ∧ Thaw h b
  keep : Keep (fun b => lo ≤ b ∧ b < hi) h0 h
section
variable {F : Nat → Prop} {lo hi n : Nat} {p : CellM → Prop} {v : Value} {h0 h : Heap}
theorem Sh.over (g : Sh F lo hi n p v h0 h) (hp : ∀ c d, Like d c → p c → p d) {bk q : Nat} {z : Int} (hf : F bk) (hc : cellIn h[bk]? q = some (.int .i64 z)) (y : Int) :
    ∃ o, writeIn h[bk]? q [.int .i64 y] = some o ∧ Sh F lo hi n p v h0 (h.setIfInBounds bk o) := by
  obtain ⟨f1, f2, f3⟩ := g.foot bk hf
  cases hb : h[bk]? with
  | none => rw [hb] at hc; cases hc
  | some ob =>
    cases ob with
    | cells arr e' fz =>
      obtain rfl := f3 arr e' fz hb
      rw [hb, cellIn_some] at hc
      have hsz : q < arr.size := by
        rcases Nat.lt_or_ge q arr.size with h | h
        · exact h
        · rw [Array.getElem?_eq_none h] at hc; cases hc
      refine ⟨.cells (arr.setIfInBounds q (.int .i64 y)) e' (0, 0), ?_, ?_, fun b hF => ?_, g.keep.setted _ fun _ => ⟨f1, f2⟩⟩
      · have hfr : frozenIn (0, 0) q [Value.int .i64 y].length = false := by unfold frozenIn; simp
        show (if (List.all [Value.int .i64 y] Value.oneCell' && decide (q + [Value.int .i64 y].length ≤ arr.size) && !frozenIn (0, 0) q [Value.int .i64 y].length) = true then _ else _) = _
        rw [if_pos (show (List.all [Value.int .i64 y] Value.oneCell' && decide (q + [Value.int .i64 y].length ≤ arr.size) && !frozenIn (0, 0) q [Value.int .i64 y].length) = true by rw [hfr]; simp [Value.oneCell']; omega)]
        rfl
      · obtain ⟨l, l1, l2, l3⟩ := g.ex
        obtain ⟨m, m1, m2, m3⟩ := l2.over hb hc y
        refine ⟨m, by rw [m1, l1], m3, fun d hd => ?_⟩
        obtain ⟨i, hi, rfl⟩ := List.mem_iff_getElem.1 hd
        exact hp _ _ (m2 i (by omega) hi) (l3 _ (List.getElem_mem _))
      · obtain ⟨w1, w2, w3⟩ := g.foot b hF
        refine ⟨w1, w2, ?_⟩
        by_cases hbb : bk = b
        · subst hbb
          exact .is (set_same _ (lt_of_blk hb))
        · exact w3.at (set_other _ hbb)
    | _ => rw [hb] at hc; cases hc
/-- An integer of a cell. -/
theorem Sh.int (g : Sh F lo hi n p v h0 h) (hp : ∀ c d, Like d c → p c → p d) {a : Option Addr} {m c : Nat} {xs : List Int} (hs : SlRep rInt F h (.slice a m c) xs) {j : Nat} (hj : j < xs.length) (y : Int) :
    ∃ bk off o, a = some ⟨bk, off, none⟩ ∧ writeIn h[bk]? (off + j) [.int .i64 y] = some o ∧ Sh F lo hi n p v h0 (h.setIfInBounds bk o) := by
  obtain ⟨bk, off, rfl, hf, hc⟩ := hs.int_at j hj
  obtain ⟨o, q1, q2⟩ := g.over hp hf hc y
  exact ⟨bk, off, o, rfl, q1, q2⟩
/-- A cell. -/
theorem Sh.get (g : Sh F lo hi n p v h0 h) {i : Nat} (hi' : i < n) :
    ∃ (bk off c : Nat) (d : CellM) (kv sv nv xv : Value), v = .slice (some ⟨bk, off, none⟩) n c ∧ F bk ∧ cellsIn h[bk]? (off + i * 5) 5 = some [kv, .int .i64 d.count, sv, nv, xv] ∧ p d ∧ SlRep rInt F h kv d.key ∧ SlRep rInt F h sv d.sum ∧ SlRep rInt F h nv d.mn := by
  obtain ⟨l, rfl, l2, l3⟩ := g.ex
  obtain ⟨a, c, rfl, _, _⟩ := l2.val
  obtain ⟨bk, off, cs, rfl, hf, ⟨kv, sv, nv, xv, rfl, w1, w2, w3, w4⟩, q4⟩ := l2.get i hi'
  exact ⟨bk, off, c, l[i], kv, sv, nv, xv, rfl, hf, q4, l3 _ (List.getElem_mem hi'), w1, w2, w3⟩
/-- Its count. -/
theorem Sh.count (g : Sh F lo hi n p v h0 h) (hp : ∀ c d, Like d c → p c → p d) {i : Nat} (hi' : i < n) (y : Int) :
    ∃ bk off c o, v = .slice (some ⟨bk, off, none⟩) n c ∧ writeIn h[bk]? (off + i * 5 + 1) [.int .i64 y] = some o ∧ Sh F lo hi n p v h0 (h.setIfInBounds bk o) := by
  obtain ⟨bk, off, c, d, kv, sv, nv, xv, rfl, hf, hx, _⟩ := g.get hi'
  obtain ⟨o, q1, q2⟩ := g.over hp hf (cellsIn_cell (d := 1) hx (by decide)) y
  exact ⟨bk, off, c, o, rfl, q1, q2⟩
theorem SlRep.sh {l : List CellM} (hs : SlRep rCell (Ft lo none_ h) h v l) (h0 : 0 < lo) (hp : ∀ c ∈ l, p c) : Sh (Ft lo none_ h) lo h.size l.length p v h h :=
  ⟨⟨l, rfl, hs, hp⟩, fun _b hb => ⟨hb.1.1, hb.2.1, hb.1.2 h0⟩, .refl _ _⟩
end
end Go.HC

/-
  Slices of numbers, with how much they take.
-/
namespace Go.HC
open Go.ChangeShapes Go.WideShapes Go.ChangeAt Go.RowKit
section
variable {H : Type} {enc : TypeId × Value → H} {P : Program} {W : World} {base : Nat}
end
end Go.HC
