/-
  The program's cell out of bytes.
-/
import Derived.Test.YtgjklplbldgodaaGreatDoorKBd

namespace Go.Proofs
open Go Go.HC

set_option maxHeartbeats 4000000 in
set_option maxRecDepth 10000 in
theorem get_spec {h : Heap} {bv : Value} {bs : List UInt8} {F : Nat → Prop} {n : Nat} (hs : SlRep rByte F h bv bs) (hn : n ≤ 8) (hl : n ≤ bs.length) :
    CallH Tryz.prog 125 #[bv, .int .i64 n] h fun r h' => (∃ v', r = .tuple #[.int .i64 (backM (bs.take n)), v'] ∧ SlRep rByte F h v' (bs.drop n)) ∧ h' = h := by
  refine callH_by fun K hK => ?_
  refine enter [.tmp 4, .tmp 5] Tryz.func125 rfl rfl (by kernel_rfl) rfl ?_
  obtain ⟨a0, c0, rfl, hc0, hc1⟩ := hs.val
  have hT : ((elS Tryz.prog 66).bind (szS Tryz.prog)).isSome = true := by kernel_rfl
  have hsl : ∀ {y : Heap} K, sliceS Tryz.prog 66 (.slice a0 bs.length c0) none (some (.int .i64 n)) none y K = K (.slice (piece a0 0 c0 1) n c0) y := fun K => sliceS_to (P := Tryz.prog) (T := 66) (k := .i64) hT (by omega)
  have hcut := hs.cut (i := 0) (j := n) (m := c0) (by omega) (by omega) (by omega) (Nat.le_refl _)
  rw [List.drop_zero, Nat.sub_zero] at hcut
  have hnl : (bs.take n).length = n := by rw [List.length_take]; omega
  obtain ⟨a1, ea⟩ : ∃ a1, a1 = piece a0 0 c0 1 := ⟨_, rfl⟩
  have hcut : SlRep rByte F h (.slice a1 n (c0 - 0)) (bs.take n) := by rw [ea]; exact hcut
  simp -dsimp [hsl]
  rw [← ea]
  refine loopc (σ := Nat) (fun i => [(0, .slice a0 bs.length c0), (1, .int .i64 n), (6, .int .i64 (backM ((bs.take n).take i))), (11, .slice a1 n c0), (12, .int .i64 n), (13, .int .i64 i)])
    (fun i y => y = h ∧ i ≤ n) (fun i => n - i) 0 0 (fun i _ => i = n) noRet noRet_le (by simp [backM]) ⟨rfl, Nat.zero_le _⟩ (by kernel_rfl) ?_ ?_
  · rintro i y g ⟨rfl, hi⟩
    have wi := wrap_succ (k := i) (by omega)
    by_cases hil : i < n
    · have hib : i < (bs.take n).length := by omega
      obtain ⟨bk, off, rfl, _, hc⟩ := hcut.byte_at i hib
      have hlt8 : (bs.take n)[i].toNat < 256 := (bs.take n)[i].toNat_lt
      have hcw : IntKind.i64.wrap ((bs.take n)[i].toNat : Int) = ((bs.take n)[i].toNat : Int) := wrap_i64 (by omega) (by omega)
      simp -dsimp [-intRes_shl, -intRes_or, -List.getElem_take, hil, idxA_nat hil, hc, hcw, shl8, or8 _ hlt8, wi]
      exact ⟨i + 1, by simp [-List.getElem_take, back_snoc hib], rfl, ⟨rfl, by omega⟩, by show n - (i + 1) < n - i; omega⟩
    · simp -dsimp [hil]
      exact ⟨rfl, i, by simp, rfl, ⟨rfl, hi⟩, by show i = n; omega⟩
  · rintro i y g ⟨rfl, hi⟩ hil
    have hil : i = n := hil
    subst hil
    have hpc : pieceV (some 1) (some (.int .i64 (i : Int))) none (.slice a0 bs.length c0) = some (.slice (piece a0 i c0 1) (bs.length - i) (c0 - i)) := by
      have e3 : (0 : Int) ≤ (i : Int) := by omega
      unfold pieceV
      simp only [natV, e3, Option.bind_some, if_true, Int.toNat_natCast]
      rw [if_pos ⟨by omega, by omega⟩]
    simp -dsimp
    refine drawn_by [⟨0, true, []⟩, ⟨1, true, []⟩, ⟨2, true, []⟩, ⟨3, true, []⟩, ⟨4, true, []⟩, ⟨5, true, []⟩] (by kernel_rfl) (by kernel_rfl) ?_
    simp -dsimp [elSz_eq, hpc]
    have hcut2 := hs.cut (i := i) (j := bs.length) (m := c0) (by omega) (Nat.le_refl _) hc0 (Nat.le_refl _)
    rw [List.take_of_length_le (by rw [List.length_drop]; exact Nat.le_refl _)] at hcut2
    exact hK _ _ ⟨⟨_, by rw [List.take_take, Nat.min_self]; rfl, hcut2⟩, rfl⟩

set_option maxHeartbeats 8000000 in
set_option maxRecDepth 10000 in
theorem pone_spec {h : Heap} {cv bv : Value} {s : SchM} {k : Int} {c : CellM} {bs : List UInt8} {w : Nat} (hcv : SlRep rInt (Old h) h cv s.cards) {F : Nat → Prop} (hF : ∀ b, F b → b < h.size) (hb : SlRep rByte F h bv bs) (hs : SchOk s) (hk : 0 ≤ k ∧ k < 2 ^ s.cards.length) (hc : CelOk s k c) (hn : 1 ≤ c.count ∧ c.count ≤ 300) (hw : w = (dimsM k).length + 2 + 24 * s.ms.toNat) (hwl : w ≤ bs.length) (hB : bs.take w = cellB c) :
    CallH Tryz.prog 127 #[.agg #[cv, .int .i64 s.ms], .int .i64 k, bv] h fun r h' => ∃ ds bv', r = .tuple #[.agg ds.toArray, bv', .bool true] ∧ rCell.rep (Ft h.size none_ h') h' ds c ∧ SlRep rByte F h' bv' (bs.drop w) ∧ Keep none_ h h' := by
  refine callH_by fun K hK => ?_
  refine enter [.cell 6 65, .cell 7 66, .cell 8 4] Tryz.func127 rfl rfl (by kernel_rfl) rfl ?_
  have C := cel_at c
  rw [← hB] at C
  have hcv0 := hcv
  have hb0 := hb
  obtain ⟨a0, c0, rfl, _, _⟩ := hcv.val
  obtain ⟨xa, xc, rfl, hxc, _⟩ := hb.val
  have hd4 := hs.dims.2
  have hms := hs.ms
  obtain ⟨m, em⟩ : ∃ m : Nat, s.ms = m := ⟨s.ms.toNat, by omega⟩
  have emn : s.ms.toNat = m := by omega
  have hsl : c.sum.length = m := by rw [hc.sum, emn]
  have hdl : (dimsM k).length ≤ 4 := cntD_le k 4
  have hkl := hc.klen
  rw [emn, ← hkl] at hw
  -- a piece of what is left
  have hpe : ∀ (q n : Nat), q + n ≤ w → (bs.drop q).take n = ((bs.take w).drop q).take n := fun q n hq => by
    rw [List.drop_take, List.take_take, Nat.min_eq_left (by omega)]
  rw [em]
  simp -dsimp [boxS_eq]
  rw [show h.size + 1 + 1 + 1 + 1 = h.size + 4 from rfl, show h.size + 1 + 1 + 1 = h.size + 3 from rfl, show h.size + 1 + 1 = h.size + 2 from rfl]
  generalize hH : Array.push (Array.push (Array.push (Array.push (Array.push h _) _) _) _) _ = h0
  have k0 : Keep none_ h h0 := by rw [← hH]; exact (((((Keep.refl none_ h).pushed _).pushed _).pushed _).pushed _).pushed _
  have z0 : h0.size = h.size + 5 := by rw [← hH]; simp
  have wS : h0[h.size]? = some (.cells #[.slice a0 s.cards.length c0, .int .i64 m] 30 (0, 0)) := by rw [← hH]; exact push_at (push_at (push_at (push_at (push_new _ _))))
  have wB : h0[h.size + 1]? = some (.cells #[.slice xa bs.length xc] 66 (0, 0)) := by rw [← hH]; exact push_at (push_at (push_at (push_get (by simp))))
  have wC : h0[h.size + 2]? = some (.cells #[.slice none 0 0, .int .i64 0, .slice none 0 0, .slice none 0 0, .slice none 0 0] 65 (0, 0)) := by rw [← hH]; exact push_at (push_at (push_get (by simp)))
  have wL : h0[h.size + 3]? = some (.cells #[.slice none 0 0] 66 (0, 0)) := by rw [← hH]; exact push_at (push_get (by simp))
  have wT : h0[h.size + 4]? = some (.cells #[.bool false] 4 (0, 0)) := by rw [← hH]; exact push_get (by simp)
  refine call_by (dims_spec k h0) ?_
  rintro _ h3 ⟨rfl, e3⟩
  simp -dsimp
  have k3 : Keep none_ h0 h3 := by rw [e3]; exact .push _ _ _
  have hz3 : h3.size = h0.size + 1 := by rw [e3]; simp
  have hD : h3[h0.size]? = some (.cells #[.int .i64 k] 3 (0, 0)) := by rw [e3]; exact push_new _ _
  clear e3
  have k03 : Keep none_ h h3 := k0.trans k3 fun _ _ h => h
  have wS3 := k3.at wS (fun h => h)
  obtain ⟨N, eN⟩ : ∃ N : Nat → Prop, N = fun b => b = h.size + 1 ∨ b = h.size + 2 := ⟨_, rfl⟩
  have hN : ∀ b, N b ↔ b = h.size + 1 ∨ b = h.size + 2 := fun b => by rw [eN]
  obtain ⟨I, hI⟩ : ∃ I : List Nat → (Nat → Prop) → Heap → Prop, ∀ xs M h', I xs M h' ↔ ((∀ b, N b → M b) ∧ (∀ b, M b → b < h'.size ∧ h.size + 1 ≤ b) ∧ ∃ bv kv own, h'[h.size + 1]? = some (.cells #[bv] 66 (0, 0)) ∧ SlRep rByte F h' bv (bs.drop xs.length) ∧
      h'[h.size + 2]? = some (.cells #[kv, .int .i64 0, .slice none 0 0, .slice none 0 0, .slice none 0 0] 65 (0, 0)) ∧ h'[h.size + 3]? = some (.cells #[.slice none 0 0] 66 (0, 0)) ∧ h'[h.size + 4]? = some (.cells #[.bool false] 4 (0, 0)) ∧
      Gr rInt 3 h.size M h' kv (c.key.take xs.length) own ∧ ∀ bk, own = some bk → h3.size + 2 ≤ bk) := ⟨_, fun _ _ _ => Iff.rfl⟩
  refine range_m (val := fun i : Nat => #[.int .i64 (i : Int)]) (first := #[]) (by simp) (by simp) (dims_iter hD) I
    ?_ ?_ N ?_ ?_ (by kernel_rfl) (by kernel_rfl) (fun _ => rfl) (by intro p hp; simp at hp; subst hp; decide) ?_ ?_
  · exact fun hi b hb => (((hI _ _ _).1 hi).2.1 b hb).1
  · intro xs M h4 h5 hi m1 m2 kk
    obtain ⟨hM, hlt, bv, kv, own, w1, r1, w2, w3, w4, g, ho⟩ := (hI _ _ _).1 hi
    exact (hI _ _ _).2 ⟨hM, fun b hb => ⟨Nat.lt_of_lt_of_le (hlt b hb).1 kk.size, (hlt b hb).2⟩, bv, kv, own, kk.at w1 (by omega), r1.mono (fun b hb => ⟨hb, kk.blk b (by have := (hlt _ m2).1; have := hF _ hb; omega) (by have := hF _ hb; omega)⟩), kk.at w2 (by omega), kk.at w3 (by omega), kk.at w4 (by omega), g.lp (fun b hb => (hlt b hb).1) m2 (fun e => by have := ho _ e; omega) kk, ho⟩
  · rintro b rfl
    exact ⟨by omega, fun e => by have := (hN _).1 e; omega⟩
  · intro h4 k4 hz4
    refine (hI _ _ _).2 ⟨fun b hb => .inl hb, fun b hb => ?_, .slice xa bs.length xc, .slice none 0 0, none, k4.at (k3.at wB (fun h => h)) (fun h => h), ?_, k4.at (k3.at wC (fun h => h)) (fun h => h), k4.at (k3.at wL (fun h => h)) (fun h => h), k4.at (k3.at wT (fun h => h)) (fun h => h), .nil _ _ _ _ _, fun b hb => by cases hb⟩
    · rcases hb with hb | hb | hb
      · have := (hN _).1 hb; omega
      · omega
      · omega
    · exact hb0.mono fun b hb => ⟨hb, (k03.trans k4 fun _ _ h => h).blk b (hF _ hb) (fun h => h)⟩
  · rintro xs i M h4 hi4 ⟨hxs, hi, hbi⟩ hz4 m1 m2 t
    simp -dsimp
    refine ⟨.refl _ _, fun h5 k5 e5 => ?_⟩
    obtain ⟨hM, hlt, bv, kv, own, w1, r1, w2, w3, w4, g, ho⟩ := (hI _ _ _).1 hi4
    have hlt' : ∀ b, M b → b < h4.size := fun b hb => (hlt b hb).1
    have t5 := Tr.lp hlt' m2 k5
    have u5 := t.trans t5
    have T5 := Tr.from_ k03 u5 (fun b hb => by have := (hN _).1 hb; omega)
    have g5 := g.lp hlt' m2 (fun e => by have := ho _ e; omega) k5
    have w1' := k5.at w1 (by omega)
    have w2' := k5.at w2 (by omega)
    have w3' := k5.at w3 (by omega)
    have w4' := k5.at w4 (by omega)
    have wS5 := u5.at wS3 (fun hb => by have := (hN _).1 hb; omega)
    have r1' : SlRep rByte F h5 bv (bs.drop xs.length) := r1.mono fun b hb => ⟨hb, k5.blk b (by have := (hlt _ m2).1; have := hF _ hb; omega) (by have := hF _ hb; omega)⟩
    have mB := hM _ ((hN (h.size + 1)).2 (.inl rfl))
    have mC := hM _ ((hN (h.size + 2)).2 (.inr rfl))
    have hid : i < s.cards.length := by
      rcases Nat.lt_or_ge i s.cards.length with h' | h'
      · exact h'
      · rw [bit_high hk.1 hk.2 h'] at hbi; cases hbi
    have hdi : (dimsM k)[xs.length]? = some i := by
      rw [hxs]
      unfold dimsM
      exact filter_at (by omega) hbi
    obtain ⟨hcj, hdv⟩ := List.getElem?_eq_some_iff.1 hdi
    have hjk : xs.length < c.key.length := by omega
    have hkv := hc.key _ hjk hcj
    rw [hdv, List.getD_eq_getElem?_getD, List.getElem?_eq_getElem hid, Option.getD_some] at hkv
    have hv16 := hs.cards _ (List.getElem_mem hid)
    have hb1 : (bs.drop xs.length).take 1 = [byteM c.key[xs.length]] := by
      have h1 := C.key xs.length hjk
      rw [List.getElem?_take_of_lt (by omega)] at h1
      obtain ⟨hlt1, e1⟩ := List.getElem?_eq_some_iff.1 h1
      rw [List.drop_eq_getElem_cons hlt1, List.take_succ_cons, List.take_zero, e1]
    have hx1 : backM [byteM c.key[xs.length]] = c.key[xs.length] := by
      unfold backM
      rw [List.foldl_cons, List.foldl_nil, byteM_small (by omega) (by omega), wrap_i64 (by omega) (by omega)]
      omega
    obtain ⟨b5, o5, rfl, hf5, hc5⟩ := (hcv0.mono (T5.ft (Nat.le_refl 0))).int_at i hid
    have hnlt : ¬ (s.cards[i] ≤ c.key[xs.length]) := by omega
    obtain ⟨va, vn, vc, rfl, hvn⟩ := g5.vals
    simp -dsimp [w1']
    refine call_by (get_spec (n := 1) r1' (by omega) (by rw [List.length_drop]; omega)) ?_
    rintro _ h6 ⟨⟨v', rfl, r6⟩, hh⟩
    subst h6
    rw [hb1, hx1]
    rw [List.drop_drop] at r6
    obtain ⟨va6, vn6, vc6, rfl⟩ : ∃ a n c, v' = .slice a n c := by obtain ⟨a, c, e, _⟩ := r6.val; exact ⟨_, _, _, e⟩
    simp -dsimp [w1']
    generalize hE : Array.setIfInBounds h5 (h.size + 1) _ = h6
    have u6 : Tr M M h5 h6 := by
      rw [← hE]
      exact (⟨.refl _ _, fun _ h => .inl h, fun b hb => by have := hlt' b hb; omega⟩ : Tr M M h5 h5).set _ mB
    have hold : ∀ b, b ≠ h.size + 1 → h6[b]? = h5[b]? := fun b hb => by rw [← hE]; exact set_other _ (fun e => hb e.symm)
    have w6 : h6[h.size + 1]? = some (.cells #[.slice va6 vn6 vc6] 66 (0, 0)) := by rw [← hE]; exact set_same _ (lt_of_blk w1')
    have wS6 := (hold _ (by omega)).trans wS5
    have w2'' := (hold _ (by omega)).trans w2'
    have hne5 : b5 ≠ h.size + 1 := fun e => hf5.2.2 (e ▸ mB)
    have hc6 := hc5
    rw [← hold _ hne5] at hc6
    have g6 : Gr rInt 3 h.size M h6 (.slice va vn vc) (c.key.take xs.length) own := by rw [← hE]; exact g5.set _ mB (fun e => by have := ho _ e; omega)
    simp -dsimp [wS5, idxA_nat hid, hc6, hnlt, w2'']
    have hlk : (c.key.take xs.length).length = xs.length := by rw [List.length_take]; omega
    refine gr_app1 rfl intT g6 u6.lt rfl rfl (by omega) (by omega) ?_
    intro v7 h7 own7 g7 t7 k7 ho7
    have w27 := k7.at w2'' (fun e => by have := ho _ e; omega)
    obtain ⟨va7, vn7, vc7, ev7, _⟩ := g7.vals
    subst ev7
    have s6 := u6.size
    have ho7' : ∀ b, own7 = some b → h3.size + 2 ≤ b := fun b e => (ho7 _ e).elim (ho b) (by omega)
    have k7' : ∀ b, b < h6.size → own ≠ some b → h7[b]? = h6[b]? := fun b hb hno => k7.blk b hb hno
    simp -dsimp [w27]
    have hl7 := t7.size
    have tk : c.key.take (xs ++ [i]).length = c.key.take xs.length ++ [c.key[xs.length]] := by
      rw [List.length_append, List.length_singleton, List.take_add_one, List.getElem?_eq_getElem hjk]
      rfl
    have ho_ne : ∀ b, b < h3.size + 2 → own ≠ some b := fun b hb e => by have := ho _ e; omega
    have ne2 : ∀ {b : Nat} (o : Obj), b ≠ h.size + 2 → (h7.setIfInBounds (h.size + 2) o)[b]? = h7[b]? := fun o hb => set_other o (fun e => hb e.symm)
    refine ⟨fun b => M b ∨ own7 = some b, (hI _ _ _).2 ⟨fun b hb => .inl (hM b hb), fun b hb => ?_, .slice va6 vn6 vc6, .slice va7 vn7 vc7, own7, ?_, ?_, set_same _ (lt_of_blk w27), ?_, ?_, ?_, ho7'⟩, ((t5.trans u6).trans t7).set _ (.inl mC), .inl m1, .inl m2, ?_, ?_⟩
    · have e : (h7.setIfInBounds (h.size + 2) (.cells #[.slice va7 vn7 vc7, .int .i64 0, .slice none 0 0, .slice none 0 0, .slice none 0 0] 65)).size = h7.size := by simp
      rw [e]
      refine ⟨t7.lt b hb, ?_⟩
      rcases hb with hb | hb
      · exact (hlt b hb).2
      · have := ho7' b hb; omega
    · rw [ne2 _ (by omega), k7' _ (by omega) (ho_ne _ (by omega))]; exact w6
    · rw [List.length_append, List.length_singleton]
      refine r6.mono fun b hb => ⟨hb, ?_⟩
      have h1 := hF _ hb
      rw [ne2 _ (by omega), k7' _ (by omega) (ho_ne _ (by omega)), hold _ (by omega)]
    · rw [ne2 _ (by omega), k7' _ (by omega) (ho_ne _ (by omega)), hold _ (by omega)]; exact w3'
    · rw [ne2 _ (by omega), k7' _ (by omega) (ho_ne _ (by omega)), hold _ (by omega)]; exact w4'
    · rw [tk]
      exact g7.set _ (.inl mC) (fun e => by have := ho7' _ e; omega)
    · rw [ne2 _ (by omega), k7' _ (by omega) (ho_ne _ (by omega)), hold _ (by omega)]
    · rw [ne2 _ (by omega), k7' _ (by omega) (ho_ne _ (by omega)), hold _ (by omega)]
  · rintro xs M h4 rfl hi4 hdm hz4 m1 m2 t
    obtain ⟨hM, hlt, bv, kv, own, x1, r1, x2, x3, x4, g, ho⟩ := (hI _ _ _).1 hi4
    have T4 := Tr.from_ k03 t (fun b hb => by have := (hN _).1 hb; omega)
    have mB := hM _ ((hN (h.size + 1)).2 (.inl rfl))
    have mC := hM _ ((hN (h.size + 2)).2 (.inr rfl))
    rw [← hkl] at r1 g
    rw [List.take_length] at g
    have wS4 := t.at wS3 (fun hb => by have := (hN _).1 hb; omega)
    obtain ⟨va, vc, rfl⟩ := g.val
    have hc2 : (bs.drop c.key.length).take 2 = w2 c.count := by rw [hpe _ _ (by omega)]; exact C.count
    simp -dsimp [x1]
    refine call_by (get_spec (n := 2) r1 (by omega) (by rw [List.length_drop]; omega)) ?_
    rintro _ h5 ⟨⟨v', rfl, r5⟩, hh⟩
    subst h5
    rw [hc2, back2 (by omega) (by omega)]
    rw [List.drop_drop] at r5
    obtain ⟨va5, vn5, vc5, rfl⟩ : ∃ a n c, v' = .slice a n c := by obtain ⟨a, c, e, _⟩ := r5.val; exact ⟨_, _, _, e⟩
    have hne21 : h.size + 2 ≠ h.size + 1 := by omega
    have hne12 : h.size + 1 ≠ h.size + 2 := by omega
    simp -dsimp [x1, x2, set_other _ hne21, wS4]
    generalize hE : Array.setIfInBounds (Array.setIfInBounds h4 _ _) _ _ = y0
    have tN : Tr M M h4 h4 := ⟨.refl _ _, fun _ h => .inl h, fun b hb => (hlt b hb).1⟩
    have u0 : Tr M N h4 y0 := by
      have := ((tN.set (.cells #[.slice va c.key.length vc, .int .i64 c.count, .slice none 0 0, .slice none 0 0, .slice none 0 0] 65) mC).set (.cells #[.slice va5 vn5 vc5] 66) mB).less hM
      rw [← hE]; exact this
    have hold : ∀ b, b ≠ h.size + 1 → b ≠ h.size + 2 → y0[b]? = h4[b]? := fun b n1 n2 => by rw [← hE, set_other _ (fun e => n1 e.symm), set_other _ (fun e => n2 e.symm)]
    have tt0 : Tr none_ N h y0 := Tr.from_ k03 (t.trans u0) (fun b hb => by have := (hN _).1 hb; omega)
    have wB0 : y0[h.size + 1]? = some (.cells #[.slice va5 vn5 vc5] 66 (0, 0)) := by rw [← hE]; exact set_same _ (by have := lt_of_blk x1; simpa using this)
    have wC0 : y0[h.size + 2]? = some (.cells #[.slice va c.key.length vc, .int .i64 c.count, .slice none 0 0, .slice none 0 0, .slice none 0 0] 65 (0, 0)) := by rw [← hE, set_other _ hne12]; exact set_same _ (lt_of_blk x2)
    have wL0 := (hold (h.size + 3) (by omega) (by omega)).trans x3
    have wT0 := (hold (h.size + 4) (by omega) (by omega)).trans x4
    have wD0 := (hold h3.size (by omega) (by omega)).trans hdm
    have r0 : SlRep rByte F y0 (.slice va5 vn5 vc5) (bs.drop (c.key.length + 2)) := r5.mono fun b hb => ⟨hb, by have := hF _ hb; exact hold b (by omega) (by omega)⟩
    have gk : SlRep rInt (Ft h.size N y0) y0 (.slice va c.key.length vc) c.key := g.grow.ints.mono fun b hb => by
      have h1 := ho b hb
      have h2 := g.own_lt b hb
      have e := hold b (by omega) (by omega)
      exact ⟨⟨⟨by omega, fun _ => (g.thaw b hb).at e⟩, by have := u0.size; omega, fun hm => by have := (hN _).1 hm; omega⟩, e⟩
    have hs3 : h3.size + 2 ≤ y0.size := by have := u0.size; omega
    have l8 : ∀ q, q + 8 ≤ w → ((bs.drop q).take 8).length = 8 := fun q hq => by rw [List.length_take, List.length_drop]; omega
    refine loopc (σ := Nat × Value × Value × Value) (fun t => [(5, .pointer (some ⟨h.size + 1, 0, none⟩)), (6, .pointer (some ⟨h.size + 2, 0, none⟩)), (7, .pointer (some ⟨h.size + 3, 0, none⟩)), (8, .pointer (some ⟨h.size + 4, 0, none⟩)), (42, .int .i64 m), (43, .int .i64 t.1)])
      (fun t z => ∃ N1 bv o2 o3 o4, Tr N N1 y0 z ∧ (∀ b, N b → N1 b) ∧ t.1 ≤ m ∧ z[h.size + 1]? = some (.cells #[bv] 66 (0, 0)) ∧ SlRep rByte F z bv (bs.drop (c.key.length + 2 + 24 * t.1)) ∧
        z[h.size + 2]? = some (.cells #[.slice va c.key.length vc, .int .i64 c.count, t.2.1, t.2.2.1, t.2.2.2] 65 (0, 0)) ∧
        Grs rInt 3 h.size N1 z N [⟨t.2.1, c.sum.take t.1, o2⟩, ⟨t.2.2.1, c.mn.take t.1, o3⟩, ⟨t.2.2.2, c.mx.take t.1, o4⟩])
      (fun t => m - t.1) (0, .slice none 0 0, .slice none 0 0, .slice none 0 0) 2 (fun t _ => t.1 = m) noRet noRet_le (by simp) ⟨N, _, none, none, none, u0.here, fun _ h => h, Nat.zero_le _, wB0, r0, wC0, Grs.nils 3⟩ (by kernel_rfl) ?_ ?_
    case refine_1 =>
      rintro ⟨j, v2, v3, v4⟩ z g ⟨N1, bv, o2, o3, o4, tz, hN1, hj, wBz, rz, wCz, gg⟩
      simp only at hj rz wCz gg
      have wj := wrap_succ (k := j) (by omega)
      obtain ⟨va2, vn2, vc2, rfl, _⟩ := (gg.at (i := 0) rfl).vals
      obtain ⟨va3, vn3, vc3, rfl, _⟩ := (gg.at (i := 1) rfl).vals
      obtain ⟨va4, vn4, vc4, rfl, _⟩ := (gg.at (i := 2) rfl).vals
      by_cases hjl : j < m
      · have hjl' : (j : Int) < m := by omega
        obtain ⟨q, eq⟩ : ∃ q, q = c.key.length + 2 + 24 * j := ⟨_, rfl⟩
        have hqw : q + 24 ≤ w := by omega
        rw [← eq] at rz
        have b0 : backM ((bs.drop q).take 8) = c.sum.getD j 0 := by
          rw [hpe _ _ (by omega), eq, C.sum j (by omega)]; exact back8 (hc.i64 j).1.1 (hc.i64 j).1.2
        have b1 : backM ((bs.drop (q + 8)).take 8) = c.mn.getD j 0 := by
          rw [hpe _ _ (by omega), eq, C.mn j (by omega)]; exact back8 (hc.i64 j).2.1.1 (hc.i64 j).2.1.2
        have b2 : backM ((bs.drop (q + 16)).take 8) = c.mx.getD j 0 := by
          rw [hpe _ _ (by omega), eq, C.mx j (by omega)]; exact back8 (hc.i64 j).2.2.1 (hc.i64 j).2.2.2
        obtain ⟨vS, evS⟩ : ∃ x, x = c.sum.getD j 0 := ⟨_, rfl⟩
        obtain ⟨vN, evN⟩ : ∃ x, x = c.mn.getD j 0 := ⟨_, rfl⟩
        obtain ⟨vX, evX⟩ : ∃ x, x = c.mx.getD j 0 := ⟨_, rfl⟩
        rw [← evS] at b0
        rw [← evN] at b1
        rw [← evX] at b2
        simp -dsimp [hjl']
        obtain ⟨ba, eba⟩ : ∃ ba, ba = z.size := ⟨_, rfl⟩
        rw [← eba]
        generalize hPz : Array.push z _ = z1
        have kz1 : Keep none_ z z1 := by rw [← hPz]; exact .push _ _ _
        have zz1 : z1.size = z.size + 1 := by rw [← hPz]; simp
        have wA : z1[ba]? = some (.cells #[.int .i64 0, .int .i64 0, .int .i64 0] 202 (0, 0)) := by rw [← hPz, eba]; exact push_new _ _
        have wB1 := kz1.at wBz (fun h => h)
        have r1z : SlRep rByte F z1 bv (bs.drop (q + 8 * 0)) := rz.mono fun b hb => ⟨hb, kz1.blk b (by have := hF _ hb; have := tt0.size; have := tz.size; omega) (fun h => h)⟩
        have hbl := lt_of_blk wBz
        have hab : ba ≠ h.size + 1 := by omega
        have hba : h.size + 1 ≠ ba := by omega
        have harT := fun (i : Int) (h0 : 0 ≤ i) (h1 : i < (3 : Nat)) (K : Value → Heap → Prop) (hh : Heap) => indexAddrS_array (P := Tryz.prog) (T := 202) (bk := ba) (off := 0) (n := 3) (s := 1) (k := .i64) (i := i) (K := K) (h := hh) (by simp) h0 h1
        refine loopc (σ := Nat) (fun i => [(5, .pointer (some ⟨h.size + 1, 0, none⟩)), (6, .pointer (some ⟨h.size + 2, 0, none⟩)), (7, .pointer (some ⟨h.size + 3, 0, none⟩)), (8, .pointer (some ⟨h.size + 4, 0, none⟩)), (11, .pointer (some ⟨ba, 0, none⟩)), (42, .int .i64 m), (43, .int .i64 j), (45, .int .i64 i)])
          (fun i y => ∃ bv, Keep (fun b => b = h.size + 1 ∨ b = ba) z1 y ∧ i ≤ 3 ∧ y[h.size + 1]? = some (.cells #[bv] 66 (0, 0)) ∧ SlRep rByte F y bv (bs.drop (q + 8 * i)) ∧
            y[ba]? = some (.cells #[.int .i64 (if 0 < i then vS else 0), .int .i64 (if 1 < i then vN else 0), .int .i64 (if 2 < i then vX else 0)] 202 (0, 0)))
          (fun i => 3 - i) 0 4 (fun i _ => i = 3) noRet noRet_le (by simp) ⟨bv, .refl _ _, by omega, wB1, r1z, by simpa using wA⟩ (by kernel_rfl) ?_ ?_
        case refine_1 =>
          rintro i y g ⟨bv, ky, hi3, wBy, ry, wAy⟩
          have wi := wrap_succ (k := i) (by omega)
          have fin : ∀ (va6 : Option Addr) (vn6 vc6 : Nat) (arr : Array Value), i < 3 → SlRep rByte F y (.slice va6 vn6 vc6) (bs.drop (q + 8 * (i + 1))) → arr = #[.int .i64 (if 0 < i + 1 then vS else 0), .int .i64 (if 1 < i + 1 then vN else 0), .int .i64 (if 2 < i + 1 then vX else 0)] →
              ∃ bv, Keep (fun b => b = h.size + 1 ∨ b = ba) z1 ((y.setIfInBounds ba (.cells arr 202 (0, 0))).setIfInBounds (h.size + 1) (.cells #[.slice va6 vn6 vc6] 66 (0, 0))) ∧ i + 1 ≤ 3 ∧ ((y.setIfInBounds ba (.cells arr 202 (0, 0))).setIfInBounds (h.size + 1) (.cells #[.slice va6 vn6 vc6] 66 (0, 0)))[h.size + 1]? = some (.cells #[bv] 66 (0, 0)) ∧
                SlRep rByte F ((y.setIfInBounds ba (.cells arr 202 (0, 0))).setIfInBounds (h.size + 1) (.cells #[.slice va6 vn6 vc6] 66 (0, 0))) bv (bs.drop (q + 8 * (i + 1))) ∧
                ((y.setIfInBounds ba (.cells arr 202 (0, 0))).setIfInBounds (h.size + 1) (.cells #[.slice va6 vn6 vc6] 66 (0, 0)))[ba]? = some (.cells #[.int .i64 (if 0 < i + 1 then vS else 0), .int .i64 (if 1 < i + 1 then vN else 0), .int .i64 (if 2 < i + 1 then vX else 0)] 202 (0, 0)) := by
            intro va6 vn6 vc6 arr hi r6 ea
            have h1 := lt_of_blk wBy
            have h2 := lt_of_blk wAy
            refine ⟨_, (ky.setted _ fun _ => .inr rfl).setted _ fun _ => .inl rfl, hi, set_same _ (by simpa using h1), r6.mono fun b hb => ⟨hb, ?_⟩, ?_⟩
            · have := hF _ hb
              have := tt0.size
              have := tz.size
              rw [set_other _ (by omega), set_other _ (by omega)]
            · rw [set_other _ hba, set_same _ h2, ea]
          by_cases e0 : i = 0
          · subst e0
            replace ry : SlRep rByte F y bv (bs.drop (q)) := ry
            simp -dsimp [wBy]
            refine call_by (get_spec (n := 8) ry (by omega) (by rw [List.length_drop]; omega)) ?_
            rintro _ y2 ⟨⟨v', rfl, r6⟩, hh⟩
            subst y2
            rw [b0]
            rw [List.drop_drop] at r6
            obtain ⟨va6, vn6, vc6, rfl⟩ : ∃ a n c, v' = .slice a n c := by obtain ⟨a, c, e, _⟩ := r6.val; exact ⟨_, _, _, e⟩
            simp -dsimp [harT 0 (by omega) (by omega), wAy, wBy, set_other _ hab]
            exact ⟨1, by simp, rfl, fin va6 vn6 vc6 _ (by omega) r6 (by simp), by show 3 - (1) < 3 - 0; omega⟩
          by_cases e1 : i = 1
          · subst e1
            replace ry : SlRep rByte F y bv (bs.drop (q + 8)) := ry
            simp -dsimp [wBy]
            refine call_by (get_spec (n := 8) ry (by omega) (by rw [List.length_drop]; omega)) ?_
            rintro _ y2 ⟨⟨v', rfl, r6⟩, hh⟩
            subst y2
            rw [b1]
            rw [List.drop_drop] at r6
            obtain ⟨va6, vn6, vc6, rfl⟩ : ∃ a n c, v' = .slice a n c := by obtain ⟨a, c, e, _⟩ := r6.val; exact ⟨_, _, _, e⟩
            simp -dsimp [harT 1 (by omega) (by omega), wAy, wBy, set_other _ hab]
            exact ⟨2, by simp, rfl, fin va6 vn6 vc6 _ (by omega) r6 (by simp), by show 3 - (2) < 3 - 1; omega⟩
          by_cases e2 : i = 2
          · subst e2
            replace ry : SlRep rByte F y bv (bs.drop (q + 16)) := ry
            simp -dsimp [wBy]
            refine call_by (get_spec (n := 8) ry (by omega) (by rw [List.length_drop]; omega)) ?_
            rintro _ y2 ⟨⟨v', rfl, r6⟩, hh⟩
            subst y2
            rw [b2]
            rw [List.drop_drop] at r6
            obtain ⟨va6, vn6, vc6, rfl⟩ : ∃ a n c, v' = .slice a n c := by obtain ⟨a, c, e, _⟩ := r6.val; exact ⟨_, _, _, e⟩
            simp -dsimp [harT 2 (by omega) (by omega), wAy, wBy, set_other _ hab]
            exact ⟨3, by simp, rfl, fin va6 vn6 vc6 _ (by omega) r6 (by simp), by show 3 - (3) < 3 - 2; omega⟩
          have hi' : ¬ (i : Int) < 3 := by omega
          simp -dsimp [hi']
          exact ⟨rfl, i, by simp, rfl, ⟨bv, ky, hi3, wBy, ry, wAy⟩, by show i = 3; omega⟩
        rintro i y g ⟨bv, ky, hi3, wBy, ry, wAy⟩ hi
        have hi : i = 3 := hi
        subst hi
        obtain ⟨Y, eY⟩ : ∃ Y, Y = y := ⟨_, rfl⟩
        rw [← eY] at ky wBy ry wAy ⊢
        have wAY : Y[ba]? = some (.cells #[.int .i64 vS, .int .i64 vN, .int .i64 vX] 202 (0, 0)) := wAy
        have wBY := wBy
        have ry : SlRep rByte F Y bv (bs.drop (q + 24)) := ry
        obtain ⟨N2, eN2⟩ : ∃ N2 : Nat → Prop, N2 = fun b => N1 b ∨ b = z.size := ⟨_, rfl⟩
        have hN2' : ∀ b, N2 b ↔ N1 b ∨ b = z.size := fun b => by rw [eN2]
        have tz1 : Tr N1 N2 z z1 := by rw [eN2, ← hPz]; exact tz.here.pushM _
        have t1Y : Tr N2 N2 z1 Y := ⟨ky.weaken fun b _ hb => (hN2' b).2 (hb.elim (fun e => .inl (hN1 _ ((hN _).2 (.inl e)))) (fun e => .inr (e.trans eba))), fun _ h => .inl h, fun b hb => Nat.lt_of_lt_of_le (tz1.lt b hb) ky.size⟩
        have tY := tz1.trans t1Y
        have kzY : Keep (fun b => b = h.size + 1 ∨ b = ba) z Y := (kz1.none : Keep (fun b => b = h.size + 1 ∨ b = ba) z z1).trans ky fun b _ hb => hb
        have wCY := kzY.at wCz (by have := lt_of_blk wCz; omega)
        have GY : Grs rInt 3 h.size N2 Y N [⟨.slice va2 vn2 vc2, c.sum.take j, o2⟩, ⟨.slice va3 vn3 vc3, c.mn.take j, o3⟩, ⟨.slice va4 vn4 vc4, c.mx.take j, o4⟩] := gg.over tY kzY (fun b hb hbz => hb.elim (fun e => (hN _).2 (.inl e)) (fun e => by omega)) fun b hb => (hN2' b).2 (.inl hb)
        have hNlt : ∀ b, N b → b < z.size := fun b hb => tz.lt b (hN1 b hb)
        have hN2 : ∀ b, N2 b → N2 b := fun _ h => h
        have hoz := fun (i : Nat) (t : GI Int) (hi : [(⟨.slice va2 vn2 vc2, c.sum.take j, o2⟩ : GI Int), ⟨.slice va3 vn3 vc3, c.mn.take j, o3⟩, ⟨.slice va4 vn4 vc4, c.mx.take j, o4⟩][i]? = some t) (b : Nat) (hb : (b = h.size + 1 ∨ b = h.size + 2) ∨ z.size ≤ b) => show t.o ≠ some b from fun e => by
          have h1 := (gg.gr t (List.mem_of_getElem? hi)).2 b e
          have h2 := (gg.at hi).own_lt b e
          rcases hb with (hb | hb) | hb
          · exact h1.1 ((hN b).2 (.inl hb))
          · exact h1.1 ((hN b).2 (.inr hb))
          · omega
        have hno0 : ∀ b, (b = h.size + 1 ∨ b = h.size + 2) ∨ z.size ≤ b → o2 ≠ some b := hoz 0 _ rfl
        have hno1 : ∀ b, (b = h.size + 1 ∨ b = h.size + 2) ∨ z.size ≤ b → o3 ≠ some b := hoz 1 _ rfl
        have hno2 : ∀ b, (b = h.size + 1 ∨ b = h.size + 2) ∨ z.size ≤ b → o4 ≠ some b := hoz 2 _ rfl
        have ll : ∀ f : List Int, (f.take j).length ≤ j := fun f => by rw [List.length_take]; omega
        have wCp1 : ∀ {y : Heap} {b : Nat} {ob : Obj}, y[b]? = some ob → ∀ o, (y.push o)[b]? = some ob := fun w o => push_at w
        have wCp2 : ∀ {y : Heap} {b : Nat} {ob : Obj}, y[b]? = some ob → ∀ o o', ((y.push o).push o')[b]? = some ob := fun w o o' => push_at (push_at w)
        have wCp3 : ∀ {y : Heap} {b : Nat} {ob : Obj}, y[b]? = some ob → ∀ o o' o'', (((y.push o).push o').push o'')[b]? = some ob := fun w o o' o'' => push_at (push_at (push_at w))
        have hgt : ¬ (vX < vN) := by rw [evX, evN]; have := hc.le j; omega
        have htk : ∀ (l : List Int), j < l.length → l.take (j + 1) = l.take j ++ [l.getD j 0] := fun l hl => by
          rw [List.take_add_one, List.getElem?_eq_getElem hl, List.getD_eq_getElem?_getD, List.getElem?_eq_getElem hl]
          rfl
        simp -dsimp [harT 1 (by omega) (by omega), harT 2 (by omega) (by omega), wAY, hgt]
        have idA0 : ∀ sz, idxV sz (some (3, 1)) (.pointer (some ⟨ba, 0, none⟩)) (.int .i64 0) = some (.pointer (some ⟨ba, 0, none⟩)) := fun sz => by simp [idxV]
        have idA1 : ∀ sz, idxV sz (some (3, 1)) (.pointer (some ⟨ba, 0, none⟩)) (.int .i64 1) = some (.pointer (some ⟨ba, 1, none⟩)) := fun sz => by simp [idxV]
        have idA2 : ∀ sz, idxV sz (some (3, 1)) (.pointer (some ⟨ba, 0, none⟩)) (.int .i64 2) = some (.pointer (some ⟨ba, 2, none⟩)) := fun sz => by simp [idxV]
        have hb1 : h.size + 1 < Y.size := lt_of_blk wBY
        have fin : ∀ (y : Heap) (M : Nat → Prop) (r0 : Option Addr) (n0 c0' : Nat) (r1 : Option Addr) (n1 c1 : Nat) (r2 : Option Addr) (n2 c2 : Nat) (p0 p1 p2 : Option Nat), Tr N1 M z y → (∀ b, N2 b → M b) → Grs rInt 3 h.size M y N [⟨.slice r0 n0 c0', c.sum.take j ++ [vS], p0⟩, ⟨.slice r1 n1 c1, c.mn.take j ++ [vN], p1⟩, ⟨.slice r2 n2 c2, c.mx.take j ++ [vX], p2⟩] →
            y[h.size + 1]? = some (.cells #[bv] 66 (0, 0)) → y[h.size + 2]? = some (.cells #[.slice va c.key.length vc, .int .i64 c.count, .slice va2 vn2 vc2, .slice va3 vn3 vc3, .slice va4 vn4 vc4] 65 (0, 0)) → Tr N2 M Y y →
            ∃ N1 bv o2 o3 o4, Tr N N1 y0 (y.setIfInBounds (h.size + 2) (.cells #[.slice va c.key.length vc, .int .i64 c.count, .slice r0 n0 c0', .slice r1 n1 c1, .slice r2 n2 c2] 65 (0, 0))) ∧ (∀ b, N b → N1 b) ∧ j + 1 ≤ m ∧ (y.setIfInBounds (h.size + 2) (.cells #[.slice va c.key.length vc, .int .i64 c.count, .slice r0 n0 c0', .slice r1 n1 c1, .slice r2 n2 c2] 65 (0, 0)))[h.size + 1]? = some (.cells #[bv] 66 (0, 0)) ∧
              SlRep rByte F (y.setIfInBounds (h.size + 2) (.cells #[.slice va c.key.length vc, .int .i64 c.count, .slice r0 n0 c0', .slice r1 n1 c1, .slice r2 n2 c2] 65 (0, 0))) bv (bs.drop (c.key.length + 2 + 24 * (j + 1))) ∧
              (y.setIfInBounds (h.size + 2) (.cells #[.slice va c.key.length vc, .int .i64 c.count, .slice r0 n0 c0', .slice r1 n1 c1, .slice r2 n2 c2] 65 (0, 0)))[h.size + 2]? = some (.cells #[.slice va c.key.length vc, .int .i64 c.count, .slice r0 n0 c0', .slice r1 n1 c1, .slice r2 n2 c2] 65 (0, 0)) ∧
              Grs rInt 3 h.size N1 (y.setIfInBounds (h.size + 2) (.cells #[.slice va c.key.length vc, .int .i64 c.count, .slice r0 n0 c0', .slice r1 n1 c1, .slice r2 n2 c2] 65 (0, 0))) N [⟨.slice r0 n0 c0', c.sum.take (j + 1), o2⟩, ⟨.slice r1 n1 c1, c.mn.take (j + 1), o3⟩, ⟨.slice r2 n2 c2, c.mx.take (j + 1), o4⟩] := by
          intro y M r0 n0 c0' r1 n1 c1 r2 n2 c2 p0 p1 p2 tr hm G wB wC tYy
          have hNM : ∀ b, N b → M b := fun b hb => hm b ((hN2' b).2 (.inl (hN1 b hb)))
          have hNC := (hN (h.size + 2)).2 (.inr rfl)
          refine ⟨M, bv, p0, p1, p2, (tz.trans tr).set _ (hNM _ hNC), hNM, hjl, (set_other _ (by omega)).trans wB, ?_, set_same _ (lt_of_blk wC), ?_⟩
          · have e : c.key.length + 2 + 24 * (j + 1) = q + 24 := by omega
            rw [e]
            refine ry.mono fun b hb => ⟨hb, ?_⟩
            have h1 := hF _ hb
            have h2 := tt0.size
            have h3 := tz.size
            have h4 := tY.size
            rw [set_other _ (by omega), tYy.keep.blk b (by omega) fun h5 => ?_]
            rcases (hN2' b).1 h5 with h6 | h6
            · have := (tt0.trans tz).fresh b h6; omega
            · omega
          · rw [htk c.sum (by omega), htk c.mn (by rw [hc.mn]; omega), htk c.mx (by rw [hc.mx]; omega), ← evS, ← evN, ← evX]
            exact G.wr _ (hNM _ hNC) hNC
        refine drawn_byT (.node 4 10 (.node 4 16 (.node 5 10 (.node 5 16 (.node 10 16 (.node 11 16 (.leaf [⟨0, true, []⟩, ⟨1, true, []⟩, ⟨2, true, []⟩, ⟨3, true, []⟩, ⟨6, true, []⟩, ⟨7, true, []⟩, ⟨8, true, []⟩, ⟨9, true, []⟩, ⟨12, true, []⟩, ⟨13, true, []⟩, ⟨14, true, []⟩, ⟨15, true, []⟩, ⟨4, false, [0, 1, 6, 7, 8, 9, 12, 13, 14, 15]⟩, ⟨5, false, [6, 7, 8, 9, 12, 13, 14, 15]⟩, ⟨18, true, []⟩, ⟨10, false, [6, 7, 12, 13, 14, 15, 18]⟩, ⟨11, false, [12, 13, 14, 15, 18]⟩, ⟨16, false, [12, 13, 18]⟩, ⟨17, false, [18]⟩, ⟨19, false, []⟩, ⟨20, true, []⟩, ⟨21, false, []⟩, ⟨22, true, []⟩, ⟨23, false, []⟩]) (.leaf [⟨0, true, []⟩, ⟨1, true, []⟩, ⟨2, true, []⟩, ⟨3, true, []⟩, ⟨6, true, []⟩, ⟨7, true, []⟩, ⟨8, true, []⟩, ⟨9, true, []⟩, ⟨12, true, []⟩, ⟨13, true, []⟩, ⟨14, true, []⟩, ⟨15, true, []⟩, ⟨4, false, [0, 1, 6, 7, 8, 9, 12, 13, 14, 15]⟩, ⟨5, false, [6, 7, 8, 9, 12, 13, 14, 15]⟩, ⟨18, true, []⟩, ⟨10, false, [6, 7, 12, 13, 14, 15, 18]⟩, ⟨16, false, [6, 7, 12, 13, 18]⟩, ⟨11, false, [12, 13, 18]⟩, ⟨17, false, [18]⟩, ⟨19, false, []⟩, ⟨20, true, []⟩, ⟨21, false, []⟩, ⟨22, true, []⟩, ⟨23, false, []⟩])) (.leaf [⟨0, true, []⟩, ⟨1, true, []⟩, ⟨2, true, []⟩, ⟨3, true, []⟩, ⟨6, true, []⟩, ⟨7, true, []⟩, ⟨8, true, []⟩, ⟨9, true, []⟩, ⟨12, true, []⟩, ⟨13, true, []⟩, ⟨14, true, []⟩, ⟨15, true, []⟩, ⟨4, false, [0, 1, 6, 7, 8, 9, 12, 13, 14, 15]⟩, ⟨5, false, [6, 7, 8, 9, 12, 13, 14, 15]⟩, ⟨18, true, []⟩, ⟨16, false, [6, 7, 8, 9, 12, 13, 18]⟩, ⟨10, false, [6, 7, 12, 13, 18]⟩, ⟨11, false, [12, 13, 18]⟩, ⟨17, false, [18]⟩, ⟨19, false, []⟩, ⟨20, true, []⟩, ⟨21, false, []⟩, ⟨22, true, []⟩, ⟨23, false, []⟩])) (.leaf [⟨0, true, []⟩, ⟨1, true, []⟩, ⟨2, true, []⟩, ⟨3, true, []⟩, ⟨6, true, []⟩, ⟨7, true, []⟩, ⟨8, true, []⟩, ⟨9, true, []⟩, ⟨12, true, []⟩, ⟨13, true, []⟩, ⟨14, true, []⟩, ⟨15, true, []⟩, ⟨4, false, [0, 1, 6, 7, 8, 9, 12, 13, 14, 15]⟩, ⟨16, false, [0, 1, 6, 7, 8, 9, 12, 13]⟩, ⟨5, false, [6, 7, 8, 9, 12, 13]⟩, ⟨18, true, []⟩, ⟨10, false, [6, 7, 12, 13, 18]⟩, ⟨11, false, [12, 13, 18]⟩, ⟨17, false, [18]⟩, ⟨19, false, []⟩, ⟨20, true, []⟩, ⟨21, false, []⟩, ⟨22, true, []⟩, ⟨23, false, []⟩])) (.node 10 16 (.node 5 16 (.node 11 16 (.leaf [⟨0, true, []⟩, ⟨1, true, []⟩, ⟨2, true, []⟩, ⟨3, true, []⟩, ⟨6, true, []⟩, ⟨7, true, []⟩, ⟨8, true, []⟩, ⟨9, true, []⟩, ⟨12, true, []⟩, ⟨13, true, []⟩, ⟨14, true, []⟩, ⟨15, true, []⟩, ⟨4, false, [0, 1, 6, 7, 8, 9, 12, 13, 14, 15]⟩, ⟨10, false, [0, 1, 6, 7, 12, 13, 14, 15]⟩, ⟨5, false, [6, 7, 12, 13, 14, 15]⟩, ⟨18, true, []⟩, ⟨11, false, [12, 13, 14, 15, 18]⟩, ⟨16, false, [12, 13, 18]⟩, ⟨17, false, [18]⟩, ⟨19, false, []⟩, ⟨20, true, []⟩, ⟨21, false, []⟩, ⟨22, true, []⟩, ⟨23, false, []⟩]) (.leaf [⟨0, true, []⟩, ⟨1, true, []⟩, ⟨2, true, []⟩, ⟨3, true, []⟩, ⟨6, true, []⟩, ⟨7, true, []⟩, ⟨8, true, []⟩, ⟨9, true, []⟩, ⟨12, true, []⟩, ⟨13, true, []⟩, ⟨14, true, []⟩, ⟨15, true, []⟩, ⟨4, false, [0, 1, 6, 7, 8, 9, 12, 13, 14, 15]⟩, ⟨10, false, [0, 1, 6, 7, 12, 13, 14, 15]⟩, ⟨5, false, [6, 7, 12, 13, 14, 15]⟩, ⟨18, true, []⟩, ⟨16, false, [6, 7, 12, 13, 18]⟩, ⟨11, false, [12, 13, 18]⟩, ⟨17, false, [18]⟩, ⟨19, false, []⟩, ⟨20, true, []⟩, ⟨21, false, []⟩, ⟨22, true, []⟩, ⟨23, false, []⟩])) (.leaf [⟨0, true, []⟩, ⟨1, true, []⟩, ⟨2, true, []⟩, ⟨3, true, []⟩, ⟨6, true, []⟩, ⟨7, true, []⟩, ⟨8, true, []⟩, ⟨9, true, []⟩, ⟨12, true, []⟩, ⟨13, true, []⟩, ⟨14, true, []⟩, ⟨15, true, []⟩, ⟨4, false, [0, 1, 6, 7, 8, 9, 12, 13, 14, 15]⟩, ⟨10, false, [0, 1, 6, 7, 12, 13, 14, 15]⟩, ⟨16, false, [0, 1, 6, 7, 12, 13]⟩, ⟨5, false, [6, 7, 12, 13]⟩, ⟨18, true, []⟩, ⟨11, false, [12, 13, 18]⟩, ⟨17, false, [18]⟩, ⟨19, false, []⟩, ⟨20, true, []⟩, ⟨21, false, []⟩, ⟨22, true, []⟩, ⟨23, false, []⟩])) (.leaf [⟨0, true, []⟩, ⟨1, true, []⟩, ⟨2, true, []⟩, ⟨3, true, []⟩, ⟨6, true, []⟩, ⟨7, true, []⟩, ⟨8, true, []⟩, ⟨9, true, []⟩, ⟨12, true, []⟩, ⟨13, true, []⟩, ⟨14, true, []⟩, ⟨15, true, []⟩, ⟨4, false, [0, 1, 6, 7, 8, 9, 12, 13, 14, 15]⟩, ⟨16, false, [0, 1, 6, 7, 8, 9, 12, 13]⟩, ⟨10, false, [0, 1, 6, 7, 12, 13]⟩, ⟨5, false, [6, 7, 12, 13]⟩, ⟨18, true, []⟩, ⟨11, false, [12, 13, 18]⟩, ⟨17, false, [18]⟩, ⟨19, false, []⟩, ⟨20, true, []⟩, ⟨21, false, []⟩, ⟨22, true, []⟩, ⟨23, false, []⟩]))) (.node 5 10 (.leaf [⟨0, true, []⟩, ⟨1, true, []⟩, ⟨2, true, []⟩, ⟨3, true, []⟩, ⟨6, true, []⟩, ⟨7, true, []⟩, ⟨8, true, []⟩, ⟨9, true, []⟩, ⟨12, true, []⟩, ⟨13, true, []⟩, ⟨14, true, []⟩, ⟨15, true, []⟩, ⟨16, false, [0, 1, 2, 3, 6, 7, 8, 9, 12, 13]⟩, ⟨4, false, [0, 1, 6, 7, 8, 9, 12, 13]⟩, ⟨5, false, [6, 7, 8, 9, 12, 13]⟩, ⟨18, true, []⟩, ⟨10, false, [6, 7, 12, 13, 18]⟩, ⟨11, false, [12, 13, 18]⟩, ⟨17, false, [18]⟩, ⟨19, false, []⟩, ⟨20, true, []⟩, ⟨21, false, []⟩, ⟨22, true, []⟩, ⟨23, false, []⟩]) (.leaf [⟨0, true, []⟩, ⟨1, true, []⟩, ⟨2, true, []⟩, ⟨3, true, []⟩, ⟨6, true, []⟩, ⟨7, true, []⟩, ⟨8, true, []⟩, ⟨9, true, []⟩, ⟨12, true, []⟩, ⟨13, true, []⟩, ⟨14, true, []⟩, ⟨15, true, []⟩, ⟨16, false, [0, 1, 2, 3, 6, 7, 8, 9, 12, 13]⟩, ⟨4, false, [0, 1, 6, 7, 8, 9, 12, 13]⟩, ⟨10, false, [0, 1, 6, 7, 12, 13]⟩, ⟨5, false, [6, 7, 12, 13]⟩, ⟨18, true, []⟩, ⟨11, false, [12, 13, 18]⟩, ⟨17, false, [18]⟩, ⟨19, false, []⟩, ⟨20, true, []⟩, ⟨21, false, []⟩, ⟨22, true, []⟩, ⟨23, false, []⟩]))) (.node 10 16 (.node 4 16 (.node 5 16 (.node 11 16 (.leaf [⟨0, true, []⟩, ⟨1, true, []⟩, ⟨2, true, []⟩, ⟨3, true, []⟩, ⟨6, true, []⟩, ⟨7, true, []⟩, ⟨8, true, []⟩, ⟨9, true, []⟩, ⟨12, true, []⟩, ⟨13, true, []⟩, ⟨14, true, []⟩, ⟨15, true, []⟩, ⟨10, false, [0, 1, 2, 3, 6, 7, 12, 13, 14, 15]⟩, ⟨4, false, [0, 1, 6, 7, 12, 13, 14, 15]⟩, ⟨5, false, [6, 7, 12, 13, 14, 15]⟩, ⟨18, true, []⟩, ⟨11, false, [12, 13, 14, 15, 18]⟩, ⟨16, false, [12, 13, 18]⟩, ⟨17, false, [18]⟩, ⟨19, false, []⟩, ⟨20, true, []⟩, ⟨21, false, []⟩, ⟨22, true, []⟩, ⟨23, false, []⟩]) (.leaf [⟨0, true, []⟩, ⟨1, true, []⟩, ⟨2, true, []⟩, ⟨3, true, []⟩, ⟨6, true, []⟩, ⟨7, true, []⟩, ⟨8, true, []⟩, ⟨9, true, []⟩, ⟨12, true, []⟩, ⟨13, true, []⟩, ⟨14, true, []⟩, ⟨15, true, []⟩, ⟨10, false, [0, 1, 2, 3, 6, 7, 12, 13, 14, 15]⟩, ⟨4, false, [0, 1, 6, 7, 12, 13, 14, 15]⟩, ⟨5, false, [6, 7, 12, 13, 14, 15]⟩, ⟨18, true, []⟩, ⟨16, false, [6, 7, 12, 13, 18]⟩, ⟨11, false, [12, 13, 18]⟩, ⟨17, false, [18]⟩, ⟨19, false, []⟩, ⟨20, true, []⟩, ⟨21, false, []⟩, ⟨22, true, []⟩, ⟨23, false, []⟩])) (.leaf [⟨0, true, []⟩, ⟨1, true, []⟩, ⟨2, true, []⟩, ⟨3, true, []⟩, ⟨6, true, []⟩, ⟨7, true, []⟩, ⟨8, true, []⟩, ⟨9, true, []⟩, ⟨12, true, []⟩, ⟨13, true, []⟩, ⟨14, true, []⟩, ⟨15, true, []⟩, ⟨10, false, [0, 1, 2, 3, 6, 7, 12, 13, 14, 15]⟩, ⟨4, false, [0, 1, 6, 7, 12, 13, 14, 15]⟩, ⟨16, false, [0, 1, 6, 7, 12, 13]⟩, ⟨5, false, [6, 7, 12, 13]⟩, ⟨18, true, []⟩, ⟨11, false, [12, 13, 18]⟩, ⟨17, false, [18]⟩, ⟨19, false, []⟩, ⟨20, true, []⟩, ⟨21, false, []⟩, ⟨22, true, []⟩, ⟨23, false, []⟩])) (.leaf [⟨0, true, []⟩, ⟨1, true, []⟩, ⟨2, true, []⟩, ⟨3, true, []⟩, ⟨6, true, []⟩, ⟨7, true, []⟩, ⟨8, true, []⟩, ⟨9, true, []⟩, ⟨12, true, []⟩, ⟨13, true, []⟩, ⟨14, true, []⟩, ⟨15, true, []⟩, ⟨10, false, [0, 1, 2, 3, 6, 7, 12, 13, 14, 15]⟩, ⟨16, false, [0, 1, 2, 3, 6, 7, 12, 13]⟩, ⟨4, false, [0, 1, 6, 7, 12, 13]⟩, ⟨5, false, [6, 7, 12, 13]⟩, ⟨18, true, []⟩, ⟨11, false, [12, 13, 18]⟩, ⟨17, false, [18]⟩, ⟨19, false, []⟩, ⟨20, true, []⟩, ⟨21, false, []⟩, ⟨22, true, []⟩, ⟨23, false, []⟩])) (.leaf [⟨0, true, []⟩, ⟨1, true, []⟩, ⟨2, true, []⟩, ⟨3, true, []⟩, ⟨6, true, []⟩, ⟨7, true, []⟩, ⟨8, true, []⟩, ⟨9, true, []⟩, ⟨12, true, []⟩, ⟨13, true, []⟩, ⟨14, true, []⟩, ⟨15, true, []⟩, ⟨16, false, [0, 1, 2, 3, 6, 7, 8, 9, 12, 13]⟩, ⟨10, false, [0, 1, 2, 3, 6, 7, 12, 13]⟩, ⟨4, false, [0, 1, 6, 7, 12, 13]⟩, ⟨5, false, [6, 7, 12, 13]⟩, ⟨18, true, []⟩, ⟨11, false, [12, 13, 18]⟩, ⟨17, false, [18]⟩, ⟨19, false, []⟩, ⟨20, true, []⟩, ⟨21, false, []⟩, ⟨22, true, []⟩, ⟨23, false, []⟩]))) (by kernel_rfl) (by kernel_rfl) ⟨⟨⟨⟨⟨⟨?L0, ?L1⟩, ?L2⟩, ?L3⟩, ⟨⟨⟨?L4, ?L5⟩, ?L6⟩, ?L7⟩⟩, ⟨?L8, ?L9⟩⟩, ⟨⟨⟨⟨?L10, ?L11⟩, ?L12⟩, ?L13⟩, ?L14⟩⟩
        case' L0 =>
          rw [treeW_leaf]
          simp -dsimp [wCY, wCp1 wCY, wAY, wCp1 wAY, idA0, idA1, idA2, again_cons]
          generalize hP1 : Array.push Y _ = Y1
          have kp1 : Keep none_ Y Y1 := by rw [← hP1]; exact (Keep.refl none_ Y).pushed _
          have wE0 : Y1[Y.size]? = some (.cells #[.int .i64 vS] 3 (0, 0)) := by rw [← hP1]; exact push_new _ _
          have wB1 := kp1.at wBY (fun h => h)
          have wC1 := kp1.at wCY (fun h => h)
          have wA1 := kp1.at wAY (fun h => h)
          have t1 := tY.call kp1
          have v1 := tY.here.call kp1
          have G1 := GY.call kp1
          refine grs_at (i := 0) (t := ⟨.slice va2 vn2 vc2, c.sum.take j, o2⟩) (x := vS) (c := [.int .i64 vS]) wE0 intT G1 rfl t1.lt rfl rfl (by show ((c.sum.take j).length + 1) * 8 ≤ _; have := ll c.sum; omega) (by show (c.sum.take j).length + 1 < _; have := ll c.sum; omega) (fun b hb => by have := t1.size; have := hNlt b hb; omega) (by have := t1.size; omega) ?_
          intro ra0 rn0 rc0 Y2 M2 p0 kp2 u2 G2 n2
          have t2 := t1.trans u2
          have v2 := v1.trans u2
          have wB2 := kp2.at wB1 (hno0 _ (by omega))
          have wC2 := kp2.at wC1 (hno0 _ (by omega))
          have wA2 := kp2.at wA1 (hno0 _ (by omega))
          have m2 : ∀ b, N2 b → M2 b := fun b hb => n2 b (hN2 b hb)
          simp -dsimp [wC2, wCp1 wC2, wA2, wCp1 wA2, idA0, idA1, idA2, again_cons]
          generalize hP3 : Array.push Y2 _ = Y3
          have kp3 : Keep none_ Y2 Y3 := by rw [← hP3]; exact (Keep.refl none_ Y2).pushed _
          have wE1 : Y3[Y2.size]? = some (.cells #[.int .i64 vN] 3 (0, 0)) := by rw [← hP3]; exact push_new _ _
          have wB3 := kp3.at wB2 (fun h => h)
          have wC3 := kp3.at wC2 (fun h => h)
          have wA3 := kp3.at wA2 (fun h => h)
          have t3 := t2.call kp3
          have v3 := v2.call kp3
          have G3 := G2.call kp3
          refine grs_at (i := 1) (t := ⟨.slice va3 vn3 vc3, c.mn.take j, o3⟩) (x := vN) (c := [.int .i64 vN]) wE1 intT G3 rfl t3.lt rfl rfl (by show ((c.mn.take j).length + 1) * 8 ≤ _; have := ll c.mn; omega) (by show (c.mn.take j).length + 1 < _; have := ll c.mn; omega) (fun b hb => by have := t3.size; have := hNlt b hb; omega) (by have := t3.size; omega) ?_
          intro ra1 rn1 rc1 Y4 M4 p1 kp4 u4 G4 n4
          have t4 := t3.trans u4
          have v4 := v3.trans u4
          have wB4 := kp4.at wB3 (hno1 _ (by omega))
          have wC4 := kp4.at wC3 (hno1 _ (by omega))
          have wA4 := kp4.at wA3 (hno1 _ (by omega))
          have m4 : ∀ b, N2 b → M4 b := fun b hb => n4 b (m2 b hb)
          simp -dsimp [wC4, wCp1 wC4, wA4, wCp1 wA4, idA0, idA1, idA2, again_cons]
          generalize hP5 : Array.push Y4 _ = Y5
          have kp5 : Keep none_ Y4 Y5 := by rw [← hP5]; exact (Keep.refl none_ Y4).pushed _
          have wE2 : Y5[Y4.size]? = some (.cells #[.int .i64 vX] 3 (0, 0)) := by rw [← hP5]; exact push_new _ _
          have wB5 := kp5.at wB4 (fun h => h)
          have wC5 := kp5.at wC4 (fun h => h)
          have wA5 := kp5.at wA4 (fun h => h)
          have t5 := t4.call kp5
          have v5 := v4.call kp5
          have G5 := G4.call kp5
          refine grs_at (i := 2) (t := ⟨.slice va4 vn4 vc4, c.mx.take j, o4⟩) (x := vX) (c := [.int .i64 vX]) wE2 intT G5 rfl t5.lt rfl rfl (by show ((c.mx.take j).length + 1) * 8 ≤ _; have := ll c.mx; omega) (by show (c.mx.take j).length + 1 < _; have := ll c.mx; omega) (fun b hb => by have := t5.size; have := hNlt b hb; omega) (by have := t5.size; omega) ?_
          intro ra2 rn2 rc2 Y6 M6 p2 kp6 u6 G6 n6
          have t6 := t5.trans u6
          have v6 := v5.trans u6
          have wB6 := kp6.at wB5 (hno2 _ (by omega))
          have wC6 := kp6.at wC5 (hno2 _ (by omega))
          have wA6 := kp6.at wA5 (hno2 _ (by omega))
          have m6 : ∀ b, N2 b → M6 b := fun b hb => n6 b (m4 b hb)
          simp -dsimp [wC6, set_same _ (lt_of_blk wC6), Array.setIfInBounds_setIfInBounds, wj, again_cons]
          exact ⟨(j + 1, _, _, _), by simp, rfl, fin Y6 M6 _ _ _ _ _ _ _ _ _ p0 p1 p2 t6 m6 G6 wB6 wC6 v6, by show m - (j + 1) < m - j; omega⟩
        case' L1 =>
          rw [treeW_leaf]
          simp -dsimp [wCY, wCp1 wCY, wAY, wCp1 wAY, idA0, idA1, idA2, again_cons]
          generalize hP1 : Array.push Y _ = Y1
          have kp1 : Keep none_ Y Y1 := by rw [← hP1]; exact (Keep.refl none_ Y).pushed _
          have wE0 : Y1[Y.size]? = some (.cells #[.int .i64 vS] 3 (0, 0)) := by rw [← hP1]; exact push_new _ _
          have wB1 := kp1.at wBY (fun h => h)
          have wC1 := kp1.at wCY (fun h => h)
          have wA1 := kp1.at wAY (fun h => h)
          have t1 := tY.call kp1
          have v1 := tY.here.call kp1
          have G1 := GY.call kp1
          refine grs_at (i := 0) (t := ⟨.slice va2 vn2 vc2, c.sum.take j, o2⟩) (x := vS) (c := [.int .i64 vS]) wE0 intT G1 rfl t1.lt rfl rfl (by show ((c.sum.take j).length + 1) * 8 ≤ _; have := ll c.sum; omega) (by show (c.sum.take j).length + 1 < _; have := ll c.sum; omega) (fun b hb => by have := t1.size; have := hNlt b hb; omega) (by have := t1.size; omega) ?_
          intro ra0 rn0 rc0 Y2 M2 p0 kp2 u2 G2 n2
          have t2 := t1.trans u2
          have v2 := v1.trans u2
          have wB2 := kp2.at wB1 (hno0 _ (by omega))
          have wC2 := kp2.at wC1 (hno0 _ (by omega))
          have wA2 := kp2.at wA1 (hno0 _ (by omega))
          have m2 : ∀ b, N2 b → M2 b := fun b hb => n2 b (hN2 b hb)
          simp -dsimp [wC2, wCp1 wC2, wCp2 wC2, wA2, wCp1 wA2, wCp2 wA2, idA0, idA1, idA2, again_cons]
          generalize hP3 : Array.push (Array.push Y2 _) _ = Y3
          have kp3 : Keep none_ Y2 Y3 := by rw [← hP3]; exact ((Keep.refl none_ Y2).pushed _).pushed _
          have wE1 : Y3[Y2.size]? = some (.cells #[.int .i64 vN] 3 (0, 0)) := by rw [← hP3]; exact push_at (push_new _ _)
          have wE2 : Y3[Y2.size + 1]? = some (.cells #[.int .i64 vX] 3 (0, 0)) := by rw [← hP3]; exact push_get (by simp)
          have wB3 := kp3.at wB2 (fun h => h)
          have wC3 := kp3.at wC2 (fun h => h)
          have wA3 := kp3.at wA2 (fun h => h)
          have t3 := t2.call kp3
          have v3 := v2.call kp3
          have G3 := G2.call kp3
          refine grs_at (i := 1) (t := ⟨.slice va3 vn3 vc3, c.mn.take j, o3⟩) (x := vN) (c := [.int .i64 vN]) wE1 intT G3 rfl t3.lt rfl rfl (by show ((c.mn.take j).length + 1) * 8 ≤ _; have := ll c.mn; omega) (by show (c.mn.take j).length + 1 < _; have := ll c.mn; omega) (fun b hb => by have := t3.size; have := hNlt b hb; omega) (by have := t3.size; omega) ?_
          intro ra1 rn1 rc1 Y4 M4 p1 kp4 u4 G4 n4
          have t4 := t3.trans u4
          have v4 := v3.trans u4
          have wB4 := kp4.at wB3 (hno1 _ (by omega))
          have wC4 := kp4.at wC3 (hno1 _ (by omega))
          have wA4 := kp4.at wA3 (hno1 _ (by omega))
          replace wE2 := kp4.at wE2 (hno1 _ (by have := t2.size; omega))
          have m4 : ∀ b, N2 b → M4 b := fun b hb => n4 b (m2 b hb)
          simp -dsimp [wC4, wA4, idA0, idA1, idA2, again_cons]
          refine grs_at (i := 2) (t := ⟨.slice va4 vn4 vc4, c.mx.take j, o4⟩) (x := vX) (c := [.int .i64 vX]) wE2 intT G4 rfl t4.lt rfl rfl (by show ((c.mx.take j).length + 1) * 8 ≤ _; have := ll c.mx; omega) (by show (c.mx.take j).length + 1 < _; have := ll c.mx; omega) (fun b hb => by have := t4.size; have := hNlt b hb; omega) (by have := t4.size; omega) ?_
          intro ra2 rn2 rc2 Y5 M5 p2 kp5 u5 G5 n5
          have t5 := t4.trans u5
          have v5 := v4.trans u5
          have wB5 := kp5.at wB4 (hno2 _ (by omega))
          have wC5 := kp5.at wC4 (hno2 _ (by omega))
          have wA5 := kp5.at wA4 (hno2 _ (by omega))
          have m5 : ∀ b, N2 b → M5 b := fun b hb => n5 b (m4 b hb)
          simp -dsimp [wC5, set_same _ (lt_of_blk wC5), Array.setIfInBounds_setIfInBounds, wj, again_cons]
          exact ⟨(j + 1, _, _, _), by simp, rfl, fin Y5 M5 _ _ _ _ _ _ _ _ _ p0 p1 p2 t5 m5 G5 wB5 wC5 v5, by show m - (j + 1) < m - j; omega⟩
        case' L2 =>
          rw [treeW_leaf]
          simp -dsimp [wCY, wCp1 wCY, wAY, wCp1 wAY, idA0, idA1, idA2, again_cons]
          generalize hP1 : Array.push Y _ = Y1
          have kp1 : Keep none_ Y Y1 := by rw [← hP1]; exact (Keep.refl none_ Y).pushed _
          have wE0 : Y1[Y.size]? = some (.cells #[.int .i64 vS] 3 (0, 0)) := by rw [← hP1]; exact push_new _ _
          have wB1 := kp1.at wBY (fun h => h)
          have wC1 := kp1.at wCY (fun h => h)
          have wA1 := kp1.at wAY (fun h => h)
          have t1 := tY.call kp1
          have v1 := tY.here.call kp1
          have G1 := GY.call kp1
          refine grs_at (i := 0) (t := ⟨.slice va2 vn2 vc2, c.sum.take j, o2⟩) (x := vS) (c := [.int .i64 vS]) wE0 intT G1 rfl t1.lt rfl rfl (by show ((c.sum.take j).length + 1) * 8 ≤ _; have := ll c.sum; omega) (by show (c.sum.take j).length + 1 < _; have := ll c.sum; omega) (fun b hb => by have := t1.size; have := hNlt b hb; omega) (by have := t1.size; omega) ?_
          intro ra0 rn0 rc0 Y2 M2 p0 kp2 u2 G2 n2
          have t2 := t1.trans u2
          have v2 := v1.trans u2
          have wB2 := kp2.at wB1 (hno0 _ (by omega))
          have wC2 := kp2.at wC1 (hno0 _ (by omega))
          have wA2 := kp2.at wA1 (hno0 _ (by omega))
          have m2 : ∀ b, N2 b → M2 b := fun b hb => n2 b (hN2 b hb)
          simp -dsimp [wC2, wCp1 wC2, wCp2 wC2, wA2, wCp1 wA2, wCp2 wA2, idA0, idA1, idA2, again_cons]
          generalize hP3 : Array.push (Array.push Y2 _) _ = Y3
          have kp3 : Keep none_ Y2 Y3 := by rw [← hP3]; exact ((Keep.refl none_ Y2).pushed _).pushed _
          have wE2 : Y3[Y2.size]? = some (.cells #[.int .i64 vX] 3 (0, 0)) := by rw [← hP3]; exact push_at (push_new _ _)
          have wE1 : Y3[Y2.size + 1]? = some (.cells #[.int .i64 vN] 3 (0, 0)) := by rw [← hP3]; exact push_get (by simp)
          have wB3 := kp3.at wB2 (fun h => h)
          have wC3 := kp3.at wC2 (fun h => h)
          have wA3 := kp3.at wA2 (fun h => h)
          have t3 := t2.call kp3
          have v3 := v2.call kp3
          have G3 := G2.call kp3
          refine grs_at (i := 1) (t := ⟨.slice va3 vn3 vc3, c.mn.take j, o3⟩) (x := vN) (c := [.int .i64 vN]) wE1 intT G3 rfl t3.lt rfl rfl (by show ((c.mn.take j).length + 1) * 8 ≤ _; have := ll c.mn; omega) (by show (c.mn.take j).length + 1 < _; have := ll c.mn; omega) (fun b hb => by have := t3.size; have := hNlt b hb; omega) (by have := t3.size; omega) ?_
          intro ra1 rn1 rc1 Y4 M4 p1 kp4 u4 G4 n4
          have t4 := t3.trans u4
          have v4 := v3.trans u4
          have wB4 := kp4.at wB3 (hno1 _ (by omega))
          have wC4 := kp4.at wC3 (hno1 _ (by omega))
          have wA4 := kp4.at wA3 (hno1 _ (by omega))
          replace wE2 := kp4.at wE2 (hno1 _ (by have := t2.size; omega))
          have m4 : ∀ b, N2 b → M4 b := fun b hb => n4 b (m2 b hb)
          simp -dsimp [wC4, wA4, idA0, idA1, idA2, again_cons]
          refine grs_at (i := 2) (t := ⟨.slice va4 vn4 vc4, c.mx.take j, o4⟩) (x := vX) (c := [.int .i64 vX]) wE2 intT G4 rfl t4.lt rfl rfl (by show ((c.mx.take j).length + 1) * 8 ≤ _; have := ll c.mx; omega) (by show (c.mx.take j).length + 1 < _; have := ll c.mx; omega) (fun b hb => by have := t4.size; have := hNlt b hb; omega) (by have := t4.size; omega) ?_
          intro ra2 rn2 rc2 Y5 M5 p2 kp5 u5 G5 n5
          have t5 := t4.trans u5
          have v5 := v4.trans u5
          have wB5 := kp5.at wB4 (hno2 _ (by omega))
          have wC5 := kp5.at wC4 (hno2 _ (by omega))
          have wA5 := kp5.at wA4 (hno2 _ (by omega))
          have m5 : ∀ b, N2 b → M5 b := fun b hb => n5 b (m4 b hb)
          simp -dsimp [wC5, set_same _ (lt_of_blk wC5), Array.setIfInBounds_setIfInBounds, wj, again_cons]
          exact ⟨(j + 1, _, _, _), by simp, rfl, fin Y5 M5 _ _ _ _ _ _ _ _ _ p0 p1 p2 t5 m5 G5 wB5 wC5 v5, by show m - (j + 1) < m - j; omega⟩
        case' L3 =>
          rw [treeW_leaf]
          simp -dsimp [wCY, wCp1 wCY, wCp2 wCY, wAY, wCp1 wAY, wCp2 wAY, idA0, idA1, idA2, again_cons]
          generalize hP1 : Array.push (Array.push Y _) _ = Y1
          have kp1 : Keep none_ Y Y1 := by rw [← hP1]; exact ((Keep.refl none_ Y).pushed _).pushed _
          have wE0 : Y1[Y.size]? = some (.cells #[.int .i64 vS] 3 (0, 0)) := by rw [← hP1]; exact push_at (push_new _ _)
          have wE2 : Y1[Y.size + 1]? = some (.cells #[.int .i64 vX] 3 (0, 0)) := by rw [← hP1]; exact push_get (by simp)
          have wB1 := kp1.at wBY (fun h => h)
          have wC1 := kp1.at wCY (fun h => h)
          have wA1 := kp1.at wAY (fun h => h)
          have t1 := tY.call kp1
          have v1 := tY.here.call kp1
          have G1 := GY.call kp1
          refine grs_at (i := 0) (t := ⟨.slice va2 vn2 vc2, c.sum.take j, o2⟩) (x := vS) (c := [.int .i64 vS]) wE0 intT G1 rfl t1.lt rfl rfl (by show ((c.sum.take j).length + 1) * 8 ≤ _; have := ll c.sum; omega) (by show (c.sum.take j).length + 1 < _; have := ll c.sum; omega) (fun b hb => by have := t1.size; have := hNlt b hb; omega) (by have := t1.size; omega) ?_
          intro ra0 rn0 rc0 Y2 M2 p0 kp2 u2 G2 n2
          have t2 := t1.trans u2
          have v2 := v1.trans u2
          have wB2 := kp2.at wB1 (hno0 _ (by omega))
          have wC2 := kp2.at wC1 (hno0 _ (by omega))
          have wA2 := kp2.at wA1 (hno0 _ (by omega))
          replace wE2 := kp2.at wE2 (hno0 _ (by have := tY.size; omega))
          have m2 : ∀ b, N2 b → M2 b := fun b hb => n2 b (hN2 b hb)
          simp -dsimp [wC2, wCp1 wC2, wA2, wCp1 wA2, idA0, idA1, idA2, again_cons]
          generalize hP3 : Array.push Y2 _ = Y3
          have kp3 : Keep none_ Y2 Y3 := by rw [← hP3]; exact (Keep.refl none_ Y2).pushed _
          have wE1 : Y3[Y2.size]? = some (.cells #[.int .i64 vN] 3 (0, 0)) := by rw [← hP3]; exact push_new _ _
          replace wE2 := kp3.at wE2 (fun h => h)
          have wB3 := kp3.at wB2 (fun h => h)
          have wC3 := kp3.at wC2 (fun h => h)
          have wA3 := kp3.at wA2 (fun h => h)
          have t3 := t2.call kp3
          have v3 := v2.call kp3
          have G3 := G2.call kp3
          refine grs_at (i := 1) (t := ⟨.slice va3 vn3 vc3, c.mn.take j, o3⟩) (x := vN) (c := [.int .i64 vN]) wE1 intT G3 rfl t3.lt rfl rfl (by show ((c.mn.take j).length + 1) * 8 ≤ _; have := ll c.mn; omega) (by show (c.mn.take j).length + 1 < _; have := ll c.mn; omega) (fun b hb => by have := t3.size; have := hNlt b hb; omega) (by have := t3.size; omega) ?_
          intro ra1 rn1 rc1 Y4 M4 p1 kp4 u4 G4 n4
          have t4 := t3.trans u4
          have v4 := v3.trans u4
          have wB4 := kp4.at wB3 (hno1 _ (by omega))
          have wC4 := kp4.at wC3 (hno1 _ (by omega))
          have wA4 := kp4.at wA3 (hno1 _ (by omega))
          replace wE2 := kp4.at wE2 (hno1 _ (by have := tY.size; omega))
          have m4 : ∀ b, N2 b → M4 b := fun b hb => n4 b (m2 b hb)
          simp -dsimp [wC4, wA4, idA0, idA1, idA2, again_cons]
          refine grs_at (i := 2) (t := ⟨.slice va4 vn4 vc4, c.mx.take j, o4⟩) (x := vX) (c := [.int .i64 vX]) wE2 intT G4 rfl t4.lt rfl rfl (by show ((c.mx.take j).length + 1) * 8 ≤ _; have := ll c.mx; omega) (by show (c.mx.take j).length + 1 < _; have := ll c.mx; omega) (fun b hb => by have := t4.size; have := hNlt b hb; omega) (by have := t4.size; omega) ?_
          intro ra2 rn2 rc2 Y5 M5 p2 kp5 u5 G5 n5
          have t5 := t4.trans u5
          have v5 := v4.trans u5
          have wB5 := kp5.at wB4 (hno2 _ (by omega))
          have wC5 := kp5.at wC4 (hno2 _ (by omega))
          have wA5 := kp5.at wA4 (hno2 _ (by omega))
          have m5 : ∀ b, N2 b → M5 b := fun b hb => n5 b (m4 b hb)
          simp -dsimp [wC5, set_same _ (lt_of_blk wC5), Array.setIfInBounds_setIfInBounds, wj, again_cons]
          exact ⟨(j + 1, _, _, _), by simp, rfl, fin Y5 M5 _ _ _ _ _ _ _ _ _ p0 p1 p2 t5 m5 G5 wB5 wC5 v5, by show m - (j + 1) < m - j; omega⟩
        case' L4 =>
          rw [treeW_leaf]
          simp -dsimp [wCY, wCp1 wCY, wCp2 wCY, wAY, wCp1 wAY, wCp2 wAY, idA0, idA1, idA2, again_cons]
          generalize hP1 : Array.push (Array.push Y _) _ = Y1
          have kp1 : Keep none_ Y Y1 := by rw [← hP1]; exact ((Keep.refl none_ Y).pushed _).pushed _
          have wE0 : Y1[Y.size]? = some (.cells #[.int .i64 vS] 3 (0, 0)) := by rw [← hP1]; exact push_at (push_new _ _)
          have wE1 : Y1[Y.size + 1]? = some (.cells #[.int .i64 vN] 3 (0, 0)) := by rw [← hP1]; exact push_get (by simp)
          have wB1 := kp1.at wBY (fun h => h)
          have wC1 := kp1.at wCY (fun h => h)
          have wA1 := kp1.at wAY (fun h => h)
          have t1 := tY.call kp1
          have v1 := tY.here.call kp1
          have G1 := GY.call kp1
          refine grs_at (i := 0) (t := ⟨.slice va2 vn2 vc2, c.sum.take j, o2⟩) (x := vS) (c := [.int .i64 vS]) wE0 intT G1 rfl t1.lt rfl rfl (by show ((c.sum.take j).length + 1) * 8 ≤ _; have := ll c.sum; omega) (by show (c.sum.take j).length + 1 < _; have := ll c.sum; omega) (fun b hb => by have := t1.size; have := hNlt b hb; omega) (by have := t1.size; omega) ?_
          intro ra0 rn0 rc0 Y2 M2 p0 kp2 u2 G2 n2
          have t2 := t1.trans u2
          have v2 := v1.trans u2
          have wB2 := kp2.at wB1 (hno0 _ (by omega))
          have wC2 := kp2.at wC1 (hno0 _ (by omega))
          have wA2 := kp2.at wA1 (hno0 _ (by omega))
          replace wE1 := kp2.at wE1 (hno0 _ (by have := tY.size; omega))
          have m2 : ∀ b, N2 b → M2 b := fun b hb => n2 b (hN2 b hb)
          simp -dsimp [wC2, wA2, idA0, idA1, idA2, again_cons]
          refine grs_at (i := 1) (t := ⟨.slice va3 vn3 vc3, c.mn.take j, o3⟩) (x := vN) (c := [.int .i64 vN]) wE1 intT G2 rfl t2.lt rfl rfl (by show ((c.mn.take j).length + 1) * 8 ≤ _; have := ll c.mn; omega) (by show (c.mn.take j).length + 1 < _; have := ll c.mn; omega) (fun b hb => by have := t2.size; have := hNlt b hb; omega) (by have := t2.size; omega) ?_
          intro ra1 rn1 rc1 Y3 M3 p1 kp3 u3 G3 n3
          have t3 := t2.trans u3
          have v3 := v2.trans u3
          have wB3 := kp3.at wB2 (hno1 _ (by omega))
          have wC3 := kp3.at wC2 (hno1 _ (by omega))
          have wA3 := kp3.at wA2 (hno1 _ (by omega))
          have m3 : ∀ b, N2 b → M3 b := fun b hb => n3 b (m2 b hb)
          simp -dsimp [wC3, wCp1 wC3, wA3, wCp1 wA3, idA0, idA1, idA2, again_cons]
          generalize hP4 : Array.push Y3 _ = Y4
          have kp4 : Keep none_ Y3 Y4 := by rw [← hP4]; exact (Keep.refl none_ Y3).pushed _
          have wE2 : Y4[Y3.size]? = some (.cells #[.int .i64 vX] 3 (0, 0)) := by rw [← hP4]; exact push_new _ _
          have wB4 := kp4.at wB3 (fun h => h)
          have wC4 := kp4.at wC3 (fun h => h)
          have wA4 := kp4.at wA3 (fun h => h)
          have t4 := t3.call kp4
          have v4 := v3.call kp4
          have G4 := G3.call kp4
          refine grs_at (i := 2) (t := ⟨.slice va4 vn4 vc4, c.mx.take j, o4⟩) (x := vX) (c := [.int .i64 vX]) wE2 intT G4 rfl t4.lt rfl rfl (by show ((c.mx.take j).length + 1) * 8 ≤ _; have := ll c.mx; omega) (by show (c.mx.take j).length + 1 < _; have := ll c.mx; omega) (fun b hb => by have := t4.size; have := hNlt b hb; omega) (by have := t4.size; omega) ?_
          intro ra2 rn2 rc2 Y5 M5 p2 kp5 u5 G5 n5
          have t5 := t4.trans u5
          have v5 := v4.trans u5
          have wB5 := kp5.at wB4 (hno2 _ (by omega))
          have wC5 := kp5.at wC4 (hno2 _ (by omega))
          have wA5 := kp5.at wA4 (hno2 _ (by omega))
          have m5 : ∀ b, N2 b → M5 b := fun b hb => n5 b (m3 b hb)
          simp -dsimp [wC5, set_same _ (lt_of_blk wC5), Array.setIfInBounds_setIfInBounds, wj, again_cons]
          exact ⟨(j + 1, _, _, _), by simp, rfl, fin Y5 M5 _ _ _ _ _ _ _ _ _ p0 p1 p2 t5 m5 G5 wB5 wC5 v5, by show m - (j + 1) < m - j; omega⟩
        case' L5 =>
          rw [treeW_leaf]
          simp -dsimp [wCY, wCp1 wCY, wCp2 wCY, wAY, wCp1 wAY, wCp2 wAY, idA0, idA1, idA2, again_cons]
          generalize hP1 : Array.push (Array.push Y _) _ = Y1
          have kp1 : Keep none_ Y Y1 := by rw [← hP1]; exact ((Keep.refl none_ Y).pushed _).pushed _
          have wE0 : Y1[Y.size]? = some (.cells #[.int .i64 vS] 3 (0, 0)) := by rw [← hP1]; exact push_at (push_new _ _)
          have wE1 : Y1[Y.size + 1]? = some (.cells #[.int .i64 vN] 3 (0, 0)) := by rw [← hP1]; exact push_get (by simp)
          have wB1 := kp1.at wBY (fun h => h)
          have wC1 := kp1.at wCY (fun h => h)
          have wA1 := kp1.at wAY (fun h => h)
          have t1 := tY.call kp1
          have v1 := tY.here.call kp1
          have G1 := GY.call kp1
          refine grs_at (i := 0) (t := ⟨.slice va2 vn2 vc2, c.sum.take j, o2⟩) (x := vS) (c := [.int .i64 vS]) wE0 intT G1 rfl t1.lt rfl rfl (by show ((c.sum.take j).length + 1) * 8 ≤ _; have := ll c.sum; omega) (by show (c.sum.take j).length + 1 < _; have := ll c.sum; omega) (fun b hb => by have := t1.size; have := hNlt b hb; omega) (by have := t1.size; omega) ?_
          intro ra0 rn0 rc0 Y2 M2 p0 kp2 u2 G2 n2
          have t2 := t1.trans u2
          have v2 := v1.trans u2
          have wB2 := kp2.at wB1 (hno0 _ (by omega))
          have wC2 := kp2.at wC1 (hno0 _ (by omega))
          have wA2 := kp2.at wA1 (hno0 _ (by omega))
          replace wE1 := kp2.at wE1 (hno0 _ (by have := tY.size; omega))
          have m2 : ∀ b, N2 b → M2 b := fun b hb => n2 b (hN2 b hb)
          simp -dsimp [wC2, wCp1 wC2, wA2, wCp1 wA2, idA0, idA1, idA2, again_cons]
          generalize hP3 : Array.push Y2 _ = Y3
          have kp3 : Keep none_ Y2 Y3 := by rw [← hP3]; exact (Keep.refl none_ Y2).pushed _
          have wE2 : Y3[Y2.size]? = some (.cells #[.int .i64 vX] 3 (0, 0)) := by rw [← hP3]; exact push_new _ _
          replace wE1 := kp3.at wE1 (fun h => h)
          have wB3 := kp3.at wB2 (fun h => h)
          have wC3 := kp3.at wC2 (fun h => h)
          have wA3 := kp3.at wA2 (fun h => h)
          have t3 := t2.call kp3
          have v3 := v2.call kp3
          have G3 := G2.call kp3
          refine grs_at (i := 1) (t := ⟨.slice va3 vn3 vc3, c.mn.take j, o3⟩) (x := vN) (c := [.int .i64 vN]) wE1 intT G3 rfl t3.lt rfl rfl (by show ((c.mn.take j).length + 1) * 8 ≤ _; have := ll c.mn; omega) (by show (c.mn.take j).length + 1 < _; have := ll c.mn; omega) (fun b hb => by have := t3.size; have := hNlt b hb; omega) (by have := t3.size; omega) ?_
          intro ra1 rn1 rc1 Y4 M4 p1 kp4 u4 G4 n4
          have t4 := t3.trans u4
          have v4 := v3.trans u4
          have wB4 := kp4.at wB3 (hno1 _ (by omega))
          have wC4 := kp4.at wC3 (hno1 _ (by omega))
          have wA4 := kp4.at wA3 (hno1 _ (by omega))
          replace wE2 := kp4.at wE2 (hno1 _ (by have := t2.size; omega))
          have m4 : ∀ b, N2 b → M4 b := fun b hb => n4 b (m2 b hb)
          simp -dsimp [wC4, wA4, idA0, idA1, idA2, again_cons]
          refine grs_at (i := 2) (t := ⟨.slice va4 vn4 vc4, c.mx.take j, o4⟩) (x := vX) (c := [.int .i64 vX]) wE2 intT G4 rfl t4.lt rfl rfl (by show ((c.mx.take j).length + 1) * 8 ≤ _; have := ll c.mx; omega) (by show (c.mx.take j).length + 1 < _; have := ll c.mx; omega) (fun b hb => by have := t4.size; have := hNlt b hb; omega) (by have := t4.size; omega) ?_
          intro ra2 rn2 rc2 Y5 M5 p2 kp5 u5 G5 n5
          have t5 := t4.trans u5
          have v5 := v4.trans u5
          have wB5 := kp5.at wB4 (hno2 _ (by omega))
          have wC5 := kp5.at wC4 (hno2 _ (by omega))
          have wA5 := kp5.at wA4 (hno2 _ (by omega))
          have m5 : ∀ b, N2 b → M5 b := fun b hb => n5 b (m4 b hb)
          simp -dsimp [wC5, set_same _ (lt_of_blk wC5), Array.setIfInBounds_setIfInBounds, wj, again_cons]
          exact ⟨(j + 1, _, _, _), by simp, rfl, fin Y5 M5 _ _ _ _ _ _ _ _ _ p0 p1 p2 t5 m5 G5 wB5 wC5 v5, by show m - (j + 1) < m - j; omega⟩
        case' L6 =>
          rw [treeW_leaf]
          simp -dsimp [wCY, wCp1 wCY, wCp2 wCY, wCp3 wCY, wAY, wCp1 wAY, wCp2 wAY, wCp3 wAY, idA0, idA1, idA2, again_cons]
          generalize hP1 : Array.push (Array.push (Array.push Y _) _) _ = Y1
          have kp1 : Keep none_ Y Y1 := by rw [← hP1]; exact (((Keep.refl none_ Y).pushed _).pushed _).pushed _
          have wE0 : Y1[Y.size]? = some (.cells #[.int .i64 vS] 3 (0, 0)) := by rw [← hP1]; exact push_at (push_at (push_new _ _))
          have wE1 : Y1[Y.size + 1]? = some (.cells #[.int .i64 vN] 3 (0, 0)) := by rw [← hP1]; exact push_at (push_get (by simp))
          have wE2 : Y1[Y.size + 1 + 1]? = some (.cells #[.int .i64 vX] 3 (0, 0)) := by rw [← hP1]; exact push_get (by simp)
          have wB1 := kp1.at wBY (fun h => h)
          have wC1 := kp1.at wCY (fun h => h)
          have wA1 := kp1.at wAY (fun h => h)
          have t1 := tY.call kp1
          have v1 := tY.here.call kp1
          have G1 := GY.call kp1
          refine grs_at (i := 0) (t := ⟨.slice va2 vn2 vc2, c.sum.take j, o2⟩) (x := vS) (c := [.int .i64 vS]) wE0 intT G1 rfl t1.lt rfl rfl (by show ((c.sum.take j).length + 1) * 8 ≤ _; have := ll c.sum; omega) (by show (c.sum.take j).length + 1 < _; have := ll c.sum; omega) (fun b hb => by have := t1.size; have := hNlt b hb; omega) (by have := t1.size; omega) ?_
          intro ra0 rn0 rc0 Y2 M2 p0 kp2 u2 G2 n2
          have t2 := t1.trans u2
          have v2 := v1.trans u2
          have wB2 := kp2.at wB1 (hno0 _ (by omega))
          have wC2 := kp2.at wC1 (hno0 _ (by omega))
          have wA2 := kp2.at wA1 (hno0 _ (by omega))
          replace wE1 := kp2.at wE1 (hno0 _ (by have := tY.size; omega))
          replace wE2 := kp2.at wE2 (hno0 _ (by have := tY.size; omega))
          have m2 : ∀ b, N2 b → M2 b := fun b hb => n2 b (hN2 b hb)
          simp -dsimp [wC2, wA2, idA0, idA1, idA2, again_cons]
          refine grs_at (i := 1) (t := ⟨.slice va3 vn3 vc3, c.mn.take j, o3⟩) (x := vN) (c := [.int .i64 vN]) wE1 intT G2 rfl t2.lt rfl rfl (by show ((c.mn.take j).length + 1) * 8 ≤ _; have := ll c.mn; omega) (by show (c.mn.take j).length + 1 < _; have := ll c.mn; omega) (fun b hb => by have := t2.size; have := hNlt b hb; omega) (by have := t2.size; omega) ?_
          intro ra1 rn1 rc1 Y3 M3 p1 kp3 u3 G3 n3
          have t3 := t2.trans u3
          have v3 := v2.trans u3
          have wB3 := kp3.at wB2 (hno1 _ (by omega))
          have wC3 := kp3.at wC2 (hno1 _ (by omega))
          have wA3 := kp3.at wA2 (hno1 _ (by omega))
          replace wE2 := kp3.at wE2 (hno1 _ (by have := tY.size; omega))
          have m3 : ∀ b, N2 b → M3 b := fun b hb => n3 b (m2 b hb)
          simp -dsimp [wC3, wA3, idA0, idA1, idA2, again_cons]
          refine grs_at (i := 2) (t := ⟨.slice va4 vn4 vc4, c.mx.take j, o4⟩) (x := vX) (c := [.int .i64 vX]) wE2 intT G3 rfl t3.lt rfl rfl (by show ((c.mx.take j).length + 1) * 8 ≤ _; have := ll c.mx; omega) (by show (c.mx.take j).length + 1 < _; have := ll c.mx; omega) (fun b hb => by have := t3.size; have := hNlt b hb; omega) (by have := t3.size; omega) ?_
          intro ra2 rn2 rc2 Y4 M4 p2 kp4 u4 G4 n4
          have t4 := t3.trans u4
          have v4 := v3.trans u4
          have wB4 := kp4.at wB3 (hno2 _ (by omega))
          have wC4 := kp4.at wC3 (hno2 _ (by omega))
          have wA4 := kp4.at wA3 (hno2 _ (by omega))
          have m4 : ∀ b, N2 b → M4 b := fun b hb => n4 b (m3 b hb)
          simp -dsimp [wC4, set_same _ (lt_of_blk wC4), Array.setIfInBounds_setIfInBounds, wj, again_cons]
          exact ⟨(j + 1, _, _, _), by simp, rfl, fin Y4 M4 _ _ _ _ _ _ _ _ _ p0 p1 p2 t4 m4 G4 wB4 wC4 v4, by show m - (j + 1) < m - j; omega⟩
        case' L7 =>
          rw [treeW_leaf]
          simp -dsimp [wCY, wCp1 wCY, wCp2 wCY, wCp3 wCY, wAY, wCp1 wAY, wCp2 wAY, wCp3 wAY, idA0, idA1, idA2, again_cons]
          generalize hP1 : Array.push (Array.push (Array.push Y _) _) _ = Y1
          have kp1 : Keep none_ Y Y1 := by rw [← hP1]; exact (((Keep.refl none_ Y).pushed _).pushed _).pushed _
          have wE0 : Y1[Y.size]? = some (.cells #[.int .i64 vS] 3 (0, 0)) := by rw [← hP1]; exact push_at (push_at (push_new _ _))
          have wE2 : Y1[Y.size + 1]? = some (.cells #[.int .i64 vX] 3 (0, 0)) := by rw [← hP1]; exact push_at (push_get (by simp))
          have wE1 : Y1[Y.size + 1 + 1]? = some (.cells #[.int .i64 vN] 3 (0, 0)) := by rw [← hP1]; exact push_get (by simp)
          have wB1 := kp1.at wBY (fun h => h)
          have wC1 := kp1.at wCY (fun h => h)
          have wA1 := kp1.at wAY (fun h => h)
          have t1 := tY.call kp1
          have v1 := tY.here.call kp1
          have G1 := GY.call kp1
          refine grs_at (i := 0) (t := ⟨.slice va2 vn2 vc2, c.sum.take j, o2⟩) (x := vS) (c := [.int .i64 vS]) wE0 intT G1 rfl t1.lt rfl rfl (by show ((c.sum.take j).length + 1) * 8 ≤ _; have := ll c.sum; omega) (by show (c.sum.take j).length + 1 < _; have := ll c.sum; omega) (fun b hb => by have := t1.size; have := hNlt b hb; omega) (by have := t1.size; omega) ?_
          intro ra0 rn0 rc0 Y2 M2 p0 kp2 u2 G2 n2
          have t2 := t1.trans u2
          have v2 := v1.trans u2
          have wB2 := kp2.at wB1 (hno0 _ (by omega))
          have wC2 := kp2.at wC1 (hno0 _ (by omega))
          have wA2 := kp2.at wA1 (hno0 _ (by omega))
          replace wE2 := kp2.at wE2 (hno0 _ (by have := tY.size; omega))
          replace wE1 := kp2.at wE1 (hno0 _ (by have := tY.size; omega))
          have m2 : ∀ b, N2 b → M2 b := fun b hb => n2 b (hN2 b hb)
          simp -dsimp [wC2, wA2, idA0, idA1, idA2, again_cons]
          refine grs_at (i := 1) (t := ⟨.slice va3 vn3 vc3, c.mn.take j, o3⟩) (x := vN) (c := [.int .i64 vN]) wE1 intT G2 rfl t2.lt rfl rfl (by show ((c.mn.take j).length + 1) * 8 ≤ _; have := ll c.mn; omega) (by show (c.mn.take j).length + 1 < _; have := ll c.mn; omega) (fun b hb => by have := t2.size; have := hNlt b hb; omega) (by have := t2.size; omega) ?_
          intro ra1 rn1 rc1 Y3 M3 p1 kp3 u3 G3 n3
          have t3 := t2.trans u3
          have v3 := v2.trans u3
          have wB3 := kp3.at wB2 (hno1 _ (by omega))
          have wC3 := kp3.at wC2 (hno1 _ (by omega))
          have wA3 := kp3.at wA2 (hno1 _ (by omega))
          replace wE2 := kp3.at wE2 (hno1 _ (by have := tY.size; omega))
          have m3 : ∀ b, N2 b → M3 b := fun b hb => n3 b (m2 b hb)
          simp -dsimp [wC3, wA3, idA0, idA1, idA2, again_cons]
          refine grs_at (i := 2) (t := ⟨.slice va4 vn4 vc4, c.mx.take j, o4⟩) (x := vX) (c := [.int .i64 vX]) wE2 intT G3 rfl t3.lt rfl rfl (by show ((c.mx.take j).length + 1) * 8 ≤ _; have := ll c.mx; omega) (by show (c.mx.take j).length + 1 < _; have := ll c.mx; omega) (fun b hb => by have := t3.size; have := hNlt b hb; omega) (by have := t3.size; omega) ?_
          intro ra2 rn2 rc2 Y4 M4 p2 kp4 u4 G4 n4
          have t4 := t3.trans u4
          have v4 := v3.trans u4
          have wB4 := kp4.at wB3 (hno2 _ (by omega))
          have wC4 := kp4.at wC3 (hno2 _ (by omega))
          have wA4 := kp4.at wA3 (hno2 _ (by omega))
          have m4 : ∀ b, N2 b → M4 b := fun b hb => n4 b (m3 b hb)
          simp -dsimp [wC4, set_same _ (lt_of_blk wC4), Array.setIfInBounds_setIfInBounds, wj, again_cons]
          exact ⟨(j + 1, _, _, _), by simp, rfl, fin Y4 M4 _ _ _ _ _ _ _ _ _ p0 p1 p2 t4 m4 G4 wB4 wC4 v4, by show m - (j + 1) < m - j; omega⟩
        case' L8 =>
          rw [treeW_leaf]
          simp -dsimp [wCY, wCp1 wCY, wCp2 wCY, wAY, wCp1 wAY, wCp2 wAY, idA0, idA1, idA2, again_cons]
          generalize hP1 : Array.push (Array.push Y _) _ = Y1
          have kp1 : Keep none_ Y Y1 := by rw [← hP1]; exact ((Keep.refl none_ Y).pushed _).pushed _
          have wE2 : Y1[Y.size]? = some (.cells #[.int .i64 vX] 3 (0, 0)) := by rw [← hP1]; exact push_at (push_new _ _)
          have wE0 : Y1[Y.size + 1]? = some (.cells #[.int .i64 vS] 3 (0, 0)) := by rw [← hP1]; exact push_get (by simp)
          have wB1 := kp1.at wBY (fun h => h)
          have wC1 := kp1.at wCY (fun h => h)
          have wA1 := kp1.at wAY (fun h => h)
          have t1 := tY.call kp1
          have v1 := tY.here.call kp1
          have G1 := GY.call kp1
          refine grs_at (i := 0) (t := ⟨.slice va2 vn2 vc2, c.sum.take j, o2⟩) (x := vS) (c := [.int .i64 vS]) wE0 intT G1 rfl t1.lt rfl rfl (by show ((c.sum.take j).length + 1) * 8 ≤ _; have := ll c.sum; omega) (by show (c.sum.take j).length + 1 < _; have := ll c.sum; omega) (fun b hb => by have := t1.size; have := hNlt b hb; omega) (by have := t1.size; omega) ?_
          intro ra0 rn0 rc0 Y2 M2 p0 kp2 u2 G2 n2
          have t2 := t1.trans u2
          have v2 := v1.trans u2
          have wB2 := kp2.at wB1 (hno0 _ (by omega))
          have wC2 := kp2.at wC1 (hno0 _ (by omega))
          have wA2 := kp2.at wA1 (hno0 _ (by omega))
          replace wE2 := kp2.at wE2 (hno0 _ (by have := tY.size; omega))
          have m2 : ∀ b, N2 b → M2 b := fun b hb => n2 b (hN2 b hb)
          simp -dsimp [wC2, wCp1 wC2, wA2, wCp1 wA2, idA0, idA1, idA2, again_cons]
          generalize hP3 : Array.push Y2 _ = Y3
          have kp3 : Keep none_ Y2 Y3 := by rw [← hP3]; exact (Keep.refl none_ Y2).pushed _
          have wE1 : Y3[Y2.size]? = some (.cells #[.int .i64 vN] 3 (0, 0)) := by rw [← hP3]; exact push_new _ _
          replace wE2 := kp3.at wE2 (fun h => h)
          have wB3 := kp3.at wB2 (fun h => h)
          have wC3 := kp3.at wC2 (fun h => h)
          have wA3 := kp3.at wA2 (fun h => h)
          have t3 := t2.call kp3
          have v3 := v2.call kp3
          have G3 := G2.call kp3
          refine grs_at (i := 1) (t := ⟨.slice va3 vn3 vc3, c.mn.take j, o3⟩) (x := vN) (c := [.int .i64 vN]) wE1 intT G3 rfl t3.lt rfl rfl (by show ((c.mn.take j).length + 1) * 8 ≤ _; have := ll c.mn; omega) (by show (c.mn.take j).length + 1 < _; have := ll c.mn; omega) (fun b hb => by have := t3.size; have := hNlt b hb; omega) (by have := t3.size; omega) ?_
          intro ra1 rn1 rc1 Y4 M4 p1 kp4 u4 G4 n4
          have t4 := t3.trans u4
          have v4 := v3.trans u4
          have wB4 := kp4.at wB3 (hno1 _ (by omega))
          have wC4 := kp4.at wC3 (hno1 _ (by omega))
          have wA4 := kp4.at wA3 (hno1 _ (by omega))
          replace wE2 := kp4.at wE2 (hno1 _ (by have := tY.size; omega))
          have m4 : ∀ b, N2 b → M4 b := fun b hb => n4 b (m2 b hb)
          simp -dsimp [wC4, wA4, idA0, idA1, idA2, again_cons]
          refine grs_at (i := 2) (t := ⟨.slice va4 vn4 vc4, c.mx.take j, o4⟩) (x := vX) (c := [.int .i64 vX]) wE2 intT G4 rfl t4.lt rfl rfl (by show ((c.mx.take j).length + 1) * 8 ≤ _; have := ll c.mx; omega) (by show (c.mx.take j).length + 1 < _; have := ll c.mx; omega) (fun b hb => by have := t4.size; have := hNlt b hb; omega) (by have := t4.size; omega) ?_
          intro ra2 rn2 rc2 Y5 M5 p2 kp5 u5 G5 n5
          have t5 := t4.trans u5
          have v5 := v4.trans u5
          have wB5 := kp5.at wB4 (hno2 _ (by omega))
          have wC5 := kp5.at wC4 (hno2 _ (by omega))
          have wA5 := kp5.at wA4 (hno2 _ (by omega))
          have m5 : ∀ b, N2 b → M5 b := fun b hb => n5 b (m4 b hb)
          simp -dsimp [wC5, set_same _ (lt_of_blk wC5), Array.setIfInBounds_setIfInBounds, wj, again_cons]
          exact ⟨(j + 1, _, _, _), by simp, rfl, fin Y5 M5 _ _ _ _ _ _ _ _ _ p0 p1 p2 t5 m5 G5 wB5 wC5 v5, by show m - (j + 1) < m - j; omega⟩
        case' L9 =>
          rw [treeW_leaf]
          simp -dsimp [wCY, wCp1 wCY, wCp2 wCY, wCp3 wCY, wAY, wCp1 wAY, wCp2 wAY, wCp3 wAY, idA0, idA1, idA2, again_cons]
          generalize hP1 : Array.push (Array.push (Array.push Y _) _) _ = Y1
          have kp1 : Keep none_ Y Y1 := by rw [← hP1]; exact (((Keep.refl none_ Y).pushed _).pushed _).pushed _
          have wE2 : Y1[Y.size]? = some (.cells #[.int .i64 vX] 3 (0, 0)) := by rw [← hP1]; exact push_at (push_at (push_new _ _))
          have wE0 : Y1[Y.size + 1]? = some (.cells #[.int .i64 vS] 3 (0, 0)) := by rw [← hP1]; exact push_at (push_get (by simp))
          have wE1 : Y1[Y.size + 1 + 1]? = some (.cells #[.int .i64 vN] 3 (0, 0)) := by rw [← hP1]; exact push_get (by simp)
          have wB1 := kp1.at wBY (fun h => h)
          have wC1 := kp1.at wCY (fun h => h)
          have wA1 := kp1.at wAY (fun h => h)
          have t1 := tY.call kp1
          have v1 := tY.here.call kp1
          have G1 := GY.call kp1
          refine grs_at (i := 0) (t := ⟨.slice va2 vn2 vc2, c.sum.take j, o2⟩) (x := vS) (c := [.int .i64 vS]) wE0 intT G1 rfl t1.lt rfl rfl (by show ((c.sum.take j).length + 1) * 8 ≤ _; have := ll c.sum; omega) (by show (c.sum.take j).length + 1 < _; have := ll c.sum; omega) (fun b hb => by have := t1.size; have := hNlt b hb; omega) (by have := t1.size; omega) ?_
          intro ra0 rn0 rc0 Y2 M2 p0 kp2 u2 G2 n2
          have t2 := t1.trans u2
          have v2 := v1.trans u2
          have wB2 := kp2.at wB1 (hno0 _ (by omega))
          have wC2 := kp2.at wC1 (hno0 _ (by omega))
          have wA2 := kp2.at wA1 (hno0 _ (by omega))
          replace wE2 := kp2.at wE2 (hno0 _ (by have := tY.size; omega))
          replace wE1 := kp2.at wE1 (hno0 _ (by have := tY.size; omega))
          have m2 : ∀ b, N2 b → M2 b := fun b hb => n2 b (hN2 b hb)
          simp -dsimp [wC2, wA2, idA0, idA1, idA2, again_cons]
          refine grs_at (i := 1) (t := ⟨.slice va3 vn3 vc3, c.mn.take j, o3⟩) (x := vN) (c := [.int .i64 vN]) wE1 intT G2 rfl t2.lt rfl rfl (by show ((c.mn.take j).length + 1) * 8 ≤ _; have := ll c.mn; omega) (by show (c.mn.take j).length + 1 < _; have := ll c.mn; omega) (fun b hb => by have := t2.size; have := hNlt b hb; omega) (by have := t2.size; omega) ?_
          intro ra1 rn1 rc1 Y3 M3 p1 kp3 u3 G3 n3
          have t3 := t2.trans u3
          have v3 := v2.trans u3
          have wB3 := kp3.at wB2 (hno1 _ (by omega))
          have wC3 := kp3.at wC2 (hno1 _ (by omega))
          have wA3 := kp3.at wA2 (hno1 _ (by omega))
          replace wE2 := kp3.at wE2 (hno1 _ (by have := tY.size; omega))
          have m3 : ∀ b, N2 b → M3 b := fun b hb => n3 b (m2 b hb)
          simp -dsimp [wC3, wA3, idA0, idA1, idA2, again_cons]
          refine grs_at (i := 2) (t := ⟨.slice va4 vn4 vc4, c.mx.take j, o4⟩) (x := vX) (c := [.int .i64 vX]) wE2 intT G3 rfl t3.lt rfl rfl (by show ((c.mx.take j).length + 1) * 8 ≤ _; have := ll c.mx; omega) (by show (c.mx.take j).length + 1 < _; have := ll c.mx; omega) (fun b hb => by have := t3.size; have := hNlt b hb; omega) (by have := t3.size; omega) ?_
          intro ra2 rn2 rc2 Y4 M4 p2 kp4 u4 G4 n4
          have t4 := t3.trans u4
          have v4 := v3.trans u4
          have wB4 := kp4.at wB3 (hno2 _ (by omega))
          have wC4 := kp4.at wC3 (hno2 _ (by omega))
          have wA4 := kp4.at wA3 (hno2 _ (by omega))
          have m4 : ∀ b, N2 b → M4 b := fun b hb => n4 b (m3 b hb)
          simp -dsimp [wC4, set_same _ (lt_of_blk wC4), Array.setIfInBounds_setIfInBounds, wj, again_cons]
          exact ⟨(j + 1, _, _, _), by simp, rfl, fin Y4 M4 _ _ _ _ _ _ _ _ _ p0 p1 p2 t4 m4 G4 wB4 wC4 v4, by show m - (j + 1) < m - j; omega⟩
        case' L10 =>
          rw [treeW_leaf]
          simp -dsimp [wCY, wCp1 wCY, wCp2 wCY, wAY, wCp1 wAY, wCp2 wAY, idA0, idA1, idA2, again_cons]
          generalize hP1 : Array.push (Array.push Y _) _ = Y1
          have kp1 : Keep none_ Y Y1 := by rw [← hP1]; exact ((Keep.refl none_ Y).pushed _).pushed _
          have wE1 : Y1[Y.size]? = some (.cells #[.int .i64 vN] 3 (0, 0)) := by rw [← hP1]; exact push_at (push_new _ _)
          have wE0 : Y1[Y.size + 1]? = some (.cells #[.int .i64 vS] 3 (0, 0)) := by rw [← hP1]; exact push_get (by simp)
          have wB1 := kp1.at wBY (fun h => h)
          have wC1 := kp1.at wCY (fun h => h)
          have wA1 := kp1.at wAY (fun h => h)
          have t1 := tY.call kp1
          have v1 := tY.here.call kp1
          have G1 := GY.call kp1
          refine grs_at (i := 0) (t := ⟨.slice va2 vn2 vc2, c.sum.take j, o2⟩) (x := vS) (c := [.int .i64 vS]) wE0 intT G1 rfl t1.lt rfl rfl (by show ((c.sum.take j).length + 1) * 8 ≤ _; have := ll c.sum; omega) (by show (c.sum.take j).length + 1 < _; have := ll c.sum; omega) (fun b hb => by have := t1.size; have := hNlt b hb; omega) (by have := t1.size; omega) ?_
          intro ra0 rn0 rc0 Y2 M2 p0 kp2 u2 G2 n2
          have t2 := t1.trans u2
          have v2 := v1.trans u2
          have wB2 := kp2.at wB1 (hno0 _ (by omega))
          have wC2 := kp2.at wC1 (hno0 _ (by omega))
          have wA2 := kp2.at wA1 (hno0 _ (by omega))
          replace wE1 := kp2.at wE1 (hno0 _ (by have := tY.size; omega))
          have m2 : ∀ b, N2 b → M2 b := fun b hb => n2 b (hN2 b hb)
          simp -dsimp [wC2, wA2, idA0, idA1, idA2, again_cons]
          refine grs_at (i := 1) (t := ⟨.slice va3 vn3 vc3, c.mn.take j, o3⟩) (x := vN) (c := [.int .i64 vN]) wE1 intT G2 rfl t2.lt rfl rfl (by show ((c.mn.take j).length + 1) * 8 ≤ _; have := ll c.mn; omega) (by show (c.mn.take j).length + 1 < _; have := ll c.mn; omega) (fun b hb => by have := t2.size; have := hNlt b hb; omega) (by have := t2.size; omega) ?_
          intro ra1 rn1 rc1 Y3 M3 p1 kp3 u3 G3 n3
          have t3 := t2.trans u3
          have v3 := v2.trans u3
          have wB3 := kp3.at wB2 (hno1 _ (by omega))
          have wC3 := kp3.at wC2 (hno1 _ (by omega))
          have wA3 := kp3.at wA2 (hno1 _ (by omega))
          have m3 : ∀ b, N2 b → M3 b := fun b hb => n3 b (m2 b hb)
          simp -dsimp [wC3, wCp1 wC3, wA3, wCp1 wA3, idA0, idA1, idA2, again_cons]
          generalize hP4 : Array.push Y3 _ = Y4
          have kp4 : Keep none_ Y3 Y4 := by rw [← hP4]; exact (Keep.refl none_ Y3).pushed _
          have wE2 : Y4[Y3.size]? = some (.cells #[.int .i64 vX] 3 (0, 0)) := by rw [← hP4]; exact push_new _ _
          have wB4 := kp4.at wB3 (fun h => h)
          have wC4 := kp4.at wC3 (fun h => h)
          have wA4 := kp4.at wA3 (fun h => h)
          have t4 := t3.call kp4
          have v4 := v3.call kp4
          have G4 := G3.call kp4
          refine grs_at (i := 2) (t := ⟨.slice va4 vn4 vc4, c.mx.take j, o4⟩) (x := vX) (c := [.int .i64 vX]) wE2 intT G4 rfl t4.lt rfl rfl (by show ((c.mx.take j).length + 1) * 8 ≤ _; have := ll c.mx; omega) (by show (c.mx.take j).length + 1 < _; have := ll c.mx; omega) (fun b hb => by have := t4.size; have := hNlt b hb; omega) (by have := t4.size; omega) ?_
          intro ra2 rn2 rc2 Y5 M5 p2 kp5 u5 G5 n5
          have t5 := t4.trans u5
          have v5 := v4.trans u5
          have wB5 := kp5.at wB4 (hno2 _ (by omega))
          have wC5 := kp5.at wC4 (hno2 _ (by omega))
          have wA5 := kp5.at wA4 (hno2 _ (by omega))
          have m5 : ∀ b, N2 b → M5 b := fun b hb => n5 b (m3 b hb)
          simp -dsimp [wC5, set_same _ (lt_of_blk wC5), Array.setIfInBounds_setIfInBounds, wj, again_cons]
          exact ⟨(j + 1, _, _, _), by simp, rfl, fin Y5 M5 _ _ _ _ _ _ _ _ _ p0 p1 p2 t5 m5 G5 wB5 wC5 v5, by show m - (j + 1) < m - j; omega⟩
        case' L11 =>
          rw [treeW_leaf]
          simp -dsimp [wCY, wCp1 wCY, wCp2 wCY, wAY, wCp1 wAY, wCp2 wAY, idA0, idA1, idA2, again_cons]
          generalize hP1 : Array.push (Array.push Y _) _ = Y1
          have kp1 : Keep none_ Y Y1 := by rw [← hP1]; exact ((Keep.refl none_ Y).pushed _).pushed _
          have wE1 : Y1[Y.size]? = some (.cells #[.int .i64 vN] 3 (0, 0)) := by rw [← hP1]; exact push_at (push_new _ _)
          have wE0 : Y1[Y.size + 1]? = some (.cells #[.int .i64 vS] 3 (0, 0)) := by rw [← hP1]; exact push_get (by simp)
          have wB1 := kp1.at wBY (fun h => h)
          have wC1 := kp1.at wCY (fun h => h)
          have wA1 := kp1.at wAY (fun h => h)
          have t1 := tY.call kp1
          have v1 := tY.here.call kp1
          have G1 := GY.call kp1
          refine grs_at (i := 0) (t := ⟨.slice va2 vn2 vc2, c.sum.take j, o2⟩) (x := vS) (c := [.int .i64 vS]) wE0 intT G1 rfl t1.lt rfl rfl (by show ((c.sum.take j).length + 1) * 8 ≤ _; have := ll c.sum; omega) (by show (c.sum.take j).length + 1 < _; have := ll c.sum; omega) (fun b hb => by have := t1.size; have := hNlt b hb; omega) (by have := t1.size; omega) ?_
          intro ra0 rn0 rc0 Y2 M2 p0 kp2 u2 G2 n2
          have t2 := t1.trans u2
          have v2 := v1.trans u2
          have wB2 := kp2.at wB1 (hno0 _ (by omega))
          have wC2 := kp2.at wC1 (hno0 _ (by omega))
          have wA2 := kp2.at wA1 (hno0 _ (by omega))
          replace wE1 := kp2.at wE1 (hno0 _ (by have := tY.size; omega))
          have m2 : ∀ b, N2 b → M2 b := fun b hb => n2 b (hN2 b hb)
          simp -dsimp [wC2, wCp1 wC2, wA2, wCp1 wA2, idA0, idA1, idA2, again_cons]
          generalize hP3 : Array.push Y2 _ = Y3
          have kp3 : Keep none_ Y2 Y3 := by rw [← hP3]; exact (Keep.refl none_ Y2).pushed _
          have wE2 : Y3[Y2.size]? = some (.cells #[.int .i64 vX] 3 (0, 0)) := by rw [← hP3]; exact push_new _ _
          replace wE1 := kp3.at wE1 (fun h => h)
          have wB3 := kp3.at wB2 (fun h => h)
          have wC3 := kp3.at wC2 (fun h => h)
          have wA3 := kp3.at wA2 (fun h => h)
          have t3 := t2.call kp3
          have v3 := v2.call kp3
          have G3 := G2.call kp3
          refine grs_at (i := 1) (t := ⟨.slice va3 vn3 vc3, c.mn.take j, o3⟩) (x := vN) (c := [.int .i64 vN]) wE1 intT G3 rfl t3.lt rfl rfl (by show ((c.mn.take j).length + 1) * 8 ≤ _; have := ll c.mn; omega) (by show (c.mn.take j).length + 1 < _; have := ll c.mn; omega) (fun b hb => by have := t3.size; have := hNlt b hb; omega) (by have := t3.size; omega) ?_
          intro ra1 rn1 rc1 Y4 M4 p1 kp4 u4 G4 n4
          have t4 := t3.trans u4
          have v4 := v3.trans u4
          have wB4 := kp4.at wB3 (hno1 _ (by omega))
          have wC4 := kp4.at wC3 (hno1 _ (by omega))
          have wA4 := kp4.at wA3 (hno1 _ (by omega))
          replace wE2 := kp4.at wE2 (hno1 _ (by have := t2.size; omega))
          have m4 : ∀ b, N2 b → M4 b := fun b hb => n4 b (m2 b hb)
          simp -dsimp [wC4, wA4, idA0, idA1, idA2, again_cons]
          refine grs_at (i := 2) (t := ⟨.slice va4 vn4 vc4, c.mx.take j, o4⟩) (x := vX) (c := [.int .i64 vX]) wE2 intT G4 rfl t4.lt rfl rfl (by show ((c.mx.take j).length + 1) * 8 ≤ _; have := ll c.mx; omega) (by show (c.mx.take j).length + 1 < _; have := ll c.mx; omega) (fun b hb => by have := t4.size; have := hNlt b hb; omega) (by have := t4.size; omega) ?_
          intro ra2 rn2 rc2 Y5 M5 p2 kp5 u5 G5 n5
          have t5 := t4.trans u5
          have v5 := v4.trans u5
          have wB5 := kp5.at wB4 (hno2 _ (by omega))
          have wC5 := kp5.at wC4 (hno2 _ (by omega))
          have wA5 := kp5.at wA4 (hno2 _ (by omega))
          have m5 : ∀ b, N2 b → M5 b := fun b hb => n5 b (m4 b hb)
          simp -dsimp [wC5, set_same _ (lt_of_blk wC5), Array.setIfInBounds_setIfInBounds, wj, again_cons]
          exact ⟨(j + 1, _, _, _), by simp, rfl, fin Y5 M5 _ _ _ _ _ _ _ _ _ p0 p1 p2 t5 m5 G5 wB5 wC5 v5, by show m - (j + 1) < m - j; omega⟩
        case' L12 =>
          rw [treeW_leaf]
          simp -dsimp [wCY, wCp1 wCY, wCp2 wCY, wCp3 wCY, wAY, wCp1 wAY, wCp2 wAY, wCp3 wAY, idA0, idA1, idA2, again_cons]
          generalize hP1 : Array.push (Array.push (Array.push Y _) _) _ = Y1
          have kp1 : Keep none_ Y Y1 := by rw [← hP1]; exact (((Keep.refl none_ Y).pushed _).pushed _).pushed _
          have wE1 : Y1[Y.size]? = some (.cells #[.int .i64 vN] 3 (0, 0)) := by rw [← hP1]; exact push_at (push_at (push_new _ _))
          have wE0 : Y1[Y.size + 1]? = some (.cells #[.int .i64 vS] 3 (0, 0)) := by rw [← hP1]; exact push_at (push_get (by simp))
          have wE2 : Y1[Y.size + 1 + 1]? = some (.cells #[.int .i64 vX] 3 (0, 0)) := by rw [← hP1]; exact push_get (by simp)
          have wB1 := kp1.at wBY (fun h => h)
          have wC1 := kp1.at wCY (fun h => h)
          have wA1 := kp1.at wAY (fun h => h)
          have t1 := tY.call kp1
          have v1 := tY.here.call kp1
          have G1 := GY.call kp1
          refine grs_at (i := 0) (t := ⟨.slice va2 vn2 vc2, c.sum.take j, o2⟩) (x := vS) (c := [.int .i64 vS]) wE0 intT G1 rfl t1.lt rfl rfl (by show ((c.sum.take j).length + 1) * 8 ≤ _; have := ll c.sum; omega) (by show (c.sum.take j).length + 1 < _; have := ll c.sum; omega) (fun b hb => by have := t1.size; have := hNlt b hb; omega) (by have := t1.size; omega) ?_
          intro ra0 rn0 rc0 Y2 M2 p0 kp2 u2 G2 n2
          have t2 := t1.trans u2
          have v2 := v1.trans u2
          have wB2 := kp2.at wB1 (hno0 _ (by omega))
          have wC2 := kp2.at wC1 (hno0 _ (by omega))
          have wA2 := kp2.at wA1 (hno0 _ (by omega))
          replace wE1 := kp2.at wE1 (hno0 _ (by have := tY.size; omega))
          replace wE2 := kp2.at wE2 (hno0 _ (by have := tY.size; omega))
          have m2 : ∀ b, N2 b → M2 b := fun b hb => n2 b (hN2 b hb)
          simp -dsimp [wC2, wA2, idA0, idA1, idA2, again_cons]
          refine grs_at (i := 1) (t := ⟨.slice va3 vn3 vc3, c.mn.take j, o3⟩) (x := vN) (c := [.int .i64 vN]) wE1 intT G2 rfl t2.lt rfl rfl (by show ((c.mn.take j).length + 1) * 8 ≤ _; have := ll c.mn; omega) (by show (c.mn.take j).length + 1 < _; have := ll c.mn; omega) (fun b hb => by have := t2.size; have := hNlt b hb; omega) (by have := t2.size; omega) ?_
          intro ra1 rn1 rc1 Y3 M3 p1 kp3 u3 G3 n3
          have t3 := t2.trans u3
          have v3 := v2.trans u3
          have wB3 := kp3.at wB2 (hno1 _ (by omega))
          have wC3 := kp3.at wC2 (hno1 _ (by omega))
          have wA3 := kp3.at wA2 (hno1 _ (by omega))
          replace wE2 := kp3.at wE2 (hno1 _ (by have := tY.size; omega))
          have m3 : ∀ b, N2 b → M3 b := fun b hb => n3 b (m2 b hb)
          simp -dsimp [wC3, wA3, idA0, idA1, idA2, again_cons]
          refine grs_at (i := 2) (t := ⟨.slice va4 vn4 vc4, c.mx.take j, o4⟩) (x := vX) (c := [.int .i64 vX]) wE2 intT G3 rfl t3.lt rfl rfl (by show ((c.mx.take j).length + 1) * 8 ≤ _; have := ll c.mx; omega) (by show (c.mx.take j).length + 1 < _; have := ll c.mx; omega) (fun b hb => by have := t3.size; have := hNlt b hb; omega) (by have := t3.size; omega) ?_
          intro ra2 rn2 rc2 Y4 M4 p2 kp4 u4 G4 n4
          have t4 := t3.trans u4
          have v4 := v3.trans u4
          have wB4 := kp4.at wB3 (hno2 _ (by omega))
          have wC4 := kp4.at wC3 (hno2 _ (by omega))
          have wA4 := kp4.at wA3 (hno2 _ (by omega))
          have m4 : ∀ b, N2 b → M4 b := fun b hb => n4 b (m3 b hb)
          simp -dsimp [wC4, set_same _ (lt_of_blk wC4), Array.setIfInBounds_setIfInBounds, wj, again_cons]
          exact ⟨(j + 1, _, _, _), by simp, rfl, fin Y4 M4 _ _ _ _ _ _ _ _ _ p0 p1 p2 t4 m4 G4 wB4 wC4 v4, by show m - (j + 1) < m - j; omega⟩
        case' L13 =>
          rw [treeW_leaf]
          simp -dsimp [wCY, wCp1 wCY, wCp2 wCY, wCp3 wCY, wAY, wCp1 wAY, wCp2 wAY, wCp3 wAY, idA0, idA1, idA2, again_cons]
          generalize hP1 : Array.push (Array.push (Array.push Y _) _) _ = Y1
          have kp1 : Keep none_ Y Y1 := by rw [← hP1]; exact (((Keep.refl none_ Y).pushed _).pushed _).pushed _
          have wE1 : Y1[Y.size]? = some (.cells #[.int .i64 vN] 3 (0, 0)) := by rw [← hP1]; exact push_at (push_at (push_new _ _))
          have wE2 : Y1[Y.size + 1]? = some (.cells #[.int .i64 vX] 3 (0, 0)) := by rw [← hP1]; exact push_at (push_get (by simp))
          have wE0 : Y1[Y.size + 1 + 1]? = some (.cells #[.int .i64 vS] 3 (0, 0)) := by rw [← hP1]; exact push_get (by simp)
          have wB1 := kp1.at wBY (fun h => h)
          have wC1 := kp1.at wCY (fun h => h)
          have wA1 := kp1.at wAY (fun h => h)
          have t1 := tY.call kp1
          have v1 := tY.here.call kp1
          have G1 := GY.call kp1
          refine grs_at (i := 0) (t := ⟨.slice va2 vn2 vc2, c.sum.take j, o2⟩) (x := vS) (c := [.int .i64 vS]) wE0 intT G1 rfl t1.lt rfl rfl (by show ((c.sum.take j).length + 1) * 8 ≤ _; have := ll c.sum; omega) (by show (c.sum.take j).length + 1 < _; have := ll c.sum; omega) (fun b hb => by have := t1.size; have := hNlt b hb; omega) (by have := t1.size; omega) ?_
          intro ra0 rn0 rc0 Y2 M2 p0 kp2 u2 G2 n2
          have t2 := t1.trans u2
          have v2 := v1.trans u2
          have wB2 := kp2.at wB1 (hno0 _ (by omega))
          have wC2 := kp2.at wC1 (hno0 _ (by omega))
          have wA2 := kp2.at wA1 (hno0 _ (by omega))
          replace wE1 := kp2.at wE1 (hno0 _ (by have := tY.size; omega))
          replace wE2 := kp2.at wE2 (hno0 _ (by have := tY.size; omega))
          have m2 : ∀ b, N2 b → M2 b := fun b hb => n2 b (hN2 b hb)
          simp -dsimp [wC2, wA2, idA0, idA1, idA2, again_cons]
          refine grs_at (i := 1) (t := ⟨.slice va3 vn3 vc3, c.mn.take j, o3⟩) (x := vN) (c := [.int .i64 vN]) wE1 intT G2 rfl t2.lt rfl rfl (by show ((c.mn.take j).length + 1) * 8 ≤ _; have := ll c.mn; omega) (by show (c.mn.take j).length + 1 < _; have := ll c.mn; omega) (fun b hb => by have := t2.size; have := hNlt b hb; omega) (by have := t2.size; omega) ?_
          intro ra1 rn1 rc1 Y3 M3 p1 kp3 u3 G3 n3
          have t3 := t2.trans u3
          have v3 := v2.trans u3
          have wB3 := kp3.at wB2 (hno1 _ (by omega))
          have wC3 := kp3.at wC2 (hno1 _ (by omega))
          have wA3 := kp3.at wA2 (hno1 _ (by omega))
          replace wE2 := kp3.at wE2 (hno1 _ (by have := tY.size; omega))
          have m3 : ∀ b, N2 b → M3 b := fun b hb => n3 b (m2 b hb)
          simp -dsimp [wC3, wA3, idA0, idA1, idA2, again_cons]
          refine grs_at (i := 2) (t := ⟨.slice va4 vn4 vc4, c.mx.take j, o4⟩) (x := vX) (c := [.int .i64 vX]) wE2 intT G3 rfl t3.lt rfl rfl (by show ((c.mx.take j).length + 1) * 8 ≤ _; have := ll c.mx; omega) (by show (c.mx.take j).length + 1 < _; have := ll c.mx; omega) (fun b hb => by have := t3.size; have := hNlt b hb; omega) (by have := t3.size; omega) ?_
          intro ra2 rn2 rc2 Y4 M4 p2 kp4 u4 G4 n4
          have t4 := t3.trans u4
          have v4 := v3.trans u4
          have wB4 := kp4.at wB3 (hno2 _ (by omega))
          have wC4 := kp4.at wC3 (hno2 _ (by omega))
          have wA4 := kp4.at wA3 (hno2 _ (by omega))
          have m4 : ∀ b, N2 b → M4 b := fun b hb => n4 b (m3 b hb)
          simp -dsimp [wC4, set_same _ (lt_of_blk wC4), Array.setIfInBounds_setIfInBounds, wj, again_cons]
          exact ⟨(j + 1, _, _, _), by simp, rfl, fin Y4 M4 _ _ _ _ _ _ _ _ _ p0 p1 p2 t4 m4 G4 wB4 wC4 v4, by show m - (j + 1) < m - j; omega⟩
        case' L14 =>
          rw [treeW_leaf]
          simp -dsimp [wCY, wCp1 wCY, wCp2 wCY, wCp3 wCY, wAY, wCp1 wAY, wCp2 wAY, wCp3 wAY, idA0, idA1, idA2, again_cons]
          generalize hP1 : Array.push (Array.push (Array.push Y _) _) _ = Y1
          have kp1 : Keep none_ Y Y1 := by rw [← hP1]; exact (((Keep.refl none_ Y).pushed _).pushed _).pushed _
          have wE2 : Y1[Y.size]? = some (.cells #[.int .i64 vX] 3 (0, 0)) := by rw [← hP1]; exact push_at (push_at (push_new _ _))
          have wE1 : Y1[Y.size + 1]? = some (.cells #[.int .i64 vN] 3 (0, 0)) := by rw [← hP1]; exact push_at (push_get (by simp))
          have wE0 : Y1[Y.size + 1 + 1]? = some (.cells #[.int .i64 vS] 3 (0, 0)) := by rw [← hP1]; exact push_get (by simp)
          have wB1 := kp1.at wBY (fun h => h)
          have wC1 := kp1.at wCY (fun h => h)
          have wA1 := kp1.at wAY (fun h => h)
          have t1 := tY.call kp1
          have v1 := tY.here.call kp1
          have G1 := GY.call kp1
          refine grs_at (i := 0) (t := ⟨.slice va2 vn2 vc2, c.sum.take j, o2⟩) (x := vS) (c := [.int .i64 vS]) wE0 intT G1 rfl t1.lt rfl rfl (by show ((c.sum.take j).length + 1) * 8 ≤ _; have := ll c.sum; omega) (by show (c.sum.take j).length + 1 < _; have := ll c.sum; omega) (fun b hb => by have := t1.size; have := hNlt b hb; omega) (by have := t1.size; omega) ?_
          intro ra0 rn0 rc0 Y2 M2 p0 kp2 u2 G2 n2
          have t2 := t1.trans u2
          have v2 := v1.trans u2
          have wB2 := kp2.at wB1 (hno0 _ (by omega))
          have wC2 := kp2.at wC1 (hno0 _ (by omega))
          have wA2 := kp2.at wA1 (hno0 _ (by omega))
          replace wE2 := kp2.at wE2 (hno0 _ (by have := tY.size; omega))
          replace wE1 := kp2.at wE1 (hno0 _ (by have := tY.size; omega))
          have m2 : ∀ b, N2 b → M2 b := fun b hb => n2 b (hN2 b hb)
          simp -dsimp [wC2, wA2, idA0, idA1, idA2, again_cons]
          refine grs_at (i := 1) (t := ⟨.slice va3 vn3 vc3, c.mn.take j, o3⟩) (x := vN) (c := [.int .i64 vN]) wE1 intT G2 rfl t2.lt rfl rfl (by show ((c.mn.take j).length + 1) * 8 ≤ _; have := ll c.mn; omega) (by show (c.mn.take j).length + 1 < _; have := ll c.mn; omega) (fun b hb => by have := t2.size; have := hNlt b hb; omega) (by have := t2.size; omega) ?_
          intro ra1 rn1 rc1 Y3 M3 p1 kp3 u3 G3 n3
          have t3 := t2.trans u3
          have v3 := v2.trans u3
          have wB3 := kp3.at wB2 (hno1 _ (by omega))
          have wC3 := kp3.at wC2 (hno1 _ (by omega))
          have wA3 := kp3.at wA2 (hno1 _ (by omega))
          replace wE2 := kp3.at wE2 (hno1 _ (by have := tY.size; omega))
          have m3 : ∀ b, N2 b → M3 b := fun b hb => n3 b (m2 b hb)
          simp -dsimp [wC3, wA3, idA0, idA1, idA2, again_cons]
          refine grs_at (i := 2) (t := ⟨.slice va4 vn4 vc4, c.mx.take j, o4⟩) (x := vX) (c := [.int .i64 vX]) wE2 intT G3 rfl t3.lt rfl rfl (by show ((c.mx.take j).length + 1) * 8 ≤ _; have := ll c.mx; omega) (by show (c.mx.take j).length + 1 < _; have := ll c.mx; omega) (fun b hb => by have := t3.size; have := hNlt b hb; omega) (by have := t3.size; omega) ?_
          intro ra2 rn2 rc2 Y4 M4 p2 kp4 u4 G4 n4
          have t4 := t3.trans u4
          have v4 := v3.trans u4
          have wB4 := kp4.at wB3 (hno2 _ (by omega))
          have wC4 := kp4.at wC3 (hno2 _ (by omega))
          have wA4 := kp4.at wA3 (hno2 _ (by omega))
          have m4 : ∀ b, N2 b → M4 b := fun b hb => n4 b (m3 b hb)
          simp -dsimp [wC4, set_same _ (lt_of_blk wC4), Array.setIfInBounds_setIfInBounds, wj, again_cons]
          exact ⟨(j + 1, _, _, _), by simp, rfl, fin Y4 M4 _ _ _ _ _ _ _ _ _ p0 p1 p2 t4 m4 G4 wB4 wC4 v4, by show m - (j + 1) < m - j; omega⟩
      · have hjl' : ¬ (j : Int) < m := by omega
        simp -dsimp [hjl']
        exact ⟨rfl, (j, _, _, _), by simp, rfl, ⟨N1, bv, o2, o3, o4, tz, hN1, hj, wBz, rz, wCz, gg⟩, by show j = m; omega⟩
    rintro ⟨j, v2, v3, v4⟩ z g' ⟨N1, bv, o2, o3, o4, tz, hN1, hj, wBz, rz, wCz, gg⟩ hjm
    simp only at hj rz wCz gg hjm
    have tk : ∀ l : List Int, l.length = m → l.take j = l := fun l hl => List.take_of_length_le (by omega)
    rw [tk c.sum hsl, tk c.mn (by rw [hc.mn]; omega), tk c.mx (by rw [hc.mx]; omega)] at gg
    obtain ⟨va2, vn2, vc2, rfl, _⟩ := (gg.at (i := 0) rfl).vals
    obtain ⟨va3, vn3, vc3, rfl, _⟩ := (gg.at (i := 1) rfl).vals
    obtain ⟨va4, vn4, vc4, rfl, _⟩ := (gg.at (i := 2) rfl).vals
    have hnN : ∀ b, b ≠ h.size + 1 → b ≠ h.size + 2 → ¬ N b := fun b n1 n2 hb => by have := (hN b).1 hb; omega
    have wLz := tz.at wL0 (hnN _ (by omega) (by omega))
    have wTz := tz.at wT0 (hnN _ (by omega) (by omega))
    have wDz := tz.at wD0 (hnN _ (by omega) (by omega))
    have hr := fun (i : Nat) (t : GI Int) (hi : [(⟨.slice va2 vn2 vc2, c.sum, o2⟩ : GI Int), ⟨.slice va3 vn3 vc3, c.mn, o3⟩, ⟨.slice va4 vn4 vc4, c.mx, o4⟩][i]? = some t) => (gg.at hi).rep (n' := h.size) (Nat.le_refl _) fun b hb => ((gg.gr t (List.mem_of_getElem? hi)).2 b hb).2
    have hrep : rCell.rep (Ft h.size none_ z) z [.slice va c.key.length vc, .int .i64 c.count, .slice va2 vn2 vc2, .slice va3 vn3 vc3, .slice va4 vn4 vc4] c := ⟨_, _, _, _, rfl, (gk.mono (tz.ft (Nat.le_refl _))).mono (Ft.free (Nat.le_refl _)), hr 0 _ rfl, hr 1 _ rfl, hr 2 _ rfl⟩
    have hsmall : CellSmall c := ⟨by omega, by omega, by rw [hc.mn]; omega, by rw [hc.mx]; omega⟩
    obtain ⟨bva, bvn, bvc, rfl⟩ : ∃ a n c, bv = .slice a n c := by obtain ⟨a, c, e, _⟩ := rz.val; exact ⟨_, _, _, e⟩
    have q1 : (1 : Int) ≤ c.count := hn.1
    have q2 : c.count ≤ (300 : Int) := hn.2
    have tzz := tt0.trans tz
    simp -dsimp
    refine drawn_by [⟨0, true, []⟩, ⟨2, true, []⟩, ⟨3, true, []⟩, ⟨4, true, []⟩, ⟨5, true, []⟩, ⟨1, false, [2, 3, 4, 5]⟩, ⟨6, true, []⟩, ⟨7, true, []⟩, ⟨8, true, []⟩, ⟨9, true, []⟩, ⟨10, true, []⟩, ⟨11, false, [2, 9, 10]⟩, ⟨12, false, [9, 10]⟩, ⟨13, false, []⟩] (by kernel_rfl) (by kernel_rfl) ?_
    simp -dsimp [wCz, wBz, q1]
    refine call_by (own_new (rCell.mono hrep (Ft.free (Nat.zero_le _))) hsmall) ?_
    rintro _ z6 ⟨ds, rfl, rd, k6⟩
    obtain ⟨ka', kc', sa', sc', na', nc', xa', xc', rfl, s1, s2, s3, s4⟩ := cell_open rd
    have wC6 := k6.at wCz (fun h => h)
    have wB6 := k6.at wBz (fun h => h)
    have wL6 := k6.at wLz (fun h => h)
    have wT6 := k6.at wTz (fun h => h)
    have wD6 := k6.at wDz (fun h => h)
    have ne1 : h.size + 2 ≠ h.size + 1 := by omega
    have ne2 : h.size + 2 ≠ h.size + 3 := by omega
    have ne3 : h.size + 2 ≠ h.size + 4 := by omega
    have ne4 : h.size + 3 ≠ h.size + 4 := by omega
    simp -dsimp [again_cons, wC6, wB6, q1, q2, wL6, wT6, set_same _ (lt_of_blk wC6), set_other _ ne1, set_other _ ne2, set_other _ ne3, set_other _ ne4]
    generalize hH2 : Array.setIfInBounds (Array.setIfInBounds (Array.setIfInBounds z6 _ _) _ _) _ _ = z7
    have hold7 : ∀ b, b ≠ h.size + 2 → b ≠ h.size + 3 → b ≠ h.size + 4 → z7[b]? = z6[b]? := fun b n1 n2 n3 => by rw [← hH2, set_other _ (fun e => n3 e.symm), set_other _ (fun e => n2 e.symm), set_other _ (fun e => n1 e.symm)]
    have hz7 : z7.size = z6.size := by rw [← hH2]; simp
    have l2 := lt_of_blk wC6
    have l3 := lt_of_blk wL6
    have l4 := lt_of_blk wT6
    have l5 := lt_of_blk wD6
    have v2 : z7[h.size + 2]? = some (.cells #[.slice ka' c.key.length kc', .int .i64 c.count, .slice sa' c.sum.length sc', .slice na' c.mn.length nc', .slice xa' c.mx.length xc'] 65 (0, 0)) := by rw [← hH2, set_other _ (by omega), set_other _ (by omega)]; exact set_same _ l2
    have v3 : z7[h.size + 3]? = some (.cells #[.slice bva bvn bvc] 66 (0, 0)) := by rw [← hH2, set_other _ (by omega)]; exact set_same _ (by simpa using l3)
    have v4 : z7[h.size + 4]? = some (.cells #[.bool true] 4 (0, 0)) := by rw [← hH2]; exact set_same _ (by simpa using l4)
    rw [takeS_cons ((hold7 _ (by omega) (by omega) (by omega)).trans wD6)]
    have nn2 : h3.size ≠ h.size + 2 := by omega
    have nn3 : h3.size ≠ h.size + 3 := by omega
    have nn4 : h3.size ≠ h.size + 4 := by omega
    simp -dsimp [set_other _ nn2, set_other _ nn3, set_other _ nn4, v2, v3, v4]
    have hold8 : ∀ b, b < z.size → b ≠ h.size + 2 → b ≠ h.size + 3 → b ≠ h.size + 4 → b ≠ h3.size → (z7.setIfInBounds h3.size (.deferred none))[b]? = z[b]? := fun b hb n1 n2 n3 n4 => by rw [set_other _ (fun e => n4 e.symm), hold7 b n1 n2 n3, k6.blk b hb (fun h => h)]
    have hz8 : (z7.setIfInBounds h3.size (.deferred none)).size = z6.size := by simp [hz7]
    refine hK _ _ ⟨[.slice ka' c.key.length kc', .int .i64 c.count, .slice sa' c.sum.length sc', .slice na' c.mn.length nc', .slice xa' c.mx.length xc'], _, rfl, ?_, ?_, ⟨?_, ?_⟩⟩
    · refine rCell.mono rd fun b hb => ?_
      have h1 := hb.1.1
      have h2 := tzz.size
      have h3' := tz.size
      have e : (z7.setIfInBounds h3.size (.deferred none))[b]? = z6[b]? := by rw [set_other _ (by omega), hold7 b (by omega) (by omega) (by omega)]
      exact ⟨⟨hb.1.at (by omega) e, by have := hb.2.1; omega, fun h => h⟩, e⟩
    · have hwd : c.key.length + 2 + 24 * j = w := by omega
      rw [hwd] at rz
      refine rz.mono fun b hb => ?_
      have h1 := hF _ hb
      have h2 := tzz.size
      have e := hold8 b (by omega) (by omega) (by omega) (by omega) (by omega)
      exact ⟨hb, e⟩
    · have := tzz.size
      have := k6.size
      omega
    · intro b hb _
      have := tzz.size
      rw [hold8 b (by omega) (by omega) (by omega) (by omega) (by omega)]
      exact tzz.keep.blk b hb (fun h => h)
end Go.Proofs

/-
  The document's cell out of bytes.
-/
namespace Go.Proofs
open Go Go.HC

set_option maxHeartbeats 8000000 in
set_option maxRecDepth 10000 in
theorem rone_spec {h : Heap} {cv xv : Value} {s : SchM} {k : Int} {c : CellM} {B : List UInt8} (hcv : SlRep rInt (Old h) h cv s.cards) (hx : SlRep rByte (Old h) h xv B) (hs : SchOk s) (hk : 0 ≤ k ∧ k < 2 ^ s.cards.length) (hc : CelOk s k c) (hn : 1 ≤ c.count ∧ c.count ≤ 300) (hB : B = cellB c) :
    CallH Tryz.prog 136 #[.agg #[cv, .int .i64 s.ms], .int .i64 k, xv] h fun r h' => ∃ ds, r = .tuple #[.agg ds.toArray, .bool true] ∧ rCell.rep (Ft h.size none_ h') h' ds c ∧ Keep none_ h h' := by
  refine callH_by fun K hK => ?_
  refine enter [.cell 6 65, .tmp 7] Tryz.func136 rfl rfl (by kernel_rfl) rfl ?_
  have C := cel_at c
  have hBl := cellB_len hc
  rw [← hB] at C hBl
  have hcv0 := hcv
  have hx0 := hx
  obtain ⟨a0, c0, rfl, _, _⟩ := hcv.val
  obtain ⟨xa, xc, rfl, hxc, _⟩ := hx.val
  have hd4 := hs.dims.2
  have hms := hs.ms
  obtain ⟨m, em⟩ : ∃ m : Nat, s.ms = m := ⟨s.ms.toNat, by omega⟩
  have emn : s.ms.toNat = m := by omega
  have hsl : c.sum.length = m := by rw [hc.sum, emn]
  have hdl : (dimsM k).length ≤ 4 := cntD_le k 4
  have hdd : cntD k s.cards.length = (dimsM k).length := by unfold cntD; rw [dims_range hk.1 hk.2 hd4]
  have hkl := hc.klen
  rw [emn, ← hkl] at hBl
  obtain ⟨w, ew⟩ : ∃ w, w = B.length := ⟨_, rfl⟩
  rw [← ew] at hBl
  have hw : ∀ c : UInt8, IntKind.i64.wrap (c.toNat : Int) = (c.toNat : Int) := fun c => by have := c.toNat_lt; exact wrap_i64 (by omega) (by omega)
  have hat : ∀ {y : Heap} {M : Nat → Prop} (j : Nat) (x : UInt8), SlRep rByte (Ft 0 M y) y (.slice xa w xc) B → B[j]? = some x → ∃ bk off, xa = some ⟨bk, off, none⟩ ∧ HC.cellIn y[bk]? (off + j) = some (.int .u8 x.toNat) := fun {y} {M} j x hy hj => by
    obtain ⟨hj', e⟩ := List.getElem?_eq_some_iff.1 hj
    obtain ⟨b', o', e', _, hcc⟩ := hy.byte_at j hj'
    exact ⟨b', o', e', by rw [hcc, e]⟩
  rw [em, ← ew]
  simp -dsimp [boxS_eq]
  generalize hH : Array.push (Array.push (Array.push h _) _) _ = h0
  have k0 : Keep none_ h h0 := by rw [← hH]; exact (((Keep.refl none_ h).pushed _).pushed _).pushed _
  have z0 : h0.size = h.size + 3 := by rw [← hH]; simp
  have wS : h0[h.size]? = some (.cells #[.slice a0 s.cards.length c0, .int .i64 m] 30 (0, 0)) := by rw [← hH]; exact push_at (push_at (push_new _ _))
  have wR : h0[h.size + 1]? = some (.cells #[.slice none 0 0, .int .i64 0, .slice none 0 0, .slice none 0 0, .slice none 0 0] 65 (0, 0)) := by rw [← hH]; exact push_at (push_get (by simp))
  have wC : h0[h.size + 2]? = some (.cells #[.slice none 0 0, .int .i64 0, .slice none 0 0, .slice none 0 0, .slice none 0 0] 65 (0, 0)) := by rw [← hH]; exact push_get (by simp)
  obtain ⟨M0, eM⟩ : ∃ M0 : Nat → Prop, M0 = fun b => b = h.size + 1 ∨ b = h.size + 2 := ⟨_, rfl⟩
  have hM0 : ∀ b, M0 b ↔ b = h.size + 1 ∨ b = h.size + 2 := fun b => by rw [eM]
  have t0 : Tr none_ M0 h h0 := ⟨k0, fun b hb => .inr (by have := (hM0 b).1 hb; omega), fun b hb => by have := (hM0 b).1 hb; omega⟩
  have hxM : ∀ {y : Heap} {M : Nat → Prop}, Tr none_ M h y → SlRep rByte (Ft 0 M y) y (.slice xa w xc) B := fun t => by rw [ew]; exact hx0.mono (t.ft (Nat.le_refl 0))
  refine loopc (σ := Nat × Value) (fun t => [(1, .int .i64 k), (2, .slice xa w xc), (3, .pointer (some ⟨h.size, 0, none⟩)), (6, .pointer (some ⟨h.size + 1, 0, none⟩)), (8, .pointer (some ⟨h.size + 2, 0, none⟩)), (9, .int .i64 (cntD k t.1)), (10, .int .i64 t.1)])
    (fun t y => ∃ M own, Tr M0 M h0 y ∧ (M (h.size + 1) ∧ M (h.size + 2)) ∧ (∀ b, own = some b → h0.size ≤ b) ∧ t.1 ≤ s.cards.length ∧ y[h.size + 1]? = some (.cells #[.slice none 0 0, .int .i64 0, .slice none 0 0, .slice none 0 0, .slice none 0 0] 65 (0, 0)) ∧
      y[h.size + 2]? = some (.cells #[t.2, .int .i64 0, .slice none 0 0, .slice none 0 0, .slice none 0 0] 65 (0, 0)) ∧ Gr rInt 3 h.size M y t.2 (c.key.take (cntD k t.1)) own)
    (fun t => s.cards.length - t.1) (0, .slice none 0 0) 0 (fun t _ => t.1 = s.cards.length) noRet noRet_le (by simp [cntD]) ⟨M0, none, t0.here, ⟨(hM0 _).2 (.inl rfl), (hM0 _).2 (.inr rfl)⟩, (fun _ h => by cases h), Nat.zero_le _, wR, wC, .nil _ _ _ _ _⟩ (by kernel_rfl) ?_ ?_
  case refine_1 =>
    rintro ⟨i, v⟩ y g ⟨M, own, t, ⟨mR, mC⟩, ho, hi, wRy, wCy, gv⟩
    simp only at hi wCy gv
    have wi := wrap_succ (k := i) (by omega)
    have wSy := t.at wS (fun e => by have := (hM0 _).1 e; omega)
    have tt := t0.trans t
    obtain ⟨va, vn, vc, ev, hvn⟩ := gv.vals
    subst ev
    have hcs := cntD_succ k i
    by_cases hil : i < s.cards.length
    · simp -dsimp [wSy, hil, shr_bit (show i < 64 by omega), bit_op]
      cases hbit : bitM k i with
      | false =>
        rw [hbit, if_neg (by decide), Nat.add_zero] at hcs
        simp -dsimp [wi]
        exact ⟨(i + 1, .slice va vn vc), by simp [hcs], rfl, ⟨M, own, t, ⟨mR, mC⟩, ho, hil, wRy, wCy, by show Gr rInt _ _ _ _ _ (c.key.take (cntD k (i + 1))) own; rw [hcs]; exact gv⟩, by show s.cards.length - (i + 1) < s.cards.length - i; omega⟩
      | true =>
        rw [hbit, if_pos rfl] at hcs
        have hdi : (dimsM k)[cntD k i]? = some i := by
          unfold dimsM cntD
          exact filter_at (by omega) hbit
        obtain ⟨hci, hdv⟩ := List.getElem?_eq_some_iff.1 hdi
        have hck : cntD k i < c.key.length := by omega
        have hkv := hc.key _ hck hci
        rw [hdv, List.getD_eq_getElem?_getD, List.getElem?_eq_getElem hil, Option.getD_some] at hkv
        have hcw : cntD k i < w := by omega
        obtain ⟨bx, ox, exa, hcx⟩ := hat (cntD k i) _ (hxM tt) (C.key _ hck)
        obtain ⟨b5, o5, rfl, _, hc5⟩ := (hcv0.mono (tt.ft (Nat.le_refl 0))).int_at i hil
        have hv16 := hs.cards _ (List.getElem_mem hil)
        have hv1 : ((byteM c.key[cntD k i]).toNat : Int) = c.key[cntD k i] := byteM_small (by omega) (by omega)
        have hnlt : ¬ (s.cards[i] ≤ c.key[cntD k i]) := by omega
        have hwk : IntKind.i64.wrap c.key[cntD k i] = c.key[cntD k i] := wrap_i64 (by omega) (by omega)
        have wc : IntKind.i64.wrap ((cntD k i : Int) + 1) = ((cntD k (i + 1) : Nat) : Int) := by rw [hcs]; exact wrap_succ (by omega)
        subst exa
        simp -dsimp [idxA_nat hcw, idxA_nat hil, hcx, hv1, hwk, wSy, hc5, hnlt, wCy]
        have hlk : (c.key.take (cntD k i)).length = cntD k i := by rw [List.length_take]; omega
        refine gr_app1 rfl intT gv t.lt rfl rfl (by omega) (by omega) ?_
        intro v5 h5 own5 g5 t5 k5 ho5
        have wC5 := k5.at wCy (fun e => by have := ho _ e; omega)
        have wR5 := k5.at wRy (fun e => by have := ho _ e; omega)
        have ho5' : ∀ b, own5 = some b → h0.size ≤ b := fun b e => (ho5 _ e).elim (ho b) (by have := t.size; omega)
        obtain ⟨va5, vn5, vc5, ev5, _⟩ := g5.vals
        subst ev5
        simp -dsimp [wC5, wi, wc]
        refine ⟨(i + 1, .slice va5 vn5 vc5), by simp, rfl, ⟨_, own5, (t.trans t5).set _ (.inl mC), ⟨.inl mR, .inl mC⟩, ho5', hil, (set_other _ (by omega)).trans wR5, set_same _ (lt_of_blk wC5), ?_⟩, by show s.cards.length - (i + 1) < s.cards.length - i; omega⟩
        have : c.key.take (cntD k (i + 1)) = c.key.take (cntD k i) ++ [c.key[cntD k i]] := by
          rw [hcs, List.take_add_one, List.getElem?_eq_getElem hck]
          rfl
        show Gr rInt _ _ _ _ _ (c.key.take (cntD k (i + 1))) own5
        rw [this]
        exact g5.set _ (.inl mC) (fun e => by have := ho5' _ e; omega)
    · simp -dsimp [wSy, hil]
      exact ⟨rfl, (i, .slice va vn vc), by simp, rfl, ⟨M, own, t, ⟨mR, mC⟩, ho, hi, wRy, wCy, gv⟩, by show i = _; omega⟩
  rintro ⟨i, v⟩ y g ⟨M, own, t, ⟨mR, mC⟩, ho, hi, wRy, wCy, gv⟩ hid
  simp only at hi wCy gv hid
  subst hid
  rw [hdd, ← hkl, List.take_length] at gv
  rw [hdd, ← hkl]
  have tt := t0.trans t
  have wSy := t.at wS (fun e => by have := (hM0 _).1 e; omega)
  obtain ⟨va, vc, rfl⟩ := gv.val
  have hcb := C.count
  have hb0 : B[c.key.length]? = some (byteM (c.count.fdiv 256)) := by
    have := congrArg (·[0]?) hcb
    simpa [w2, List.getElem?_take_of_lt, List.getElem?_drop] using this
  have hb1 : B[c.key.length + 1]? = some (byteM c.count) := by
    have := congrArg (·[1]?) hcb
    simpa [w2, List.getElem?_take_of_lt, List.getElem?_drop] using this
  obtain ⟨bx, ox, exa, hcx0⟩ := hat _ _ (hxM tt) hb0
  obtain ⟨bx', ox', exa', hcx1⟩ := hat _ _ (hxM tt) hb1
  subst exa
  cases exa'
  have w1 : IntKind.i64.wrap ((c.key.length : Int) + 1) = ((c.key.length + 1 : Nat) : Int) := wrap_succ (by omega)
  have w2' : IntKind.i64.wrap ((c.key.length : Int) + 2) = (c.key.length : Int) + 2 := wrap_i64 (by omega) (by omega)
  have hidx : ∀ (j : Nat) sz ar, j < w → idxV sz ar (.slice (some ⟨bx, ox, none⟩) w xc) (.int .i64 (j : Int)) = sz.map fun sz => .pointer (some ⟨bx, ox + j * sz, none⟩) := fun j sz ar hj =>
    idxV_nat (sz := sz) (ar := ar) (bk := bx) (off := ox) (n := w) (c := xc) (i := j) (k := .i64) hj
  have hidx0 : ∀ sz ar, idxV sz ar (.slice (some ⟨bx, ox, none⟩) w xc) (.int .i64 (c.key.length : Int)) = sz.map fun sz => .pointer (some ⟨bx, ox + c.key.length * sz, none⟩) := fun sz ar => hidx _ sz ar (by omega)
  have hidx1 : ∀ sz ar, idxV sz ar (.slice (some ⟨bx, ox, none⟩) w xc) (.int .i64 ((c.key.length : Int) + 1)) = sz.map fun sz => .pointer (some ⟨bx, ox + (c.key.length + 1) * sz, none⟩) := fun sz ar => hidx (c.key.length + 1) sz ar (by omega)
  have l2 := (byteM c.count).toNat_lt
  have hor : binV Tryz.prog .or 3 (.int .i64 (IntKind.i64.wrap (((byteM (c.count.fdiv 256)).toNat : Int) * 256))) (.int .i64 ((byteM c.count).toNat : Int)) = some (.int .i64 c.count) := by
    have := or8 ((byteM (c.count.fdiv 256)).toNat : Int) l2
    rw [show IntKind.i64.wrap (((byteM (c.count.fdiv 256)).toNat : Int) * 256 + ((byteM c.count).toNat : Int)) = c.count by
      rw [byteM_nat, byteM_nat, Int.fdiv_eq_ediv_of_nonneg _ (by decide), wrap_i64 (by omega) (by omega)]
      omega] at this
    exact this
  have hshl : ∀ n : Int, binV Tryz.prog .shl 3 (.int .i64 n) (.int .u64 8) = some (.int .i64 (IntKind.i64.wrap (n * 256))) := fun n => shl8 n
  simp -dsimp
  refine drawn_by [⟨0, true, []⟩, ⟨1, true, []⟩, ⟨2, true, []⟩, ⟨3, true, []⟩, ⟨4, true, []⟩, ⟨5, true, []⟩, ⟨6, true, []⟩, ⟨7, true, []⟩, ⟨8, true, []⟩, ⟨9, true, []⟩, ⟨10, true, []⟩, ⟨11, true, []⟩, ⟨12, true, []⟩, ⟨13, true, []⟩, ⟨14, false, []⟩] (by kernel_rfl) (by kernel_rfl) ?_
  simp -dsimp [w1, hidx0, hidx1, elSz_eq, hcx0, hcx1, hw, hshl, hor, wCy, w2']
  generalize hE : Array.setIfInBounds y (h.size + 2) _ = y0
  have u0 : Tr M M0 y y0 := by
    have := (t.here.set (.cells #[.slice va c.key.length vc, .int .i64 c.count, .slice none 0 0, .slice none 0 0, .slice none 0 0] 65) mC).less (M'' := M0) fun b hb => ((hM0 b).1 hb).elim (fun e => by rw [e]; exact mR) (fun e => by rw [e]; exact mC)
    rw [← hE]; exact this
  have tt0 : Tr none_ M0 h y0 := tt.trans u0
  have wC0 : y0[h.size + 2]? = some (.cells #[.slice va c.key.length vc, .int .i64 c.count, .slice none 0 0, .slice none 0 0, .slice none 0 0] 65 (0, 0)) := by rw [← hE]; exact set_same _ (lt_of_blk wCy)
  have wR0 : y0[h.size + 1]? = some (.cells #[.slice none 0 0, .int .i64 0, .slice none 0 0, .slice none 0 0, .slice none 0 0] 65 (0, 0)) := by rw [← hE]; exact (set_other _ (by omega)).trans wRy
  have gk : SlRep rInt (Ft h.size M0 y0) y0 (.slice va c.key.length vc) c.key := gv.grow.ints.mono fun b hb => by
    have h1 := ho b hb
    have h2 := gv.own_lt b hb
    have e : y0[b]? = y[b]? := by rw [← hE]; exact set_other _ (by omega)
    exact ⟨⟨⟨by omega, fun _ => (gv.thaw b hb).at e⟩, by have := u0.size; omega, fun hm => by have := (hM0 _).1 hm; omega⟩, e⟩
  have hBS : ∀ {z : Heap} {N : Nat → Prop}, Tr M0 N y0 z → z[h.size]? = some (.cells #[.slice a0 s.cards.length c0, .int .i64 m] 30 (0, 0)) := fun tz => ((t.trans u0).trans tz).at wS (fun e => by have := (hM0 _).1 e; omega)
  refine loopc (σ := Nat × Value × Value × Value) (fun t => [(2, .slice (some ⟨bx, ox, none⟩) w xc), (3, .pointer (some ⟨h.size, 0, none⟩)), (6, .pointer (some ⟨h.size + 1, 0, none⟩)), (8, .pointer (some ⟨h.size + 2, 0, none⟩)), (9, .int .i64 (c.key.length + 2 + 24 * t.1 : Nat)), (12, .int .i64 t.1)])
    (fun t z => ∃ N o2 o3 o4, Tr M0 N y0 z ∧ (N (h.size + 1) ∧ N (h.size + 2)) ∧ t.1 ≤ m ∧ z[h.size + 1]? = some (.cells #[.slice none 0 0, .int .i64 0, .slice none 0 0, .slice none 0 0, .slice none 0 0] 65 (0, 0)) ∧
      z[h.size + 2]? = some (.cells #[.slice va c.key.length vc, .int .i64 c.count, t.2.1, t.2.2.1, t.2.2.2] 65 (0, 0)) ∧
      Grs rInt 3 h.size N z (fun b => b = h.size + 1 ∨ b = h.size + 2) [⟨t.2.1, c.sum.take t.1, o2⟩, ⟨t.2.2.1, c.mn.take t.1, o3⟩, ⟨t.2.2.2, c.mx.take t.1, o4⟩])
    (fun t => m - t.1) (0, .slice none 0 0, .slice none 0 0, .slice none 0 0) 2 (fun t _ => t.1 = m) noRet noRet_le (by simp) ⟨M0, none, none, none, u0.here, ⟨(hM0 _).2 (.inl rfl), (hM0 _).2 (.inr rfl)⟩, Nat.zero_le _, wR0, wC0, Grs.nils 3⟩ (by kernel_rfl) ?_ ?_
  case refine_1 =>
    rintro ⟨j, v2, v3, v4⟩ z g ⟨N, o2, o3, o4, tz, ⟨nR, nC⟩, hj, wRz, wCz, gg⟩
    simp only at hj wCz gg
    have wSz := hBS tz
    have wj := wrap_succ (k := j) (by omega)
    obtain ⟨va2, vn2, vc2, rfl, _⟩ := (gg.at (i := 0) rfl).vals
    obtain ⟨va3, vn3, vc3, rfl, _⟩ := (gg.at (i := 1) rfl).vals
    obtain ⟨va4, vn4, vc4, rfl, _⟩ := (gg.at (i := 2) rfl).vals
    by_cases hjl : j < m
    · have hjl' : (j : Int) < m := by omega
      obtain ⟨q, eq⟩ : ∃ q, q = c.key.length + 2 + 24 * j := ⟨_, rfl⟩
      have hqw : q + 24 ≤ w := by omega
      rw [← eq]
      have wq : ∀ e : Nat, e < 1000 → IntKind.i64.wrap ((q : Int) + (e : Int)) = (q : Int) + (e : Int) := fun e he => wrap_i64 (by omega) (by omega)
      have wq8 : IntKind.i64.wrap ((q : Int) + 8) = (q : Int) + 8 := wq 8 (by omega)
      have wq16 : IntKind.i64.wrap ((q : Int) + 16) = (q : Int) + 16 := wq 16 (by omega)
      have wq24 : IntKind.i64.wrap ((q : Int) + 24) = (q : Int) + 24 := wq 24 (by omega)
      have hpc : ∀ lo hi : Nat, lo + 8 = hi → hi ≤ 24 → pieceV (some 1) (some (.int .i64 ((q : Int) + (lo : Int)))) (some (.int .i64 ((q : Int) + (hi : Int)))) (.slice (some ⟨bx, ox, none⟩) w xc) = some (.slice (piece (some ⟨bx, ox, none⟩) (q + lo) xc 1) 8 (xc - (q + lo))) := fun lo hi e1 e2 => by
        have e3 : ((q : Int) + (lo : Int)).toNat = q + lo := by omega
        have e4 : ((q : Int) + (hi : Int)).toNat = q + hi := by omega
        have e5 : (0 : Int) ≤ (q : Int) + (lo : Int) := by omega
        have e6 : (0 : Int) ≤ (q : Int) + (hi : Int) := by omega
        unfold pieceV
        simp only [natV, e3, e4, e5, e6, Option.bind_some, if_true]
        rw [if_pos ⟨by omega, by omega⟩]
        congr 2
        omega
      have hpc0 : pieceV (some 1) (some (.int .i64 (q : Int))) (some (.int .i64 ((q : Int) + 8))) (.slice (some ⟨bx, ox, none⟩) w xc) = some (.slice (piece (some ⟨bx, ox, none⟩) q xc 1) 8 (xc - q)) := by
        have := hpc 0 8 (by omega) (by omega)
        simpa using this
      have hpc1 : pieceV (some 1) (some (.int .i64 ((q : Int) + 8))) (some (.int .i64 ((q : Int) + 16))) (.slice (some ⟨bx, ox, none⟩) w xc) = some (.slice (piece (some ⟨bx, ox, none⟩) (q + 8) xc 1) 8 (xc - (q + 8))) := hpc 8 16 (by omega) (by omega)
      have hpc2 : pieceV (some 1) (some (.int .i64 ((q : Int) + 16))) (some (.int .i64 ((q : Int) + 24))) (.slice (some ⟨bx, ox, none⟩) w xc) = some (.slice (piece (some ⟨bx, ox, none⟩) (q + 16) xc 1) 8 (xc - (q + 16))) := hpc 16 24 (by omega) (by omega)
      have hpb : ∀ {z : Heap} {N : Nat → Prop} (lo : Nat), lo + 8 ≤ 24 → SlRep rByte (Ft 0 N z) z (.slice (some ⟨bx, ox, none⟩) w xc) B → SlRep rByte (Ft 0 N z) z (.slice (piece (some ⟨bx, ox, none⟩) (q + lo) xc 1) 8 (xc - (q + lo))) ((B.drop (q + lo)).take 8) := fun lo hlo hx => by
        have := hx.cut (i := q + lo) (j := q + lo + 8) (m := xc) (by omega) (by omega) (by omega) (Nat.le_refl _)
        rw [Nat.add_sub_cancel_left] at this
        exact this
      have l8 : ∀ lo, lo + 8 ≤ 24 → ((B.drop (q + lo)).take 8).length = 8 := fun lo hlo => by rw [List.length_take, List.length_drop]; omega
      have b0 : backM ((B.drop (q + 0)).take 8) = c.sum.getD j 0 := by
        rw [Nat.add_zero, eq, C.sum j (by omega)]; exact back8 (hc.i64 j).1.1 (hc.i64 j).1.2
      have b1 : backM ((B.drop (q + 8)).take 8) = c.mn.getD j 0 := by
        rw [eq, C.mn j (by omega)]; exact back8 (hc.i64 j).2.1.1 (hc.i64 j).2.1.2
      have b2 : backM ((B.drop (q + 16)).take 8) = c.mx.getD j 0 := by
        rw [eq, C.mx j (by omega)]; exact back8 (hc.i64 j).2.2.1 (hc.i64 j).2.2.2
      have ll : ∀ f : List Int, (f.take j).length ≤ j := fun f => by rw [List.length_take]; omega
      have wCzp : ∀ o, (z.push o)[h.size + 2]? = _ := fun o => push_at wCz
      simp -dsimp [wSz, hjl']
      refine drawn_by [⟨0, true, []⟩, ⟨1, true, []⟩, ⟨2, true, []⟩, ⟨3, true, []⟩, ⟨4, true, []⟩, ⟨5, true, []⟩, ⟨6, true, []⟩, ⟨7, false, [0, 1]⟩, ⟨8, false, [0, 1]⟩, ⟨9, false, []⟩, ⟨10, true, []⟩, ⟨11, false, []⟩] (by kernel_rfl) (by kernel_rfl) ?_
      simp -dsimp [wCz, wq8, elSz_eq, hpc0]
      refine call_by (rback_spec (hpb 0 (by omega) (hxM (tt0.trans tz))) (l8 0 (by omega))) ?_
      rintro _ z2 ⟨rfl, hh⟩
      subst z2
      rw [b0]
      simp -dsimp [wCz, wCzp, again_cons]
      refine grs_step (i := 0) (t := ⟨.slice va2 vn2 vc2, c.sum.take j, o2⟩) (b5 := h.size + 2) rfl intT gg rfl tz.lt rfl rfl (by show ((c.sum.take j).length + 1) * 8 ≤ _; have := ll c.sum; omega) (by show (c.sum.take j).length + 1 < _; have := ll c.sum; omega) (by have := lt_of_blk wRz; have := lt_of_blk wCz; rintro b (rfl | rfl) <;> omega) (by have := lt_of_blk wCz; omega) wCz nC (.inr rfl) ?_
      intro ya0 yn0 yc0 y1 N1 p0 wC1 hz1
      simp -dsimp [wC1]
      obtain ⟨z1, e1, u1, G1, wCz1, n1, hold1⟩ := hz1 (.cells #[.slice va c.key.length vc, .int .i64 c.count, .slice ya0 yn0 yc0, .slice va3 vn3 vc3, .slice va4 vn4 vc4] 65 (0, 0))
      rw [← e1]
      have U1 := tz.trans u1
      have wR1 := hold1 _ _ (show h.size + 1 ≠ h.size + 2 by omega) (.inl rfl) wRz
      have wS1 := hBS U1
      have wCp1 : ∀ o, (z1.push o)[h.size + 2]? = _ := fun o => push_at wCz1
      refine drawn_by [⟨0, true, []⟩, ⟨1, true, []⟩, ⟨2, true, []⟩, ⟨3, true, []⟩, ⟨4, true, []⟩, ⟨5, true, []⟩, ⟨6, true, []⟩, ⟨7, true, []⟩, ⟨8, false, [0, 1]⟩, ⟨9, false, [0, 1]⟩, ⟨10, false, []⟩, ⟨11, true, []⟩, ⟨12, false, []⟩] (by kernel_rfl) (by kernel_rfl) ?_
      simp -dsimp [wCz1, wq8, wq16, elSz_eq, hpc1]
      refine call_by (rback_spec (hpb 8 (by omega) (hxM (tt0.trans U1))) (l8 8 (by omega))) ?_
      rintro _ z3 ⟨rfl, hh⟩
      subst z3
      rw [b1]
      simp -dsimp [wCz1, wCp1, again_cons]
      refine grs_step (i := 1) (t := ⟨.slice va3 vn3 vc3, c.mn.take j, o3⟩) (b5 := h.size + 2) rfl intT G1 rfl U1.lt rfl rfl (by show ((c.mn.take j).length + 1) * 8 ≤ _; have := ll c.mn; omega) (by show (c.mn.take j).length + 1 < _; have := ll c.mn; omega) (by have := lt_of_blk wR1; have := lt_of_blk wCz1; rintro b (rfl | rfl) <;> omega) (by have := lt_of_blk wCz1; omega) wCz1 (n1 _ nC) (.inr rfl) ?_
      intro ya1 yn1 yc1 y2 N2 p1 wC2 hz2
      simp -dsimp [wC2]
      obtain ⟨z2, e2, u2, G2, wCz2, n2, hold2⟩ := hz2 (.cells #[.slice va c.key.length vc, .int .i64 c.count, .slice ya0 yn0 yc0, .slice ya1 yn1 yc1, .slice va4 vn4 vc4] 65 (0, 0))
      rw [← e2]
      have U2 := U1.trans u2
      have wR2 := hold2 _ _ (show h.size + 1 ≠ h.size + 2 by omega) (.inl rfl) wR1
      have wCp2 : ∀ o, (z2.push o)[h.size + 2]? = _ := fun o => push_at wCz2
      refine drawn_by [⟨0, true, []⟩, ⟨1, true, []⟩, ⟨2, true, []⟩, ⟨3, true, []⟩, ⟨4, true, []⟩, ⟨5, true, []⟩, ⟨6, true, []⟩, ⟨7, true, []⟩, ⟨8, false, [0, 1]⟩, ⟨9, false, [0, 1]⟩, ⟨10, false, []⟩, ⟨11, true, []⟩, ⟨12, false, []⟩] (by kernel_rfl) (by kernel_rfl) ?_
      simp -dsimp [wCz2, wq16, wq24, elSz_eq, hpc2]
      refine call_by (rback_spec (hpb 16 (by omega) (hxM (tt0.trans U2))) (l8 16 (by omega))) ?_
      rintro _ z3 ⟨rfl, hh⟩
      subst z3
      rw [b2]
      simp -dsimp [wCz2, wCp2, again_cons]
      refine grs_step (i := 2) (t := ⟨.slice va4 vn4 vc4, c.mx.take j, o4⟩) (b5 := h.size + 2) rfl intT G2 rfl U2.lt rfl rfl (by show ((c.mx.take j).length + 1) * 8 ≤ _; have := ll c.mx; omega) (by show (c.mx.take j).length + 1 < _; have := ll c.mx; omega) (by have := lt_of_blk wR2; have := lt_of_blk wCz2; rintro b (rfl | rfl) <;> omega) (by have := lt_of_blk wCz2; omega) wCz2 (n2 _ (n1 _ nC)) (.inr rfl) ?_
      intro ya2 yn2 yc2 y3 N3 p2 wC3 hz3
      simp -dsimp [wC3]
      obtain ⟨z3, e3, u3, G3, wCz3, n3, hold3⟩ := hz3 (.cells #[.slice va c.key.length vc, .int .i64 c.count, .slice ya0 yn0 yc0, .slice ya1 yn1 yc1, .slice ya2 yn2 yc2] 65 (0, 0))
      rw [← e3]
      have U3 := U2.trans u3
      have wR3 := hold3 _ _ (show h.size + 1 ≠ h.size + 2 by omega) (.inl rfl) wR2
      have tk : ∀ l : List Int, j < l.length → l.take (j + 1) = l.take j ++ [l.getD j 0] := fun l hl => by
        rw [List.take_add_one, List.getElem?_eq_getElem hl, List.getD_eq_getElem?_getD, List.getElem?_eq_getElem hl]
        rfl
      have G3' : Grs rInt 3 h.size N3 z3 (fun b => b = h.size + 1 ∨ b = h.size + 2) [⟨.slice ya0 yn0 yc0, c.sum.take (j + 1), p0⟩, ⟨.slice ya1 yn1 yc1, c.mn.take (j + 1), p1⟩, ⟨.slice ya2 yn2 yc2, c.mx.take (j + 1), p2⟩] := by
        rw [tk c.sum (by omega), tk c.mn (by rw [hc.mn]; omega), tk c.mx (by rw [hc.mx]; omega)]
        exact G3
      have hm1 : j < (c.mn.take (j + 1)).length := by rw [List.length_take, hc.mn]; omega
      have hm2 : j < (c.mx.take (j + 1)).length := by rw [List.length_take, hc.mx]; omega
      obtain ⟨bm, om, em', _, hcm⟩ := (G3'.at (i := 1) rfl).grow.ints.int_at j hm1
      obtain ⟨bn, on, en', _, hcn⟩ := (G3'.at (i := 2) rfl).grow.ints.int_at j hm2
      obtain ⟨_, _, _, ev1, en1⟩ := (G3'.at (i := 1) rfl).vals
      obtain ⟨_, _, _, ev2, en2⟩ := (G3'.at (i := 2) rfl).vals
      cases ev1
      cases ev2
      have gd : ∀ (l : List Int) (h : j < (l.take (j + 1)).length), (l.take (j + 1))[j] = l.getD j 0 := fun l h => by
        rw [List.getElem_take, List.getD_eq_getElem?_getD, List.getElem?_eq_getElem (by rw [List.length_take] at h; omega)]
        rfl
      have hcm' : HC.cellIn z3[bm]? (om + j) = some (.int .i64 (c.mn.getD j 0)) := by rw [← gd _ hm1]; exact hcm
      have hcn' : HC.cellIn z3[bn]? (on + j) = some (.int .i64 (c.mx.getD j 0)) := by rw [← gd _ hm2]; exact hcn
      subst em' en'
      obtain ⟨mnj, emn'⟩ : ∃ x, x = c.mn.getD j 0 := ⟨_, rfl⟩
      obtain ⟨mxj, emx'⟩ : ∃ x, x = c.mx.getD j 0 := ⟨_, rfl⟩
      have hle := hc.le j
      rw [← emn', ← emx'] at hle
      rw [← emn'] at hcm'
      rw [← emx'] at hcn'
      have hgt : ¬ (mxj < mnj) := by omega
      have ix1 : j < yn1 := by rw [en1]; exact hm1
      have ix2 : j < yn2 := by rw [en2]; exact hm2
      have wq24' : IntKind.i64.wrap ((q : Int) + 24) = ((c.key.length + 2 + 24 * (j + 1) : Nat) : Int) := by rw [wq24, eq]; omega
      refine drawn_by [⟨0, true, []⟩, ⟨1, true, []⟩, ⟨2, true, []⟩, ⟨3, true, []⟩, ⟨4, true, []⟩, ⟨5, true, []⟩, ⟨6, true, []⟩, ⟨7, true, []⟩, ⟨8, true, []⟩, ⟨9, true, []⟩, ⟨10, true, []⟩] (by kernel_rfl) (by kernel_rfl) ?_
      simp -dsimp [wCz3, idxV_nat ix1, idxV_nat ix2, elSz_eq, hcm', hcn', hgt, wj, wq24']
      exact ⟨(j + 1, _, _, _), by simp, rfl, ⟨N3, p0, p1, p2, U3, ⟨n3 _ (n2 _ (n1 _ nR)), n3 _ (n2 _ (n1 _ nC))⟩, hjl, wR3, wCz3, G3'⟩, by show m - (j + 1) < m - j; omega⟩
    · have hjl' : ¬ (j : Int) < m := by omega
      simp -dsimp [wSz, hjl']
      exact ⟨rfl, (j, _, _, _), by simp, rfl, ⟨N, o2, o3, o4, tz, ⟨nR, nC⟩, hj, wRz, wCz, gg⟩, by show j = m; omega⟩
  rintro ⟨j, v2, v3, v4⟩ z g ⟨N, o2, o3, o4, tz, ⟨nR, nC⟩, hj, wRz, wCz, gg⟩ hjm
  simp only at hj wCz gg hjm
  have tk : ∀ l : List Int, l.length = m → l.take j = l := fun l hl => List.take_of_length_le (by omega)
  rw [tk c.sum hsl, tk c.mn (by rw [hc.mn]; omega), tk c.mx (by rw [hc.mx]; omega)] at gg
  obtain ⟨va2, vn2, vc2, rfl, _⟩ := (gg.at (i := 0) rfl).vals
  obtain ⟨va3, vn3, vc3, rfl, _⟩ := (gg.at (i := 1) rfl).vals
  obtain ⟨va4, vn4, vc4, rfl, _⟩ := (gg.at (i := 2) rfl).vals
  have q1 : (1 : Int) ≤ c.count := hn.1
  have q2 : c.count ≤ (300 : Int) := hn.2
  simp -dsimp
  refine drawn_by [⟨0, true, []⟩, ⟨1, true, []⟩, ⟨2, true, []⟩, ⟨3, true, []⟩, ⟨4, true, []⟩, ⟨5, true, []⟩, ⟨6, true, []⟩, ⟨7, true, []⟩, ⟨8, true, []⟩, ⟨9, false, [5, 6, 7, 8]⟩, ⟨10, true, []⟩] (by kernel_rfl) (by kernel_rfl) ?_
  have wCs : ∀ o, (z.setIfInBounds (h.size + 1) o)[h.size + 2]? = _ := fun o => (set_other o (by omega)).trans wCz
  simp -dsimp [wCz, q1, q2, wRz, again_cons, set_same _ (lt_of_blk wRz), wCs]
  have tr := tz.set (.cells #[.slice va c.key.length vc, .int .i64 c.count, .slice va2 vn2 vc2, .slice va3 vn3 vc3, .slice va4 vn4 vc4] 65) nR
  have g9 := gg.wr (.cells #[.slice va c.key.length vc, .int .i64 c.count, .slice va2 vn2 vc2, .slice va3 vn3 vc3, .slice va4 vn4 vc4] 65) nR (.inl rfl)
  have hr := fun i t (hi : [(⟨.slice va2 vn2 vc2, c.sum, o2⟩ : GI Int), ⟨.slice va3 vn3 vc3, c.mn, o3⟩, ⟨.slice va4 vn4 vc4, c.mx, o4⟩][i]? = some t) => (g9.at hi).rep (n' := h.size) (Nat.le_refl _) fun b hb => ((g9.gr t (List.mem_of_getElem? hi)).2 b hb).2
  exact hK _ _ ⟨[.slice va c.key.length vc, .int .i64 c.count, .slice va2 vn2 vc2, .slice va3 vn3 vc3, .slice va4 vn4 vc4], rfl, ⟨_, _, _, _, rfl, (gk.mono (tr.ft (Nat.le_refl _))).mono (Ft.free (Nat.le_refl _)), hr 0 _ rfl, hr 1 _ rfl, hr 2 _ rfl⟩, (tt0.trans tr).keep⟩
end Go.Proofs

/-
  The document's cuboid out of bytes.
-/
namespace Go.HC
/-- What stands where in a cuboid's bytes. -/
structure CubAt (k : Int) (l : List CellM) (w : Nat) (b : List UInt8) : Prop where
  set : b[0]? = some (byteM k)
  hi : b[1]? = some (byteM ((l.length : Int).fdiv 256))
  lo : b[2]? = some (byteM l.length)
  cell : ∀ (i : Nat) (h : i < l.length), (b.drop (3 + i * w)).take w = cellB l[i]
  len : b.length = 3 + l.length * w
theorem cub_at {s : SchM} {k : Int} {l : List CellM} (ok : CubOk s k l) : CubAt k l ((dimsM k).length + 2 + 24 * s.ms.toNat) (encC k l) := by
  have hl : ∀ c ∈ l, (cellB c).length = (dimsM k).length + 2 + 24 * s.ms.toNat := fun c hc => cellB_len (ok.cel c hc)
  have e : encC k l = byteM k :: byteM ((l.length : Int).fdiv 256) :: byteM l.length :: l.flatMap cellB := by
    rw [encC_eq]
    unfold w2
    simp
  refine ⟨by rw [e]; rfl, by rw [e]; rfl, by rw [e]; rfl, fun i hi => ?_, ?_⟩
  · rw [e, show 3 + i * ((dimsM k).length + 2 + 24 * s.ms.toNat) = i * ((dimsM k).length + 2 + 24 * s.ms.toNat) + 1 + 1 + 1 by omega]
    simp only [List.drop_succ_cons]
    exact flat_piece hl i hi
  · rw [e]
    simp only [List.length_cons]
    rw [flat_size hl]
    omega
end Go.HC
namespace Go.Proofs
open Go Go.HC

set_option maxHeartbeats 8000000 in
set_option maxRecDepth 10000 in
theorem rcdecode_spec {h : Heap} {cv bv : Value} {s : SchM} {k : Int} {l : List CellM} (hcv : SlRep rInt (Old h) h cv s.cards) (hb : SlRep rByte (Old h) h bv (encC k l)) (ok : CubOk s k l) :
    CallH Tryz.prog 98 #[.agg #[cv, .int .i64 s.ms], bv] h fun r h' => ∃ rv, r = .tuple #[.int .i64 k, rv, .bool true] ∧ SlRep rCell (Ft h.size none_ h') h' rv l ∧ Keep none_ h h' := by
  refine callH_by fun K hK => ?_
  refine enter [.tmp 4, .tmp 5, .tmp 6] Tryz.func98 rfl rfl (by kernel_rfl) rfl ?_
  have C := cub_at ok
  obtain ⟨w, ew⟩ : ∃ w, w = (dimsM k).length + 2 + 24 * s.ms.toNat := ⟨_, rfl⟩
  rw [← ew] at C
  obtain ⟨E, eE⟩ : ∃ E, E = encC k l := ⟨_, rfl⟩
  rw [← eE] at C hb
  have hcv0 := hcv
  have hb0 := hb
  obtain ⟨a0, c0, rfl, _, _⟩ := hcv.val
  obtain ⟨xa, xc, rfl, hxc, _⟩ := hb.val
  have hd4 := ok.sch.dims.2
  have hms := ok.sch.ms
  have hdl : (dimsM k).length ≤ 4 := cntD_le k 4
  have hk := ok.set
  have hp4 : (2 : Int) ^ s.cards.length ≤ 2 ^ 4 := pow2_le hd4
  have e16 : (2 : Int) ^ 4 = 16 := by decide
  have hln := ok.len
  have hw60 : w ≤ 60 := by omega
  obtain ⟨m, em⟩ : ∃ m : Nat, s.ms = m := ⟨s.ms.toNat, by omega⟩
  have ew2 : w = (dimsM k).length + 2 + 24 * m := by rw [ew]; omega
  have hEl := C.len
  have hnw : l.length * w ≤ 300 * 60 := Nat.mul_le_mul (by omega) hw60
  have hat : ∀ (j : Nat) (x : UInt8), E[j]? = some x → ∃ bk off, xa = some ⟨bk, off, none⟩ ∧ Old h bk ∧ HC.cellIn h[bk]? (off + j) = some (.int .u8 x.toNat) := fun j x hj => by
    obtain ⟨hj', e⟩ := List.getElem?_eq_some_iff.1 hj
    obtain ⟨b', o', e', hf, hcc⟩ := hb.byte_at j hj'
    exact ⟨b', o', e', hf, by rw [hcc, e]⟩
  obtain ⟨bx, ox, exa, hfx, hx0⟩ := hat _ _ C.set
  obtain ⟨b1, o1, e1, _, hx1⟩ := hat _ _ C.hi
  obtain ⟨b2, o2, e2, _, hx2⟩ := hat _ _ C.lo
  subst exa
  cases e1
  cases e2
  rw [em]
  simp -dsimp [boxS_eq]
  generalize hH : Array.push h _ = h0
  have k0 : Keep none_ h h0 := by rw [← hH]; exact .push _ _ _
  have z0 : h0.size = h.size + 1 := by rw [← hH]; simp
  have wS : h0[h.size]? = some (.cells #[.slice a0 s.cards.length c0, .int .i64 m] 30 (0, 0)) := by rw [← hH]; exact push_new _ _
  have hxb := k0.blk bx hfx.2.1 (fun h => h)
  rw [← hxb] at hx0 hx1 hx2
  have q1 : decide ((E.length : Int) < 3) = false := decide_eq_false (by omega)
  have hidx : ∀ (j : Nat) sz ar, j < 3 → idxV sz ar (.slice (some ⟨bx, ox, none⟩) E.length xc) (.int .i64 (j : Int)) = sz.map fun sz => .pointer (some ⟨bx, ox + j * sz, none⟩) := fun j sz ar hj =>
    idxV_nat (sz := sz) (ar := ar) (bk := bx) (off := ox) (n := E.length) (c := xc) (i := j) (k := .i64) (by omega)
  have hidx0 : ∀ sz ar, idxV sz ar (.slice (some ⟨bx, ox, none⟩) E.length xc) (.int .i64 0) = sz.map fun sz => .pointer (some ⟨bx, ox + 0 * sz, none⟩) := fun sz ar => hidx 0 sz ar (by omega)
  have hidx1 : ∀ sz ar, idxV sz ar (.slice (some ⟨bx, ox, none⟩) E.length xc) (.int .i64 1) = sz.map fun sz => .pointer (some ⟨bx, ox + 1 * sz, none⟩) := fun sz ar => hidx 1 sz ar (by omega)
  have hidx2 : ∀ sz ar, idxV sz ar (.slice (some ⟨bx, ox, none⟩) E.length xc) (.int .i64 2) = sz.map fun sz => .pointer (some ⟨bx, ox + 2 * sz, none⟩) := fun sz ar => hidx 2 sz ar (by omega)
  have hk0 : ((byteM k).toNat : Int) = k := byteM_small (by omega) (by omega)
  have hkw : IntKind.i64.wrap k = k := wrap_i64 (by omega) (by omega)
  have hwb : ∀ c : UInt8, IntKind.i64.wrap (c.toNat : Int) = (c.toNat : Int) := fun c => by have := c.toNat_lt; exact wrap_i64 (by omega) (by omega)
  have l2 := (byteM (l.length : Int)).toNat_lt
  have hor : binV Tryz.prog .or 3 (.int .i64 (IntKind.i64.wrap (((byteM ((l.length : Int).fdiv 256)).toNat : Int) * 256))) (.int .i64 ((byteM (l.length : Int)).toNat : Int)) = some (.int .i64 l.length) := by
    have := or8 ((byteM ((l.length : Int).fdiv 256)).toNat : Int) l2
    rw [show IntKind.i64.wrap (((byteM ((l.length : Int).fdiv 256)).toNat : Int) * 256 + ((byteM (l.length : Int)).toNat : Int)) = l.length by
      rw [byteM_nat, byteM_nat, Int.fdiv_eq_ediv_of_nonneg _ (by decide), wrap_i64 (by omega) (by omega)]
      omega] at this
    exact this
  have hshl : ∀ n : Int, binV Tryz.prog .shl 3 (.int .i64 n) (.int .u64 8) = some (.int .i64 (IntKind.i64.wrap (n * 256))) := fun n => shl8 n
  simp -dsimp [q1]
  refine drawn_by [⟨0, true, []⟩, ⟨1, true, []⟩, ⟨2, true, []⟩, ⟨3, true, []⟩, ⟨4, true, []⟩, ⟨5, true, []⟩, ⟨6, true, []⟩, ⟨7, true, []⟩, ⟨8, true, []⟩, ⟨9, true, []⟩, ⟨10, true, []⟩, ⟨11, true, []⟩, ⟨12, true, []⟩, ⟨13, true, []⟩, ⟨14, true, []⟩, ⟨15, true, []⟩] (by kernel_rfl) (by kernel_rfl) ?_
  simp -dsimp only [Nat.add_zero] at hx0
  simp -dsimp [hidx0, hidx1, hidx2, elSz_eq, hx0, hx1, hx2, hk0, hkw, hwb, hshl, hor]
  refine drawn_by [⟨0, true, []⟩, ⟨3, true, []⟩, ⟨4, true, []⟩, ⟨5, true, []⟩, ⟨1, false, [3, 4, 5]⟩, ⟨2, true, []⟩, ⟨6, true, []⟩, ⟨7, true, []⟩] (by kernel_rfl) (by kernel_rfl) ?_
  have w1 : IntKind.i64.wrap (24 * (m : Int)) = 24 * (m : Int) := wrap_i64 (by omega) (by omega)
  have w2' : IntKind.i64.wrap (((dimsM k).length : Int) + 2) = ((dimsM k).length : Int) + 2 := wrap_i64 (by omega) (by omega)
  have w3 : IntKind.i64.wrap (((dimsM k).length : Int) + 2 + 24 * (m : Int)) = (w : Int) := by rw [wrap_i64 (by omega) (by omega), ew2]; omega
  simp -dsimp [wS, w1]
  refine call_by (rlevel_spec k h0) ?_
  rintro _ h1 ⟨rfl, hh⟩
  subst h1
  have w4 : IntKind.i64.wrap ((l.length : Int) * (w : Int)) = (l.length : Int) * (w : Int) := by rw [← Int.natCast_mul]; exact wrap_i64 (by omega) (by omega)
  have w5 : IntKind.i64.wrap (3 + (l.length : Int) * (w : Int)) = 3 + (l.length : Int) * (w : Int) := by rw [← Int.natCast_mul]; exact wrap_i64 (by omega) (by omega)
  have hz' : ((E.length : Int) != 3 + (l.length : Int) * (w : Int)) = false := by
    rw [bne_eq_false_iff_eq, hEl, ← Int.natCast_mul]
    omega
  have q2 : ¬ ((2 : Int) ^ s.cards.length ≤ k) := by omega
  have q3 : decide ((300 : Int) < (l.length : Int)) = false := decide_eq_false (by omega)
  simp -dsimp [wS, w1, w2', w3, again_cons, shl_one (k := s.cards.length) (by omega), q2, q3, w4, w5, hz']
  have cellsT' : ElemT Tryz.prog 43 65 rCell 104 := by first | exact cellT | exact cellsT
  refine loopc (σ := Nat × Value) (fun t => [(1, .slice (some ⟨bx, ox, none⟩) E.length xc), (2, .pointer (some ⟨h.size, 0, none⟩)), (7, .int .i64 k), (8, .int .i64 l.length), (9, .int .i64 w), (10, t.2), (11, .int .i64 t.1)])
    (fun t y => ∃ M own, Tr none_ M h0 y ∧ (∀ b, own = some b → h0.size ≤ b) ∧ t.1 ≤ l.length ∧ Gr rCell 65 h.size M y t.2 (l.take t.1) own)
    (fun t => l.length - t.1) (0, .slice none 0 0) 0 (fun t _ => t.1 = l.length) noRet noRet_le (by simp) ⟨none_, none, .start _, (fun _ h => by cases h), Nat.zero_le _, .nil _ _ _ _ _⟩ (by kernel_rfl) ?_ ?_
  case refine_1 =>
    rintro ⟨i, v⟩ y g ⟨M, own, t, ho, hi, gv⟩
    simp only at hi gv
    have wSy := t.at wS (fun h => h)
    have sy := t.size
    by_cases hil : i < l.length
    · have wi := wrap_succ (k := i) (by omega)
      have hiw : (i + 1) * w ≤ l.length * w := Nat.mul_le_mul hil (Nat.le_refl _)
      obtain ⟨p, ep⟩ : ∃ p, p = i * w := ⟨_, rfl⟩
      rw [Nat.succ_mul, ← ep] at hiw
      have wp : IntKind.i64.wrap ((i : Int) * (w : Int)) = (p : Int) := by rw [← Int.natCast_mul, ← ep]; exact wrap_i64 (by omega) (by omega)
      have wp3 : IntKind.i64.wrap (3 + (p : Int)) = 3 + (p : Int) := wrap_i64 (by omega) (by omega)
      have wpw : IntKind.i64.wrap (3 + (p : Int) + (w : Int)) = 3 + (p : Int) + (w : Int) := wrap_i64 (by omega) (by omega)
      have hpc : pieceV (some 1) (some (.int .i64 (3 + (p : Int)))) (some (.int .i64 (3 + (p : Int) + (w : Int)))) (.slice (some ⟨bx, ox, none⟩) E.length xc) = some (.slice (piece (some ⟨bx, ox, none⟩) (3 + p) xc 1) w (xc - (3 + p))) := by
        have e1 : (3 + (p : Int)).toNat = 3 + p := by omega
        have e2 : (3 + (p : Int) + (w : Int)).toNat = 3 + p + w := by omega
        have e3 : (0 : Int) ≤ 3 + (p : Int) := by omega
        have e4 : (0 : Int) ≤ 3 + (p : Int) + (w : Int) := by omega
        unfold pieceV
        simp only [natV, e1, e2, e3, e4, Option.bind_some, if_true]
        rw [if_pos ⟨by omega, by omega⟩, Nat.add_sub_cancel_left]
      have hpb : ∀ {z : Heap}, Keep none_ h z → SlRep rByte (Old z) z (.slice (piece (some ⟨bx, ox, none⟩) (3 + p) xc 1) w (xc - (3 + p))) (cellB l[i]) := fun kz => by
        have := (hb0.mono ((Tr.of kz).ft (Nat.le_refl 0))).cut (i := 3 + p) (j := 3 + p + w) (m := xc) (by omega) (by omega) (by omega) (Nat.le_refl _)
        rw [Nat.add_sub_cancel_left, ep, C.cell i hil] at this
        rw [ep]
        exact this
      have k0y : Keep none_ h y := k0.trans t.keep fun _ _ h => h
      have hci := List.getElem_mem hil
      have hcvz : ∀ {z : Heap}, Keep none_ h z → SlRep rInt (Old z) z (.slice a0 s.cards.length c0) s.cards := fun kz => hcv0.mono ((Tr.of kz).ft (Nat.le_refl 0))
      simp -dsimp [hil]
      refine drawn_by2 14 18 [⟨0, true, []⟩, ⟨1, true, []⟩, ⟨2, true, []⟩, ⟨3, true, []⟩, ⟨4, true, []⟩, ⟨5, true, []⟩, ⟨6, true, []⟩, ⟨7, true, []⟩, ⟨8, true, []⟩, ⟨9, true, []⟩, ⟨10, true, []⟩, ⟨11, true, []⟩, ⟨12, true, []⟩, ⟨13, true, []⟩, ⟨14, false, []⟩, ⟨15, true, []⟩, ⟨16, true, []⟩, ⟨17, true, []⟩, ⟨18, false, [15, 16, 17]⟩, ⟨19, false, [17]⟩, ⟨20, true, []⟩]
        [⟨0, true, []⟩, ⟨1, true, []⟩, ⟨2, true, []⟩, ⟨3, true, []⟩, ⟨4, true, []⟩, ⟨5, true, []⟩, ⟨6, true, []⟩, ⟨7, true, []⟩, ⟨8, true, []⟩, ⟨9, true, []⟩, ⟨10, true, []⟩, ⟨11, true, []⟩, ⟨12, true, []⟩, ⟨13, true, []⟩, ⟨18, false, [0, 1, 2, 3, 4, 5, 6, 7, 8, 9, 10, 11, 12, 13]⟩, ⟨14, false, []⟩, ⟨15, true, []⟩, ⟨16, true, []⟩, ⟨17, true, []⟩, ⟨19, false, [17]⟩, ⟨20, true, []⟩] (by kernel_rfl) (by kernel_rfl) ?A ?B
      case' A =>
        simp -dsimp [wSy, wp, wp3, wpw, elSz_eq, hpc]
        rw [← em]
        refine call_by (rone_spec (hcvz k0y) (hpb k0y) ok.sch ok.set (ok.cel _ hci) (ok.count _ hci) rfl) ?_
        rintro _ z1 ⟨ds, rfl, hds, kz1⟩
        obtain ⟨ka, kc, sa, sc, na, nc, xa', xc', rfl, r1, r2, r3, r4⟩ := cell_open hds
        simp -dsimp [again_cons]
        rw [push_set rfl]
        obtain ⟨bc, ebc⟩ : ∃ bc, bc = z1.size := ⟨_, rfl⟩
        rw [← ebc]
        generalize hZ : Array.push z1 _ = z
        have kyz : Keep none_ y z := by rw [← hZ]; exact kz1.pushed _
        have wC : z[bc]? = some (.cells #[.slice ka l[i].key.length kc, .int .i64 l[i].count, .slice sa l[i].sum.length sc, .slice na l[i].mn.length nc, .slice xa' l[i].mx.length xc'] 65 (0, 0)) := by rw [← hZ, ebc]; exact push_new _ _
        have hrep : rCell.rep (Ft y.size none_ z) z [.slice ka l[i].key.length kc, .int .i64 l[i].count, .slice sa l[i].sum.length sc, .slice na l[i].mn.length nc, .slice xa' l[i].mx.length xc'] l[i] := rCell.mono hds ((Tr.of (by rw [← hZ]; exact .push _ _ _)).ft (Nat.le_refl _))
      case' B =>
        simp -dsimp [wSy, wp, wp3, wpw, elSz_eq, hpc]
        obtain ⟨bc, ebc⟩ : ∃ bc, bc = y.size := ⟨_, rfl⟩
        rw [← ebc]
        generalize hP : Array.push y _ = yp
        have kp : Keep none_ y yp := by rw [← hP]; exact .push _ _ _
        have zp : yp.size = y.size + 1 := by rw [← hP]; simp
        have wp0 : yp[bc]? = some (.cells #[.slice none 0 0, .int .i64 0, .slice none 0 0, .slice none 0 0, .slice none 0 0] 65 (0, 0)) := by rw [← hP, ebc]; exact push_new _ _
        have wSp := kp.at wSy (fun h => h)
        have k0p : Keep none_ h yp := k0y.trans kp fun _ _ h => h
        simp -dsimp [again_cons, wSp, wp, wp3, wpw, elSz_eq, hpc]
        rw [← em]
        refine call_by (rone_spec (hcvz k0p) (hpb k0p) ok.sch ok.set (ok.cel _ hci) (ok.count _ hci) rfl) ?_
        rintro _ z1 ⟨ds, rfl, hds, kz1⟩
        obtain ⟨ka, kc, sa, sc, na, nc, xa', xc', rfl, r1, r2, r3, r4⟩ := cell_open hds
        have wp1 := kz1.at wp0 (fun h => h)
        have sz1 := kz1.size
        simp -dsimp [again_cons, wp1]
        generalize hZ : Array.setIfInBounds z1 bc _ = z
        have kyz : Keep none_ y z := by rw [← hZ]; exact (kp.trans kz1 fun _ _ h => h).setted _ fun hh => by omega
        have wC : z[bc]? = some (.cells #[.slice ka l[i].key.length kc, .int .i64 l[i].count, .slice sa l[i].sum.length sc, .slice na l[i].mn.length nc, .slice xa' l[i].mx.length xc'] 65 (0, 0)) := by rw [← hZ]; exact set_same _ (lt_of_blk wp1)
        have hrep : rCell.rep (Ft y.size none_ z) z [.slice ka l[i].key.length kc, .int .i64 l[i].count, .slice sa l[i].sum.length sc, .slice na l[i].mn.length nc, .slice xa' l[i].mx.length xc'] l[i] := rCell.mono hds fun b hb => by
          have h1 := hb.1.1
          have e : z[b]? = z1[b]? := by rw [← hZ]; exact set_other _ (by omega)
          exact ⟨⟨hb.1.at (by omega) e, by rw [← hZ]; simpa using hb.2.1, fun h => h⟩, e⟩
      all_goals
        have k0z : Keep none_ h z := k0y.trans kyz fun _ _ h => h
        have wSz := kyz.at wSy (fun h => h)
        have gz := gv.call kyz
        obtain ⟨va, vn, vc, rfl, hvn⟩ := gz.vals
        have hlt : (l.take i).length = i := by rw [List.length_take]; omega
        refine drawn_by [⟨0, true, []⟩, ⟨1, true, []⟩, ⟨2, true, []⟩, ⟨3, true, []⟩, ⟨4, true, []⟩, ⟨5, true, []⟩, ⟨6, true, []⟩, ⟨7, true, []⟩, ⟨8, true, []⟩, ⟨9, true, []⟩, ⟨10, true, []⟩, ⟨11, true, []⟩, ⟨12, true, []⟩, ⟨13, true, []⟩, ⟨14, false, []⟩, ⟨15, true, []⟩, ⟨16, true, []⟩, ⟨17, true, []⟩] (by kernel_rfl) (by kernel_rfl) ?_
      all_goals
        have sz := kyz.size
        by_cases hi0 : (i : Int) = 0
        · have hig : ¬ (0 : Int) < (i : Int) := by omega
          have hig' : ¬ 0 < i := by omega
          simp -dsimp [hig', wC]
          refine gr_app1 rfl cellT gz (t.call kyz).lt (x := l[i]) (c := [.slice ka l[i].key.length kc, .int .i64 l[i].count, .slice sa l[i].sum.length sc, .slice na l[i].mn.length nc, .slice xa' l[i].mx.length xc']) ?_ rfl (by omega) (by omega) ?_
          · exact rCell.mono hrep fun b hb => ⟨⟨hb.1.less (by omega), hb.2.1, fun hm => by have := t.lt b hm; have := hb.1.1; omega⟩, rfl⟩
          intro v7 h7 own7 g7 t7 k7 ho7
          simp -dsimp [wi]
          refine ⟨(i + 1, v7), by simp, rfl, ⟨_, own7, (t.call kyz).trans t7, (fun b e => (ho7 _ e).elim (ho b) (by omega)), hil, ?_⟩, by show l.length - (i + 1) < l.length - i; omega⟩
          show Gr rCell _ _ _ _ _ (l.take (i + 1)) own7
          rw [List.take_add_one, List.getElem?_eq_getElem hil]
          exact g7
        · have hig' : 0 < i := by omega
          have w7 : IntKind.i64.wrap ((i : Int) - 1) = ((i - 1 : Nat) : Int) := by rw [wrap_i64 (by omega) (by omega)]; omega
          have hi1 : i - 1 < (l.take i).length := by omega
          obtain ⟨bk, cs1, eva, eown, hrc, hce⟩ := gz.elem (i - 1) hi1
          subst eva
          rw [List.getElem_take] at hrc
          obtain ⟨pa, pc, _, _, _, _, _, _, rfl, rp, _, _, _⟩ := cell_open hrc
          have hcell := cellsIn_cell (d := 0) hce (by decide)
          have hkey : HC.cellIn z[bk]? ((i - 1) * 5) = some (.slice pa (l[i - 1]).key.length pc) := hcell
          obtain ⟨_, _, _, _, _, _, _, _, ers, rk, _, _, _⟩ := cell_open hrep
          cases ers
          have hix : i - 1 < vn := by omega
          have hlsrt : lessM l[i - 1].key l[i].key < 0 :=
             List.pairwise_iff_getElem.1 ok.srt (i - 1) i (by omega) hil (by omega)
          have hge : ¬ (0 ≤ lessM l[i - 1].key l[i].key) := by omega
          simp -dsimp [hig', w7, idxV_nat hix, elSz_eq, hkey, wC]
          refine call_by (rless_spec rp rk) ?_
          rintro _ z9 ⟨rfl, hh⟩
          subst z9
          simp -dsimp [hge, wC, again_cons]
          refine gr_app1 rfl cellT gz (t.call kyz).lt (x := l[i]) (c := [.slice ka l[i].key.length kc, .int .i64 l[i].count, .slice sa l[i].sum.length sc, .slice na l[i].mn.length nc, .slice xa' l[i].mx.length xc']) ?_ rfl (by omega) (by omega) ?_
          · exact rCell.mono hrep fun b hb => ⟨⟨hb.1.less (by omega), hb.2.1, fun hm => by have := t.lt b hm; have := hb.1.1; omega⟩, rfl⟩
          intro v7 h7 own7 g7 t7 k7 ho7
          simp -dsimp [wi]
          refine ⟨(i + 1, v7), by simp, rfl, ⟨_, own7, (t.call kyz).trans t7, (fun b e => (ho7 _ e).elim (ho b) (by omega)), hil, ?_⟩, by show l.length - (i + 1) < l.length - i; omega⟩
          show Gr rCell _ _ _ _ _ (l.take (i + 1)) own7
          rw [List.take_add_one, List.getElem?_eq_getElem hil]
          exact g7
    · have hil' : ¬ (i : Int) < l.length := by omega
      simp -dsimp [hil]
      exact ⟨rfl, (i, v), by simp, rfl, ⟨M, own, t, ho, hi, gv⟩, by show i = _; omega⟩
  rintro ⟨i, v⟩ y g ⟨M, own, t, ho, hi, gv⟩ hil
  simp only at hi gv hil
  rw [hil, List.take_length] at gv
  simp -dsimp
  exact hK _ _ ⟨v, rfl, gv.rep (Nat.le_refl _) (fun b e => by have := ho b e; omega), k0.trans t.keep fun _ _ h => h⟩
end Go.Proofs

/-
  The program's cuboid out of bytes.
-/
namespace Go.Proofs
open Go Go.HC

set_option maxHeartbeats 2000000 in
set_option maxRecDepth 10000 in
theorem pcdecode_spec {h : Heap} {cv bv : Value} {s : SchM} {k : Int} {l : List CellM} (hcv : SlRep rInt (Old h) h cv s.cards) (hb : SlRep rByte (Old h) h bv (encC k l)) (ok : CubOk s k l) :
    CallH Tryz.prog 88 #[.agg #[cv, .int .i64 s.ms], bv] h fun r h' => ∃ rv, r = .tuple #[.int .i64 k, rv, .bool true] ∧ SlRep rCell (Ft h.size none_ h') h' rv l ∧ Keep none_ h h' := by
  refine callH_by fun K hK => ?_
  refine enter [.tmp 4, .tmp 5, .tmp 6] Tryz.func88 rfl rfl (by kernel_rfl) rfl ?_
  have C := cub_at ok
  have hcl : ∀ c ∈ l, (cellB c).length = (dimsM k).length + 2 + 24 * s.ms.toNat := fun c hc => cellB_len (ok.cel c hc)
  obtain ⟨w, ew⟩ : ∃ w, w = (dimsM k).length + 2 + 24 * s.ms.toNat := ⟨_, rfl⟩
  rw [← ew] at C
  obtain ⟨E, eE⟩ : ∃ E, E = encC k l := ⟨_, rfl⟩
  rw [← eE] at C hb
  have hcv0 := hcv
  have hb0 := hb
  obtain ⟨a0, c0, rfl, _, _⟩ := hcv.val
  obtain ⟨xa, xc, rfl, hxc, _⟩ := hb.val
  have hd4 := ok.sch.dims.2
  have hms := ok.sch.ms
  have hdl : (dimsM k).length ≤ 4 := cntD_le k 4
  have hk := ok.set
  have hp4 : (2 : Int) ^ s.cards.length ≤ 2 ^ 4 := pow2_le hd4
  have e16 : (2 : Int) ^ 4 = 16 := by decide
  have hln := ok.len
  have hw60 : w ≤ 60 := by omega
  obtain ⟨m, em⟩ : ∃ m : Nat, s.ms = m := ⟨s.ms.toNat, by omega⟩
  have ew2 : w = (dimsM k).length + 2 + 24 * m := by rw [ew]; omega
  have hEl := C.len
  have hnw : l.length * w ≤ 300 * 60 := Nat.mul_le_mul (by omega) hw60
  rw [em]
  simp -dsimp [boxS_eq]
  generalize hH : Array.push h _ = h0
  have k0 : Keep none_ h h0 := by rw [← hH]; exact .push _ _ _
  have z0 : h0.size = h.size + 1 := by rw [← hH]; simp
  have wS : h0[h.size]? = some (.cells #[.slice a0 s.cards.length c0, .int .i64 m] 30 (0, 0)) := by rw [← hH]; exact push_new _ _
  have q1 : decide ((E.length : Int) < 3) = false := decide_eq_false (by omega)
  have hcvz : ∀ {z : Heap}, Keep none_ h z → SlRep rInt (Old z) z (.slice a0 s.cards.length c0) s.cards := fun kz => hcv0.mono ((Tr.of kz).ft (Nat.le_refl 0))
  simp -dsimp [q1, wS]
  rw [← em]
  refine call_by (pcheck_spec (hcvz k0)) ?_
  rintro _ h1 ⟨⟨t, rfl, ht⟩, k1⟩
  obtain rfl := ht.2 ok.sch
  have wS1 := k1.at wS (fun h => h)
  have k01 : Keep none_ h h1 := k0.trans k1 fun _ _ h => h
  have hbF : ∀ {z : Heap}, Keep none_ h z → SlRep rByte (Old h) z (.slice xa E.length xc) E := fun kz => hb0.mono fun b hb => ⟨hb, kz.blk b hb.2.1 (fun h => h)⟩
  have b1 : E.take 1 = [byteM k] := by
    have := C.set
    obtain ⟨hl0, e0⟩ := List.getElem?_eq_some_iff.1 this
    rw [List.take_one, List.head?_eq_getElem?, this]
    rfl
  have b2 : (E.drop 1).take 2 = HC.w2 l.length := by
    have h1 := C.hi
    have h2 := C.lo
    obtain ⟨hl1, e1⟩ := List.getElem?_eq_some_iff.1 h1
    obtain ⟨hl2, e2⟩ := List.getElem?_eq_some_iff.1 h2
    rw [List.drop_eq_getElem_cons hl1, List.drop_eq_getElem_cons hl2, List.take_succ_cons, List.take_succ_cons, List.take_zero, e1, e2]
    rfl
  have v1 : backM [byteM k] = k := by
    unfold backM
    rw [List.foldl_cons, List.foldl_nil, byteM_small (by omega) (by omega), wrap_i64 (by omega) (by omega)]
    omega
  simp -dsimp
  refine call_by (get_spec (n := 1) (hbF k01) (by omega) (by omega)) ?_
  rintro _ h2 ⟨⟨v', rfl, r2⟩, hh⟩
  subst h2
  rw [b1, v1]
  obtain ⟨va2, vn2, vc2, rfl⟩ : ∃ a n c, v' = .slice a n c := by obtain ⟨a, c, e, _⟩ := r2.val; exact ⟨_, _, _, e⟩
  simp -dsimp
  refine call_by (get_spec (n := 2) r2 (by omega) (by rw [List.length_drop]; omega)) ?_
  rintro _ h2 ⟨⟨v', rfl, r3⟩, hh⟩
  subst h2
  rw [b2, back2 (by omega) (by omega)]
  rw [List.drop_drop] at r3
  obtain ⟨va3, vc3, rfl, _, _⟩ := r3.val
  have hEd : (E.drop (1 + 2)).length = l.length * w := by rw [List.length_drop]; omega
  rw [hEd] at r3 ⊢
  have hsh : k.fdiv (2 ^ s.cards.length) = 0 := by rw [Int.fdiv_eq_ediv_of_nonneg _ (by omega)]; exact Int.ediv_eq_zero_of_lt hk.1 hk.2
  have q2 : ¬ (16 : Int) ≤ k := by omega
  have q3 : decide ((300 : Int) < (l.length : Int)) = false := decide_eq_false (by omega)
  have wu : IntKind.u64.wrap k = k := by simp [IntKind.wrap, IntKind.bits, IntKind.signed]; omega
  have w1 : IntKind.i64.wrap (24 * (m : Int)) = 24 * (m : Int) := wrap_i64 (by omega) (by omega)
  have w2' : IntKind.i64.wrap (((dimsM k).length : Int) + 2) = ((dimsM k).length : Int) + 2 := wrap_i64 (by omega) (by omega)
  have w3 : IntKind.i64.wrap (((dimsM k).length : Int) + 2 + 24 * (m : Int)) = (w : Int) := by rw [wrap_i64 (by omega) (by omega), ew2]; omega
  have w4 : IntKind.i64.wrap ((l.length : Int) * (w : Int)) = (l.length : Int) * (w : Int) := by rw [← Int.natCast_mul]; exact wrap_i64 (by omega) (by omega)
  have hz' : (((l.length * w : Nat) : Int) != (l.length : Int) * (w : Int)) = false := by rw [bne_eq_false_iff_eq, Int.natCast_mul]
  simp -dsimp
  refine drawn_by [⟨0, true, []⟩, ⟨1, true, []⟩, ⟨2, true, []⟩, ⟨3, true, []⟩, ⟨4, true, []⟩, ⟨5, true, []⟩, ⟨6, true, []⟩, ⟨7, true, []⟩, ⟨8, true, []⟩, ⟨9, true, []⟩, ⟨10, true, []⟩, ⟨11, true, []⟩, ⟨12, true, []⟩, ⟨13, true, []⟩, ⟨14, true, []⟩, ⟨15, true, []⟩, ⟨16, true, []⟩, ⟨17, true, []⟩, ⟨18, true, []⟩, ⟨19, true, []⟩, ⟨22, true, []⟩, ⟨23, true, []⟩, ⟨24, true, []⟩, ⟨20, false, [15, 16, 17, 22, 23, 24]⟩, ⟨21, true, []⟩, ⟨25, true, []⟩, ⟨26, true, []⟩, ⟨27, true, []⟩, ⟨28, true, []⟩] (by kernel_rfl) (by kernel_rfl) ?_
  simp -dsimp [q2, wS1, shr_i (s := k) (k := s.cards.length) (by omega), hsh, q3, wu, w1]
  refine call_by (ones_spec (by omega) (by omega) h1) ?_
  rintro _ h2 ⟨rfl, hh⟩
  subst h2
  simp -dsimp [again_cons, q2, wS1, shr_i (s := k) (k := s.cards.length) (by omega), hsh, q3, wu, w1, w2', w3, w4]
  have hpe : ∀ (i : Nat) (h : i < l.length), ((E.drop (3 + i * w)).take w) = cellB l[i] := C.cell
  have r3' : SlRep rByte (Old h) h1 (.slice va3 (l.length * w) vc3) (E.drop (3 + 0 * w)) := by rw [Nat.zero_mul]; exact r3
  refine loopc (σ := Nat × Value × Value) (fun t => [(1, t.2.2), (2, .pointer (some ⟨h.size, 0, none⟩)), (4, .int .i64 k), (5, t.2.1), (56, .int .i64 l.length), (57, .int .i64 t.1)])
    (fun t y => ∃ M own, Tr none_ M h1 y ∧ (∀ b, own = some b → h1.size ≤ b) ∧ t.1 ≤ l.length ∧ SlRep rByte (Old h) y t.2.2 (E.drop (3 + t.1 * w)) ∧ Gr rCell 65 h.size M y t.2.1 (l.take t.1) own)
    (fun t => l.length - t.1) (0, .slice none 0 0, .slice va3 (l.length * w) vc3) 0 (fun t _ => t.1 = l.length) noRet noRet_le (by simp) ⟨none_, none, .start _, (fun _ h => by cases h), Nat.zero_le _, r3', .nil _ _ _ _ _⟩ (by kernel_rfl) ?_ ?_
  case refine_1 =>
    rintro ⟨i, v, bv⟩ y g ⟨M, own, t, ho, hi, ry, gv⟩
    simp only at hi ry gv
    have wSy := t.at wS1 (fun h => h)
    have sy := t.size
    by_cases hil : i < l.length
    · have wi := wrap_succ (k := i) (by omega)
      have hiw : (i + 1) * w ≤ l.length * w := Nat.mul_le_mul hil (Nat.le_refl _)
      rw [Nat.succ_mul] at hiw
      have k0y : Keep none_ h y := k01.trans t.keep fun _ _ h => h
      have hci := List.getElem_mem hil
      simp -dsimp [hil]
      obtain ⟨bc, ebc⟩ : ∃ bc, bc = y.size := ⟨_, rfl⟩
      rw [← ebc]
      generalize hP : Array.push y _ = yp
      have kp : Keep none_ y yp := by rw [← hP]; exact .push _ _ _
      have zp : yp.size = y.size + 1 := by rw [← hP]; simp
      have wp0 : yp[bc]? = some (.cells #[.slice none 0 0, .int .i64 0, .slice none 0 0, .slice none 0 0, .slice none 0 0] 65 (0, 0)) := by rw [← hP, ebc]; exact push_new _ _
      have wSp := kp.at wSy (fun h => h)
      have k0p : Keep none_ h yp := k0y.trans kp fun _ _ h => h
      have rp : SlRep rByte (Old h) yp bv (E.drop (3 + i * w)) := ry.mono fun b hb => ⟨hb, kp.blk b (by have := hb.2.1; have := k0y.size; omega) (fun h => h)⟩
      simp -dsimp [wSp]
      rw [← em]
      refine call_by (pone_spec (w := w) (hcvz k0p) (fun b hb => by have := hb.2.1; have := k0p.size; omega) rp ok.sch ok.set (ok.cel _ hci) (ok.count _ hci) (by rw [ew]) (by rw [List.length_drop]; omega) (hpe i hil)) ?_
      rintro _ z1 ⟨ds, bv', rfl, hds, rz, kz1⟩
      obtain ⟨ka, kc, sa, sc, na, nc, xa', xc', rfl, r1, r2', r3'', r4⟩ := cell_open hds
      have wp1 := kz1.at wp0 (fun h => h)
      have sz1 := kz1.size
      simp -dsimp [wp1]
      generalize hZ : Array.setIfInBounds z1 bc _ = z
      have kyz : Keep none_ y z := by rw [← hZ]; exact (kp.trans kz1 fun _ _ h => h).setted _ fun hh => by omega
      have wC : z[bc]? = some (.cells #[.slice ka l[i].key.length kc, .int .i64 l[i].count, .slice sa l[i].sum.length sc, .slice na l[i].mn.length nc, .slice xa' l[i].mx.length xc'] 65 (0, 0)) := by rw [← hZ]; exact set_same _ (lt_of_blk wp1)
      have holdz : ∀ b, b ≠ bc → z[b]? = z1[b]? := fun b hb => by rw [← hZ]; exact set_other _ (fun e => hb e.symm)
      have hrep : rCell.rep (Ft y.size none_ z) z [.slice ka l[i].key.length kc, .int .i64 l[i].count, .slice sa l[i].sum.length sc, .slice na l[i].mn.length nc, .slice xa' l[i].mx.length xc'] l[i] := rCell.mono hds fun b hb => by
        have h1 := hb.1.1
        have e := holdz b (by omega)
        exact ⟨⟨hb.1.at (by omega) e, by rw [← hZ]; simpa using hb.2.1, fun h => h⟩, e⟩
      have k0z : Keep none_ h z := k0y.trans kyz fun _ _ h => h
      have rzz : SlRep rByte (Old h) z bv' (E.drop (3 + (i + 1) * w)) := by
        rw [List.drop_drop] at rz
        have e : 3 + (i + 1) * w = 3 + i * w + w := by rw [Nat.succ_mul]; omega
        rw [e]
        exact rz.mono fun b hb => ⟨hb, holdz b (by have := hb.2.1; have := k0y.size; omega)⟩
      have wSz := kyz.at wSy (fun h => h)
      have gz := gv.call kyz
      obtain ⟨va, vn, vc, rfl, hvn⟩ := gz.vals
      have hlt : (l.take i).length = i := by rw [List.length_take]; omega
      have sz := kyz.size
      refine drawn_by [⟨0, true, []⟩, ⟨1, true, []⟩, ⟨2, true, []⟩, ⟨3, true, []⟩, ⟨4, true, []⟩, ⟨5, true, []⟩, ⟨6, true, []⟩, ⟨7, true, []⟩, ⟨8, true, []⟩, ⟨9, true, []⟩, ⟨10, true, []⟩, ⟨11, true, []⟩, ⟨12, true, []⟩, ⟨13, true, []⟩, ⟨14, true, []⟩, ⟨15, true, []⟩, ⟨16, false, []⟩, ⟨17, true, []⟩, ⟨18, true, []⟩, ⟨19, true, []⟩] (by kernel_rfl) (by kernel_rfl) ?_
      by_cases hi0 : (i : Int) = 0
      · have hvn0 : vn = 0 := by omega
        subst hvn0
        simp -dsimp [wC]
        refine gr_app1 rfl cellT gz (t.call kyz).lt (x := l[i]) (c := [.slice ka l[i].key.length kc, .int .i64 l[i].count, .slice sa l[i].sum.length sc, .slice na l[i].mn.length nc, .slice xa' l[i].mx.length xc']) ?_ rfl (by omega) (by omega) ?_
        · exact rCell.mono hrep fun b hb => ⟨⟨hb.1.less (by have := k0y.size; omega), hb.2.1, fun hm => by have := t.lt b hm; have := hb.1.1; omega⟩, rfl⟩
        intro v7 h7 own7 g7 t7 k7 ho7
        simp -dsimp [wi]
        refine ⟨(i + 1, v7, bv'), by simp, rfl, ⟨_, own7, (t.call kyz).trans t7, (fun b e => (ho7 _ e).elim (ho b) (by omega)), hil, rzz.mono fun b hb => ⟨hb, k7.blk b (by have := hb.2.1; have := k0z.size; omega) (fun e => by have := ho _ e; have := hb.2.1; have := k01.size; omega)⟩, ?_⟩, by show l.length - (i + 1) < l.length - i; omega⟩
        show Gr rCell _ _ _ _ _ (l.take (i + 1)) own7
        rw [List.take_add_one, List.getElem?_eq_getElem hil]
        exact g7
      · have hig' : 0 < vn := by omega
        have w7 : IntKind.i64.wrap ((vn : Int) - 1) = ((i - 1 : Nat) : Int) := by rw [wrap_i64 (by omega) (by omega)]; omega
        have hi1 : i - 1 < (l.take i).length := by omega
        obtain ⟨bk, cs1, eva, eown, hrc, hce⟩ := gz.elem (i - 1) hi1
        subst eva
        rw [List.getElem_take] at hrc
        obtain ⟨pa, pc, _, _, _, _, _, _, rfl, rpp, _, _, _⟩ := cell_open hrc
        have hcell := cellsIn_cell (d := 0) hce (by decide)
        have hkey : HC.cellIn z[bk]? ((i - 1) * 5) = some (.slice pa (l[i - 1]).key.length pc) := hcell
        obtain ⟨_, _, _, _, _, _, _, _, ers, rk, _, _, _⟩ := cell_open hrep
        cases ers
        have hix : i - 1 < vn := by omega
        have hlsrt : lessM l[i - 1].key l[i].key < 0 := List.pairwise_iff_getElem.1 ok.srt (i - 1) i (by omega) hil (by omega)
        have hge : ¬ (0 ≤ lessM l[i - 1].key l[i].key) := by omega
        simp -dsimp [hig', w7, idxV_nat hix, elSz_eq, hkey, wC]
        refine call_by (cless_spec rpp rk) ?_
        rintro _ z9 ⟨rfl, hh⟩
        subst z9
        simp -dsimp [hge, wC, again_cons]
        refine gr_app1 rfl cellT gz (t.call kyz).lt (x := l[i]) (c := [.slice ka l[i].key.length kc, .int .i64 l[i].count, .slice sa l[i].sum.length sc, .slice na l[i].mn.length nc, .slice xa' l[i].mx.length xc']) ?_ rfl (by omega) (by omega) ?_
        · exact rCell.mono hrep fun b hb => ⟨⟨hb.1.less (by have := k0y.size; omega), hb.2.1, fun hm => by have := t.lt b hm; have := hb.1.1; omega⟩, rfl⟩
        intro v7 h7 own7 g7 t7 k7 ho7
        simp -dsimp [wi]
        refine ⟨(i + 1, v7, bv'), by simp, rfl, ⟨_, own7, (t.call kyz).trans t7, (fun b e => (ho7 _ e).elim (ho b) (by omega)), hil, rzz.mono fun b hb => ⟨hb, k7.blk b (by have := hb.2.1; have := k0z.size; omega) (fun e => by have := ho _ e; have := hb.2.1; have := k01.size; omega)⟩, ?_⟩, by show l.length - (i + 1) < l.length - i; omega⟩
        show Gr rCell _ _ _ _ _ (l.take (i + 1)) own7
        rw [List.take_add_one, List.getElem?_eq_getElem hil]
        exact g7
    · simp -dsimp [hil]
      exact ⟨rfl, (i, v, bv), by simp, rfl, ⟨M, own, t, ho, hi, ry, gv⟩, by show i = _; omega⟩
  rintro ⟨i, v, bv⟩ y g ⟨M, own, t, ho, hi, ry, gv⟩ hil
  simp only at hi gv hil
  rw [hil, List.take_length] at gv
  simp -dsimp
  refine call_by (cloneCell_spec gv.grow (fun b hb => hb.2.1) (by omega)) ?_
  rintro rv y2 ⟨own2, g2, k2, ho2⟩
  obtain ⟨ra, rc, rfl⟩ := g2.val
  simp -dsimp
  have tt : Tr M M y y2 := t.here.call k2
  have s1 := k01.size
  have s2 := t.size
  refine hK _ _ ⟨_, rfl, g2.rep.mono fun b hb => ?_, (k01.trans t.keep fun _ _ h => h).trans k2 fun _ _ h => h⟩
  rcases hb with hb | hb
  · have := (tt.ft (Nat.le_refl _) b hb).1
    exact ⟨⟨this.1, this.2.1, fun h => h⟩, rfl⟩
  · have h1 := ho2 b hb
    exact ⟨⟨⟨by omega, fun _ => g2.thaw b hb⟩, g2.own_lt b hb, fun h => h⟩, rfl⟩
end Go.Proofs

/-
  Names of sets' files: both.
-/
namespace Go.HC
def nameL : List ByteArray := [⟨#[99, 48]⟩, ⟨#[99, 49]⟩, ⟨#[99, 50]⟩, ⟨#[99, 51]⟩, ⟨#[99, 52]⟩, ⟨#[99, 53]⟩, ⟨#[99, 54]⟩, ⟨#[99, 55]⟩, ⟨#[99, 56]⟩, ⟨#[99, 57]⟩, ⟨#[99, 49, 48]⟩, ⟨#[99, 49, 49]⟩, ⟨#[99, 49, 50]⟩, ⟨#[99, 49, 51]⟩, ⟨#[99, 49, 52]⟩, ⟨#[99, 49, 53]⟩]
/-- A set's file. -/
def nameK (k : Int) : ByteArray := nameL.getD k.toNat ⟨#[]⟩
theorem nameK_inj : ∀ x y : Fin 16, nameK (x.val : Int) = nameK (y.val : Int) → x = y := by decide +kernel
end Go.HC
namespace Go.Proofs
open Go Go.HC

set_option maxHeartbeats 4000000 in
set_option maxRecDepth 10000 in
theorem small_spec (x : Fin 16) (h : Heap) : CallH Tryz.prog 187 #[.int .i64 (x.val : Int)] h fun r h' => (∃ s : ByteArray, r = .string s ∧ (⟨#[99]⟩ : ByteArray) ++ s = nameK (x.val : Int)) ∧ h' = h := by
  refine callH_by fun K hK => ?_
  refine enter [.tmp 2] Tryz.func187 rfl rfl (by kernel_rfl) rfl ?_
  obtain ⟨x, hx⟩ := x
  by_cases h10 : x < 10
  · have q1 : (x : Int) < 10 := by omega
    have w1 := wrap_succ (k := x) (by omega)
    have hs : ∀ (s : ByteArray) (K : Value → Heap → Prop), x + 1 ≤ s.size → sliceS Tryz.prog 9 (.string s) (some (.int .i64 (x : Int))) (some (.int .i64 ((x : Int) + 1))) none h K = K (.string (s.extract x (x + 1))) h := fun s K hl => by
      have := sliceS_string (P := Tryz.prog) (T := 9) (s := s) (lo := some (.int .i64 (x : Int))) (hi := some (.int .i64 ((x + 1 : Nat) : Int))) (i := x) (j := x + 1) (K := K) (h := h) Tryz.strT9 (.inr ⟨_, rfl⟩) (.inr ⟨_, rfl⟩) (by omega) hl
      exact this
    simp -dsimp [q1, w1]
    rw [hs _ _ (by show x + 1 ≤ 36; omega)]
    simp -dsimp
    refine hK _ _ ⟨⟨_, rfl, ?_⟩, rfl⟩
    clear hK hs w1 q1
    have key : ∀ x : Fin 10, (⟨#[99]⟩ : ByteArray) ++ ByteArray.extract ⟨#[48, 49, 50, 51, 52, 53, 54, 55, 56, 57, 97, 98, 99, 100, 101, 102, 103, 104, 105, 106, 107, 108, 109, 110, 111, 112, 113, 114, 115, 116, 117, 118, 119, 120, 121, 122]⟩ x.val (x.val + 1) = nameK (x.val : Int) := by decide +kernel
    exact key ⟨x, h10⟩
  · have q1 : ¬ (x : Int) < 10 := by omega
    have w1 : IntKind.i64.wrap ((x : Int) * 2) = ((2 * x : Nat) : Int) := by rw [wrap_i64 (by omega) (by omega)]; omega
    have w2 : IntKind.i64.wrap (((2 * x : Nat) : Int) + 2) = ((2 * x + 2 : Nat) : Int) := by rw [wrap_i64 (by omega) (by omega)]; omega
    have w2' : IntKind.i64.wrap (2 * (x : Int) + 2) = 2 * (x : Int) + 2 := wrap_i64 (by omega) (by omega)
    have hs : ∀ (s : ByteArray) (K : Value → Heap → Prop), 2 * x + 2 ≤ s.size → sliceS Tryz.prog 9 (.string s) (some (.int .i64 (2 * (x : Int)))) (some (.int .i64 (2 * (x : Int) + 2))) none h K = K (.string (s.extract (2 * x) (2 * x + 2))) h := fun s K hl => by
      have := sliceS_string (P := Tryz.prog) (T := 9) (s := s) (lo := some (.int .i64 ((2 * x : Nat) : Int))) (hi := some (.int .i64 ((2 * x + 2 : Nat) : Int))) (i := 2 * x) (j := 2 * x + 2) (K := K) (h := h) Tryz.strT9 (.inr ⟨_, rfl⟩) (.inr ⟨_, rfl⟩) (by omega) hl
      rw [Int.natCast_add, Int.natCast_mul] at this
      exact this
    simp -dsimp [q1, w1, w2']
    rw [hs _ _ (by show 2 * x + 2 ≤ 200; omega)]
    simp -dsimp
    refine hK _ _ ⟨⟨_, rfl, ?_⟩, rfl⟩
    clear hK hs w1 w2 w2' q1
    have hx6 : x - 10 < 6 := by omega
    obtain ⟨y, rfl⟩ : ∃ y, x = y + 10 := ⟨x - 10, by omega⟩
    have key : ∀ x : Fin 6, (⟨#[99]⟩ : ByteArray) ++ ByteArray.extract ⟨#[48, 48, 48, 49, 48, 50, 48, 51, 48, 52, 48, 53, 48, 54, 48, 55, 48, 56, 48, 57, 49, 48, 49, 49, 49, 50, 49, 51, 49, 52, 49, 53, 49, 54, 49, 55, 49, 56, 49, 57, 50, 48, 50, 49, 50, 50, 50, 51, 50, 52, 50, 53, 50, 54, 50, 55, 50, 56, 50, 57, 51, 48, 51, 49, 51, 50, 51, 51, 51, 52, 51, 53, 51, 54, 51, 55, 51, 56, 51, 57, 52, 48, 52, 49, 52, 50, 52, 51, 52, 52, 52, 53, 52, 54, 52, 55, 52, 56, 52, 57, 53, 48, 53, 49, 53, 50, 53, 51, 53, 52, 53, 53, 53, 54, 53, 55, 53, 56, 53, 57, 54, 48, 54, 49, 54, 50, 54, 51, 54, 52, 54, 53, 54, 54, 54, 55, 54, 56, 54, 57, 55, 48, 55, 49, 55, 50, 55, 51, 55, 52, 55, 53, 55, 54, 55, 55, 55, 56, 55, 57, 56, 48, 56, 49, 56, 50, 56, 51, 56, 52, 56, 53, 56, 54, 56, 55, 56, 56, 56, 57, 57, 48, 57, 49, 57, 50, 57, 51, 57, 52, 57, 53, 57, 54, 57, 55, 57, 56, 57, 57]⟩ (2 * (x.val + 10)) (2 * (x.val + 10) + 2) = nameK ((x.val + 10 : Nat) : Int) := by decide +kernel
    exact key ⟨y, by omega⟩

set_option maxHeartbeats 4000000 in
set_option maxRecDepth 10000 in
theorem rname_spec {k : Int} (h0 : 0 ≤ k) (hk : k < 16) (h : Heap) : CallH Tryz.prog 42 #[.int .i64 k] h fun r h' => r = .string (nameK k) ∧ Keep none_ h h' := by
  refine callH_by fun K hK => ?_
  refine enter [.tmp 2] Tryz.func42 rfl rfl (by kernel_rfl) rfl ?_
  by_cases h10 : (10 : Int) ≤ k
  · have w1 : IntKind.i64.wrap (48 + k) = 48 + k := wrap_i64 (by omega) (by omega)
    have w2 : IntKind.i64.wrap (48 + k - 10) = 48 + k - 10 := wrap_i64 (by omega) (by omega)
    simp -dsimp [h10, w1, w2, wrap_byte]
    have hs : SlRep rByte (fun b => b = h.size) (h.push (.cells #[.int .u8 ((byteM (48 + k - 10)).toNat : Int)] 5)) (.slice (some ⟨h.size, 0, none⟩) 1 1) [byteM (48 + k - 10)] := ⟨_, 1, [.int .u8 ((byteM (48 + k - 10)).toNat : Int)], rfl, Nat.le_refl _, by decide, .inr ⟨h.size, 0, _, _, _, rfl, rfl, push_new _ _, rfl⟩, bytes_map.2 rfl⟩
    rw [conv_bytes_str Tryz.elS66 Tryz.intK5 Tryz.strT9 hs]
    simp -dsimp
    refine hK _ _ ⟨congrArg Value.string ?_, .push _ _ _⟩
    obtain ⟨y, rfl⟩ : ∃ y : Nat, k = y + 10 := ⟨(k - 10).toNat, by omega⟩
    have key : ∀ x : Fin 6, (⟨#[99, 49]⟩ : ByteArray) ++ strOf [byteM (48 + ((x.val : Int) + 10) - 10)] = nameK ((x.val : Int) + 10) := by decide +kernel
    exact key ⟨y, by omega⟩
  · have w1 : IntKind.i64.wrap (48 + k) = 48 + k := wrap_i64 (by omega) (by omega)
    simp -dsimp [h10, w1, wrap_byte]
    have hs : SlRep rByte (fun b => b = h.size) (h.push (.cells #[.int .u8 ((byteM (48 + k)).toNat : Int)] 5)) (.slice (some ⟨h.size, 0, none⟩) 1 1) [byteM (48 + k)] := ⟨_, 1, [.int .u8 ((byteM (48 + k)).toNat : Int)], rfl, Nat.le_refl _, by decide, .inr ⟨h.size, 0, _, _, _, rfl, rfl, push_new _ _, rfl⟩, bytes_map.2 rfl⟩
    rw [conv_bytes_str Tryz.elS66 Tryz.intK5 Tryz.strT9 hs]
    simp -dsimp
    refine hK _ _ ⟨congrArg Value.string ?_, .push _ _ _⟩
    obtain ⟨y, rfl⟩ : ∃ y : Nat, k = y := ⟨k.toNat, by omega⟩
    have key : ∀ x : Fin 10, (⟨#[99]⟩ : ByteArray) ++ strOf [byteM (48 + (x.val : Int))] = nameK (x.val : Int) := by decide +kernel
    exact key ⟨y, by omega⟩

set_option maxHeartbeats 4000000 in
set_option maxRecDepth 10000 in
theorem pname_spec {k : Int} (h0 : 0 ≤ k) (hk : k < 16) (h : Heap) : CallH Tryz.prog 87 #[.int .i64 k] h fun r h' => r = .string (nameK k) ∧ h' = h := by
  obtain ⟨x, rfl⟩ : ∃ x : Fin 16, k = (x.val : Int) := ⟨⟨k.toNat, by omega⟩, by simp; omega⟩
  refine callH_by fun K hK => ?_
  refine enter [.tmp 2] Tryz.func87 rfl rfl (by kernel_rfl) rfl ?_
  simp -dsimp
  refine call_by (K' := fun r h' => (∃ s : ByteArray, r = .string s ∧ (⟨#[99]⟩ : ByteArray) ++ s = nameK (x.val : Int)) ∧ h' = h) ?_ ?_
  · refine callH_by fun K hK => ?_
    refine enter [.tmp 2] Tryz.func124 rfl rfl (by kernel_rfl) rfl ?_
    simp -dsimp
    refine call_by (K' := fun r h' => (∃ s : ByteArray, r = .string s ∧ (⟨#[99]⟩ : ByteArray) ++ s = nameK (x.val : Int)) ∧ h' = h) ?_ ?_
    · refine callH_by fun K hK => ?_
      refine enter [.tmp 2] Tryz.func155 rfl rfl (by kernel_rfl) rfl ?_
      simp -dsimp
      refine call_by (K' := fun r h' => (∃ s : ByteArray, r = .string s ∧ (⟨#[99]⟩ : ByteArray) ++ s = nameK (x.val : Int)) ∧ h' = h) ?_ ?_
      · refine callH_by fun K hK => ?_
        refine enter [.tmp 4] Tryz.func178 rfl rfl (by kernel_rfl) rfl ?_
        have q1 : (0 : Int) ≤ (x.val : Int) := by omega
        have q2 : (x.val : Int) < 100 := by omega
        simp -dsimp [q1, q2]
        refine call_by (small_spec x h) ?_
        rintro _ y ⟨⟨s, rfl, hs⟩, hh⟩
        subst y
        simp -dsimp
        exact hK _ _ ⟨⟨_, rfl, hs⟩, rfl⟩
      rintro _ y ⟨⟨s, rfl, hs⟩, hh⟩
      subst y
      simp -dsimp
      exact hK _ _ ⟨⟨_, rfl, hs⟩, rfl⟩
    rintro _ y ⟨⟨s, rfl, hs⟩, hh⟩
    subst y
    simp -dsimp
    exact hK _ _ ⟨⟨_, rfl, hs⟩, rfl⟩
  rintro _ y ⟨⟨s, rfl, hs⟩, hh⟩
  subst y
  have hsz := congrArg ByteArray.size hs
  have hs3 : ∀ x : Fin 16, (nameK (x.val : Int)).size ≤ 3 := by decide +kernel
  have hs4 := hs3 x
  rw [ByteArray.size_append] at hsz
  simp -dsimp [strRes_add (⟨#[99]⟩ : ByteArray) s (by omega)]
  exact hK _ _ ⟨congrArg Value.string hs, rfl⟩
end Go.Proofs

/-
  The program's serve.
-/
namespace Go.HC
def nmFact : Nm := ⟨#[102, 97, 99, 116]⟩
/-- A store that holds facts, and cuboids of some sets. -/
structure CubeAt (M : Mod) (s : SchM) (rows : List RowM) : Prop where
  there : (M.look nmFact).isSome = true
  fact : M.nowOf nmFact = encF s rows
  ok : FactsOk s rows
  set : ∀ k : Nat, k < 2 ^ s.cards.length → (M.look (nameK k)).isSome = true → M.nowOf (nameK k) = encC k (groupC (rows.map (ofM k)))
/-- What is committed. -/
def comM (M : Mod) (rows : List RowM) (k : Nat) : Option (List CellM) := if (M.look (nameK k)).isSome = true then some (groupC (rows.map (ofM (k : Int)))) else none
theorem fold_filter {com : Nat → Option (List CellM)} {need : Int} (l : List Nat) : ∀ b, (l.filter fun j : Nat => decide (andM (j : Int) need = need)).foldl (stepM com need) b = l.foldl (stepM com need) b := by
  induction l with
  | nil => intro b; rfl
  | cons x l ih =>
    intro b
    rw [List.filter_cons, List.foldl_cons]
    by_cases hx : andM (x : Int) need = need
    · rw [if_pos (by simpa using hx), List.foldl_cons, ih]
    · rw [if_neg (by simpa using hx), ih]
      congr 1
      unfold stepM
      rw [if_neg hx]
theorem sets_perm : ∀ d : Fin 5, (setsL d.val).isPerm (numsL (2 ^ d.val)) = true := by decide +kernel
theorem sets_sorted {d : Nat} (hd : d ≤ 4) : sortI (setsL d) = numsL (2 ^ d) := by
  have hp := (sortI_perm (setsL d)).trans (List.isPerm_iff.1 (sets_perm ⟨d, by omega⟩))
  have h1 := sortI_sorted (setsL d)
  have h2 : (numsL (2 ^ d)).Pairwise (· ≤ ·) := by
    unfold numsL
    rw [List.pairwise_map]
    exact List.pairwise_lt_range.imp fun h => by omega
  exact hp.eq_of_pairwise (fun a b _ _ h1 h2 => Int.le_antisymm h1 h2) h1 h2
end Go.HC
namespace Go.Proofs
open Go Go.HC

set_option maxHeartbeats 4000000 in
set_option maxRecDepth 10000 in
theorem pserve_spec {h : Heap} {v fv : Value} {F : Nat → Prop} {M : Mod} {s : SchM} {rows : List RowM} {a : Int} {fs : List FilM} (st : StAt v F h M) (hu : usedF M.files < 1000000) (hq : SlRep rFil (Old h) h fv fs) (C : CubeAt M s rows) :
    CallH Tryz.prog 43 #[v, .agg #[.int .i64 a, fv]] h fun r h' => ∃ x cv e, r = .tuple #[.int .i64 x, cv, .int .i64 e] ∧ Keep none_ h h' ∧
      ((rightM s.cards a fs = false ∧ x = 0 ∧ cv = .slice none 0 0 ∧ e = 7) ∨ (rightM s.cards a fs = true ∧ serveM (comM M rows) (needM a fs) (2 ^ s.cards.length) = none ∧ x = 0 ∧ cv = .slice none 0 0 ∧ e = 8) ∨
        (rightM s.cards a fs = true ∧ ∃ k l, serveM (comM M rows) (needM a fs) (2 ^ s.cards.length) = some (k, l) ∧ x = k ∧ e = 0 ∧ SlRep rCell (Ft h.size none_ h') h' cv l)) := by
  refine callH_by fun K hK => ?_
  refine enter [.cell 4 3, .cell 5 43, .tmp 6] Tryz.func43 rfl rfl (by kernel_rfl) rfl ?_
  have hq0 := hq
  obtain ⟨fa, fc, rfl, _, _⟩ := hq.val
  have hvp : ∃ p, v = .pointer p := by obtain ⟨bs, bm, es, clock, tv, own, R, rfl, _⟩ := st; exact ⟨_, rfl⟩
  obtain ⟨vp, rfl⟩ := hvp
  simp -dsimp [boxS_eq]
  rw [show h.size + 1 + 1 + 1 = h.size + 3 from rfl, show h.size + 1 + 1 = h.size + 2 from rfl]
  generalize hB : Array.push (Array.push (Array.push (Array.push h _) _) _) _ = h0
  have k0 : Keep none_ h h0 := by rw [← hB]; exact ((((Keep.refl none_ h).pushed _).pushed _).pushed _).pushed _
  have z0 : h0.size = h.size + 4 := by rw [← hB]; simp
  have wV : h0[h.size]? = some (.cells #[.pointer vp] 36 (0, 0)) := by rw [← hB]; exact push_at (push_at (push_at (push_new _ _)))
  have wQ : h0[h.size + 1]? = some (.cells #[.int .i64 a, .slice fa fs.length fc] 27 (0, 0)) := by rw [← hB]; exact push_at (push_at (push_get (by simp)))
  have wK : h0[h.size + 2]? = some (.cells #[.int .i64 0] 3 (0, 0)) := by rw [← hB]; exact push_at (push_get (by simp))
  have wL : h0[h.size + 3]? = some (.cells #[.slice none 0 0] 43 (0, 0)) := by rw [← hB]; exact push_get (by simp)
  have stz : ∀ {z : Heap}, Keep none_ h z → StAt (.pointer vp) F z M := fun kz => st.keep kz fun _ _ h => h
  have hqz : ∀ {z : Heap}, Keep none_ h z → SlRep rFil (Old z) z (.slice fa fs.length fc) fs := fun kz => hq0.mono ((Tr.of kz).ft (Nat.le_refl 0))
  simp -dsimp [wV]
  refine call_by (read_spec (stz k0) (by omega) nmFact) ?_
  rintro _ h1 ⟨u, ou, rfl, gu, k1, hou⟩
  rw [C.there]
  rw [C.fact] at gu
  have k01 : Keep none_ h h1 := k0.trans k1 fun _ _ h => h
  have hub : SlRep rByte (Old h1) h1 u (encF s rows) := gu.bytes.mono fun b hb => ⟨⟨nz, gu.own_lt b hb, fun h => h⟩, rfl⟩
  obtain ⟨ua, uc, rfl⟩ := gu.val
  obtain ⟨hdec, hsch, hrows⟩ := dec_enc C.ok
  have hsz := C.ok.dims
  simp -dsimp
  refine call_by (pdecode_spec hub (by have := now_le st.ok nmFact; rw [C.fact] at this; omega)) ?_
  rintro _ h2 ⟨cv, ms, rv, e, rfl, k2, hcase⟩
  rcases hcase with ⟨_, rfl, ems, hcv, hrv⟩ | ⟨hno, _⟩
  rotate_left
  · exact absurd hdec hno
  rw [hsch] at ems hcv
  obtain ⟨ca, cc, rfl, _, _⟩ := hcv.val
  obtain ⟨ra, rc, rfl, _, _⟩ := hrv.val
  have k02 : Keep none_ h h2 := k01.trans k2 fun _ _ h => h
  simp -dsimp
  rw [push_set rfl]
  obtain ⟨bs, ebs⟩ : ∃ bs, bs = h2.size := ⟨_, rfl⟩
  rw [← ebs]
  generalize hD : Array.push h2 _ = h3
  have hbs : h.size + 4 ≤ bs := by have := k1.size; have := k2.size; omega
  have k3 : Keep none_ h2 h3 := by rw [← hD]; exact .push _ _ _
  have k03 : Keep none_ h h3 := k02.trans k3 fun _ _ h => h
  have z3 : h3.size = h2.size + 1 := by rw [← hD]; simp
  have wS : h3[bs]? = some (.cells #[.slice ca s.cards.length cc, .int .i64 ms] 30 (0, 0)) := by rw [← hD, ebs]; exact push_new _ _
  have ka3 : Keep none_ h0 h3 := (k1.trans k2 fun _ _ h => h).trans k3 fun _ _ h => h
  have wV3 := ka3.at wV (fun h => h)
  have wQ3 := ka3.at wQ (fun h => h)
  have wK3 := ka3.at wK (fun h => h)
  have wL3 := ka3.at wL (fun h => h)
  have hcz : ∀ {z : Heap}, Keep none_ h3 z → SlRep rInt (Old z) z (.slice ca s.cards.length cc) s.cards := fun kz => ((hcv.mono ((Tr.of k3).ft (Nat.zero_le _))).mono ((Tr.of kz).ft (Nat.le_refl 0)))
  simp -dsimp [wQ3]
  rw [ems]
  refine call_by (pqright_spec (hcz (.refl _ _)) (hqz k03) hsz.2) ?_
  rintro _ h4 ⟨rfl, k4⟩
  have k04 : Keep none_ h h4 := k03.trans k4 fun _ _ h => h
  have hs44 : h.size + 4 ≤ h4.size := by have := k4.size; omega
  have wS4 := k4.at wS (fun h => h)
  have wV4 := k4.at wV3 (fun h => h)
  have wQ4 := k4.at wQ3 (fun h => h)
  have wK4 := k4.at wK3 (fun h => h)
  have wL4 := k4.at wL3 (fun h => h)
  have s04 := k04.size
  have hsetk : ∀ {z : Heap} (o o' : Obj), Keep none_ h z → Keep none_ h ((z.setIfInBounds (h.size + 2) o).setIfInBounds (h.size + 3) o') := fun o o' kz => (kz.setted _ fun hh => by omega).setted _ fun hh => by omega
  have n23 : h.size + 2 ≠ h.size + 3 := by omega
  have hget2 : ∀ (z : Heap) (o o' : Obj), h.size + 2 < z.size → ((z.setIfInBounds (h.size + 2) o).setIfInBounds (h.size + 3) o')[h.size + 2]? = some o := fun z o o' hz => (set_other _ (by omega)).trans (set_same _ hz)
  have hget3 : ∀ (z : Heap) (o o' : Obj), h.size + 3 < z.size → ((z.setIfInBounds (h.size + 2) o).setIfInBounds (h.size + 3) o')[h.size + 3]? = some o' := fun z o o' hz => set_same _ (by simpa using hz)
  cases hright : rightM s.cards a fs with
  | false =>
    simp -dsimp [wK4, wL4, set_other _ n23, hget2 _ _ _ (lt_of_blk wK4), hget3 _ _ _ (lt_of_blk wL4)]
    exact hK _ _ ⟨_, _, _, rfl, hsetk _ _ k04, .inl ⟨hright, rfl, rfl, rfl⟩⟩
  | true =>
    have hfs : ∀ f ∈ fs, 0 ≤ f.dim ∧ f.dim < 4 := fun f hf => by
      have hr := hright
      unfold rightM at hr
      split at hr
      · cases hr
      · have := rightF_ok hr f hf
        omega
    simp -dsimp [wS4]
    refine call_by (psets_spec (by omega) h4) ?_
    rintro v5 h5 ⟨own5, g5, k5, ho5⟩
    have g5' := g5
    obtain ⟨va5, vc5, rfl⟩ := g5.val
    simp -dsimp
    have hsl : (setsL s.cards.length).length = 2 ^ s.cards.length := by unfold setsL; rw [insL_len, numsL_len]
    have hp4 : 2 ^ s.cards.length ≤ 2 ^ 4 := Nat.pow_le_pow_right (by decide) hsz.2
    rw [hsl] at g5' ⊢
    refine call_by (sorti_spec g5' (fun _ h => h.elim) (by omega)) ?_
    rintro _ h6 ⟨rfl, g6, k6⟩
    rw [sets_sorted hsz.2] at g6
    have k46 : Keep (fun b => h4.size ≤ b) h4 h6 := (k5.none : Keep (fun b => h4.size ≤ b) h4 h5).trans k6 fun b hb e => by have := ho5 b e; omega
    have k06 : Keep none_ h h6 := ⟨by have := k46.size; omega, fun b hb _ => by rw [k46.blk b (by omega) (by omega), k04.blk b hb (fun h => h)]⟩
    have wS6 := k46.at wS4 (by have := lt_of_blk wS4; omega)
    have wV6 := k46.at wV4 (by have := lt_of_blk wV4; omega)
    have wQ6 := k46.at wQ4 (by have := lt_of_blk wQ4; omega)
    have wK6 := k46.at wK4 (by have := lt_of_blk wK4; omega)
    have wL6 := k46.at wL4 (by have := lt_of_blk wL4; omega)
    have s46 := k46.size
    simp -dsimp [wK6]
    generalize hE : Array.setIfInBounds h6 (h.size + 2) _ = h7
    have k7 : Keep (fun b => b = h.size + 2) h6 h7 := by rw [← hE]; exact (Keep.refl _ _).setted _ fun _ => rfl
    have z7 : h7.size = h6.size := by rw [← hE]; simp
    have wK7 : h7[h.size + 2]? = some (.cells #[.int .i64 (-1)] 3 (0, 0)) := by rw [← hE]; exact set_same _ (lt_of_blk wK6)
    have wS7 := k7.at wS6 (by omega)
    have wV7 := k7.at wV6 (by omega)
    have wQ7 := k7.at wQ6 (by omega)
    have wL7 := k7.at wL6 (by omega)
    have k07 : Keep none_ h h7 := by rw [← hE]; exact k06.setted _ fun hh => by omega
    have hlb5 : ∀ b, own5 = some b → h4.size ≤ b := ho5
    have g7 : Grow rInt 3 none_ h7 (.slice va5 (2 ^ s.cards.length) vc5) (numsL (2 ^ s.cards.length)) own5 := by
      rw [← hE]
      exact g6.mono (fun _ h => h.elim) fun b hb => ⟨fun h => h, set_other _ (by have := hlb5 b hb; omega)⟩
    refine call_by (K' := fun r h' => r = .func (.func 123) #[] #[.pointer (some ⟨h7.size, 0, none⟩), .pointer (some ⟨h7.size + 1, 0, none⟩)] ∧ h' = (h7.push (.cells #[.slice va5 (2 ^ s.cards.length) vc5] 22)).push (.cells #[.func (.func 85) #[] #[.pointer (some ⟨h.size + 1, 0, none⟩)]] 150)) ?_ ?_
    · refine callH_by fun K hK => ?_
      refine enter [.tmp 4] Tryz.func84 rfl rfl (by kernel_rfl) rfl ?_
      simp -dsimp [boxS_eq]
      exact hK _ _ ⟨rfl, rfl⟩
    rintro _ h8 ⟨rfl, e8⟩
    have k8 : Keep none_ h7 h8 := by rw [e8]; exact ((Keep.refl none_ h7).pushed _).pushed _
    have z8 : h8.size = h7.size + 2 := by rw [e8]; simp
    have wX8 : h8[h7.size]? = some (.cells #[.slice va5 (2 ^ s.cards.length) vc5] 22 (0, 0)) := by rw [e8]; exact push_at (push_new _ _)
    have wY8 : h8[h7.size + 1]? = some (.cells #[.func (.func 85) #[] #[.pointer (some ⟨h.size + 1, 0, none⟩)]] 150 (0, 0)) := by rw [e8]; exact push_get (by simp)
    clear e8
    have k08 : Keep none_ h h8 := k07.trans k8 fun _ _ h => h
    have wS8 := k8.at wS7 (fun h => h)
    have wV8 := k8.at wV7 (fun h => h)
    have wQ8 := k8.at wQ7 (fun h => h)
    have wK8 := k8.at wK7 (fun h => h)
    have wL8 := k8.at wL7 (fun h => h)
    have hg8 : SlRep rInt (fun b => own5 = some b) h8 (.slice va5 (2 ^ s.cards.length) vc5) (numsL (2 ^ s.cards.length)) := g7.ints.mono fun b hb => ⟨hb, k8.blk b (g7.own_lt b hb) (fun h => h)⟩
    have hf8 : SlRep rFil (Old h) h8 (.slice fa fs.length fc) fs := hq0.mono fun b hb => ⟨hb, k08.blk b hb.2.1 (fun h => h)⟩
    obtain ⟨com, ecom⟩ : ∃ com, com = comM M rows := ⟨_, rfl⟩
    obtain ⟨need, eneed⟩ : ∃ need, need = needM a fs := ⟨_, rfl⟩
    obtain ⟨N, eN⟩ : ∃ N : Nat → Prop, N = fun b => b = h.size + 2 ∨ b = h.size + 3 := ⟨_, rfl⟩
    have hN : ∀ b, N b ↔ b = h.size + 2 ∨ b = h.size + 3 := fun b => by rw [eN]
    obtain ⟨Best, hBest⟩ : ∃ Best : List Nat → (Nat → Prop) → Heap → Int → Value → Prop, ∀ xs M' h' x cv, Best xs M' h' x cv ↔ ((xs.foldl (stepM com need) none = none ∧ x = -1 ∧ cv = .slice none 0 0) ∨ ∃ k l, xs.foldl (stepM com need) none = some (k, l) ∧ x = (k : Int) ∧ SlRep rCell (Ft h.size M' h') h' cv l) := ⟨_, fun _ _ _ _ _ => Iff.rfl⟩
    have hBmono : ∀ {xs M1 M2 y z x cv}, Best xs M1 y x cv → Tr M1 M2 y z → Best xs M2 z x cv := fun hb tr => (hBest _ _ _ _ _).2 (((hBest _ _ _ _ _).1 hb).imp id fun ⟨k, l, e1, e2, e3⟩ => ⟨k, l, e1, e2, e3.mono (tr.ft (Nat.le_refl _))⟩)
    obtain ⟨I, hI⟩ : ∃ I : List Nat → (Nat → Prop) → Heap → Prop, ∀ xs M' h', I xs M' h' ↔ ((∀ b, N b → M' b) ∧ (∀ b, M' b → b < h'.size ∧ h.size + 2 ≤ b) ∧ ∃ x cv, h'[h.size + 2]? = some (.cells #[.int .i64 x] 3 (0, 0)) ∧ h'[h.size + 3]? = some (.cells #[cv] 43 (0, 0)) ∧ Best xs M' h' x cv) := ⟨_, fun _ _ _ => Iff.rfl⟩
    simp -dsimp
    refine range_m (val := fun i : Nat => #[.int .i64 (i : Int)]) (first := #[]) (by simp) (by simp) (keptI_iter wX8 hg8 wY8 wQ8 hf8 hfs (by omega)) I
      ?_ ?_ N ?_ ?_ (by kernel_rfl) (by kernel_rfl) (fun _ => rfl) (by intro p hp; simp at hp; subst hp; decide) ?_ ?_
    · exact fun hi b hb => (((hI _ _ _).1 hi).2.1 b hb).1
    · intro xs M' y z hi m1 m2 kk
      obtain ⟨hM, hlt, x, cv, w1, w2, hb⟩ := (hI _ _ _).1 hi
      have hne := lt_of_blk wK8
      have hne3 := lt_of_blk wL8
      exact (hI _ _ _).2 ⟨hM, fun b hb => ⟨Nat.lt_of_lt_of_le (hlt b hb).1 kk.size, (hlt b hb).2⟩, x, cv, kk.at w1 (by omega), kk.at w2 (by omega), hBmono hb (Tr.lp (fun b hb => (hlt b hb).1) m2 kk)⟩
    · intro b hb
      have hl2 := lt_of_blk wK7
      have hl3 := lt_of_blk wL7
      have hs4 : h.size + 4 ≤ h7.size := by have := k1.size; have := k2.size; have := k3.size; have := k4.size; omega
      rcases hb with rfl | rfl | rfl | hb | hb
      · exact ⟨by omega, fun e => by have := (hN _).1 e; omega⟩
      · exact ⟨by omega, fun e => by have := (hN _).1 e; omega⟩
      · exact ⟨by have := k08.size; have := lt_of_blk wQ8; omega, fun e => by have := (hN _).1 e; omega⟩
      · have h1 := hlb5 b hb
        have h2 := g7.own_lt b hb
        exact ⟨by omega, fun e => by have := (hN _).1 e; omega⟩
      · have h1 := hb.2.1
        exact ⟨by have := k08.size; omega, fun e => by have := (hN _).1 e; omega⟩
    · intro y ky zy
      refine (hI _ _ _).2 ⟨fun b hb => .inl hb, fun b hb => ?_, -1, .slice none 0 0, ky.at wK8 (fun h => h), ky.at wL8 (fun h => h), (hBest _ _ _ _ _).2 (.inl ⟨rfl, rfl, rfl⟩)⟩
      have h1 := lt_of_blk wK8
      have h2 := lt_of_blk wL8
      rcases hb with hb | hb | hb
      · have := (hN _).1 hb; omega
      · omega
      · omega
    · rintro xs i M' y hiy ⟨hxs, hin, hai⟩ hzy m1 m2 t
      simp -dsimp
      refine ⟨.refl _ _, fun y5 k5' e5' => ?_⟩
      obtain ⟨hM, hlt, x, cv', w1, w2, hb⟩ := (hI _ _ _).1 hiy
      have hlt' : ∀ b, M' b → b < y.size := fun b hb => (hlt b hb).1
      have t5 := Tr.lp hlt' m2 k5'
      have u5 := t.trans t5
      have hnN : ∀ b, b ≠ h.size + 2 → b ≠ h.size + 3 → ¬ N b := fun b n1 n2 hb => by have := (hN b).1 hb; omega
      have K05 := Tr.from_ k08 u5 (fun b hb => by have := (hN b).1 hb; omega)
      have hl2 := lt_of_blk wK8
      have hl3 := lt_of_blk wL8
      have w1' := k5'.at w1 (by omega)
      have w2' := k5'.at w2 (by omega)
      have hb5 := hBmono hb t5
      have wV5 := u5.at wV8 (hnN _ (by omega) (by omega))
      have wS5 := u5.at wS8 (hnN _ (by omega) (by omega))
      have i16 : i < 16 := by omega
      have K5 : Keep none_ h y5 := K05.keep
      refine drawn_by [⟨0, true, []⟩, ⟨1, true, []⟩, ⟨2, false, [0]⟩, ⟨3, false, []⟩, ⟨4, true, []⟩, ⟨5, true, []⟩, ⟨6, true, []⟩, ⟨7, true, []⟩, ⟨8, true, []⟩] (by kernel_rfl) (by kernel_rfl) ?_
      simp -dsimp [wV5]
      refine call_by (pname_spec (k := (i : Int)) (by omega) (by omega) y5) ?_
      rintro _ y6 ⟨rfl, ez⟩
      subst y6
      simp -dsimp [again_cons, wV5]
      refine call_by (read_spec (stz K5) (by omega) (nameK (i : Int))) ?_
      rintro _ y6 ⟨u6, ou6, rfl, gu6, k6', hou6⟩
      obtain ⟨ua6, uc6, rfl⟩ := gu6.val
      have w1'' := k6'.at w1' (fun h => h)
      have w2'' := k6'.at w2' (fun h => h)
      have t6 : Tr M' M' y y6 := t5.call k6'
      have hdm8 : y6[h8.size]? = y5[h8.size]? := k6'.blk _ (by omega) (fun h => h)
      have hdm9 : y6[h8.size + 1]? = y5[h8.size + 1]? := k6'.blk _ (by omega) (fun h => h)
      have hfo : ∀ b, (xs ++ [i]).foldl (stepM com need) b = stepM com need (xs.foldl (stepM com need) b) i := fun b => by rw [List.foldl_append]; rfl
      cases hthere : (M.look (nameK (i : Int))).isSome with
      | false =>
        have hst : ∀ b, stepM com need b i = b := fun b => by
          unfold stepM
          rw [eneed, if_pos hai, ecom]
          unfold comM
          rw [hthere]
          rfl
        simp -dsimp [again_cons]
        refine ⟨M', (hI _ _ _).2 ⟨hM, fun b hb => ⟨Nat.lt_of_lt_of_le (hlt b hb).1 t6.size, (hlt b hb).2⟩, x, cv', w1'', w2'', ?_⟩, t6, m1, m2, hdm8, hdm9⟩
        have hb6 := hBmono hb t6
        rw [hBest] at hb6 ⊢
        rw [hfo, hst]
        exact hb6
      | true =>
        rw [C.set i hin hthere] at gu6 ⊢
        have hgs : com i = some (groupC (rows.map (ofM (i : Int)))) := by rw [ecom]; unfold comM; rw [if_pos hthere]
        have hub6 : SlRep rByte (Old y6) y6 _ (encC (i : Int) (groupC (rows.map (ofM (i : Int))))) := gu6.bytes.mono fun b hb => ⟨⟨nz, gu6.own_lt b hb, fun h => h⟩, rfl⟩
        have hold6 : ∀ b, h.size + 4 ≤ b → b < h2.size → b < y6.size ∧ y6[b]? = h2[b]? := fun b h1 h2 => by
          have s3 := k3.size
          have s4 := k4.size
          have s5 := u5.size
          have s6 := k6'.size
          refine ⟨by omega, ?_⟩
          rw [k6'.blk b (by omega) (fun h => h), u5.keep.blk b (by omega) (hnN b (by omega) (by omega)), k8.blk b (by omega) (fun h => h), k7.blk b (by omega) (by omega), k46.blk b (by omega) (by omega), k4.blk b (by omega) (fun h => h), k3.blk b (by omega) (fun h => h)]
        have hc6 : SlRep rInt (Old y6) y6 (.slice ca s.cards.length cc) s.cards := hcv.mono fun b hb => by
          have s1 := k1.size
          obtain ⟨q1, q2⟩ := hold6 b (by have := hb.1.1; omega) hb.2.1
          exact ⟨⟨nz, q1, fun h => h⟩, q2⟩
        have wS6' := k6'.at wS5 (fun h => h)
        simp -dsimp [again_cons, wS6']
        rw [ems]
        refine call_by (pcdecode_spec hc6 hub6 (cub_ok C.ok (by omega) (by exact_mod_cast hin))) ?_
        rintro _ y7 ⟨rv7, rfl, r7, k7'⟩
        have t7 : Tr M' M' y y7 := t6.call k7'
        have w1t := k7'.at w1'' (fun h => h)
        have w2t := k7'.at w2'' (fun h => h)
        have hdm8' : y7[h8.size]? = y5[h8.size]? := (k7'.blk _ (by have := k6'.size; omega) (fun h => h)).trans hdm8
        have hdm9' : y7[h8.size + 1]? = y5[h8.size + 1]? := (k7'.blk _ (by have := k6'.size; omega) (fun h => h)).trans hdm9
        obtain ⟨gl, egl⟩ : ∃ gl, gl = groupC (rows.map (ofM (i : Int))) := ⟨_, rfl⟩
        rw [← egl] at r7 hgs
        have hrv7 := r7.mono (t6.ret (n := h.size) (by have := t6.size; omega))
        obtain ⟨ra7, rc7, rfl, _, _⟩ := r7.val
        have mK := hM _ ((hN (h.size + 2)).2 (.inl rfl))
        have mL := hM _ ((hN (h.size + 3)).2 (.inr rfl))
        have hb7 := hBmono hb t7
        -- it takes this one
        have htake : xs.foldl (stepM com need) none = none ∨ (∃ k l, xs.foldl (stepM com need) none = some (k, l) ∧ gl.length < l.length) → bodyM h8.size M' y y5 I (xs ++ [i]) ⟨⟩ ((y7.setIfInBounds (h.size + 2) (.cells #[.int .i64 (i : Int)] 3)).setIfInBounds (h.size + 3) (.cells #[.slice ra7 gl.length rc7] 43)) := by
          intro hx
          have hst : (xs ++ [i]).foldl (stepM com need) none = some (i, gl) := by
            rw [hfo]
            rcases hx with hx | ⟨k, l, hx, hl⟩
            · rw [hx]; unfold stepM; rw [eneed, if_pos hai, hgs]
            · rw [hx]; unfold stepM; rw [eneed, if_pos hai, hgs]; simp only; rw [if_pos hl]
          have tt : Tr M' M' y7 ((y7.setIfInBounds (h.size + 2) (.cells #[.int .i64 (i : Int)] 3)).setIfInBounds (h.size + 3) (.cells #[.slice ra7 gl.length rc7] 43)) := (t7.here.set _ mK).set _ mL
          refine ⟨M', (hI _ _ _).2 ⟨hM, fun b hb => ⟨Nat.lt_of_lt_of_le (hlt b hb).1 (t7.trans tt).size, (hlt b hb).2⟩, i, .slice ra7 gl.length rc7, (set_other _ (by omega)).trans (set_same _ (lt_of_blk w1t)), set_same _ (by have := lt_of_blk w2t; simpa using this), ?_⟩, t7.trans tt, m1, m2, ?_, ?_⟩
          · exact (hBest _ _ _ _ _).2 (.inr ⟨i, gl, hst, rfl, hrv7.mono (tt.ft (Nat.le_refl _))⟩)
          · rw [set_other _ (by omega), set_other _ (by omega)]; exact hdm8'
          · rw [set_other _ (by omega), set_other _ (by omega)]; exact hdm9'
        simp -dsimp [w1t]
        rcases (hBest _ _ _ _ _).1 hb7 with ⟨hx, rfl, rfl⟩ | ⟨k, l, hx, rfl, hl7⟩
        · have hneg : (-1 : Int) < 0 := by decide
          simp -dsimp [w1t, w2t]
          exact htake (.inl hx)
        · obtain ⟨la, lc, rfl, _, _⟩ := hl7.val
          have hneg : ¬ ((k : Int) < 0) := by omega
          by_cases hlt7 : gl.length < l.length
          · simp -dsimp [w1t, w2t, hneg, hlt7]
            exact htake (.inr ⟨k, l, hx, hlt7⟩)
          · simp -dsimp [w2t, hneg, hlt7]
            refine ⟨M', (hI _ _ _).2 ⟨hM, fun b hb => ⟨Nat.lt_of_lt_of_le (hlt b hb).1 t7.size, (hlt b hb).2⟩, _, _, w1t, w2t, ?_⟩, t7, m1, m2, hdm8', hdm9'⟩
            refine (hBest _ _ _ _ _).2 (.inr ⟨k, l, ?_, rfl, hl7⟩)
            rw [hfo, hx]
            unfold stepM
            rw [eneed, if_pos hai, hgs]
            simp only
            rw [if_neg hlt7]
    · rintro xs M' y hdn hiy hdm hzy m1 m2 t
      have T := Tr.from_ k08 t (fun b hb => by have := (hN b).1 hb; omega)
      obtain ⟨hM, hlt, x, cv', w1, w2, hb⟩ := (hI _ _ _).1 hiy
      have hfold : serveM (comM M rows) (needM a fs) (2 ^ s.cards.length) = xs.foldl (stepM com need) none := by
        unfold serveM
        rw [← ecom, ← eneed, hdn, ← eneed, fold_filter]
      have mK := hM _ ((hN (h.size + 2)).2 (.inl rfl))
      have mL := hM _ ((hN (h.size + 3)).2 (.inr rfl))
      have hiyT : Tr M' M' y y := t.here
      have hl2 := lt_of_blk w1
      have hl3 := lt_of_blk w2
      have hs8 := k08.size
      have hl8 := lt_of_blk wL8
      rcases (hBest _ _ _ _ _).1 hb with ⟨hx, rfl, rfl⟩ | ⟨k, l, hx, rfl, hl7⟩
      · simp -dsimp [w1, w2]
        rw [takeS_cons (by rw [set_other _ (by omega), set_other _ (by omega)]; exact hdm)]
        generalize hZ : Array.setIfInBounds (Array.setIfInBounds (Array.setIfInBounds y (h.size + 2) _) (h.size + 3) _) h8.size _ = z
        have kz : Tr M' M' y z := by rw [← hZ]; exact ((hiyT.set _ mK).set _ mL).set _ m1
        have z2 : z[h.size + 2]? = some (.cells #[.int .i64 0] 3 (0, 0)) := by rw [← hZ]; exact (set_other _ (by omega)).trans ((set_other _ (by omega)).trans (set_same _ hl2))
        have z3 : z[h.size + 3]? = some (.cells #[.slice none 0 0] 43 (0, 0)) := by rw [← hZ]; exact (set_other _ (by omega)).trans (set_same _ (by simpa using hl3))
        simp -dsimp [z2, z3]
        exact hK _ _ ⟨_, _, _, rfl, (T.trans kz).keep, .inr (.inl ⟨hright, hfold.trans hx, rfl, rfl, rfl⟩)⟩
      · obtain ⟨la, lc, rfl, _, _⟩ := hl7.val
        have hneg : ¬ ((k : Int) < 0) := by omega
        simp -dsimp [w1, hneg]
        refine drawn_by [⟨0, true, []⟩, ⟨1, true, []⟩, ⟨2, false, [1]⟩, ⟨3, false, []⟩, ⟨4, true, []⟩] (by kernel_rfl) (by kernel_rfl) ?_
        simp -dsimp [w1, w2]
        simp -dsimp [again_cons, w2]
        rw [takeS_cons (by rw [set_other _ (by omega), set_other _ (by omega)]; exact hdm)]
        generalize hZ : Array.setIfInBounds (Array.setIfInBounds (Array.setIfInBounds y (h.size + 2) _) (h.size + 3) _) h8.size _ = z
        have kz : Tr M' M' y z := by rw [← hZ]; exact ((hiyT.set _ mK).set _ mL).set _ m1
        have z2 : z[h.size + 2]? = some (.cells #[.int .i64 k] 3 (0, 0)) := by rw [← hZ]; exact (set_other _ (by omega)).trans ((set_other _ (by omega)).trans (set_same _ hl2))
        have z3 : z[h.size + 3]? = some (.cells #[.slice la l.length lc] 43 (0, 0)) := by rw [← hZ]; exact (set_other _ (by omega)).trans (set_same _ (by simpa using hl3))
        simp -dsimp [z2, z3]
        exact hK _ _ ⟨_, _, _, rfl, (T.trans kz).keep, .inr (.inr ⟨hright, k, l, hfold.trans hx, rfl, rfl, (hl7.mono (kz.ft (Nat.le_refl _))).mono fun b hb => ⟨⟨hb.1, hb.2.1, fun h => h⟩, rfl⟩⟩)⟩
end Go.Proofs

/-
  The program's filters over a cell; a serve of nothing.
-/
namespace Go.Proofs
open Go Go.HC

set_option maxHeartbeats 4000000 in
set_option maxRecDepth 10000 in
theorem pby_spec {h : Heap} {cs : List Value} {c : CellM} {fv : Value} {a : Int} {fs : List FilM} (hr : rCell.rep (Old h) h cs c) (hc : CellSmall c) (hf : SlRep rFil (Old h) h fv fs) (hfs : ∀ f ∈ fs, 0 ≤ f.dim ∧ f.dim < 4) :
    CallH Tryz.prog 46 #[.agg cs.toArray, .int .i64 a, fv] h fun r h' => r = .bool (letM a fs c.key) ∧ Keep none_ h h' := by
  refine callH_by fun K hK => ?_
  refine enter [.tmp 6] Tryz.func46 rfl rfl (by kernel_rfl) rfl ?_
  have hf0 := hf
  have hr0 := hr
  obtain ⟨fa, fc, rfl, hfc, hfc'⟩ := hf.val
  obtain ⟨ka, kc, sa, sc, na, nc, xa, xc, rfl, r1, r2, r3, r4⟩ := cell_open hr
  simp -dsimp [boxS_eq]
  generalize hB : Array.push h _ = h1
  have k1 : Keep none_ h h1 := by rw [← hB]; exact .push _ _ _
  have w1 : h1[h.size]? = some (.cells #[.slice ka c.key.length kc, .int .i64 c.count, .slice sa c.sum.length sc, .slice na c.mn.length nc, .slice xa c.mx.length xc] 65 (0, 0)) := by rw [← hB]; exact push_new _ _
  refine loopc (σ := Nat) (fun i => [(1, .int .i64 a), (3, .pointer (some ⟨h.size, 0, none⟩)), (10, .slice fa fs.length fc), (11, .int .i64 fs.length), (12, .int .i64 i)])
    (fun i y => Keep none_ h1 y ∧ i ≤ fs.length ∧ letM a (fs.drop i) c.key = letM a fs c.key) (fun i => fs.length - i) 0 0 (fun i _ => i = fs.length) (endR Tryz.prog [.tmp 6] K).rt (fun _ _ _ h => h) (by simp) ⟨.refl _ _, Nat.zero_le _, rfl⟩ (by kernel_rfl) ?_ ?_
  case refine_1 =>
    rintro i y g ⟨ky, hi, hlet⟩
    have v1 := ky.at w1 (fun h => h)
    have k0y : Keep none_ h y := k1.trans ky fun _ _ h => h
    by_cases hil : i < fs.length
    · have wi := wrap_succ (k := i) (by omega)
      obtain ⟨bk, off, cs, rfl, hfb, hrep, hcs⟩ := (hf0.mono ((Tr.of k0y).ft (Nat.le_refl 0))).get i hil
      obtain rfl : cs = [.int .i64 fs[i].dim, .int .i64 fs[i].lo, .int .i64 fs[i].hi] := hrep
      have hcs : HC.cellsIn y[bk]? (off + i * 3) 3 = some [.int .i64 fs[i].dim, .int .i64 fs[i].lo, .int .i64 fs[i].hi] := hcs
      have hd := hfs _ (List.getElem_mem hil)
      have hstep : letM a (fs.drop i) c.key = ((match pickN (2 ^ fs[i].dim.toNat) (dimsM a) c.key with | [v] => decide (fs[i].lo ≤ v) && decide (v ≤ fs[i].hi) | _ => false) && letM a (fs.drop (i + 1)) c.key) := by
        rw [List.drop_eq_getElem_cons hil]
        rfl
      rw [hlet] at hstep
      obtain ⟨f, ef⟩ : ∃ f, f = fs[i] := ⟨_, rfl⟩
      rw [← ef] at hcs hd hstep
      obtain ⟨D, eD⟩ : ∃ D : Nat, f.dim = D := ⟨f.dim.toNat, by omega⟩
      have hshl := shl_int (k := D) (by omega)
      rw [eD] at hcs hstep
      rw [Int.toNat_natCast] at hstep
      simp -dsimp [-intRes_shl, hil, idxA_nat hil, hcs]
      rw [push_set rfl]
      generalize hP : Array.push y _ = y2
      have k2 : Keep none_ y y2 := by rw [← hP]; exact .push _ _ _
      have k02 : Keep none_ h y2 := k0y.trans k2 fun _ _ h => h
      have wF : y2[y.size]? = some (.cells #[.int .i64 D, .int .i64 f.lo, .int .i64 f.hi] 57 (0, 0)) := by rw [← hP]; exact push_new _ _
      have u1 := k2.at v1 (fun h => h)
      refine drawn_by [⟨0, true, []⟩, ⟨1, true, []⟩, ⟨2, true, []⟩, ⟨3, true, []⟩, ⟨4, true, []⟩, ⟨5, false, []⟩, ⟨6, true, []⟩, ⟨7, true, []⟩] (by kernel_rfl) (by kernel_rfl) ?_
      simp -dsimp [-intRes_shl, wF, u1, hshl]
      refine call_by (narrow_spec a (2 ^ D) (rCell.mono hr0 ((Tr.of k02).ft (Nat.le_refl 0))) hc) ?_
      rintro _ y3 ⟨ds, rfl, rd, k3⟩
      obtain ⟨ka', kc', sa', sc', na', nc', xa', xc', rfl, q1, _⟩ := cell_open rd
      have q1 : SlRep rInt (Ft y2.size none_ y3) y3 (.slice ka' (pickN (2 ^ D) (dimsM a) c.key).length kc') (pickN (2 ^ D) (dimsM a) c.key) := q1
      have ekey : (narrowC a (2 ^ D) c).key = pickN (2 ^ D) (dimsM a) c.key := rfl
      have wF3 := k3.at wF (fun h => h)
      have u3 := k3.at u1 (fun h => h)
      have k03 : Keep none_ h y3 := k02.trans k3 fun _ _ h => h
      obtain ⟨p, ep⟩ : ∃ p, p = pickN (2 ^ D) (dimsM a) c.key := ⟨_, rfl⟩
      rw [ekey]
      rw [← ep] at q1 hstep ⊢
      simp -dsimp [-intRes_shl, again_cons, hshl]
      refine drawn_by [⟨0, true, []⟩, ⟨1, true, []⟩, ⟨2, true, []⟩, ⟨3, true, []⟩, ⟨4, true, []⟩, ⟨5, true, []⟩, ⟨6, true, []⟩, ⟨7, true, []⟩, ⟨8, true, []⟩, ⟨9, true, []⟩, ⟨10, true, []⟩, ⟨11, true, []⟩, ⟨12, true, []⟩, ⟨13, true, []⟩, ⟨14, true, []⟩, ⟨15, true, []⟩, ⟨16, true, []⟩, ⟨17, true, []⟩, ⟨18, true, []⟩] (by kernel_rfl) (by kernel_rfl) ?_
      by_cases hp1 : p.length = 1
      · obtain ⟨v, rfl⟩ : ∃ v, p = [v] := List.length_eq_one_iff.1 hp1
        obtain ⟨b5, o5, e5, _, hc5⟩ := q1.int_at 0 (by simp)
        subst e5
        simp only at hstep
        have h01 : (0 : Nat) < 1 := by decide
        have ix : ∀ sz ar, idxV sz ar (.slice (some ⟨b5, o5, none⟩) 1 kc') (.int .i64 0) = sz.map fun s => .pointer (some ⟨b5, o5 + 0 * s, none⟩) := fun sz ar => idxV_nat (i := 0) h01
        simp only [List.length_singleton, List.getElem_singleton, Nat.add_zero] at hc5 ⊢
        by_cases c1 : v < f.lo
        · simp -dsimp [wF3, hc5, elSz_eq, ix, c1]
          have hf : letM a fs c.key = false := by rw [hstep, decide_eq_false (by omega : ¬ f.lo ≤ v)]; rfl
          exact hK _ _ ⟨by rw [hf], k03⟩
        · by_cases c2 : f.hi < v
          · simp -dsimp [wF3, hc5, elSz_eq, ix, c1, c2]
            have hf : letM a fs c.key = false := by rw [hstep, decide_eq_false (by omega : ¬ v ≤ f.hi), Bool.and_false]; rfl
            exact hK _ _ ⟨by rw [hf], k03⟩
          · simp -dsimp [wF3, hc5, elSz_eq, ix, c1, c2, wi]
            have hf : letM a fs c.key = letM a (fs.drop (i + 1)) c.key := by rw [hstep, decide_eq_true (by omega : f.lo ≤ v), decide_eq_true (by omega : v ≤ f.hi)]; rfl
            exact ⟨i + 1, by simp, rfl, ⟨(ky.trans k2 fun _ _ h => h).trans k3 fun _ _ h => h, hil, hf.symm⟩, by show fs.length - (i + 1) < fs.length - i; omega⟩
      · have hf : letM a fs c.key = false := by
          rw [hstep]
          match p, hp1 with
          | [], _ => rfl
          | [_], h => exact absurd rfl h
          | _ :: _ :: _, _ => rfl
        rw [hf] at hK
        have hb : ((p.length : Int) != 1) = true := by rw [bne_iff_ne]; omega
        simp -dsimp [hb]
        exact hK _ _ ⟨rfl, k03⟩
    · simp -dsimp [hil]
      exact ⟨rfl, i, by simp, rfl, ⟨ky, hi, hlet⟩, by show i = _; omega⟩
  rintro i y g ⟨ky, hi, hlet⟩ hil
  have hil : i = fs.length := hil
  subst hil
  rw [List.drop_length] at hlet
  rw [← hlet] at hK
  simp -dsimp
  exact hK _ _ ⟨rfl, k1.trans ky fun _ _ h => h⟩
end Go.Proofs

/-
  The program's Ask: filters over a set's cells, one by one.
-/
namespace Go.HC
theorem filter_cut {α : Type} (p : α → Bool) (l : List α) {i : Nat} (hi : i < l.length) : l.filter p = (l.take i).filter p ++ ((if p l[i] = true then [l[i]] else []) ++ (l.drop (i + 1)).filter p) := by
  have h1 : l = l.take i ++ l[i] :: l.drop (i + 1) := by rw [← List.drop_eq_getElem_cons hi, List.take_append_drop]
  have h2 : (l.take i ++ l[i] :: l.drop (i + 1)).filter p = (l.take i).filter p ++ ((if p l[i] = true then [l[i]] else []) ++ (l.drop (i + 1)).filter p) := by
    rw [List.filter_append, List.filter_cons]
    split <;> rfl
  rw [← h2, ← h1]
theorem filter_take_succ {α : Type} (p : α → Bool) (l : List α) {i : Nat} (hi : i < l.length) : (l.take (i + 1)).filter p = (l.take i).filter p ++ (if p l[i] = true then [l[i]] else []) := by
  rw [List.take_add_one, List.getElem?_eq_getElem hi, Option.toList_some, List.filter_append, List.filter_cons]
  split <;> rfl
theorem filter_here {α : Type} (p : α → Bool) (l : List α) {i n : Nat} (hi : i < l.length) (hp : p l[i] = true) (hn : n = ((l.take i).filter p).length) : ∃ h : n < (l.filter p).length, (l.filter p)[n] = l[i] := by
  have h1 := filter_cut p l hi
  rw [if_pos hp] at h1
  subst hn
  have hlt : ((l.take i).filter p).length < (l.filter p).length := by rw [h1, List.length_append, List.length_append]; simp; omega
  refine ⟨hlt, ?_⟩
  rw [← Option.some_inj, ← List.getElem?_eq_getElem hlt, h1, List.getElem?_append_right (Nat.le_refl _), Nat.sub_self]
  rfl
end Go.HC
namespace Go.Proofs
open Go Go.HC

set_option maxHeartbeats 2000000 in
set_option maxRecDepth 10000 in
theorem pkeepC_spec {h : Heap} {bs bq : Nat} {fv : Value} {k a : Int} {cs : List Value} {c : CellM} {fs : List FilM} (hbs : h[bs]? = some (.cells #[.int .i64 k] 3 (0, 0))) (hbq : h[bq]? = some (.cells #[.int .i64 a, fv] 27 (0, 0)))
    (hr : rCell.rep (Old h) h cs c) (hc : CellSmall c) (hf : SlRep rFil (Old h) h fv fs) (hfs : ∀ f ∈ fs, 0 ≤ f.dim ∧ f.dim < 4) :
    CallH Tryz.prog 45 #[.agg cs.toArray, .pointer (some ⟨bs, 0, none⟩), .pointer (some ⟨bq, 0, none⟩)] h fun r h' => r = .bool (letM k fs c.key) ∧ Keep none_ h h' := by
  refine callH_by fun K hK => ?_
  refine enter [.tmp 4] Tryz.func45 rfl rfl (by kernel_rfl) rfl ?_
  have hf0 := hf
  have hr0 := hr
  obtain ⟨fa, fc, rfl, hfc, hfc'⟩ := hf.val
  obtain ⟨ka, kc, sa, sc, na, nc, xa, xc, rfl, r1, r2, r3, r4⟩ := cell_open hr
  simp -dsimp [boxS_eq]
  generalize hB : Array.push h _ = h1
  have k1 : Keep none_ h h1 := by rw [← hB]; exact .push _ _ _
  have w1 : h1[h.size]? = some (.cells #[.slice ka c.key.length kc, .int .i64 c.count, .slice sa c.sum.length sc, .slice na c.mn.length nc, .slice xa c.mx.length xc] 65 (0, 0)) := by rw [← hB]; exact push_new _ _
  have w2 := k1.at hbs (fun h => h)
  have w3 := k1.at hbq (fun h => h)
  simp -dsimp [w2, w3]
  refine call_by (pby_spec (rCell.mono hr0 ((Tr.of k1).ft (Nat.le_refl 0))) hc (hf0.mono ((Tr.of k1).ft (Nat.le_refl 0))) hfs) ?_
  rintro _ h2 ⟨rfl, k2⟩
  simp -dsimp
  exact hK _ _ ⟨rfl, k1.trans k2 fun _ _ h => h⟩

set_option maxHeartbeats 4000000 in
set_option maxRecDepth 10000 in
theorem keptC_iter {h0 : Heap} {b1 b2 bs bq : Nat} {lv fv : Value} {k a : Int} {l : List CellM} {fs : List FilM} {F G : Nat → Prop} (hb1 : h0[b1]? = some (.cells #[lv] 43 (0, 0))) (hl : SlRep rCell F h0 lv l) (hb2 : h0[b2]? = some (.cells #[.func (.func 45) #[] #[.pointer (some ⟨bs, 0, none⟩), .pointer (some ⟨bq, 0, none⟩)]] 96 (0, 0)))
    (hbs : h0[bs]? = some (.cells #[.int .i64 k] 3 (0, 0))) (hbq : h0[bq]? = some (.cells #[.int .i64 a, fv] 27 (0, 0))) (hf : SlRep rFil G h0 fv fs) (hfs : ∀ f ∈ fs, 0 ≤ f.dim ∧ f.dim < 4) (hn : l.length < 1000000) (hsm : ∀ d ∈ l, CellSmall d) :
    IterM Tryz.prog 89 #[] #[.pointer (some ⟨b1, 0, none⟩), .pointer (some ⟨b2, 0, none⟩)] (fun cs : List Value => #[.agg cs.toArray]) (cellsA 0 (l.filter fun c => letM k fs c.key))
      (fun xs => xs.length = (l.filter fun c => letM k fs c.key).length) (fun b => b = b1 ∨ b = b2 ∨ b = bs ∨ b = bq ∨ F b ∨ G b) h0 := by
  intro y J M0 h ⟨yf, yu, yv', hyf⟩ hy hJ hsz hFp
  subst hyf
  obtain ⟨p, ep⟩ : ∃ p : CellM → Bool, p = fun c => letM k fs c.key := ⟨_, rfl⟩
  rw [← ep] at hy ⊢
  have hp : ∀ c, letM k fs c.key = p c := fun c => by rw [ep]
  have w1 := (hFp b1 (.inl rfl)).2.2.trans hb1
  have w2 := (hFp b2 (.inr (.inl rfl))).2.2.trans hb2
  have w3 := (hFp bs (.inr (.inr (.inl rfl)))).2.2.trans hbs
  have w4 := (hFp bq (.inr (.inr (.inr (.inl rfl))))).2.2.trans hbq
  have n1 := (hFp b1 (.inl rfl)).2.1
  have n2 := (hFp b2 (.inr (.inl rfl))).2.1
  have n3 := (hFp bs (.inr (.inr (.inl rfl)))).2.1
  have n4 := (hFp bq (.inr (.inr (.inr (.inl rfl))))).2.1
  have hlh : SlRep rCell (Ft 0 M0 h) h lv l := hl.mono fun x hx => by
    obtain ⟨g1, g2, g3⟩ := hFp x (.inr (.inr (.inr (.inr (.inl hx)))))
    exact ⟨⟨nz, by omega, g2⟩, g3⟩
  have hfh : SlRep rFil (Ft 0 M0 h) h fv fs := hf.mono fun x hx => by
    obtain ⟨g1, g2, g3⟩ := hFp x (.inr (.inr (.inr (.inr (.inr hx)))))
    exact ⟨⟨nz, by omega, g2⟩, g3⟩
  obtain ⟨a0, c0, rfl, _, _⟩ := hl.val
  refine callH_by fun K hK => ?_
  refine enter [] Tryz.func89 rfl rfl (by kernel_rfl) rfl ?_
  simp -dsimp [w1]
  refine loopc (σ := Nat) (fun i => [(0, .func yf yu yv'), (1, .pointer (some ⟨b1, 0, none⟩)), (2, .pointer (some ⟨b2, 0, none⟩)), (6, .slice a0 l.length c0), (7, .int .i64 l.length), (8, .int .i64 i)]) (fun i h1 => i ≤ l.length ∧ ∃ xs M, xs.length = ((l.take i).filter p).length ∧ J xs M h1 ∧ Tr M0 M h h1) (fun i => l.length - i) 0 0 (fun i _ => i = l.length) noRet noRet_le (by simp)
    ⟨by omega, [], M0, rfl, hJ, ⟨.refl _ _, fun _ h => .inl h, fun b hb => hy.lt hJ b hb⟩⟩ (by kernel_rfl) ?_ ?_
  · rintro i h1 g ⟨hi, xs, M, hxs, hJ1, t⟩
    by_cases hil : i < l.length
    · have wk := wrap_succ (k := i) (by omega)
      obtain ⟨bl, ol, cs, e1, _, hrep, hx1⟩ := (hlh.mono (t.ft (Nat.le_refl 0))).get i hil
      have hrep0 := hrep
      obtain ⟨ka, kc, sa, sc, na, nc, xa, xc, rfl, r1, _⟩ := cell_open hrep
      have hx1' : HC.cellsIn h1[bl]? (ol + i * 5) 5 = _ := hx1
      simp -dsimp [hil, e1, idxA_nat hil, hx1']
      rw [push_set rfl]
      generalize hB2 : Array.push h1 _ = h2
      have k2 : Keep none_ h1 h2 := by rw [← hB2]; exact .push _ _ _
      have hC : h2[h1.size]? = some (.cells #[.slice ka l[i].key.length kc, .int .i64 l[i].count, .slice sa l[i].sum.length sc, .slice na l[i].mn.length nc, .slice xa l[i].mx.length xc] 65 (0, 0)) := by rw [← hB2]; exact push_new _ _
      have t2 := t.call k2
      have v2 := t2.at w2 n2
      have v3 := t2.at w3 n3
      have v4 := t2.at w4 n4
      have hrep2 := rCell.mono hrep0 ((t.here.call k2).ft (Nat.le_refl 0))
      simp -dsimp [hC, v2]
      refine call_by (pkeepC_spec v3 v4 (rCell.mono hrep2 (Ft.free (Nat.le_refl 0))) (hsm _ (List.getElem_mem hil)) ((hfh.mono (t2.ft (Nat.le_refl 0))).mono (Ft.free (Nat.le_refl 0))) hfs) ?_
      rintro _ h3 ⟨rfl, k3⟩
      have t3 := t2.call k3
      have k13 : Keep none_ h1 h3 := k2.trans k3 fun _ _ h => h
      have hJ3 := hy.call hJ1 k13
      have hC3 := k3.at hC (fun h => h)
      have hrs := filter_take_succ p l hil
      rw [hp]
      cases hk : p l[i] with
      | true =>
        rw [hk, if_pos rfl] at hrs
        simp -dsimp [hC3]
        have hrep3 := rCell.mono hrep0 ((t.here.call k13).ft (Nat.le_refl 0))
        refine callV_by (hy.step (x := _) hJ3 ?_) ?_
        · obtain ⟨h5, e5⟩ := filter_here p l hil hk hxs
          exact ⟨h5, by rw [e5]; exact hrep3⟩
        rintro _ h4 ⟨rfl, M', hJ4, t4⟩
        simp -dsimp [wk]
        exact ⟨i + 1, by simp [e1], rfl, ⟨by omega, _, M', by rw [hrs, List.length_append, List.length_append, hxs]; rfl, hJ4, t3.trans t4⟩, by show l.length - (i + 1) < l.length - i; omega⟩
      | false =>
        rw [hk, if_neg (by decide), List.append_nil] at hrs
        simp -dsimp [wk]
        exact ⟨i + 1, by simp [e1], rfl, ⟨by omega, xs, M, by rw [hrs]; exact hxs, hJ3, t3⟩, by show l.length - (i + 1) < l.length - i; omega⟩
    · simp -dsimp [hil]
      exact ⟨rfl, i, by simp, rfl, ⟨hi, xs, M, hxs, hJ1, t⟩, by show i = l.length; omega⟩
  · rintro i h1 g ⟨hi, xs, M, hxs, hJ1, t⟩ rfl
    simp -dsimp
    rw [List.take_length] at hxs
    exact hK _ _ ⟨xs, M, hxs, hJ1, t⟩
end Go.Proofs

/-
  The program's Ask and Server.
-/
namespace Go.HC
theorem serve_com {M : Mod} {s : SchM} {rows : List RowM} {need : Int} {k : Nat} {l : List CellM} (hs : serveM (comM M rows) need (2 ^ s.cards.length) = some (k, l)) : k < 2 ^ s.cards.length ∧ l = groupC (rows.map (ofM (k : Int))) ∧ (M.look (nameK (k : Int))).isSome = true ∧ andM (k : Int) need = need := by
  obtain ⟨h1, h2, h3⟩ := serve_some hs
  unfold comM at h2
  split at h2
  · rename_i h
    exact ⟨h1, (Option.some.inj h2).symm, h, h3⟩
  · cases h2
theorem set_small {s : SchM} {rows : List RowM} (ok : FactsOk s rows) (k : Int) : (groupC (rows.map (ofM k))).length ≤ 300 ∧ ∀ d ∈ groupC (rows.map (ofM k)), CellSmall d := by
  refine ⟨Nat.le_trans (groupC_le _) (by rw [List.length_map]; exact ok.len), small_group fun d hd => ?_⟩
  obtain ⟨r, hr, rfl⟩ := List.mem_map.1 hd
  have h1 := (ok.key r hr).1
  have h2 := ok.dims.2
  have h3 := ok.ms
  have h4 := (ok.m r hr).1
  have h5 := pickM_le k r.key 0
  exact ⟨show (pickM k 0 r.key).length < _ by omega, show r.m.length < _ by omega, show r.m.length < _ by omega, show r.m.length < _ by omega⟩
end Go.HC
namespace Go.Proofs
open Go Go.HC

set_option maxHeartbeats 4000000 in
set_option maxRecDepth 10000 in
theorem pserver_spec {h : Heap} {v fv : Value} {F : Nat → Prop} {M : Mod} {s : SchM} {rows : List RowM} {a : Int} {fs : List FilM} (st : StAt v F h M) (hu : usedF M.files < 1000000) (hq : SlRep rFil (Old h) h fv fs) (C : CubeAt M s rows) :
    CallH Tryz.prog 20 #[v, .agg #[.int .i64 a, fv]] h fun r h' => ∃ x ok, r = .tuple #[.int .i64 x, .bool ok] ∧ Keep none_ h h' ∧
      ((rightM s.cards a fs = false ∧ x = 0 ∧ ok = false) ∨ (rightM s.cards a fs = true ∧ serveM (comM M rows) (needM a fs) (2 ^ s.cards.length) = none ∧ x = 0 ∧ ok = false) ∨
        (rightM s.cards a fs = true ∧ ∃ k l, serveM (comM M rows) (needM a fs) (2 ^ s.cards.length) = some (k, l) ∧ x = k ∧ ok = true)) := by
  refine callH_by fun K hK => ?_
  refine enter [.tmp 4, .tmp 5] Tryz.func20 rfl rfl (by kernel_rfl) rfl ?_
  have hq0 := hq
  obtain ⟨fa, fc, rfl, _, _⟩ := hq.val
  simp -dsimp [boxS_eq]
  generalize hB : Array.push h _ = h0
  have k0 : Keep none_ h h0 := by rw [← hB]; exact .push _ _ _
  have wQ : h0[h.size]? = some (.cells #[.int .i64 a, .slice fa fs.length fc] 27 (0, 0)) := by rw [← hB]; exact push_new _ _
  try simp -dsimp [wQ]
  refine call_by (pserve_spec (st.keep k0 fun _ _ h => h) hu (hq0.mono ((Tr.of k0).ft (Nat.le_refl 0))) C) ?_
  rintro _ h1 ⟨x, cv, e, rfl, k1, hcase⟩
  have k01 : Keep none_ h h1 := k0.trans k1 fun _ _ h => h
  simp -dsimp
  rcases hcase with ⟨hr, rfl, rfl, rfl⟩ | ⟨hr, hs, rfl, rfl, rfl⟩ | ⟨hr, k, l, hs, rfl, rfl, hl⟩
  · exact hK _ _ ⟨_, _, rfl, k01, .inl ⟨hr, rfl, rfl⟩⟩
  · exact hK _ _ ⟨_, _, rfl, k01, .inr (.inl ⟨hr, hs, rfl, rfl⟩)⟩
  · exact hK _ _ ⟨_, _, rfl, k01, .inr (.inr ⟨hr, k, l, hs, rfl, rfl⟩)⟩

set_option maxHeartbeats 4000000 in
set_option maxRecDepth 10000 in
theorem pask_spec {h : Heap} {v fv : Value} {F : Nat → Prop} {M : Mod} {s : SchM} {rows : List RowM} {a : Int} {fs : List FilM} (st : StAt v F h M) (hu : usedF M.files < 1000000) (hq : SlRep rFil (Old h) h fv fs) (C : CubeAt M s rows) :
    CallH Tryz.prog 18 #[v, .agg #[.int .i64 a, fv]] h fun r h' => ∃ cv e, r = .tuple #[cv, .int .i64 e] ∧ Keep none_ h h' ∧
      ((rightM s.cards a fs = false ∧ cv = .slice none 0 0 ∧ e = 7) ∨ (rightM s.cards a fs = true ∧ serveM (comM M rows) (needM a fs) (2 ^ s.cards.length) = none ∧ cv = .slice none 0 0 ∧ e = 8) ∨
        (rightM s.cards a fs = true ∧ ∃ (k : Nat) (l : List CellM), serveM (comM M rows) (needM a fs) (2 ^ s.cards.length) = some (k, l) ∧ e = 0 ∧ NewC 65 h.size h' cv (askM k l a fs))) := by
  refine callH_by fun K hK => ?_
  refine enter [.tmp 4, .tmp 5] Tryz.func18 rfl rfl (by kernel_rfl) rfl ?_
  have hq0 := hq
  obtain ⟨fa, fc, rfl, _, _⟩ := hq.val
  simp -dsimp [boxS_eq]
  generalize hB : Array.push h _ = h0
  have k0 : Keep none_ h h0 := by rw [← hB]; exact .push _ _ _
  have z0 : h0.size = h.size + 1 := by rw [← hB]; simp
  have wQ : h0[h.size]? = some (.cells #[.int .i64 a, .slice fa fs.length fc] 27 (0, 0)) := by rw [← hB]; exact push_new _ _
  try simp -dsimp [wQ]
  refine call_by (pserve_spec (st.keep k0 fun _ _ h => h) hu (hq0.mono ((Tr.of k0).ft (Nat.le_refl 0))) C) ?_
  rintro _ h1 ⟨x, cv, e, rfl, k1, hcase⟩
  have k01 : Keep none_ h h1 := k0.trans k1 fun _ _ h => h
  simp -dsimp
  rcases hcase with ⟨hr, rfl, rfl, rfl⟩ | ⟨hr, hs, rfl, rfl, rfl⟩ | ⟨hr, k, l, hs, rfl, rfl, hl⟩
  · simp -dsimp
    exact hK _ _ ⟨_, _, rfl, (k01.pushed _).setted _ fun hh => by have := k01.size; omega, .inl ⟨hr, rfl, rfl⟩⟩
  · simp -dsimp
    exact hK _ _ ⟨_, _, rfl, (k01.pushed _).setted _ fun hh => by have := k01.size; omega, .inr (.inl ⟨hr, hs, rfl, rfl⟩)⟩
  obtain ⟨hkl, el, hlook, hand⟩ := serve_com hs
  obtain ⟨hln, hsm⟩ := set_small C.ok (k : Int)
  rw [← el] at hln hsm
  have hfs : ∀ f ∈ fs, 0 ≤ f.dim ∧ f.dim < 4 := fun f hf => by
    have hr' := hr
    have hd := C.ok.dims
    unfold rightM at hr'
    split at hr'
    · cases hr'
    · have := rightF_ok hr' f hf
      omega
  obtain ⟨la, lc, rfl, _, _⟩ := hl.val
  simp -dsimp
  rw [push_set rfl]
  generalize hD : Array.push (Array.push h1 _) _ = h2
  have s1 := k01.size
  have sz0 := k1.size
  have z2 : h2.size = h1.size + 2 := by rw [← hD]; simp
  have k2 : Keep none_ h1 h2 := by rw [← hD]; exact ((Keep.refl none_ h1).pushed _).pushed _
  have k02 : Keep none_ h h2 := k01.trans k2 fun _ _ h => h
  have wS2 : h2[h1.size]? = some (.cells #[.int .i64 k] 3 (0, 0)) := by rw [← hD]; exact push_at (push_new _ _)
  have wO2 : h2[h1.size + 1]? = some (.cells #[.slice none 0 0] 43 (0, 0)) := by rw [← hD]; exact push_get (by simp)
  have wQ2 := (k1.trans k2 fun _ _ h => h).at wQ (fun h => h)
  refine call_by (K' := fun r h' => r = .func (.func 89) #[] #[.pointer (some ⟨h2.size, 0, none⟩), .pointer (some ⟨h2.size + 1, 0, none⟩)] ∧ h' = (h2.push (.cells #[.slice la l.length lc] 43)).push (.cells #[.func (.func 45) #[] #[.pointer (some ⟨h1.size, 0, none⟩), .pointer (some ⟨h.size, 0, none⟩)]] 96)) ?_ ?_
  · refine callH_by fun K hK => ?_
    refine enter [.tmp 4] Tryz.func44 rfl rfl (by kernel_rfl) rfl ?_
    simp -dsimp [boxS_eq]
    exact hK _ _ ⟨rfl, rfl⟩
  rintro _ h3 ⟨rfl, e3⟩
  have k3 : Keep none_ h2 h3 := by rw [e3]; exact ((Keep.refl none_ h2).pushed _).pushed _
  have z3 : h3.size = h2.size + 2 := by rw [e3]; simp
  have wX : h3[h2.size]? = some (.cells #[.slice la l.length lc] 43 (0, 0)) := by rw [e3]; exact push_at (push_new _ _)
  have wY : h3[h2.size + 1]? = some (.cells #[.func (.func 45) #[] #[.pointer (some ⟨h1.size, 0, none⟩), .pointer (some ⟨h.size, 0, none⟩)]] 96 (0, 0)) := by rw [e3]; exact push_get (by simp)
  clear e3
  have k03 : Keep none_ h h3 := k02.trans k3 fun _ _ h => h
  have wS := k3.at wS2 (fun h => h)
  have wO := k3.at wO2 (fun h => h)
  have wQ := k3.at wQ2 (fun h => h)
  have hl3 : SlRep rCell (Ft h0.size none_ h1) h3 (.slice la l.length lc) l := hl.mono fun b hb => ⟨hb, (k2.trans k3 fun _ _ h => h : Keep none_ h1 h3).blk b hb.2.1 (fun h => h)⟩
  have hf3 : SlRep rFil (Old h) h3 (.slice fa fs.length fc) fs := hq0.mono fun b hb => ⟨hb, k03.blk b hb.2.1 (fun h => h)⟩
  obtain ⟨b8, e8⟩ : ∃ b8, b8 = h1.size + 1 := ⟨_, rfl⟩
  rw [← e8] at wO
  obtain ⟨L, eL⟩ : ∃ L : List CellM, L = l.filter fun c => letM k fs c.key := ⟨_, rfl⟩
  have hLl : L.length ≤ l.length := by rw [eL]; exact List.length_filter_le _ _
  have hLs : ∀ d ∈ L, CellSmall d := fun d hd => hsm d (by rw [eL] at hd; exact (List.mem_filter.1 hd).1)
  have hit := keptC_iter wX hl3 wY wS wQ hf3 hfs (by omega) hsm
  rw [← eL] at hit
  obtain ⟨I, hI⟩ : ∃ I : List (List Value) → (Nat → Prop) → Heap → Prop, ∀ xs M h', I xs M h' ↔ (M b8 ∧ (∀ b, M b → b < h'.size ∧ (b = b8 ∨ h3.size ≤ b)) ∧ xs.length ≤ L.length ∧ ∃ v own, h'[b8]? = some (.cells #[v] 43 (0, 0)) ∧
      Gr rCell 65 h.size M h' v ((L.take xs.length).map (narrowC k a)) own ∧ ∀ bk, own = some bk → h3.size + 2 ≤ bk) := ⟨_, fun _ _ _ => Iff.rfl⟩
  simp -dsimp
  rw [← e8]
  refine range_m (val := fun cs : List Value => #[.agg cs.toArray]) (first := #[]) (by simp) (by simp) hit I
    ?_ ?_ (fun b => b = b8) ?_ ?_ (by kernel_rfl) (by kernel_rfl) (fun _ => rfl) (by intro p hp; simp at hp; subst hp; decide) ?_ ?_
  · exact fun hi b hb => (((hI _ _ _).1 hi).2.1 b hb).1
  · intro xs M h4 h5 hi m1 m2 k
    obtain ⟨hM, hlt, hx, v, own, w1, g, ho⟩ := (hI _ _ _).1 hi
    exact (hI _ _ _).2 ⟨hM, fun b hb => ⟨Nat.lt_of_lt_of_le (hlt b hb).1 k.size, (hlt b hb).2⟩, hx, v, own, k.at w1 (by omega), g.lp (fun b hb => (hlt b hb).1) m2 (fun e => by have := ho _ e; omega) k, ho⟩
  · intro b hb
    rcases hb with rfl | rfl | rfl | rfl | hb | hb
    · exact ⟨by omega, by omega⟩
    · exact ⟨by omega, by omega⟩
    · exact ⟨by omega, by omega⟩
    · exact ⟨by omega, by omega⟩
    · have q1 := hb.2.1
      have q2 := hb.1.1
      exact ⟨by omega, by omega⟩
    · have q1 := hb.2.1
      exact ⟨by omega, by omega⟩
  · intro h4 k4 hz4
    refine (hI _ _ _).2 ⟨.inl rfl, fun b hb => ?_, Nat.zero_le _, _, none, k4.at wO (fun h => h), .nil _ _ _ _ _, fun b hb => by cases hb⟩
    rcases hb with hb | hb | hb
    · exact ⟨by omega, .inl hb⟩
    · exact ⟨by omega, .inr (by omega)⟩
    · exact ⟨by omega, .inr (by omega)⟩
  · rintro xs cs M h4 hi4 ⟨hxk, hrep⟩ hz4 m1 m2 t
    obtain ⟨hM, hlt, hx, v, own, w1, g, ho⟩ := (hI _ _ _).1 hi4
    obtain ⟨ka, kc, sa, sc, na, nc, xa, xc, rfl, r1, _⟩ := cell_open hrep
    have hlt' : ∀ b, M b → b < h4.size := fun b hb => (hlt b hb).1
    simp -dsimp
    rw [push_set rfl]
    generalize hB2 : Array.push h4 _ = h5
    have k5 : Keep none_ h4 h5 := by rw [← hB2]; exact .push _ _ _
    have hC : h5[h4.size]? = some (.cells #[.slice ka L[xs.length].key.length kc, .int .i64 L[xs.length].count, .slice sa L[xs.length].sum.length sc, .slice na L[xs.length].mn.length nc, .slice xa L[xs.length].mx.length xc] 65 (0, 0)) := by rw [← hB2]; exact push_new _ _
    refine ⟨k5, fun h6 k6 hz6 => ?_⟩
    have l4 := lt_of_blk w1
    have hzz : h5.size = h4.size + 1 := by rw [← hB2]; simp
    have t46 : Tr M M h4 h6 := (Tr.call ⟨.refl _ _, fun _ h => .inl h, hlt'⟩ k5).trans (.lp (fun b hb => Nat.lt_of_lt_of_le (hlt' b hb) k5.size) m2 k6)
    have g6 := (g.call k5).lp (fun b hb => Nat.lt_of_lt_of_le (hlt' b hb) k5.size) m2 (fun e => by have := ho _ e; omega) k6
    have w6 := k6.at (k5.at w1 (fun h => h)) (by omega)
    have hC6 := k6.at hC (by omega)
    have u6 := t.trans t46
    have wS6 := u6.at wS (by omega)
    have wQ6 := u6.at wQ (by omega)
    have hrep6 := rCell.mono hrep (t46.ft (Nat.le_refl _))
    obtain ⟨va, vn, vc, rfl, hvn⟩ := g6.vals
    refine drawn_by [⟨0, true, []⟩, ⟨1, true, []⟩, ⟨2, true, []⟩, ⟨3, true, []⟩, ⟨4, true, []⟩, ⟨5, false, [0]⟩, ⟨6, false, [0]⟩, ⟨7, false, []⟩, ⟨8, false, []⟩] (by kernel_rfl) (by kernel_rfl) ?_
    simp -dsimp [w6, hC6, wS6, wQ6]
    refine call_by (narrow_spec k a (rCell.mono hrep6 (Ft.free (Nat.zero_le _))) (hLs _ (List.getElem_mem hxk))) ?_
    rintro _ h7 ⟨ds, rfl, rd, k7⟩
    have rd7 := rCell.mono rd (t46.ret (n := h.size) (by have := k03.size; have := t.size; have := t46.size; omega))
    obtain ⟨ka', kc', sa', sc', na', nc', xa', xc', rfl, q1, _⟩ := cell_open rd
    have w7 := k7.at w6 (fun h => h)
    have t7 := t46.call k7
    have g7 := g6.call k7
    have hlm : ((L.take xs.length).map (narrowC k a)).length = xs.length := by rw [List.length_map, List.length_take]; omega
    have w7p : ∀ o, (h7.push o)[b8]? = some (.cells #[.slice va vn vc] 43 (0, 0)) := fun o => push_at w7
    simp -dsimp [again_cons, w7, w7p]
    refine gr_app1 (x := narrowC k a L[xs.length]) rfl cellT g7 t7.lt rd7 rfl (by omega) (by omega) ?_
    intro v' h8 own' g8 t8 k8 ho8
    have w8 := k8.at w7 (fun e => by have := ho _ e; omega)
    have ho8' : ∀ b, own' = some b → h3.size + 2 ≤ b := fun b e => (ho8 _ e).elim (ho b) (by have := t7.size; omega)
    obtain ⟨va', vn', vc', rfl, hvn'⟩ := g8.vals
    have hl8 := lt_of_blk w8
    simp -dsimp [again_cons, w8]
    have t9 := (t7.trans t8).set (.cells #[.slice va' vn' vc'] 43) (.inl hM)
    refine ⟨_, (hI _ _ _).2 ⟨.inl hM, fun b hb => ⟨t9.lt b hb, ?_⟩, by simp; omega, _, own', set_same _ hl8, ?_, ho8'⟩, t9, .inl m1, .inl m2, (set_other _ (by omega)).trans ((k8.blk _ (by have := t7.size; omega) fun e => by have := ho _ e; omega).trans (k7.blk _ (by omega) fun h => h)), (set_other _ (by omega)).trans ((k8.blk _ (by have := t7.size; omega) fun e => by have := ho _ e; omega).trans (k7.blk _ (by omega) fun h => h))⟩
    · rcases hb with hb | hb
      · exact (hlt b hb).2
      · exact .inr (by have := ho8' b hb; omega)
    rw [List.length_append, List.length_singleton, take_snoc hxk, List.map_append]
    exact g8.set _ (.inl hM) (fun e => by have := ho8' _ e; omega)
  · rintro xs M h4 hxl hi4 hdm hz4 m1 m2 t
    obtain ⟨hM, hlt, hx, v, own, w1, g, ho⟩ := (hI _ _ _).1 hi4
    have T4 := Tr.from_ k03 t (fun b hb => by omega)
    rw [hxl, List.take_length] at g
    obtain ⟨va, vn, vc, rfl, hvn⟩ := g.vals
    have hLL : (L.map (narrowC (k : Int) a)).length = L.length := List.length_map _
    simp -dsimp [w1]
    refine call_by (cgroup_spec ((g.newC (n0 := 0) (Nat.zero_le _) (fun _ _ => Nat.zero_le _)).rep (Nat.le_refl 0)) (by omega) fun d hd => ?_) ?_
    · obtain ⟨c, hc, rfl⟩ := List.mem_map.1 hd
      exact narrow_small (hLs c hc)
    rintro v5 h5 ⟨g5, k5⟩
    have T5 := T4.call k5
    have hdm5 := k5.at hdm (fun h => h)
    simp -dsimp
    rw [takeS_cons hdm5]
    simp -dsimp
    have u := T5.set (.deferred none) m1
    have ek : Keep none_ h5 (h5.setIfInBounds h3.size (.deferred none)) → True := fun _ => trivial
    refine hK _ _ ⟨_, _, rfl, u.keep, .inr (.inr ⟨hr, k, l, hs, rfl, ?_⟩)⟩
    have e : groupC (L.map (narrowC (k : Int) a)) = askM k l a fs := by rw [eL]; rfl
    rw [← e]
    have hk4 := t.size
    exact (g5.keepS ((Keep.refl (fun b => b = h3.size) h5).setted _ fun _ => rfl) (fun b hb => by omega)).older (by omega)
end Go.Proofs

/-
  The document's facts, cells and Server.
-/
namespace Go.HC
/-- What the facts' file says. -/
def FactsIn (M : Mod) : Prop := (M.look nmFact).isSome = true ∧ DecOk (M.nowOf nmFact)
theorem CubeAt.facts {M : Mod} {s : SchM} {rows : List RowM} (C : CubeAt M s rows) : FactsIn M ∧ schB (M.nowOf nmFact) = s ∧ rowsB (M.nowOf nmFact) = rows := by
  obtain ⟨h1, h2, h3⟩ := dec_enc C.ok
  rw [← C.fact] at h1 h2 h3
  exact ⟨⟨C.there, h1⟩, h2, h3⟩
end Go.HC
namespace Go.Proofs
open Go Go.HC

set_option maxHeartbeats 4000000 in
set_option maxRecDepth 10000 in
theorem facts14_spec {h : Heap} {v : Value} {F : Nat → Prop} {M : Mod} (st : RefAt v F h M) (hu : usedF M.files < 1000000) (hl : M.files.length < 1000000) (hd : (M.nowOf nmFact).length < 1000000) :
    CallH Tryz.prog 49 #[v] h fun r h' => ∃ cv ms rv ok, r = .tuple #[.agg #[cv, .int .i64 ms], rv, .bool ok] ∧ Keep none_ h h' ∧
      ((FactsIn M ∧ ok = true ∧ ms = (schB (M.nowOf nmFact)).ms ∧ SlRep rInt (Ft h.size none_ h') h' cv (schB (M.nowOf nmFact)).cards) ∨ (¬ FactsIn M ∧ ok = false ∧ cv = .slice none 0 0 ∧ ms = 0)) := by
  refine callH_by fun K hK => ?_
  refine enter [.cell 2 30, .tmp 3, .tmp 4] Tryz.func49 rfl rfl (by kernel_rfl) rfl ?_
  simp -dsimp
  generalize hB : Array.push h _ = h0
  have k0 : Keep none_ h h0 := by rw [← hB]; exact .push _ _ _
  have z0 : h0.size = h.size + 1 := by rw [← hB]; simp
  have wC : h0[h.size]? = some (.cells #[.slice none 0 0, .int .i64 0] 30 (0, 0)) := by rw [← hB]; exact push_new _ _
  refine call_by (rread_spec (st.keep k0 fun _ _ h => h) (by omega) (by omega) nmFact) ?_
  rintro _ h1 ⟨u, ou, rfl, gu, k1, hou⟩
  obtain ⟨ua, uc, rfl⟩ := gu.val
  have w1 := k1.at wC (fun h => h)
  have l1 := lt_of_blk w1
  have k01 : Keep none_ h h1 := k0.trans k1 fun _ _ h => h
  cases hth : (M.look nmFact).isSome with
  | false =>
    simp -dsimp [w1, set_same _ l1]
    exact hK _ _ ⟨_, _, _, _, rfl, k01.setted _ fun hh => by omega, .inr ⟨fun hf => Bool.noConfusion (hf.1.symm.trans hth), rfl, rfl, rfl⟩⟩
  | true =>
    have hub : SlRep rByte (Old h1) h1 (.slice ua (M.nowOf nmFact).length uc) (M.nowOf nmFact) := gu.bytes.mono fun b hb => ⟨⟨nz, gu.own_lt b hb, fun h => h⟩, rfl⟩
    simp -dsimp
    refine call_by (rdecode_spec hub hd) ?_
    rintro _ h2 ⟨cv, ms, rv, e, rfl, k2, hcase⟩
    have w2 := k2.at w1 (fun h => h)
    have l2 := lt_of_blk w2
    have k02 : Keep none_ h h2 := k01.trans k2 fun _ _ h => h
    have hne : h.size ≠ h2.size := by omega
    rcases hcase with ⟨hdk, rfl, rfl, hcv, hrv⟩ | ⟨hno, rfl, rfl, rfl, rfl⟩
    · obtain ⟨ca, cc, rfl, _, _⟩ := hcv.val
      simp -dsimp
      rw [push_set rfl]
      generalize hD : Array.push h2 _ = h3
      have k3 : Keep none_ h2 h3 := by rw [← hD]; exact .push _ _ _
      have k03 : Keep none_ h h3 := k02.trans k3 fun _ _ h => h
      have w3 := k3.at w2 (fun h => h)
      have l3 := lt_of_blk w3
      have wN : h3[h2.size]? = some (.cells #[.slice ca (schB (M.nowOf nmFact)).cards.length cc, .int .i64 (schB (M.nowOf nmFact)).ms] 30 (0, 0)) := by rw [← hD]; exact push_new _ _
      simp -dsimp [w3, set_same _ l3]
      have kk : Keep none_ h (h3.setIfInBounds h.size (.cells #[.slice ca (schB (M.nowOf nmFact)).cards.length cc, .int .i64 (schB (M.nowOf nmFact)).ms] 30)) := k03.setted _ fun hh => by omega
      refine hK _ _ ⟨_, _, _, _, rfl, kk, .inl ⟨⟨hth, hdk⟩, rfl, rfl, hcv.mono fun b hb => ?_⟩⟩
      have q1 := hb.1.1
      have q2 := hb.2.1
      have e : (h3.setIfInBounds h.size (.cells #[.slice ca (schB (M.nowOf nmFact)).cards.length cc, .int .i64 (schB (M.nowOf nmFact)).ms] 30))[b]? = h2[b]? := by
        rw [set_other _ (by have := k1.size; omega)]
        exact k3.blk b q2 (fun h => h)
      exact ⟨⟨hb.1.at (by have := k1.size; omega) e, by have := k3.size; simp; omega, fun h => h⟩, e⟩
    · simp -dsimp
      rw [push_set rfl]
      generalize hD : Array.push h2 _ = h3
      have k3 : Keep none_ h2 h3 := by rw [← hD]; exact .push _ _ _
      have k03 : Keep none_ h h3 := k02.trans k3 fun _ _ h => h
      have w3 := k3.at w2 (fun h => h)
      have l3 := lt_of_blk w3
      have wN : h3[h2.size]? = some (.cells #[.slice none 0 0, .int .i64 0] 30 (0, 0)) := by rw [← hD]; exact push_new _ _
      simp -dsimp [w3, set_same _ l3]
      exact hK _ _ ⟨_, _, _, _, rfl, k03.setted _ fun hh => by omega, .inr ⟨fun hf => hno hf.2, rfl, rfl, rfl⟩⟩

set_option maxHeartbeats 4000000 in
set_option maxRecDepth 10000 in
theorem cells14_spec {h : Heap} {v cv : Value} {F : Nat → Prop} {M : Mod} {s : SchM} {rows : List RowM} {k : Nat} (st : RefAt v F h M) (hu : usedF M.files < 1000000) (hl : M.files.length < 1000000) (hcv : SlRep rInt (Old h) h cv s.cards) (C : CubeAt M s rows) (hk : k < 2 ^ s.cards.length) :
    CallH Tryz.prog 51 #[v, .agg #[cv, .int .i64 s.ms], .int .i64 k] h fun r h' => ∃ rv, r = .tuple #[rv, .bool (comM M rows k).isSome] ∧ Keep none_ h h' ∧ SlRep rCell (Ft h.size none_ h') h' rv ((comM M rows k).getD []) := by
  refine callH_by fun K hK => ?_
  refine enter [.tmp 6, .tmp 7] Tryz.func51 rfl rfl (by kernel_rfl) rfl ?_
  have hcv0 := hcv
  have hd4 := C.ok.dims.2
  have hp4 : 2 ^ s.cards.length ≤ 2 ^ 4 := Nat.pow_le_pow_right (by decide) hd4
  obtain ⟨ca, cc, rfl, _, _⟩ := hcv.val
  simp -dsimp [boxS_eq]
  generalize hB : Array.push h _ = h0
  have k0 : Keep none_ h h0 := by rw [← hB]; exact .push _ _ _
  have z0 : h0.size = h.size + 1 := by rw [← hB]; simp
  have wC : h0[h.size]? = some (.cells #[.slice ca s.cards.length cc, .int .i64 s.ms] 30 (0, 0)) := by rw [← hB]; exact push_new _ _
  refine call_by (rname_spec (k := (k : Int)) (by omega) (by omega) h0) ?_
  rintro _ h1 ⟨rfl, k1⟩
  have k01 : Keep none_ h h1 := k0.trans k1 fun _ _ h => h
  simp -dsimp
  refine call_by (rread_spec (st.keep k01 fun _ _ h => h) (by omega) (by omega) (nameK (k : Int))) ?_
  rintro _ h2 ⟨u, ou, rfl, gu, k2, hou⟩
  obtain ⟨ua, uc, rfl⟩ := gu.val
  have k02 : Keep none_ h h2 := k01.trans k2 fun _ _ h => h
  have w2 := (k1.trans k2 fun _ _ h => h).at wC (fun h => h)
  cases hth : (M.look (nameK (k : Int))).isSome with
  | false =>
    have e : comM M rows k = none := by unfold comM; rw [hth]; rfl
    rw [e] at hK
    simp -dsimp
    exact hK _ _ ⟨_, rfl, k02, SlRep.nil _ _ _⟩
  | true =>
    have e : comM M rows k = some (groupC (rows.map (ofM (k : Int)))) := by unfold comM; rw [if_pos hth]
    rw [e] at hK
    rw [C.set k hk hth] at gu ⊢
    have hub : SlRep rByte (Old h2) h2 _ (encC (k : Int) (groupC (rows.map (ofM (k : Int))))) := gu.bytes.mono fun b hb => ⟨⟨nz, gu.own_lt b hb, fun h => h⟩, rfl⟩
    simp -dsimp [w2]
    refine call_by (rcdecode_spec (hcv0.mono ((Tr.of k02).ft (Nat.le_refl 0))) hub (cub_ok C.ok (by omega) (by exact_mod_cast hk))) ?_
    rintro _ h3 ⟨rv, rfl, hrv, k3⟩
    simp -dsimp
    exact hK _ _ ⟨_, rfl, k02.trans k3 fun _ _ h => h, hrv.mono fun b hb => ⟨⟨hb.1.less (by have := k02.size; omega), hb.2.1, fun h => h⟩, rfl⟩⟩
end Go.Proofs

/-
  The document's Server.
-/
namespace Go.HC
/-- How many cells the best has: -1 if there is none. -/
def bestN : Option (Nat × List CellM) → Int
  | none => -1
  | some b => b.2.length
def bestK : Option (Nat × List CellM) → Int
  | none => 0
  | some b => b.1
end Go.HC
namespace Go.Proofs
open Go Go.HC

set_option maxHeartbeats 1000000 in
set_option maxRecDepth 10000 in
theorem server14_spec {h : Heap} {v fv : Value} {F : Nat → Prop} {M : Mod} {s : SchM} {rows : List RowM} {a : Int} {fs : List FilM} (st : RefAt v F h M) (hu : usedF M.files < 1000000) (hl : M.files.length < 1000000) (hq : SlRep rFil (Old h) h fv fs) (C : CubeAt M s rows) :
    CallH Tryz.prog 21 #[v, .agg #[.int .i64 a, fv]] h fun r h' => ∃ x ok, r = .tuple #[.int .i64 x, .bool ok] ∧ Keep none_ h h' ∧
      ((rightM s.cards a fs = false ∧ x = 0 ∧ ok = false) ∨ (rightM s.cards a fs = true ∧ serveM (comM M rows) (needM a fs) (2 ^ s.cards.length) = none ∧ x = 0 ∧ ok = false) ∨
        (rightM s.cards a fs = true ∧ ∃ k l, serveM (comM M rows) (needM a fs) (2 ^ s.cards.length) = some (k, l) ∧ x = k ∧ ok = true)) := by
  refine callH_by fun K hK => ?_
  refine enter [.tmp 4, .tmp 5] Tryz.func21 rfl rfl (by kernel_rfl) rfl ?_
  have hq0 := hq
  obtain ⟨fa, fc, rfl, _, _⟩ := hq.val
  obtain ⟨hfin, hsch, hrows⟩ := C.facts
  have hd4 := C.ok.dims
  have hp4 : 2 ^ s.cards.length ≤ 2 ^ 4 := Nat.pow_le_pow_right (by decide) hd4.2
  simp -dsimp [boxS_eq]
  generalize hB : Array.push h _ = h0
  have k0 : Keep none_ h h0 := by rw [← hB]; exact .push _ _ _
  have z0 : h0.size = h.size + 1 := by rw [← hB]; simp
  have wQ : h0[h.size]? = some (.cells #[.int .i64 a, .slice fa fs.length fc] 27 (0, 0)) := by rw [← hB]; exact push_new _ _
  refine call_by (facts14_spec (st.keep k0 fun _ _ h => h) hu hl (by have := now_le st.ok nmFact; omega)) ?_
  rintro _ h1 ⟨cv, ms, rv, ok, rfl, k1, hcase⟩
  rcases hcase with ⟨_, rfl, ems, hcv⟩ | ⟨hno, _⟩
  rotate_left
  · exact absurd hfin hno
  rw [hsch] at ems hcv
  subst ems
  obtain ⟨ca, cc, rfl, _, _⟩ := hcv.val
  have k01 : Keep none_ h h1 := k0.trans k1 fun _ _ h => h
  have wQ1 := k1.at wQ (fun h => h)
  simp -dsimp
  rw [push_set rfl]
  obtain ⟨b6, e6⟩ : ∃ b6, b6 = h1.size := ⟨_, rfl⟩
  rw [← e6]
  generalize hD : Array.push h1 _ = h2
  have k2 : Keep none_ h1 h2 := by rw [← hD]; exact .push _ _ _
  have k02 : Keep none_ h h2 := k01.trans k2 fun _ _ h => h
  have wS : h2[b6]? = some (.cells #[.slice ca s.cards.length cc, .int .i64 s.ms] 30 (0, 0)) := by rw [← hD, e6]; exact push_new _ _
  have wQ2 := k2.at wQ1 (fun h => h)
  have hcz : ∀ {z : Heap}, Keep none_ h2 z → SlRep rInt (Old z) z (.slice ca s.cards.length cc) s.cards := fun kz => ((hcv.mono ((Tr.of k2).ft (Nat.zero_le _))).mono ((Tr.of kz).ft (Nat.le_refl 0)))
  have hqz : ∀ {z : Heap}, Keep none_ h2 z → SlRep rFil (Old z) z (.slice fa fs.length fc) fs := fun kz => hq0.mono ((Tr.of (k02.trans kz fun _ _ h => h)).ft (Nat.le_refl 0))
  simp -dsimp [wQ2]
  refine call_by (rqright_spec (hcz (.refl _ _)) (hqz (.refl _ _)) hd4.2) ?_
  rintro _ h3 ⟨rfl, k3⟩
  have k03 : Keep none_ h h3 := k02.trans k3 fun _ _ h => h
  have wS3 := k3.at wS (fun h => h)
  have wQ3 := k3.at wQ2 (fun h => h)
  cases hright : rightM s.cards a fs with
  | false =>
    simp -dsimp
    exact hK _ _ ⟨_, _, rfl, k03, .inl ⟨hright, rfl, rfl⟩⟩
  | true =>
    have hfs : ∀ f ∈ fs, 0 ≤ f.dim ∧ f.dim < 4 := fun f hf => by
      have hr' := hright
      unfold rightM at hr'
      split at hr'
      · cases hr'
      · have := rightF_ok hr' f hf
        omega
    obtain ⟨com, ecom⟩ : ∃ com, com = comM M rows := ⟨_, rfl⟩
    obtain ⟨need, eneed⟩ : ∃ need, need = needM a fs := ⟨_, rfl⟩
    have hsh := shl_one (k := s.cards.length) (by omega)
    obtain ⟨n, en⟩ : ∃ n : Nat, n = 2 ^ s.cards.length := ⟨_, rfl⟩
    have hn : ((2 : Int) ^ s.cards.length) = (n : Int) := by rw [en]; simp
    rw [hn] at hsh
    rw [← en] at hp4 hK
    obtain ⟨B, hB0, hBs⟩ : ∃ B : Nat → Option (Nat × List CellM), B 0 = none ∧ (∀ i, B (i + 1) = stepM com need (B i) i) ∧ B n = serveM (comM M rows) (needM a fs) n := ⟨serveM com need, rfl, fun i => serve_succ _ _ _, by rw [ecom, eneed]⟩
    obtain ⟨hBs, hBn⟩ := hBs
    rw [← hBn] at hK
    simp -dsimp
    refine loopc (σ := Nat) (fun i => [(0, v), (3, .pointer (some ⟨h.size, 0, none⟩)), (6, .pointer (some ⟨b6, 0, none⟩)), (9, .int .i64 (bestK (B i))), (10, .int .i64 (bestN (B i))), (11, .int .i64 i)])
      (fun i y => Keep none_ h3 y ∧ i ≤ n) (fun i => n - i) 0 0 (fun i _ => i = n) noRet noRet_le (by simp [hB0, bestK, bestN]) ⟨.refl _ _, Nat.zero_le _⟩ (by kernel_rfl) ?_ ?_
    · rintro i y g ⟨ky, hi⟩
      have wSy := ky.at wS3 (fun h => h)
      have wQy := ky.at wQ3 (fun h => h)
      have k0y : Keep none_ h y := k03.trans ky fun _ _ h => h
      have k2y : Keep none_ h2 y := k3.trans ky fun _ _ h => h
      by_cases hin : i < n
      · have wi := wrap_succ (k := i) (by omega)
        simp -dsimp [-intRes_shl, wSy, hsh, hin]
        refine call_by (cells14_spec (st.keep k0y fun _ _ h => h) hu hl (hcz k2y) C (by rw [← en]; exact hin)) ?_
        rintro _ y1 ⟨rv, rfl, k1y, hrv⟩
        obtain ⟨ra, rc, rfl, _, _⟩ := hrv.val
        have kyy : Keep none_ h3 y1 := ky.trans k1y fun _ _ h => h
        have k2y1 : Keep none_ h2 y1 := k3.trans kyy fun _ _ h => h
        have wQ1y := k1y.at wQy (fun h => h)
        have hstep := hBs i
        unfold stepM at hstep
        rw [ecom] at hstep
        cases hc : comM M rows i with
        | none =>
          rw [hc] at hstep
          have hstep : B (i + 1) = B i := by rw [hstep]; split <;> rfl
          simp -dsimp
          refine drawn_by [⟨0, true, []⟩, ⟨1, true, []⟩, ⟨2, true, []⟩, ⟨3, true, []⟩, ⟨6, true, []⟩, ⟨4, false, [2, 6]⟩, ⟨5, true, []⟩, ⟨7, false, [2, 5]⟩, ⟨8, true, []⟩, ⟨9, true, []⟩, ⟨10, true, []⟩, ⟨11, true, []⟩, ⟨12, true, []⟩, ⟨13, true, []⟩, ⟨14, true, []⟩, ⟨15, true, []⟩, ⟨16, true, []⟩, ⟨17, true, []⟩, ⟨18, true, []⟩, ⟨19, true, []⟩] (by kernel_rfl) (by kernel_rfl) ?_
          simp -dsimp [wi]
          exact ⟨i + 1, by simp [hstep], rfl, ⟨kyy, hin⟩, by show n - (i + 1) < n - i; omega⟩
        | some l =>
          rw [hc] at hstep
          simp -dsimp
          refine drawn_by [⟨0, true, []⟩, ⟨1, true, []⟩, ⟨2, true, []⟩, ⟨3, true, []⟩, ⟨6, true, []⟩, ⟨4, false, [2, 6]⟩, ⟨5, true, []⟩, ⟨7, false, [2, 5]⟩, ⟨8, true, []⟩, ⟨9, true, []⟩, ⟨10, true, []⟩, ⟨11, true, []⟩, ⟨12, true, []⟩, ⟨13, true, []⟩, ⟨14, true, []⟩, ⟨15, true, []⟩, ⟨16, true, []⟩, ⟨17, true, []⟩, ⟨18, true, []⟩, ⟨19, true, []⟩] (by kernel_rfl) (by kernel_rfl) ?_
          simp -dsimp [wQ1y]
          refine call_by (rneed_spec (hqz k2y1) hfs) ?_
          rintro _ y2 ⟨rfl, k2'⟩
          have wQ2y := k2'.at wQ1y (fun h => h)
          have k2y2 : Keep none_ h2 y2 := k2y1.trans k2' fun _ _ h => h
          simp -dsimp [-intRes_and, again_cons, wQ2y, and_op]
          refine call_by (rneed_spec (hqz k2y2) hfs) ?_
          rintro _ y3 ⟨rfl, k3'⟩
          have wQ3y := k3'.at wQ2y (fun h => h)
          have kyz : Keep none_ h3 y3 := (kyy.trans k2' fun _ _ h => h).trans k3' fun _ _ h => h
          rw [← eneed]
          by_cases hand : andM (i : Int) need = need
          · rw [if_pos hand] at hstep
            simp -dsimp [-intRes_and, again_cons, wQ3y, and_op, hand]
            cases hb : B i with
            | none =>
              rw [hb] at hstep
              have e1 : bestN (none : Option (Nat × List CellM)) = -1 := rfl
              have hneg : (-1 : Int) < 0 := by decide
              have hstep : B (i + 1) = some (i, l) := hstep
              simp -dsimp [e1, wi]
              exact ⟨i + 1, by simp [hstep, bestN, bestK], rfl, ⟨kyz, hin⟩, by show n - (i + 1) < n - i; omega⟩
            | some b =>
              rw [hb] at hstep
              have e1 : bestN (some b) = (b.2.length : Int) := rfl
              have hneg : ¬ ((b.2.length : Int) < 0) := by omega
              have hstep : B (i + 1) = if l.length < b.2.length then some (i, l) else some b := hstep
              by_cases hlt : l.length < b.2.length
              · rw [if_pos hlt] at hstep
                simp -dsimp [e1, hneg, hlt, wi]
                exact ⟨i + 1, by simp [hstep, bestN, bestK], rfl, ⟨kyz, hin⟩, by show n - (i + 1) < n - i; omega⟩
              · rw [if_neg hlt] at hstep
                simp -dsimp [e1, hneg, hlt, wi]
                exact ⟨i + 1, by simp [hstep, bestN, bestK], rfl, ⟨kyz, hin⟩, by show n - (i + 1) < n - i; omega⟩
          · rw [if_neg hand] at hstep
            have hbne : (andM (i : Int) need == need) = false := by rw [beq_eq_false_iff_ne]; exact hand
            simp -dsimp [-intRes_and, again_cons, wQ3y, and_op, hbne, wi]
            exact ⟨i + 1, by simp [hstep], rfl, ⟨kyz, hin⟩, by show n - (i + 1) < n - i; omega⟩
      · simp -dsimp [-intRes_shl, wSy, hsh, hin]
        exact ⟨rfl, i, by simp, rfl, ⟨ky, hi⟩, by show i = n; omega⟩
    · rintro i y g ⟨ky, hi⟩ hil
      have hil : i = n := hil
      subst hil
      have k0y : Keep none_ h y := k03.trans ky fun _ _ h => h
      cases hb : B i with
      | none =>
        simp -dsimp [bestN, bestK]
        exact hK _ _ ⟨_, _, rfl, k0y, .inr (.inl ⟨hright, hb, rfl, rfl⟩)⟩
      | some b =>
        obtain ⟨k, l⟩ := b
        have hneg : (0 : Int) ≤ (l.length : Int) := by omega
        simp -dsimp [bestN, bestK, hneg]
        exact hK _ _ ⟨_, _, rfl, k0y, .inr (.inr ⟨hright, k, l, hb, rfl, rfl⟩)⟩
end Go.Proofs

/-
  The document's filters over a cell.
-/
namespace Go.HC
theorem pick_not (D : Nat) (hD : D < 4) : ∀ (ds : List Nat) (key : List Int), (∀ d ∈ ds, d < 4 ∧ d ≠ D) → pickN (2 ^ D) ds key = []
  | [], key, _ => by unfold pickN; simp
  | d :: ds, [], _ => by unfold pickN; simp
  | d :: ds, x :: key, h => by
    obtain ⟨h1, h2⟩ := h d (List.mem_cons_self ..)
    rw [pickN_cons, bit_pow hD h1, if_neg (by simpa using h2), pick_not D hD ds key fun d hd => h d (List.mem_cons_of_mem _ hd)]
theorem pick_here (D : Nat) (hD : D < 4) : ∀ (ds : List Nat) (key : List Int) (j : Nat), ds.Nodup → (∀ d ∈ ds, d < 4) → ds[j]? = some D → (hj : j < key.length) → pickN (2 ^ D) ds key = [key[j]]
  | [], key, j, _, _, h, _ => by simp at h
  | d :: ds, [], j, _, _, _, hj => by simp at hj
  | d :: ds, x :: key, 0, hn, h4, h, hj => by
    have e : d = D := by simpa using h
    subst e
    obtain ⟨n1, n2⟩ := List.nodup_cons.1 hn
    rw [pickN_cons, bit_pow hD hD, if_pos (by simp), pick_not d hD ds key fun y hy => ⟨h4 y (List.mem_cons_of_mem _ hy), fun e => n1 (e ▸ hy)⟩]
    rfl
  | d :: ds, x :: key, j + 1, hn, h4, h, hj => by
    obtain ⟨n1, n2⟩ := List.nodup_cons.1 hn
    have h' : ds[j]? = some D := by simpa using h
    have hm : D ∈ ds := List.mem_of_getElem? h'
    have hne : d ≠ D := fun e => n1 (e ▸ hm)
    rw [pickN_cons, bit_pow hD (h4 d (List.mem_cons_self ..)), if_neg (by simpa using hne)]
    rw [pick_here D hD ds key j n2 (fun y hy => h4 y (List.mem_cons_of_mem _ hy)) h' (by simpa using hj)]
    rfl
/-- A dimension's value in a cell of a set that has it. -/
theorem pick_set {a : Int} {D : Nat} {key : List Int} (hD : D < 4) (hb : bitM a D = true) (hk : key.length = (dimsM a).length) : ∃ h : cntD a D < key.length, pickN (2 ^ D) (dimsM a) key = [key[cntD a D]] := by
  have h1 : (dimsM a)[cntD a D]? = some D := filter_at hD hb
  have h2 : cntD a D < key.length := by rw [hk]; exact (List.getElem?_eq_some_iff.1 h1).1
  refine ⟨h2, pick_here D hD _ key _ (List.nodup_range.sublist List.filter_sublist) (fun d hd => ?_) h1 h2⟩
  have := (List.mem_filter.1 hd).1
  simpa using this
/-- Does a filter let a key by? -/
def okF (a : Int) (key : List Int) (f : FilM) : Bool := match pickN (2 ^ f.dim.toNat) (dimsM a) key with
  | [v] => decide (f.lo ≤ v) && decide (v ≤ f.hi)
  | _ => false
theorem letM_okF (a : Int) (fs : List FilM) (key : List Int) : letM a fs key = fs.all (okF a key) := rfl
end Go.HC
namespace Go.Proofs
open Go Go.HC

set_option maxHeartbeats 1000000 in
set_option maxRecDepth 10000 in
theorem by14_spec {h : Heap} {cs : List Value} {c : CellM} {fv : Value} {k a : Int} {fs : List FilM} (hr : rCell.rep (Old h) h cs c) (hf : SlRep rFil (Old h) h fv fs) (hfs : ∀ f ∈ fs, 0 ≤ f.dim ∧ f.dim < 4 ∧ bitM k f.dim.toNat = true) (hk : c.key.length = (dimsM k).length) :
    CallH Tryz.prog 52 #[.agg cs.toArray, .int .i64 k, .agg #[.int .i64 a, fv]] h fun r h' => r = .bool (letM k fs c.key) ∧ Keep none_ h h' := by
  refine callH_by fun K hK => ?_
  refine enter [.tmp 6] Tryz.func52 rfl rfl (by kernel_rfl) rfl ?_
  have hf0 := hf
  have hr0 := hr
  obtain ⟨fa, fc, rfl, hfc, hfc'⟩ := hf.val
  obtain ⟨ka, kc, sa, sc, na, nc, xa, xc, rfl, r1, r2, r3, r4⟩ := cell_open hr
  rw [letM_okF] at hK
  obtain ⟨P, hP⟩ : ∃ P, P = okF k c.key := ⟨_, rfl⟩
  rw [← hP] at hK
  -- what one filter says
  have hone : ∀ f ∈ fs, ∃ hx : cntD k f.dim.toNat < c.key.length, P f = (decide (f.lo ≤ c.key[cntD k f.dim.toNat]) && decide (c.key[cntD k f.dim.toNat] ≤ f.hi)) := fun f hm => by
    obtain ⟨h1, h2, h3⟩ := hfs f hm
    obtain ⟨hx, e⟩ := pick_set (key := c.key) (D := f.dim.toNat) (by omega) h3 hk
    refine ⟨hx, ?_⟩
    rw [hP]
    unfold okF
    rw [e]
  simp -dsimp [boxS_eq]
  generalize hB : Array.push (Array.push h _) _ = h1
  have k1 : Keep none_ h h1 := by rw [← hB]; exact ((Keep.refl none_ h).pushed _).pushed _
  have w1 : h1[h.size]? = some (.cells #[.slice ka c.key.length kc, .int .i64 c.count, .slice sa c.sum.length sc, .slice na c.mn.length nc, .slice xa c.mx.length xc] 65 (0, 0)) := by rw [← hB]; exact push_at (push_new _ _)
  have w2 : h1[h.size + 1]? = some (.cells #[.int .i64 a, .slice fa fs.length fc] 27 (0, 0)) := by rw [← hB]; exact push_get (by simp)
  refine loopc (σ := Nat) (fun d => [(1, .int .i64 k), (3, .pointer (some ⟨h.size, 0, none⟩)), (5, .pointer (some ⟨h.size + 1, 0, none⟩)), (7, .int .i64 (cntD k d)), (8, .int .i64 d)])
    (fun d y => Keep none_ h1 y ∧ d ≤ 4 ∧ ∀ f ∈ fs, f.dim < d → P f = true) (fun d => 4 - d) 0 0 (fun d _ => d = 4) (endR Tryz.prog [.tmp 6] K).rt (fun _ _ _ h => h) (by simp [cntD]) ⟨.refl _ _, Nat.zero_le _, fun f hm hd => absurd hd (by have := (hfs f hm).1; omega)⟩ (by kernel_rfl) ?_ ?_
  case refine_1 =>
    rintro d y g ⟨ky, hd, hdone⟩
    by_cases hd4 : d < 4
    · have hd4' : (d : Int) < 4 := by omega
      have wk : IntKind.u64.wrap (d : Int) = d := by simp [IntKind.wrap, IntKind.bits, IntKind.signed]; omega
      have hsb : intRes .shr .i64 k (d : Int) = some (.int .i64 (k.fdiv (2 ^ d))) := shr_i (by omega)
      have hc := cntD_le k d
      have wd := wrap_succ (k := d) (by omega)
      have e := cntD_succ k d
      cases hb : bitM k d with
      | false =>
        rw [hb, if_neg (by decide), Nat.add_zero] at e
        simp -dsimp [hd4', hsb, bit_val, wk, hb, wd]
        refine ⟨d + 1, by simp [e], rfl, ⟨ky, by omega, fun f hm hlt => ?_⟩, by show 4 - (d + 1) < 4 - d; omega⟩
        obtain ⟨q1, q2, q3⟩ := hfs f hm
        by_cases he : f.dim = d
        · rw [he, Int.toNat_natCast, hb] at q3; cases q3
        · exact hdone f hm (by omega)
      | true =>
        rw [hb, if_pos rfl] at e
        simp -dsimp [hd4', hsb, bit_val, wk, hb]
        refine loopc (σ := Nat) (fun j => [(1, .int .i64 k), (3, .pointer (some ⟨h.size, 0, none⟩)), (5, .pointer (some ⟨h.size + 1, 0, none⟩)), (7, .int .i64 (cntD k d)), (8, .int .i64 d), (9, .int .i64 j)])
          (fun j z => Keep none_ h1 z ∧ j ≤ fs.length ∧ ∀ f ∈ fs.take j, f.dim = d → P f = true) (fun j => fs.length - j) 0 2 (fun j _ => j = fs.length) (endR Tryz.prog [.tmp 6] K).rt (fun _ _ _ h => h) (by simp) ⟨ky, Nat.zero_le _, fun f hm _ => by simp at hm⟩ (by kernel_rfl) ?_ ?_
        case refine_1 =>
          rintro j z g' ⟨kz, hj, hin⟩
          have v1 := kz.at w1 (fun h => h)
          have v2 := kz.at w2 (fun h => h)
          have k0z : Keep none_ h z := k1.trans kz fun _ _ h => h
          by_cases hjl : j < fs.length
          · have wi := wrap_succ (k := j) (by omega)
            obtain ⟨bk, off, cs, rfl, hfb, hrep, hcs⟩ := (hf0.mono ((Tr.of k0z).ft (Nat.le_refl 0))).get j hjl
            obtain rfl : cs = [.int .i64 fs[j].dim, .int .i64 fs[j].lo, .int .i64 fs[j].hi] := hrep
            have hcs : HC.cellsIn z[bk]? (off + j * 3) 3 = some [.int .i64 fs[j].dim, .int .i64 fs[j].lo, .int .i64 fs[j].hi] := hcs
            have hmf := List.getElem_mem hjl
            have htk : fs.take (j + 1) = fs.take j ++ [fs[j]] := by rw [List.take_add_one, List.getElem?_eq_getElem hjl]; rfl
            obtain ⟨f, ef⟩ : ∃ f, f = fs[j] := ⟨_, rfl⟩
            rw [← ef] at hcs hmf htk
            obtain ⟨hx, hPf⟩ := hone f hmf
            simp -dsimp [v2, hjl, idxA_nat hjl, hcs]
            rw [push_set rfl]
            generalize hQ : Array.push z _ = z2
            have k2 : Keep none_ z z2 := by rw [← hQ]; exact .push _ _ _
            have k02 : Keep none_ h z2 := k0z.trans k2 fun _ _ h => h
            have k12 : Keep none_ h1 z2 := kz.trans k2 fun _ _ h => h
            have wF : z2[z.size]? = some (.cells #[.int .i64 f.dim, .int .i64 f.lo, .int .i64 f.hi] 57 (0, 0)) := by rw [← hQ]; exact push_new _ _
            have u1 := k2.at v1 (fun h => h)
            have hnext : (f.dim = d → P f = true) → ∀ f' ∈ fs.take (j + 1), f'.dim = d → P f' = true := fun hh f' hm' he => by
              rw [htk] at hm'
              rcases List.mem_append.1 hm' with hm' | hm'
              · exact hin f' hm' he
              · rw [List.mem_singleton] at hm'; subst hm'; exact hh he
            refine drawn_by [⟨0, true, []⟩, ⟨1, true, []⟩, ⟨2, true, []⟩, ⟨3, true, []⟩, ⟨4, true, []⟩, ⟨5, true, []⟩, ⟨6, true, []⟩, ⟨7, true, []⟩, ⟨8, true, []⟩, ⟨9, true, []⟩, ⟨10, true, []⟩, ⟨11, true, []⟩, ⟨12, true, []⟩, ⟨13, true, []⟩, ⟨14, true, []⟩, ⟨15, true, []⟩, ⟨16, true, []⟩, ⟨17, true, []⟩, ⟨18, true, []⟩, ⟨19, true, []⟩, ⟨20, true, []⟩, ⟨21, true, []⟩, ⟨22, true, []⟩, ⟨23, true, []⟩] (by kernel_rfl) (by kernel_rfl) ?_
            by_cases hdim : f.dim = d
            · have ix1 : cntD k f.dim.toNat = cntD k d := by rw [hdim, Int.toNat_natCast]
              simp only [ix1] at hx hPf
              obtain ⟨b5, o5, e5, _, hc5⟩ := ((show SlRep rInt (Old h) h (.slice ka c.key.length kc) c.key from r1).mono ((Tr.of k02).ft (Nat.le_refl 0))).int_at (cntD k d) hx
              subst e5
              have ix : ∀ sz ar, idxV sz ar (.slice (some ⟨b5, o5, none⟩) c.key.length kc) (.int .i64 (cntD k d : Int)) = sz.map fun s => .pointer (some ⟨b5, o5 + cntD k d * s, none⟩) := fun sz ar => idxV_nat hx
              generalize c.key[cntD k d] = v at hc5 hPf
              by_cases c1 : v < f.lo
              · simp -dsimp [wF, u1, hdim, ix, hc5, elSz_eq, c1]
                have hfl : P f = false := by rw [hPf, decide_eq_false (by omega : ¬ f.lo ≤ v)]; rfl
                have hall : fs.all P = false := by rw [List.all_eq_false]; exact ⟨f, hmf, by rw [hfl]; decide⟩
                exact hK _ _ ⟨by rw [hall], k02⟩
              · by_cases c2 : f.hi < v
                · simp -dsimp [wF, u1, hdim, ix, hc5, elSz_eq, c1, c2]
                  have hfl : P f = false := by rw [hPf, decide_eq_false (by omega : ¬ v ≤ f.hi), Bool.and_false]
                  have hall : fs.all P = false := by rw [List.all_eq_false]; exact ⟨f, hmf, by rw [hfl]; decide⟩
                  exact hK _ _ ⟨by rw [hall], k02⟩
                · simp -dsimp [wF, u1, hdim, ix, hc5, elSz_eq, c1, c2, wi]
                  have htr : P f = true := by rw [hPf, decide_eq_true (by omega : f.lo ≤ v), decide_eq_true (by omega : v ≤ f.hi)]; rfl
                  exact ⟨j + 1, by simp, rfl, ⟨k12, hjl, hnext fun _ => htr⟩, by show fs.length - (j + 1) < fs.length - j; omega⟩
            · have hne : (f.dim == (d : Int)) = false := by rw [beq_eq_false_iff_ne]; exact hdim
              simp -dsimp [wF, hne, wi]
              exact ⟨j + 1, by simp, rfl, ⟨k12, hjl, hnext fun he => absurd he hdim⟩, by show fs.length - (j + 1) < fs.length - j; omega⟩
          · simp -dsimp [v2, hjl]
            exact ⟨rfl, j, by simp, rfl, ⟨kz, hj, hin⟩, by show j = _; omega⟩
        rintro j z g' ⟨kz, hj, hin⟩ hjl
        have hjl : j = fs.length := hjl
        subst hjl
        rw [List.take_length] at hin
        have wc := wrap_succ (k := cntD k d) (by omega)
        simp -dsimp [wc, wd]
        refine ⟨d + 1, by simp [e], rfl, ⟨kz, by omega, fun f hm hlt => ?_⟩, by show 4 - (d + 1) < 4 - d; omega⟩
        by_cases he : f.dim = d
        · exact hin f hm he
        · exact hdone f hm (by omega)
    · have hd4' : ¬ (d : Int) < 4 := by omega
      simp -dsimp [hd4']
      exact ⟨rfl, d, by simp, rfl, ⟨ky, hd, hdone⟩, by show d = 4; omega⟩
  rintro d y g ⟨ky, hd, hdone⟩ hd4
  have hd4 : d = 4 := hd4
  subst hd4
  have hall : fs.all P = true := List.all_eq_true.2 fun f hm => hdone f hm (by have := (hfs f hm).2.1; omega)
  rw [hall] at hK
  simp -dsimp
  exact hK _ _ ⟨rfl, k1.trans ky fun _ _ h => h⟩
end Go.Proofs

/-
  The document's Ask.
-/
namespace Go.HC
theorem right_set {cards : List Int} {a : Int} {fs : List FilM} (h : rightM cards a fs = true) : (0 ≤ a ∧ a < 2 ^ cards.length) ∧ ∀ f ∈ fs, 0 ≤ f.dim ∧ f.dim < cards.length := by
  unfold rightM at h
  split at h
  · cases h
  · rename_i hn
    exact ⟨by omega, fun f hf => by have := rightF_ok h f hf; omega⟩
theorem serve_bits {s : SchM} {a : Int} {fs : List FilM} {k : Nat} (hd : s.cards.length ≤ 4) (hr : rightM s.cards a fs = true) (hk : k < 2 ^ s.cards.length) (ha : andM (k : Int) (needM a fs) = needM a fs) : ∀ f ∈ fs, 0 ≤ f.dim ∧ f.dim < 4 ∧ bitM (k : Int) f.dim.toNat = true := by
  obtain ⟨h1, h2⟩ := right_set hr
  have hp : (2 : Nat) ^ s.cards.length ≤ 2 ^ 4 := Nat.pow_le_pow_right (by decide) hd
  have hp' : ((2 : Int) ^ s.cards.length) ≤ 16 := by exact_mod_cast hp
  have hf : ∀ f ∈ fs, 0 ≤ f.dim ∧ f.dim < 4 := fun f hm => by have := h2 f hm; omega
  obtain ⟨n1, n2⟩ := need_ok fs (set := a) (by omega) hf
  intro f hm
  obtain ⟨q1, q2⟩ := hf f hm
  refine ⟨q1, q2, ?_⟩
  exact (and_iff (by omega) n1).1 ha f.dim.toNat (by omega) ((n2 _ (by omega)).2 (.inr ⟨f, hm, rfl⟩))
theorem cel_sml {s : SchM} {k : Int} {c : CellM} (h : CelOk s k c) : Sml s.ms.toNat c := ⟨by have := h.klen; have : (dimsM k).length ≤ 4 := cntD_le k 4; omega, h.sum, h.mn, h.mx⟩
theorem narrow_sml {a b : Int} {m : Nat} {c : CellM} (h : Sml m c) : Sml m (narrowC a b c) := ⟨by have := pickN_le b (dimsM a) c.key; have := h.key; show (pickN b (dimsM a) c.key).length ≤ _; omega, h.sum, h.mn, h.mx⟩
theorem group_snoc (l : List CellM) (c : CellM) : groupC (l ++ [c]) = putC (groupC l) c := by unfold groupC; rw [List.foldl_append]; rfl
end Go.HC
namespace Go.Proofs
open Go Go.HC

set_option maxHeartbeats 1000000 in
set_option maxRecDepth 10000 in
theorem ask14_spec {h : Heap} {v fv : Value} {F : Nat → Prop} {M : Mod} {s : SchM} {rows : List RowM} {a : Int} {fs : List FilM} (st : RefAt v F h M) (hu : usedF M.files < 1000000) (hl : M.files.length < 1000000) (hq : SlRep rFil (Old h) h fv fs) (C : CubeAt M s rows) :
    CallH Tryz.prog 19 #[v, .agg #[.int .i64 a, fv]] h fun r h' => ∃ cv e, r = .tuple #[cv, .int .i64 e] ∧ Keep none_ h h' ∧
      ((rightM s.cards a fs = false ∧ cv = .slice none 0 0 ∧ e = 7) ∨ (rightM s.cards a fs = true ∧ serveM (comM M rows) (needM a fs) (2 ^ s.cards.length) = none ∧ cv = .slice none 0 0 ∧ e = 8) ∨
        (rightM s.cards a fs = true ∧ ∃ (k : Nat) (l : List CellM), serveM (comM M rows) (needM a fs) (2 ^ s.cards.length) = some (k, l) ∧ e = 0 ∧ SlRep rCell (Ft h.size none_ h') h' cv (askM k l a fs))) := by
  refine callH_by fun K hK => ?_
  refine enter [.tmp 4, .tmp 5] Tryz.func19 rfl rfl (by kernel_rfl) rfl ?_
  have hq0 := hq
  obtain ⟨fa, fc, rfl, _, _⟩ := hq.val
  obtain ⟨hfin, hsch, hrows⟩ := C.facts
  have hd4 := C.ok.dims
  have hms := C.ok.ms
  simp -dsimp [boxS_eq]
  generalize hB : Array.push h _ = h0
  have k0 : Keep none_ h h0 := by rw [← hB]; exact .push _ _ _
  have z0 : h0.size = h.size + 1 := by rw [← hB]; simp
  have wQ : h0[h.size]? = some (.cells #[.int .i64 a, .slice fa fs.length fc] 27 (0, 0)) := by rw [← hB]; exact push_new _ _
  refine call_by (facts14_spec (st.keep k0 fun _ _ h => h) hu hl (by have := now_le st.ok nmFact; omega)) ?_
  rintro _ h1 ⟨cv, ms, rv, ok, rfl, k1, hcase⟩
  rcases hcase with ⟨_, rfl, ems, hcv⟩ | ⟨hno, _⟩
  rotate_left
  · exact absurd hfin hno
  rw [hsch] at ems hcv
  subst ems
  obtain ⟨ca, cc, rfl, _, _⟩ := hcv.val
  have k01 : Keep none_ h h1 := k0.trans k1 fun _ _ h => h
  have wQ1 := k1.at wQ (fun h => h)
  simp -dsimp
  rw [push_set rfl]
  obtain ⟨b6, e6⟩ : ∃ b6, b6 = h1.size := ⟨_, rfl⟩
  rw [← e6]
  generalize hD : Array.push h1 _ = h2
  have k2 : Keep none_ h1 h2 := by rw [← hD]; exact .push _ _ _
  have k02 : Keep none_ h h2 := k01.trans k2 fun _ _ h => h
  have wS : h2[b6]? = some (.cells #[.slice ca s.cards.length cc, .int .i64 s.ms] 30 (0, 0)) := by rw [← hD, e6]; exact push_new _ _
  have wQ2 := k2.at wQ1 (fun h => h)
  have hcz : ∀ {z : Heap}, Keep none_ h2 z → SlRep rInt (Old z) z (.slice ca s.cards.length cc) s.cards := fun kz => ((hcv.mono ((Tr.of k2).ft (Nat.zero_le _))).mono ((Tr.of kz).ft (Nat.le_refl 0)))
  have hqz : ∀ {z : Heap}, Keep none_ h2 z → SlRep rFil (Old z) z (.slice fa fs.length fc) fs := fun kz => hq0.mono ((Tr.of (k02.trans kz fun _ _ h => h)).ft (Nat.le_refl 0))
  simp -dsimp [wQ2]
  refine call_by (rqright_spec (hcz (.refl _ _)) (hqz (.refl _ _)) hd4.2) ?_
  rintro _ h3 ⟨rfl, k3⟩
  have k03 : Keep none_ h h3 := k02.trans k3 fun _ _ h => h
  have wS3 := k3.at wS (fun h => h)
  have wQ3 := k3.at wQ2 (fun h => h)
  cases hright : rightM s.cards a fs with
  | false =>
    simp -dsimp
    exact hK _ _ ⟨_, _, rfl, k03, .inl ⟨hright, rfl, rfl⟩⟩
  | true =>
    simp -dsimp [wQ3]
    refine call_by (server14_spec (st.keep k03 fun _ _ h => h) hu hl (hqz k3) C) ?_
    rintro _ h4 ⟨x, ok, rfl, k4, hcase⟩
    have k04 : Keep none_ h h4 := k03.trans k4 fun _ _ h => h
    have k24 : Keep none_ h2 h4 := k3.trans k4 fun _ _ h => h
    have wS4 := k4.at wS3 (fun h => h)
    have wQ4 := k4.at wQ3 (fun h => h)
    rcases hcase with ⟨hr, _⟩ | ⟨_, hs, rfl, rfl⟩ | ⟨_, k, l, hs, rfl, rfl⟩
    · rw [hright] at hr; cases hr
    · simp -dsimp
      exact hK _ _ ⟨_, _, rfl, k04, .inr (.inl ⟨hright, hs, rfl, rfl⟩)⟩
    obtain ⟨hkl, el, hlook, hand⟩ := serve_com hs
    have ecom : comM M rows k = some l := by unfold comM; rw [if_pos hlook, el]
    have hcub := cub_ok C.ok (k := (k : Int)) (by omega) (by exact_mod_cast hkl)
    rw [← el] at hcub
    have hfs := serve_bits hd4.2 hright hkl hand
    simp -dsimp [wS4]
    refine call_by (cells14_spec (st.keep k04 fun _ _ h => h) hu hl (hcz k24) C hkl) ?_
    rintro _ h5 ⟨lv, rfl, k5, hlv⟩
    rw [ecom, Option.getD_some] at hlv
    have hlv0 := hlv
    obtain ⟨la, lc, rfl, _, _⟩ := hlv.val
    have k05 : Keep none_ h h5 := k04.trans k5 fun _ _ h => h
    have k25 : Keep none_ h2 h5 := k24.trans k5 fun _ _ h => h
    have wQ5 := k5.at wQ4 (fun h => h)
    have hl300 := hcub.len
    obtain ⟨p, ep⟩ : ∃ p : CellM → Bool, p = fun c => letM (k : Int) fs c.key := ⟨_, rfl⟩
    obtain ⟨R, hR⟩ : ∃ R : Nat → List CellM, ∀ i, R i = groupC (((l.take i).filter p).map (narrowC (k : Int) a)) := ⟨_, fun _ => rfl⟩
    have hRl : ∀ i, (R i).length ≤ 300 := fun i => by
      rw [hR]
      refine Nat.le_trans (groupC_le _) ?_
      rw [List.length_map]
      exact Nat.le_trans (List.length_filter_le _ _) (by rw [List.length_take]; omega)
    have hRs : ∀ i, ∀ d ∈ R i, Sml s.ms.toNat d := fun i => by
      rw [hR]
      refine sml_group fun d hd => ?_
      obtain ⟨c, hc, rfl⟩ := List.mem_map.1 hd
      exact narrow_sml (cel_sml (hcub.cel c (List.mem_of_mem_take (List.mem_filter.1 hc).1)))
    simp -dsimp
    refine loopc (σ := Nat × Value) (fun t => [(3, .pointer (some ⟨h.size, 0, none⟩)), (9, .int .i64 k), (11, .slice la l.length lc), (13, t.2), (14, .int .i64 t.1)])
      (fun t y => Keep none_ h5 y ∧ t.1 ≤ l.length ∧ SlRep rCell (Ft h.size none_ y) y t.2 (R t.1)) (fun t => l.length - t.1) (0, .slice none 0 0) 0 (fun t _ => t.1 = l.length) noRet noRet_le (by simp) ⟨.refl _ _, Nat.zero_le _, by rw [hR]; exact SlRep.nil _ _ _⟩ (by kernel_rfl) ?_ ?_
    · rintro ⟨i, ov⟩ y g ⟨ky, hi, ho⟩
      simp only at hi ho
      have wQy := ky.at wQ5 (fun h => h)
      have k0y : Keep none_ h y := k05.trans ky fun _ _ h => h
      have k2y : Keep none_ h2 y := k25.trans ky fun _ _ h => h
      by_cases hil : i < l.length
      · have wi := wrap_succ (k := i) (by omega)
        obtain ⟨bl, ol, cs, e1, hfb, hrep, hx1⟩ := (hlv0.mono ((Tr.of ky).ft (Nat.zero_le _))).get i hil
        have hrep0 := hrep
        obtain ⟨ka, kc, sa, sc, na, nc, xa, xc, rfl, r1, _⟩ := cell_open hrep
        have hx1' : HC.cellsIn y[bl]? (ol + i * 5) 5 = _ := hx1
        have hcel := hcub.cel _ (List.getElem_mem hil)
        have hrs := filter_take_succ p l hil
        subst e1
        simp -dsimp [hil]
        refine drawn_by [⟨0, true, []⟩, ⟨1, true, []⟩, ⟨2, true, []⟩, ⟨3, true, []⟩, ⟨4, true, []⟩, ⟨5, true, []⟩, ⟨6, false, []⟩] (by kernel_rfl) (by kernel_rfl) ?_
        have ix : ∀ sz ar, idxV sz ar (.slice (some ⟨bl, ol, none⟩) l.length lc) (.int .i64 (i : Int)) = sz.map fun s => .pointer (some ⟨bl, ol + i * s, none⟩) := fun sz ar => idxV_nat hil
        simp -dsimp [ix, elSz_eq, hx1', wQy]
        refine call_by (by14_spec hrep0 (hqz k2y) hfs hcel.klen) ?_
        rintro _ y2 ⟨rfl, k2'⟩
        have hpe : letM (k : Int) fs l[i].key = p l[i] := by rw [ep]
        rw [hpe]
        have ho2 := ho.mono ((Tr.of k2').ft (Nat.le_refl _))
        have ky2 : Keep none_ h5 y2 := ky.trans k2' fun _ _ h => h
        have wQy2 := k2'.at wQy (fun h => h)
        cases hp : p l[i] with
        | false =>
          rw [hp, if_neg (by decide), List.append_nil] at hrs
          simp -dsimp [again_cons, wi]
          exact ⟨(i + 1, ov), by simp, rfl, ⟨ky2, hil, by show SlRep _ _ _ _ (R (i + 1)); rw [hR, hrs, ← hR]; exact ho2⟩, by show l.length - (i + 1) < l.length - i; omega⟩
        | true =>
          rw [hp, if_pos rfl] at hrs
          have hR1 : R (i + 1) = putC (R i) (narrowC (k : Int) a l[i]) := by rw [hR, hrs, List.map_append, hR, ← group_snoc]; rfl
          simp -dsimp [again_cons]
          refine drawn_by [⟨0, true, []⟩, ⟨1, true, []⟩, ⟨2, true, []⟩, ⟨3, true, []⟩, ⟨4, true, []⟩, ⟨5, true, []⟩, ⟨6, true, []⟩, ⟨7, true, []⟩, ⟨8, false, [0]⟩, ⟨9, false, []⟩, ⟨10, true, []⟩] (by kernel_rfl) (by kernel_rfl) ?_
          have hx2 : HC.cellsIn y2[bl]? (ol + i * 5) 5 = some [.slice ka l[i].key.length kc, .int .i64 l[i].count, .slice sa l[i].sum.length sc, .slice na l[i].mn.length nc, .slice xa l[i].mx.length xc] := by
            rw [k2'.blk _ hfb.2.1 (fun h => h)]
            exact hx1'
          have hrep2 := rCell.mono hrep0 ((Tr.of k2').ft (Nat.le_refl 0))
          simp -dsimp [ix, elSz_eq, hx2, wQy2]
          refine call_by (rnarrow_spec k a hrep2 (Sml.small (cel_sml hcel) (by omega)) hcel.klen) ?_
          rintro _ y3 ⟨dsv, rfl, rd, k3'⟩
          simp -dsimp [again_cons]
          refine call_by (rput_at (m := s.ms.toNat) (ho2.mono ((Tr.of k3').ft (Nat.le_refl _))) (rCell.mono rd (Ft.free (Nat.zero_le _))) (by have := hRl i; omega) (by omega) (hRs i) (narrow_sml (cel_sml hcel)) (by have := k05.size; have := ky2.size; have := k3'.size; omega)) ?_
          rintro ov' y4 ⟨ho4, k4'⟩
          rw [← hR1] at ho4
          simp -dsimp [again_cons, wi]
          exact ⟨(i + 1, ov'), by simp, rfl, ⟨(ky2.trans k3' fun _ _ h => h).trans k4' fun _ _ h => h, hil, ho4⟩, by show l.length - (i + 1) < l.length - i; omega⟩
      · simp -dsimp [hil]
        exact ⟨rfl, (i, ov), by simp, rfl, ⟨ky, hi, ho⟩, by show i = l.length; omega⟩
    · rintro ⟨i, ov⟩ y g ⟨ky, hi, ho⟩ hil
      have hil : i = l.length := hil
      subst hil
      have e : R l.length = askM k l a fs := by rw [hR, List.take_length, ep]; rfl
      simp only at ho
      rw [e] at ho
      simp -dsimp
      exact hK _ _ ⟨_, _, rfl, k05.trans ky fun _ _ h => h, .inr (.inr ⟨hright, k, l, hs, rfl, ho⟩)⟩
end Go.Proofs

/-
  Ask of a store whose facts cannot be read.
-/
namespace Go.Proofs
open Go Go.HC

set_option maxHeartbeats 1000000 in
set_option maxRecDepth 10000 in
theorem pserve_not {h : Heap} {v fv : Value} {F : Nat → Prop} {M : Mod} {a : Int} {n : Nat} {fa : Option Addr} {fc : Nat} (st : StAt v F h M) (hu : usedF M.files < 1000000) (hd : (M.nowOf nmFact).length < 1000000) (hfv : fv = .slice fa n fc) (hno : ¬ FactsIn M) :
    CallH Tryz.prog 43 #[v, .agg #[.int .i64 a, fv]] h fun r h' => r = .tuple #[.int .i64 0, .slice none 0 0, .int .i64 8] ∧ Keep none_ h h' := by
  subst hfv
  refine callH_by fun K hK => ?_
  refine enter [.cell 4 3, .cell 5 43, .tmp 6] Tryz.func43 rfl rfl (by kernel_rfl) rfl ?_
  have hvp : ∃ p, v = .pointer p := by obtain ⟨bs, bm, es, clock, tv, own, R, rfl, _⟩ := st; exact ⟨_, rfl⟩
  obtain ⟨vp, rfl⟩ := hvp
  simp -dsimp [boxS_eq]
  rw [show h.size + 1 + 1 + 1 = h.size + 3 from rfl, show h.size + 1 + 1 = h.size + 2 from rfl]
  generalize hB : Array.push (Array.push (Array.push (Array.push h _) _) _) _ = h0
  have k0 : Keep none_ h h0 := by rw [← hB]; exact ((((Keep.refl none_ h).pushed _).pushed _).pushed _).pushed _
  have z0 : h0.size = h.size + 4 := by rw [← hB]; simp
  have wV : h0[h.size]? = some (.cells #[.pointer vp] 36 (0, 0)) := by rw [← hB]; exact push_at (push_at (push_at (push_new _ _)))
  have wK : h0[h.size + 2]? = some (.cells #[.int .i64 0] 3 (0, 0)) := by rw [← hB]; exact push_at (push_get (by simp))
  have wL : h0[h.size + 3]? = some (.cells #[.slice none 0 0] 43 (0, 0)) := by rw [← hB]; exact push_get (by simp)
  have hsetk : ∀ {z : Heap} (o o' : Obj), Keep none_ h z → Keep none_ h ((z.setIfInBounds (h.size + 2) o).setIfInBounds (h.size + 3) o') := fun o o' kz => (kz.setted _ fun hh => by omega).setted _ fun hh => by omega
  have n23 : h.size + 2 ≠ h.size + 3 := by omega
  have hget2 : ∀ (z : Heap) (o o' : Obj), h.size + 2 < z.size → ((z.setIfInBounds (h.size + 2) o).setIfInBounds (h.size + 3) o')[h.size + 2]? = some o := fun z o o' hz => (set_other _ (by omega)).trans (set_same _ hz)
  have hget3 : ∀ (z : Heap) (o o' : Obj), h.size + 3 < z.size → ((z.setIfInBounds (h.size + 2) o).setIfInBounds (h.size + 3) o')[h.size + 3]? = some o' := fun z o o' hz => set_same _ (by simpa using hz)
  simp -dsimp [wV]
  refine call_by (read_spec (st.keep k0 fun _ _ h => h) (by omega) nmFact) ?_
  rintro _ h1 ⟨u, ou, rfl, gu, k1, hou⟩
  have k01 : Keep none_ h h1 := k0.trans k1 fun _ _ h => h
  have wK1 := k1.at wK (fun h => h)
  have wL1 := k1.at wL (fun h => h)
  cases hth : (M.look nmFact).isSome with
  | false =>
    obtain ⟨ua, uc, rfl⟩ := gu.val
    simp -dsimp [wK1, wL1, set_other _ n23, hget2 _ _ _ (lt_of_blk wK1), hget3 _ _ _ (lt_of_blk wL1)]
    exact hK _ _ ⟨rfl, hsetk _ _ k01⟩
  | true =>
    have hub : SlRep rByte (Old h1) h1 u (M.nowOf nmFact) := gu.bytes.mono fun b hb => ⟨⟨nz, gu.own_lt b hb, fun h => h⟩, rfl⟩
    obtain ⟨ua, uc, rfl⟩ := gu.val
    simp -dsimp
    refine call_by (pdecode_spec hub hd) ?_
    rintro _ h2 ⟨cv, ms, rv, e, rfl, k2, hcase⟩
    rcases hcase with ⟨hyes, _⟩ | ⟨_, rfl, rfl, rfl, rfl⟩
    · exact absurd ⟨hth, hyes⟩ hno
    have k02 : Keep none_ h h2 := k01.trans k2 fun _ _ h => h
    simp -dsimp
    rw [push_set rfl]
    generalize hD : Array.push h2 _ = h3
    have k3 : Keep none_ h2 h3 := by rw [← hD]; exact .push _ _ _
    have k03 : Keep none_ h h3 := k02.trans k3 fun _ _ h => h
    have wK3 := k3.at (k2.at wK1 (fun h => h)) (fun h => h)
    have wL3 := k3.at (k2.at wL1 (fun h => h)) (fun h => h)
    simp -dsimp [wK3, wL3, set_other _ n23, hget2 _ _ _ (lt_of_blk wK3), hget3 _ _ _ (lt_of_blk wL3)]
    exact hK _ _ ⟨rfl, hsetk _ _ k03⟩

set_option maxHeartbeats 1000000 in
set_option maxRecDepth 10000 in
theorem pask_not {h : Heap} {v fv : Value} {F : Nat → Prop} {M : Mod} {a : Int} {n : Nat} {fa : Option Addr} {fc : Nat} (st : StAt v F h M) (hu : usedF M.files < 1000000) (hd : (M.nowOf nmFact).length < 1000000) (hfv : fv = .slice fa n fc) (hno : ¬ FactsIn M) :
    CallH Tryz.prog 18 #[v, .agg #[.int .i64 a, fv]] h fun r h' => r = .tuple #[.slice none 0 0, .int .i64 8] ∧ Keep none_ h h' := by
  refine callH_by fun K hK => ?_
  refine enter [.tmp 4, .tmp 5] Tryz.func18 rfl rfl (by kernel_rfl) rfl ?_
  subst hfv
  simp -dsimp [boxS_eq]
  generalize hB : Array.push h _ = h0
  have k0 : Keep none_ h h0 := by rw [← hB]; exact .push _ _ _
  have wQ : h0[h.size]? = some (.cells #[.int .i64 a, .slice fa n fc] 27 (0, 0)) := by rw [← hB]; exact push_new _ _
  try simp -dsimp [wQ]
  refine call_by (pserve_not (st.keep k0 fun _ _ h => h) hu hd rfl hno) ?_
  rintro _ h1 ⟨rfl, k1⟩
  have k01 : Keep none_ h h1 := k0.trans k1 fun _ _ h => h
  simp -dsimp
  exact hK _ _ ⟨rfl, (k01.pushed _).setted _ fun hh => by have := k01.size; omega⟩

set_option maxHeartbeats 1000000 in
set_option maxRecDepth 10000 in
theorem ask14_not {h : Heap} {v fv : Value} {F : Nat → Prop} {M : Mod} {a : Int} {n : Nat} {fa : Option Addr} {fc : Nat} (st : RefAt v F h M) (hu : usedF M.files < 1000000) (hl : M.files.length < 1000000) (hd : (M.nowOf nmFact).length < 1000000) (hfv : fv = .slice fa n fc) (hno : ¬ FactsIn M) :
    CallH Tryz.prog 19 #[v, .agg #[.int .i64 a, fv]] h fun r h' => r = .tuple #[.slice none 0 0, .int .i64 8] ∧ Keep none_ h h' := by
  refine callH_by fun K hK => ?_
  refine enter [.tmp 4, .tmp 5] Tryz.func19 rfl rfl (by kernel_rfl) rfl ?_
  subst hfv
  simp -dsimp [boxS_eq]
  generalize hB : Array.push h _ = h0
  have k0 : Keep none_ h h0 := by rw [← hB]; exact .push _ _ _
  refine call_by (facts14_spec (st.keep k0 fun _ _ h => h) hu hl hd) ?_
  rintro _ h1 ⟨cv, ms, rv, ok, rfl, k1, hcase⟩
  rcases hcase with ⟨hyes, _⟩ | ⟨_, rfl, rfl, rfl⟩
  · exact absurd hyes hno
  have k01 : Keep none_ h h1 := k0.trans k1 fun _ _ h => h
  simp -dsimp
  exact hK _ _ ⟨rfl, (k01.pushed _).setted _ fun hh => by have := k01.size; omega⟩
end Go.Proofs

/-
  law13's and law14's small functions.
-/
namespace Go.Proofs
open Go Go.HC

theorem within13_spec (a n : Int) (hn : 0 < n) (hn' : n < 1000000000) (h : Heap) : CallH Tryz.prog 40 #[.int .i64 a, .int .i64 n] h fun r h' => r = .int .i64 (withinM a n) ∧ h' = h := by
  refine enter [.tmp 4] Tryz.func40 rfl rfl (by kernel_rfl) rfl ?_
  have h1 := Int.tmod_lt_of_pos a hn
  have hne : n ≠ 0 := by omega
  simp -dsimp [hne]
  by_cases hlt : a.tmod n < 0
  · have hw : IntKind.i64.wrap (a.tmod n + n) = a.tmod n + n := by
      have h2 : -n < a.tmod n := by
        have := Int.tmod_lt_of_pos (-a) hn
        rw [Int.neg_tmod] at this
        omega
      exact wrap_i64 (by omega) (by omega)
    simp -dsimp [hlt, hw, withinM]
  · simp -dsimp [hlt, withinM]

theorem within14_spec (a n : Int) (hn : 0 < n) (hn' : n < 1000000000) (h : Heap) : CallH Tryz.prog 17 #[.int .i64 a, .int .i64 n] h fun r h' => r = .int .i64 (withinM a n) ∧ h' = h := by
  refine enter [.tmp 4] Tryz.func17 rfl rfl (by kernel_rfl) rfl ?_
  have h1 := Int.tmod_lt_of_pos a hn
  have hne : n ≠ 0 := by omega
  simp -dsimp [hne]
  by_cases hlt : a.tmod n < 0
  · have hw : IntKind.i64.wrap (a.tmod n + n) = a.tmod n + n := by
      have h2 : -n < a.tmod n := by
        have := Int.tmod_lt_of_pos (-a) hn
        rw [Int.neg_tmod] at this
        omega
      exact wrap_i64 (by omega) (by omega)
    simp -dsimp [hlt, hw, withinM]
  · simp -dsimp [hlt, withinM]

set_option maxHeartbeats 1000000 in
theorem few_spec {d m p q : Int} {ca sa : Option Addr} {cn cc sn sc : Nat} (h : Heap) :
    CallH Tryz.prog 13 #[.agg #[.int .i64 d, .int .i64 m, .int .i64 p, .int .i64 q, .slice ca cn cc, .slice sa sn sc]] h fun r h' => r = .bool (decide (cn ≤ 20) && decide (sn ≤ 60)) ∧ Keep none_ h h' := by
  refine callH_by fun K hK => ?_
  refine enter [.tmp 2] Tryz.func13 rfl rfl (by kernel_rfl) rfl ?_
  simp -dsimp [boxS_eq]
  by_cases h1 : cn ≤ 20
  · have h1' : (cn : Int) ≤ 20 := by omega
    by_cases h2 : sn ≤ 60
    · have h2' : (sn : Int) ≤ 60 := by omega
      simp -dsimp [h1', h2']
      exact hK _ _ ⟨by rw [decide_eq_true h1, decide_eq_true h2]; rfl, .push _ _ _⟩
    · have h2' : ¬ (sn : Int) ≤ 60 := by omega
      simp -dsimp [h1', h2']
      exact hK _ _ ⟨by rw [decide_eq_true h1, decide_eq_false h2]; rfl, .push _ _ _⟩
  · have h1' : ¬ (cn : Int) ≤ 20 := by omega
    simp -dsimp [h1']
    exact hK _ _ ⟨by rw [decide_eq_false h1]; rfl, .push _ _ _⟩

set_option maxHeartbeats 1000000 in
set_option maxRecDepth 10000 in
theorem smake_spec {d m p q : Int} {ca sa : Option Addr} {cn cc sn sc : Nat} {h : Heap} {s : SchM} {rows : List RowM}
    (hfacts : ∀ y : Heap, Keep none_ h y → CallH Tryz.prog 39 #[.int .i64 d, .slice ca cn cc, .int .i64 m, .slice sa sn sc] y fun r h' => ∃ sv rv, r = .tuple #[.agg #[sv, .int .i64 s.ms], rv] ∧ SlRep rInt (Ft y.size none_ h') h' sv s.cards ∧ SlRep rRow (Ft y.size none_ h') h' rv rows ∧ Keep none_ y h') :
    CallH Tryz.prog 14 #[.agg #[.int .i64 d, .int .i64 m, .int .i64 p, .int .i64 q, .slice ca cn cc, .slice sa sn sc]] h fun r h' => ∃ sv rv, r = .tuple #[.agg #[sv, .int .i64 s.ms], rv, .agg #[.int .i64 (3 + withinM p 12), .int .i64 (withinM q 2)]] ∧ Keep none_ h h' ∧ SlRep rInt (Ft h.size none_ h') h' sv s.cards ∧ SlRep rRow (Ft h.size none_ h') h' rv rows := by
  refine callH_by fun K hK => ?_
  refine enter [.cell 2 30, .tmp 3, .cell 4 33] Tryz.func14 rfl rfl (by kernel_rfl) rfl ?_
  simp -dsimp [boxS_eq]
  generalize hB : Array.push (Array.push (Array.push h _) _) _ = h0
  have k0 : Keep none_ h h0 := by rw [← hB]; exact (((Keep.refl none_ h).pushed _).pushed _).pushed _
  have z0 : h0.size = h.size + 3 := by rw [← hB]; simp
  have wA : h0[h.size]? = some (.cells #[.int .i64 d, .int .i64 m, .int .i64 p, .int .i64 q, .slice ca cn cc, .slice sa sn sc] 24 (0, 0)) := by rw [← hB]; exact push_at (push_at (push_new _ _))
  have wS : h0[h.size + 1]? = some (.cells #[.slice none 0 0, .int .i64 0] 30 (0, 0)) := by rw [← hB]; exact push_at (push_get (by simp))
  have wC : h0[h.size + 2]? = some (.cells #[.int .i64 0, .int .i64 0] 33 (0, 0)) := by rw [← hB]; exact push_get (by simp)
  try simp -dsimp [wA]
  refine call_by (hfacts _ k0) ?_
  rintro _ h1 ⟨sv, rv, rfl, hs, hr, k1⟩
  obtain ⟨a1, c1, rfl, _, _⟩ := hs.val
  obtain ⟨a2, c2, rfl, _, _⟩ := hr.val
  have k01 : Keep none_ h h1 := k0.trans k1 fun _ _ h => h
  simp -dsimp
  rw [push_set rfl]
  obtain ⟨b5, e5⟩ : ∃ b5, b5 = h1.size := ⟨_, rfl⟩
  rw [← e5]
  generalize hD : Array.push h1 _ = h2
  have k2 : Keep none_ h1 h2 := by rw [← hD]; exact .push _ _ _
  have k02 : Keep none_ h h2 := k01.trans k2 fun _ _ h => h
  have k12 : Keep none_ h0 h2 := k1.trans k2 fun _ _ h => h
  have wN : h2[b5]? = some (.cells #[.slice a1 s.cards.length c1, .int .i64 s.ms] 30 (0, 0)) := by rw [← hD, e5]; exact push_new _ _
  have wA2 := k12.at wA (fun h => h)
  have wS2 := k12.at wS (fun h => h)
  have wC2 := k12.at wC (fun h => h)
  have l1 := lt_of_blk wS2
  have l2 := lt_of_blk wC2
  have hw1 := withinM_bound (a := p) (n := 12) (by omega)
  have hw3 : IntKind.i64.wrap (3 + withinM p 12) = 3 + withinM p 12 := wrap_i64 (by omega) (by omega)
  refine drawn_byT (.node 9 10 (.leaf [⟨0, true, []⟩, ⟨1, true, []⟩, ⟨2, true, []⟩, ⟨3, true, []⟩, ⟨6, true, []⟩, ⟨7, true, []⟩, ⟨4, false, [0, 1, 6, 7]⟩, ⟨5, true, []⟩, ⟨8, false, [0, 1, 5]⟩, ⟨9, false, [0, 1]⟩, ⟨10, false, [1]⟩, ⟨11, true, []⟩, ⟨12, false, []⟩]) (.leaf [⟨0, true, []⟩, ⟨1, true, []⟩, ⟨2, true, []⟩, ⟨3, true, []⟩, ⟨6, true, []⟩, ⟨7, true, []⟩, ⟨4, false, [0, 1, 6, 7]⟩, ⟨5, true, []⟩, ⟨8, false, [0, 1, 5]⟩, ⟨10, false, [1, 5]⟩, ⟨11, true, []⟩, ⟨9, false, [1, 11]⟩, ⟨12, false, []⟩])) (by kernel_rfl) (by kernel_rfl) ⟨?L0, ?L1⟩
  all_goals
    rw [treeW_leaf]
    simp -dsimp [wN, wA2]
    refine call_by (within13_spec p 12 (by omega) (by omega) _) ?_
    rintro _ h3 ⟨rfl, eh⟩
    subst h3
    simp -dsimp [again_cons, wN, wA2, hw3]
    refine call_by (within13_spec q 2 (by omega) (by omega) _) ?_
    rintro _ h3 ⟨rfl, eh⟩
    subst h3
    simp -dsimp [again_cons, wN, wA2, wS2, wC2, hw3]
    generalize hZ : Array.setIfInBounds (Array.setIfInBounds h2 (h.size + 1) _) (h.size + 1 + 1) _ = z
    have y1 : z[h.size + 1]? = some (.cells #[.slice a1 s.cards.length c1, .int .i64 s.ms] 30 (0, 0)) := by rw [← hZ]; exact (set_other _ (by omega)).trans (set_same _ l1)
    have y2 : z[h.size + 1 + 1]? = some (.cells #[.int .i64 (3 + withinM p 12), .int .i64 (withinM q 2)] 33 (0, 0)) := by rw [← hZ]; exact set_same _ (by simpa using l2)
    have kz : Keep none_ h z := by rw [← hZ]; exact (k02.setted _ fun hh => by omega).setted _ fun hh => by omega
    have ez : ∀ b, Ft h0.size none_ h1 b → Ft h.size none_ z b ∧ z[b]? = h1[b]? := fun b hb => by
      have q1 := hb.1.1
      have q2 := hb.2.1
      have e : z[b]? = h1[b]? := by rw [← hZ, set_other _ (by omega), set_other _ (by omega)]; exact k2.blk b q2 (fun h => h)
      exact ⟨⟨hb.1.at (by omega) e, by rw [← hZ]; have := k2.size; simp; omega, fun h => h⟩, e⟩
    have hsm1 : ∀ o, (Array.setIfInBounds h2 (h.size + 1) o)[h.size + 1]? = some o := fun o => set_same _ l1
    simp -dsimp [y2, hsm1]
    exact hK _ _ ⟨_, _, rfl, kz, hs.mono ez, hr.mono ez⟩
end Go.Proofs

/-
  law13's and law14's put.
-/
namespace Go.Proofs
open Go Go.HC

set_option maxHeartbeats 1000000 in
set_option maxRecDepth 10000 in
theorem put14_spec {v : Value} {F G : Nat → Prop} {h : Heap} {M : Mod} (s : StAt v F h M) {n n' : Nat} (hn : M.Small n) (hn' : n < 1000000000) (x : Nm) {bv : Value} {b : List UInt8}
    (hb : SlRep rByte G h bv b) (hG : ∀ b, G b → b < h.size) (hbl : b.length < 1000000000) (hm : (M.write x b).2.Small n') (hm' : n' < 1000000000) :
    CallH Tryz.prog 32 #[v, .string x, bv] h fun _ h' => ∃ F', StAt v F' h' ((M.write x b).2.sync x).2 ∧ Keep F h h' ∧ ∀ b, F' b → F b ∨ h.size ≤ b := by
  refine callH_by fun K hK => ?_
  refine enter [] Tryz.func32 rfl rfl (by kernel_rfl) rfl ?_
  simp -dsimp
  refine call_by (write_spec s hn hn' x hb hG hbl) ?_
  rintro _ h1 ⟨rfl, F1, s1, k1, hF1⟩
  simp -dsimp
  refine call_by (sync_spec s1 hm hm' x) ?_
  rintro _ h2 ⟨rfl, F2, s2, k2, hF2⟩
  simp -dsimp
  refine hK _ _ ⟨F2, s2, k1.trans k2 (fun b hb hf => (hF1 b hf).elim id fun h => absurd hb (by omega)), fun b hf => ?_⟩
  rcases hF2 b hf with h3 | h3
  · exact hF1 b h3
  · exact .inr (by have := k1.size; omega)

set_option maxHeartbeats 1000000 in
set_option maxRecDepth 10000 in
theorem put13_spec {v : Value} {F G : Nat → Prop} {h : Heap} {M : Mod} (s : StAt v F h M) {n n' : Nat} (hn : M.Small n) (hn' : n < 1000000000) (x : Nm) {bv : Value} {b : List UInt8}
    (hb : SlRep rByte G h bv b) (hG : ∀ b, G b → b < h.size) (hbl : b.length < 1000000000) (hm : (M.write x b).2.Small n') (hm' : n' < 1000000000) :
    CallH Tryz.prog 78 #[v, .string x, bv] h fun _ h' => ∃ F', StAt v F' h' ((M.write x b).2.sync x).2 ∧ Keep F h h' ∧ ∀ b, F' b → F b ∨ h.size ≤ b := by
  refine callH_by fun K hK => ?_
  refine enter [] Tryz.func78 rfl rfl (by kernel_rfl) rfl ?_
  simp -dsimp
  refine call_by (write_spec s hn hn' x hb hG hbl) ?_
  rintro _ h1 ⟨rfl, F1, s1, k1, hF1⟩
  simp -dsimp
  refine call_by (sync_spec s1 hm hm' x) ?_
  rintro _ h2 ⟨rfl, F2, s2, k2, hF2⟩
  simp -dsimp
  refine hK _ _ ⟨F2, s2, k1.trans k2 (fun b hb hf => (hF1 b hf).elim id fun h => absurd hb (by omega)), fun b hf => ?_⟩
  rcases hF2 b hf with h3 | h3
  · exact hF1 b h3
  · exact .inr (by have := k1.size; omega)
end Go.Proofs
