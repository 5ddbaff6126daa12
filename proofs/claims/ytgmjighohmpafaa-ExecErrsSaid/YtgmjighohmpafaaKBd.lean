/-
  Two rows of rising cells made one: the program's, whole.
-/
import Derived.Test.YtgmjighohmpafaaKBc
import Derived.ProofKit
import Derived.OpenShut

namespace Go.HC
/-- A slice that grows and a number, in variables of their own. -/
def TwoJ (tS tC tI n0 B5 B6 lim : Nat) (M : Nat → Prop) (h : Heap) (j : Nat) (out : List CellM) : Prop :=
  ∃ v own, h[B5]? = some (.cells #[v] tS (0, 0)) ∧ h[B6]? = some (.cells #[.int .i64 j] tI (0, 0)) ∧ Gr rCell tC n0 M h v out own ∧ (∀ b, own = some b → lim ≤ b) ∧ M B5 ∧ M B6 ∧ ∀ b, M b → b < h.size
section
variable {tS tC tI n0 B5 B6 lim j j' : Nat} {M M' : Nat → Prop} {h h' : Heap} {out : List CellM}
theorem TwoJ.call (t : TwoJ tS tC tI n0 B5 B6 lim M h j out) (k : Keep none_ h h') : TwoJ tS tC tI n0 B5 B6 lim M h' j out := by
  obtain ⟨v, own, w1, w2, g, ho, m1, m2, hl⟩ := t
  exact ⟨v, own, k.at w1 (fun h => h), k.at w2 (fun h => h), g.call k, ho, m1, m2, fun b hb => Nat.lt_of_lt_of_le (hl b hb) k.size⟩
theorem TwoJ.lp {lp : Nat} (t : TwoJ tS tC tI n0 B5 B6 lim M h j out) (m : M lp) (h1 : lp < lim) (h2 : B5 ≠ lp) (h3 : B6 ≠ lp) (k : Keep (fun b => b = lp) h h') : TwoJ tS tC tI n0 B5 B6 lim M h' j out := by
  obtain ⟨v, own, w1, w2, g, ho, m1, m2, hl⟩ := t
  exact ⟨v, own, k.at w1 h2, k.at w2 h3, g.lp hl m (fun e => by have := ho _ e; omega) k, ho, m1, m2, fun b hb => Nat.lt_of_lt_of_le (hl b hb) k.size⟩
/-- A cell has been appended, and is written; the number too. -/
theorem TwoJ.put {c : CellM} {v' : Value} {own' : Option Nat} (g : Gr rCell tC n0 M' h v' (out ++ [c]) own') (ho : ∀ b, own' = some b → lim ≤ b) (m1 : M' B5) (m2 : M' B6) (hl : ∀ b, M' b → b < h.size)
    (h1 : B5 < lim) (h2 : B6 < lim) (h3 : B5 ≠ B6) : TwoJ tS tC tI n0 B5 B6 lim M' ((h.setIfInBounds B5 (.cells #[v'] tS)).setIfInBounds B6 (.cells #[.int .i64 j'] tI)) j' (out ++ [c]) :=
  ⟨v', own', (set_other _ (fun e => h3 e.symm)).trans (set_same _ (hl _ m1)), set_same _ (by simpa using hl _ m2), (g.set _ m1 (fun e => by have := ho _ e; omega)).set _ m2 (fun e => by have := ho _ e; omega), ho, m1, m2, fun b hb => by simpa using hl b hb⟩
theorem TwoJ.put1 {c : CellM} {v' : Value} {own' : Option Nat} (g : Gr rCell tC n0 M' h v' (out ++ [c]) own') (w : h[B6]? = some (.cells #[.int .i64 j] tI (0, 0))) (ho : ∀ b, own' = some b → lim ≤ b) (m1 : M' B5) (m2 : M' B6) (hl : ∀ b, M' b → b < h.size)
    (h1 : B5 < lim) (h3 : B5 ≠ B6) : TwoJ tS tC tI n0 B5 B6 lim M' (h.setIfInBounds B5 (.cells #[v'] tS)) j (out ++ [c]) :=
  ⟨v', own', set_same _ (hl _ m1), (set_other _ h3).trans w, g.set _ m1 (fun e => by have := ho _ e; omega), ho, m1, m2, fun b hb => by simpa using hl b hb⟩
end
theorem two_lt {x y : CellM} {a b : List CellM} (h : lessM x.key y.key < 0) : twoM (x :: a) (y :: b) = x :: twoM a (y :: b) := by rw [twoM, if_pos h]
theorem two_eq {x y : CellM} {a b : List CellM} (h : lessM x.key y.key = 0) : twoM (x :: a) (y :: b) = joinC x y :: twoM a b := by rw [twoM, if_neg (by omega), if_pos h]
theorem two_gt {x y : CellM} {a b : List CellM} (h : 0 < lessM x.key y.key) : twoM (x :: a) (y :: b) = y :: twoM (x :: a) b := by rw [twoM, if_neg (by omega), if_neg (by omega)]
theorem drop_cons {α : Type} {l : List α} {k : Nat} (h : k < l.length) : l.drop k = l[k] :: l.drop (k + 1) := List.drop_eq_getElem_cons h
end Go.HC
namespace Go.Proofs
open Go Go.HC

set_option maxHeartbeats 8000000 in
set_option maxRecDepth 10000 in
theorem two_spec {h : Heap} {av bv : Value} {x y : List CellM} (ha : SlRep rCell (Old h) h av x) (hb : SlRep rCell (Old h) h bv y) (hxn : x.length < 1000000) (hyn : y.length < 1000000) (sx : ∀ d ∈ x, CellSmall d) (sy : ∀ d ∈ y, CellSmall d) :
    CallH Try.prog 32 #[av, bv] h fun r h' => NewC 31 h.size h' r (twoM x y) ∧ Keep none_ h h' := by
  refine callH_by fun K hK => ?_
  refine enter [.tmp 4] Try.func32 rfl rfl (by kernel_rfl) rfl ?_
  obtain ⟨a0, c0, rfl, _, _⟩ := ha.val
  obtain ⟨a1, c1, rfl, _, _⟩ := hb.val
  have htl := two_len x y
  simp -dsimp [boxS_eq]
  rw [push_set (by simp)]
  generalize hB : Array.push (Array.push (Array.push h _) _) _ = h0
  have k0 : Keep none_ h h0 := by rw [← hB]; exact (((Keep.refl none_ h).pushed _).pushed _).pushed _
  have hz0 : h0.size = h.size + 3 := by rw [← hB]; simp
  have w3 : h0[h.size]? = some (.cells #[.slice a1 y.length c1] 24 (0, 0)) := by rw [← hB]; exact push_at (push_at (push_new _ _))
  have w5 : h0[h.size + 1]? = some (.cells #[.slice none 0 0] 24 (0, 0)) := by rw [← hB]; exact push_at (push_get (by simp))
  have w6 : h0[h.size + 2]? = some (.cells #[.int .i64 ((0 : Nat) : Int)] 3 (0, 0)) := by rw [← hB]; exact push_get (by simp)
  refine call_by (ofc_spec _ (by simp) h0) ?_
  rintro _ h1 ⟨rfl, e1⟩
  have k1 : Keep none_ h0 h1 := by rw [e1]; exact .push _ _ _
  have hz1 : h1.size = h0.size + 1 := by rw [e1]; simp
  have w7 : h1[h0.size]? = some (.cells #[.slice a0 x.length c0] 24 (0, 0)) := by rw [e1]; exact push_new _ _
  clear e1
  have k01 := k0.trans k1 fun _ _ h => h
  have ha1 := ha.mono ((Tr.of k01).ft (Nat.le_refl 0))
  have hb1 := hb.mono ((Tr.of k01).ft (Nat.le_refl 0))
  simp -dsimp
  obtain ⟨I, hI⟩ : ∃ I : List (List Value) → (Nat → Prop) → Heap → Prop, ∀ xs M h', I xs M h' ↔ (xs.length ≤ x.length ∧ ∃ j out, j ≤ y.length ∧ twoM x y = out ++ twoM (x.drop xs.length) (y.drop j) ∧ TwoJ 24 31 3 h.size (h.size + 1) (h.size + 2) (h1.size + 2) M h' j out) := ⟨_, fun _ _ _ => Iff.rfl⟩
  refine range_m (val := fun cs : List Value => #[.agg cs.toArray]) (first := #[]) (by simp) (by simp) (ofc_iter (F := fun b => b < h.size) w7 (ha.mono fun b hb => ⟨hb.2.1, k01.blk b hb.2.1 (fun h => h)⟩) hxn) I
    ?_ ?_ (fun b => b = h.size + 1 ∨ b = h.size + 2) ?_ ?_ (by kernel_rfl) (by kernel_rfl) (fun _ => rfl) (by intro p hp; simp at hp; subst hp; decide) ?_ ?_
  · intro xs M h' hi
    obtain ⟨_, _, _, _, _, _, _, _, _, _, _, _, _, hl⟩ := (hI _ _ _).1 hi
    exact hl
  · intro xs M h4 h5 hi m1 m2 k
    obtain ⟨hx, j, out, hj, he, t⟩ := (hI _ _ _).1 hi
    exact (hI _ _ _).2 ⟨hx, j, out, hj, he, t.lp m2 (by omega) (by omega) (by omega) k⟩
  · rintro b (rfl | hb)
    · exact ⟨by omega, by omega⟩
    · exact ⟨by omega, by omega⟩
  · intro h4 k4 hz4
    exact (hI _ _ _).2 ⟨Nat.zero_le _, 0, [], Nat.zero_le _, by simp, _, none, k4.at (k1.at w5 (fun h => h)) (fun h => h), k4.at (k1.at w6 (fun h => h)) (fun h => h), .nil _ _ _ _ _, fun b hb => (by cases hb), .inl (.inl rfl), .inl (.inr rfl), by omega⟩
  · rintro xs cs M h4 hi4 ⟨hxk, hrep⟩ hz4 m1 m2 t
    obtain ⟨hx, j, out, hj, he, tj⟩ := (hI _ _ _).1 hi4
    obtain ⟨ka, kc, sa, sc, na, nc, xa, xc, rfl, r1, _⟩ := cell_open hrep
    have hM4 : ∀ b, M b → b < h4.size := tj.choose_spec.choose_spec.2.2.2.2.2.2
    simp -dsimp
    rw [push_set rfl]
    generalize hB2 : Array.push h4 _ = h5
    have k5 : Keep none_ h4 h5 := by rw [← hB2]; exact .push _ _ _
    have hz5 : h5.size = h4.size + 1 := by rw [← hB2]; simp
    have hC : h5[h4.size]? = some (.cells #[.slice ka x[xs.length].key.length kc, .int .i64 x[xs.length].count, .slice sa x[xs.length].sum.length sc, .slice na x[xs.length].mn.length nc, .slice xa x[xs.length].mx.length xc] 31 (0, 0)) := by rw [← hB2]; exact push_new _ _
    refine ⟨k5, fun h6 k6 hz6 => ?_⟩
    have t46 : Tr M M h4 h6 := (Tr.call ⟨.refl _ _, fun _ h => .inl h, hM4⟩ k5).trans (.lp (fun b hb => Nat.lt_of_lt_of_le (hM4 b hb) k5.size) m2 k6)
    have hC6 := k6.at hC (by omega)
    have tj6 := (tj.call k5).lp m2 (by omega) (by omega) (by omega) k6
    have hdx := drop_cons hxk
    have hsx := sx _ (List.getElem_mem hxk)
    have hrep6 := rCell.mono hrep (t46.ft (Nat.le_refl 0))
    -- what holds of a heap while a round goes on
    obtain ⟨J, hJ⟩ : ∃ J : Nat → Heap → Prop, ∀ j h7, J j h7 ↔ (∃ M7 out, j ≤ y.length ∧ twoM x y = out ++ twoM (x.drop xs.length) (y.drop j) ∧ Tr M M7 h4 h7 ∧ (∀ b, M b → M7 b) ∧ (∀ b, M7 b → M b ∨ h4.size < b) ∧ h7[h4.size]? = h6[h4.size]? ∧ h7[h1.size]? = h6[h1.size]? ∧ h7[h1.size + 1]? = h6[h1.size + 1]? ∧
        TwoJ 24 31 3 h.size (h.size + 1) (h.size + 2) (h1.size + 2) M7 h7 j out) := ⟨_, fun _ _ => Iff.rfl⟩
    refine loopc (σ := Nat) (fun _ => [(3, .pointer (some ⟨h.size, 0, none⟩)), (5, .pointer (some ⟨h.size + 1, 0, none⟩)), (6, .pointer (some ⟨h.size + 2, 0, none⟩)), (7, .pointer (some ⟨h4.size, 0, none⟩))]) J (fun j => y.length - j) j 2
      (fun j _ => ∀ hj : j < y.length, ¬ lessM y[j].key x[xs.length].key < 0) noRet noRet_le (by simp) ?_ (by kernel_rfl) ?_ ?_
    · exact (hJ _ _).2 ⟨M, out, hj, he, t46, fun _ h => h, fun _ h => .inl h, rfl, rfl, rfl, tj6⟩
    · intro j7 h7 g hJ7
      obtain ⟨M7, out7, hj7, he7, t7, mm, mn, d0, d1, d2, tj7⟩ := (hJ _ _).1 hJ7
      have T7 := t.trans t7
      have w37 := T7.at (k1.at w3 (fun h => h)) (by omega)
      have hC7 := d0.trans hC6
      have T07 := Tr.from_ k01 T7 (fun b hb => by omega)
      have hb7 := hb.mono (T07.ft (Nat.le_refl 0))
      have rx7 := rCell.mono hrep (t7.ft (Nat.le_refl 0))
      have s17 := T7.size
      have s47 := t7.size
      obtain ⟨v7, own7, u5, u6, g7, ho7, mo5, mo6, hl7⟩ := tj7
      have wk := wrap_succ (k := j7) (by omega)
      by_cases hjl : j7 < y.length
      · obtain ⟨bl, ol, cs', e1, _, hrepy, hx1⟩ := hb7.get j7 hjl
        obtain ⟨ka', kc', sa', sc', na', nc', xa', xc', rfl, q1, _⟩ := cell_open hrepy
        have hx1' : HC.cellsIn h7[bl]? (ol + j7 * 5) 5 = _ := hx1
        have hk1 : HC.cellIn h7[bl]? (ol + j7 * 5) = some (.slice ka' y[j7].key.length kc') := by
          have := cellsIn_cell (d := 0) hx1' (by decide)
          simpa using this
        simp -dsimp
        refine drawn_by [⟨0, true, []⟩, ⟨1, true, []⟩, ⟨2, true, []⟩, ⟨3, true, []⟩, ⟨4, true, []⟩, ⟨5, true, []⟩, ⟨6, true, []⟩, ⟨7, true, []⟩, ⟨8, true, []⟩, ⟨9, true, []⟩, ⟨10, true, []⟩, ⟨11, true, []⟩, ⟨12, false, []⟩, ⟨13, true, []⟩, ⟨14, true, []⟩] (by kernel_rfl) (by kernel_rfl) ?_
        simp -dsimp [w37, u6, hjl, e1, idxV_nat hjl, elSz_eq, hk1, hC7]
        obtain ⟨_, _, _, _, _, _, _, _, hce, rx1, _⟩ := cell_open rx7
        simp only [List.cons.injEq, Value.slice.injEq, true_and, and_true] at hce
        obtain ⟨⟨rfl, rfl⟩, _⟩ := hce
        refine call_by (cless_spec q1 rx1) ?_
        rintro _ h8 ⟨rfl, hh⟩
        subst h8
        simp -dsimp
        by_cases hlt : lessM y[j7].key x[xs.length].key < 0
        · simp -dsimp [hlt]
          refine drawn_by [⟨0, true, []⟩, ⟨1, true, []⟩, ⟨2, true, []⟩, ⟨3, true, []⟩, ⟨4, true, []⟩, ⟨5, false, [0]⟩, ⟨6, false, [0]⟩, ⟨7, false, []⟩, ⟨8, false, []⟩] (by kernel_rfl) (by kernel_rfl) ?_
          simp -dsimp [w37, u5, u6, e1, idxV_nat hjl, elSz_eq, hx1']
          refine call_by (mown_spec (rCell.mono hrepy (Ft.free (Nat.zero_le _))) (sy _ (List.getElem_mem hjl))) ?_
          rintro _ h9 ⟨ds, rfl, rd, k9⟩
          obtain ⟨kb, kbc, sb, sbc, nb, nbc, xb, xbc, rfl, p1, _⟩ := cell_open rd
          have u59 := k9.at u5 (fun h => h)
          have u69 := k9.at u6 (fun h => h)
          have u59p : ∀ o, (h9.push o)[h.size + 1]? = _ := fun o => push_at u59
          have T09 := T07.call k9
          obtain ⟨va, vn, vc, rfl, hvn⟩ := g7.vals
          have hol : out7.length ≤ x.length + y.length := by
            have := congrArg List.length he7
            rw [List.length_append] at this
            omega
          simp -dsimp [u59, u59p, again_cons]
          refine gr_app1 (x := y[j7]) rfl cellT (g7.call k9) (t7.call k9).lt (rCell.mono rd (t7.ret (by omega))) rfl (by omega) (by omega) ?_
          intro v' h10 own10 g10 t10 k10 ho10
          have u510 := k10.at u59 (fun e => by have := ho7 _ e; omega)
          have u610 := k10.at u69 (fun e => by have := ho7 _ e; omega)
          obtain ⟨va', vn', vc', rfl, hvn'⟩ := g10.vals
          have l5 := lt_of_blk u510
          have l6 := lt_of_blk u610
          have s9 := k9.size
          simp -dsimp [u510, set_other _ (show h.size + 1 ≠ h.size + 2 by omega), u610, wk]
          have hke : ∀ b, b < h7.size → b ≠ h.size + 1 → b ≠ h.size + 2 → own7 ≠ some b → ((h10.setIfInBounds (h.size + 1) (.cells #[.slice va' vn' vc'] 24)).setIfInBounds (h.size + 2) (.cells #[.int .i64 ((j7 + 1 : Nat) : Int)] 3))[b]? = h7[b]? := fun b b1 b2 b3 b4 => by
            rw [set_other _ (fun e => b3 e.symm), set_other _ (fun e => b2 e.symm), k10.blk b (by omega) (fun e => b4 e), k9.blk b b1 (fun h => h)]
          have hl4 := lt_of_blk hC7
          have hm4 : ¬ M7 h4.size := fun hm => (mn _ hm).elim (fun hm => by have := hM4 _ hm; omega) (by omega)
          have ho10' : ∀ b, own10 = some b → h1.size + 2 ≤ b := fun b hb => (ho10 b hb).elim (ho7 b) fun e => by omega
          refine ⟨j7 + 1, by simp, rfl, (hJ _ _).2 ⟨fun b => M7 b ∨ own10 = some b, out7 ++ [y[j7]], by omega, ?_, (((t7.call k9).trans t10).set _ (.inl mo5)).set _ (.inl mo6), fun b hb => .inl (mm b hb), fun b hb => hb.elim (mn b) fun e => (ho10 b e).elim (fun e => mn b (g7.mu b e)) fun e => .inr (by omega), ?_, ?_, ?_,
            .put g10 ho10' (.inl mo5) (.inl mo6) (fun b hb => t10.lt b hb) (by omega) (by omega) (by omega)⟩, by show y.length - (j7 + 1) < y.length - j7; omega⟩
          · rw [he7, drop_cons hjl, hdx, two_gt (by rw [lessM_neg]; omega), List.append_assoc]; rfl
          · exact (hke _ hl4 (by omega) (by omega) fun e => hm4 (g7.mu _ e)).trans d0
          · exact (hke _ (by omega) (by omega) (by omega) fun e => by have := ho7 _ e; omega).trans d1
          · exact (hke _ (by omega) (by omega) (by omega) fun e => by have := ho7 _ e; omega).trans d2
        · simp -dsimp [hlt]
          exact ⟨rfl, j7, by simp, rfl, hJ7, fun _ => hlt⟩
      · simp -dsimp
        refine drawn_by [⟨0, true, []⟩, ⟨1, true, []⟩, ⟨2, true, []⟩, ⟨3, true, []⟩, ⟨4, true, []⟩, ⟨5, true, []⟩, ⟨6, true, []⟩, ⟨7, true, []⟩, ⟨8, true, []⟩, ⟨9, true, []⟩, ⟨10, true, []⟩, ⟨11, true, []⟩, ⟨12, false, []⟩, ⟨13, true, []⟩, ⟨14, true, []⟩] (by kernel_rfl) (by kernel_rfl) ?_
        simp -dsimp [w37, u6, hjl]
        exact ⟨rfl, j7, by simp, rfl, hJ7, fun hj => absurd hj hjl⟩
    · intro j7 h7 g hJ7 hQ
      obtain ⟨M7, out7, hj7, he7, t7, mm, mn, d0, d1, d2, tj7⟩ := (hJ _ _).1 hJ7
      have T7 := t.trans t7
      have w37 := T7.at (k1.at w3 (fun h => h)) (by omega)
      have hC7 := d0.trans hC6
      have T07 := Tr.from_ k01 T7 (fun b hb => by omega)
      have hb7 := hb.mono (T07.ft (Nat.le_refl 0))
      have rx7 := rCell.mono hrep (t7.ft (Nat.le_refl 0))
      have s17 := T7.size
      have s47 := t7.size
      obtain ⟨v7, own7, u5, u6, g7, ho7, mo5, mo6, hl7⟩ := tj7
      have wk := wrap_succ (k := j7) (by omega)
      have hol : out7.length ≤ x.length + y.length := by
        have := congrArg List.length he7
        rw [List.length_append] at this
        omega
      obtain ⟨_, _, _, _, _, _, _, _, hce, rx1, _⟩ := cell_open rx7
      simp only [List.cons.injEq, Value.slice.injEq, true_and, and_true] at hce
      obtain ⟨⟨rfl, rfl⟩, _⟩ := hce
      obtain ⟨va, vn, vc, rfl, hvn⟩ := g7.vals
      have hl4 := lt_of_blk hC7
      have hm4 : ¬ M7 h4.size := fun hm => (mn _ hm).elim (fun hm => by have := hM4 _ hm; omega) (by omega)
      have hxs1 : ∀ c : List Value, (xs ++ [c]).length = xs.length + 1 := fun c => by simp
      refine if hjl : j7 < y.length then ?t1 else ?t2
      case' t1 =>
        obtain ⟨bl, ol, cs', e1, _, hrepy, hx1⟩ := hb7.get j7 hjl
        obtain ⟨ka', kc', sa', sc', na', nc', xa', xc', rfl, q1, _⟩ := cell_open hrepy
        have hx1' : HC.cellsIn h7[bl]? (ol + j7 * 5) 5 = _ := hx1
        have hk1 : HC.cellIn h7[bl]? (ol + j7 * 5) = some (.slice ka' y[j7].key.length kc') := by
          have := cellsIn_cell (d := 0) hx1' (by decide)
          simpa using this
        simp -dsimp
        refine drawn_by [⟨0, true, []⟩, ⟨1, true, []⟩, ⟨2, true, []⟩, ⟨3, true, []⟩, ⟨4, true, []⟩, ⟨5, true, []⟩, ⟨6, true, []⟩, ⟨7, true, []⟩, ⟨8, true, []⟩, ⟨9, true, []⟩, ⟨10, true, []⟩, ⟨11, true, []⟩, ⟨12, false, []⟩, ⟨13, true, []⟩, ⟨14, true, []⟩] (by kernel_rfl) (by kernel_rfl) ?_
        simp -dsimp [w37, u6, hjl, e1, idxV_nat hjl, elSz_eq, hk1, hC7]
        refine call_by (cless_spec q1 rx1) ?_
        rintro _ h8 ⟨rfl, hh⟩
        subst h8
        simp -dsimp
        have hge := hQ hjl
        refine if heq : lessM y[j7].key x[xs.length].key = 0 then ?t3 else ?t4
        case' t3 =>
          have heq' : (lessM y[j7].key x[xs.length].key == 0) = true := by simp [heq]
          simp -dsimp [heq']
          refine drawn_by [⟨0, true, []⟩, ⟨1, true, []⟩, ⟨2, true, []⟩, ⟨3, true, []⟩, ⟨4, true, []⟩, ⟨5, true, []⟩, ⟨6, false, [0]⟩, ⟨7, false, [0]⟩, ⟨8, false, []⟩, ⟨9, false, []⟩] (by kernel_rfl) (by kernel_rfl) ?_
          simp -dsimp [w37, u5, u6, e1, idxV_nat hjl, elSz_eq, hx1', hC7]
          refine call_by (join_new (rCell.mono rx7 (Ft.free (Nat.zero_le _))) (rCell.mono hrepy (Ft.free (Nat.zero_le _))) hsx) ?_
          rintro _ h9 ⟨ds, rfl, rd, k9⟩
          obtain ⟨kb, kbc, sb, sbc, nb, nbc, xb, xbc, rfl, p1, _⟩ := cell_open rd
          have u59 := k9.at u5 (fun h => h)
          have u69 := k9.at u6 (fun h => h)
          have u59p : ∀ o, (h9.push o)[h.size + 1]? = _ := fun o => push_at u59
          simp -dsimp [u59, u59p, again_cons]
          refine gr_app1 (x := joinC x[xs.length] y[j7]) rfl cellT (g7.call k9) (t7.call k9).lt (rCell.mono rd (t7.ret (by omega))) rfl (by omega) (by omega) ?_
          intro v' h10 own10 g10 t10 k10 ho10
          have u510 := k10.at u59 (fun e => by have := ho7 _ e; omega)
          have u610 := k10.at u69 (fun e => by have := ho7 _ e; omega)
          obtain ⟨va', vn', vc', rfl, hvn'⟩ := g10.vals
          have l5 := lt_of_blk u510
          have l6 := lt_of_blk u610
          have s9 := k9.size
          simp -dsimp [u510, set_other _ (show h.size + 1 ≠ h.size + 2 by omega), u610, wk]
          have ho10' : ∀ b, own10 = some b → h1.size + 2 ≤ b := fun b hb => (ho10 b hb).elim (ho7 b) fun e => by omega
          have hke : ∀ b, b < h7.size → b ≠ h.size + 1 → b ≠ h.size + 2 → own7 ≠ some b → ((h10.setIfInBounds (h.size + 1) (.cells #[.slice va' vn' vc'] 24)).setIfInBounds (h.size + 2) (.cells #[.int .i64 ((j7 + 1 : Nat) : Int)] 3))[b]? = h7[b]? := fun b b1 b2 b3 b4 => by
            rw [set_other _ (fun e => b3 e.symm), set_other _ (fun e => b2 e.symm), k10.blk b (by omega) (fun e => b4 e), k9.blk b b1 (fun h => h)]
          refine ⟨fun b => M7 b ∨ own10 = some b, (hI _ _ _).2 ⟨by rw [hxs1]; omega, j7 + 1, out7 ++ [joinC x[xs.length] y[j7]], by omega, ?_, .put g10 ho10' (.inl mo5) (.inl mo6) (fun b hb => t10.lt b hb) (by omega) (by omega) (by omega)⟩,
            (((t7.call k9).trans t10).set _ (.inl mo5)).set _ (.inl mo6), .inl (mm _ m1), .inl (mm _ m2), ?_, ?_⟩
          · rw [he7, hxs1, drop_cons hjl, hdx, two_eq (by rw [lessM_neg]; omega), List.append_assoc]; rfl
          · exact (hke _ (by omega) (by omega) (by omega) fun e => by have := ho7 _ e; omega).trans d1
          · exact (hke _ (by omega) (by omega) (by omega) fun e => by have := ho7 _ e; omega).trans d2
        case' t4 =>
          have heq' : (lessM y[j7].key x[xs.length].key == 0) = false := by simp [heq]
          have htw : twoM (x.drop xs.length) (y.drop j7) = x[xs.length] :: twoM (x.drop (xs.length + 1)) (y.drop j7) := by
            rw [hdx, drop_cons hjl, two_lt (by rw [lessM_neg]; omega)]
          simp -dsimp [heq']
      case' t2 =>
        have htw : twoM (x.drop xs.length) (y.drop j7) = x[xs.length] :: twoM (x.drop (xs.length + 1)) (y.drop j7) := by
          rw [show y.drop j7 = [] from List.drop_eq_nil_of_le (by omega), two_nil, two_nil, hdx]
        simp -dsimp
        refine drawn_by [⟨0, true, []⟩, ⟨1, true, []⟩, ⟨2, true, []⟩, ⟨3, true, []⟩, ⟨4, true, []⟩, ⟨5, true, []⟩, ⟨6, true, []⟩, ⟨7, true, []⟩, ⟨8, true, []⟩, ⟨9, true, []⟩, ⟨10, true, []⟩, ⟨11, true, []⟩, ⟨12, false, []⟩, ⟨13, true, []⟩, ⟨14, true, []⟩] (by kernel_rfl) (by kernel_rfl) ?_
        simp -dsimp [w37, u6, hjl]
      all_goals
        refine drawn_by [⟨0, true, []⟩, ⟨1, true, []⟩, ⟨2, false, [0]⟩, ⟨3, false, [0]⟩, ⟨4, false, []⟩, ⟨5, false, []⟩] (by kernel_rfl) (by kernel_rfl) ?_
        simp -dsimp [u5, hC7]
        refine call_by (mown_spec (rCell.mono rx7 (Ft.free (Nat.zero_le _))) hsx) ?_
        rintro _ h9 ⟨ds, rfl, rd, k9⟩
        obtain ⟨kb, kbc, sb, sbc, nb, nbc, xb, xbc, rfl, p1, _⟩ := cell_open rd
        have u59 := k9.at u5 (fun h => h)
        have u69 := k9.at u6 (fun h => h)
        have u59p : ∀ o, (h9.push o)[h.size + 1]? = _ := fun o => push_at u59
        simp -dsimp [u59, u59p, again_cons]
        refine gr_app1 (x := x[xs.length]) rfl cellT (g7.call k9) (t7.call k9).lt (rCell.mono rd (t7.ret (by omega))) rfl (by omega) (by omega) ?_
        intro v' h10 own10 g10 t10 k10 ho10
        have u510 := k10.at u59 (fun e => by have := ho7 _ e; omega)
        have u610 := k10.at u69 (fun e => by have := ho7 _ e; omega)
        obtain ⟨va', vn', vc', rfl, hvn'⟩ := g10.vals
        have l5 := lt_of_blk u510
        have s9 := k9.size
        simp -dsimp [u510]
        have ho10' : ∀ b, own10 = some b → h1.size + 2 ≤ b := fun b hb => (ho10 b hb).elim (ho7 b) fun e => by omega
        have hke : ∀ b, b < h7.size → b ≠ h.size + 1 → own7 ≠ some b → (h10.setIfInBounds (h.size + 1) (.cells #[.slice va' vn' vc'] 24))[b]? = h7[b]? := fun b b1 b2 b4 => by
          rw [set_other _ (fun e => b2 e.symm), k10.blk b (by omega) (fun e => b4 e), k9.blk b b1 (fun h => h)]
        refine ⟨fun b => M7 b ∨ own10 = some b, (hI _ _ _).2 ⟨by rw [hxs1]; omega, j7, out7 ++ [x[xs.length]], by omega, ?_, .put1 g10 u610 ho10' (.inl mo5) (.inl mo6) (fun b hb => t10.lt b hb) (by omega) (by omega)⟩,
          ((t7.call k9).trans t10).set _ (.inl mo5), .inl (mm _ m1), .inl (mm _ m2), ?_, ?_⟩
        · rw [he7, hxs1, htw, List.append_assoc]; rfl
        · exact (hke _ (by omega) (by omega) fun e => by have := ho7 _ e; omega).trans d1
        · exact (hke _ (by omega) (by omega) fun e => by have := ho7 _ e; omega).trans d2
  · rintro xs M h4 hxl hi4 hdm hz4 m1 m2 t
    obtain ⟨hx, j, out, hj, he, tj⟩ := (hI _ _ _).1 hi4
    have T4 := Tr.from_ k01 t (fun b hb => by omega)
    rw [hxl, List.drop_length, two_nil'] at he
    obtain ⟨v, own, u5, u6, g, ho, mo5, mo6, hl⟩ := tj
    have w34 := t.at (k1.at w3 (fun h => h)) (by omega)
    have hT : ((elS Try.prog 24).bind (szS Try.prog)).isSome = true := by simp
    simp -dsimp [w34, u6, sliceS_from hT hj (by omega)]
    have hb4 := hb.mono (T4.ft (Nat.le_refl 0))
    have hcut := hb4.cut (i := j) (j := y.length) (m := c1) hj (Nat.le_refl _) (by omega) (Nat.le_refl _)
    have hdl : (y.drop j).take (y.length - j) = y.drop j := List.take_of_length_le (by simp)
    rw [hdl] at hcut
    have hcut : SlRep rCell (Ft 0 M h4) h4 (.slice (piece a1 j c1 5) (y.length - j) (c1 - j)) (y.drop j) := hcut
    have hzl : (y.drop j).length = y.length - j := List.length_drop
    have hzs : ∀ d ∈ y.drop j, CellSmall d := fun d hd => sy d (List.mem_of_mem_drop hd)
    generalize y.drop j = z at *
    refine call_by (ofc_spec _ (by simp) h4) ?_
    rintro _ h5 ⟨rfl, e5⟩
    have k5 : Keep none_ h4 h5 := by rw [e5]; exact .push _ _ _
    have hz5 : h5.size = h4.size + 1 := by rw [e5]; simp
    have w75 : h5[h4.size]? = some (.cells #[.slice (piece a1 j c1 5) (y.length - j) (c1 - j)] 24 (0, 0)) := by rw [e5]; exact push_new _ _
    clear e5
    have hdm5 := k5.at hdm (fun h => h)
    have u55 := k5.at u5 (fun h => h)
    have g5 := g.call k5
    have hol : out.length + (y.length - j) ≤ x.length + y.length := by
      have := congrArg List.length he
      rw [List.length_append, hzl] at this
      omega
    simp -dsimp
    obtain ⟨I2, hI2⟩ : ∃ I : List (List Value) → (Nat → Prop) → Heap → Prop, ∀ xs M h', I xs M h' ↔ ((M (h.size + 1) ∧ M h1.size) ∧ (∀ b, M b → b < h'.size) ∧ xs.length ≤ z.length ∧ h'[h1.size]? = some (.deferred (some [])) ∧ ∃ v own, h'[h.size + 1]? = some (.cells #[v] 24 (0, 0)) ∧
      Gr rCell 31 h.size M h' v (out ++ z.take xs.length) own ∧ ∀ b, own = some b → h1.size + 2 ≤ b ∧ b ≠ h5.size ∧ b ≠ h5.size + 1) := ⟨_, fun _ _ _ => Iff.rfl⟩
    refine range_m (val := fun cs : List Value => #[.agg cs.toArray]) (first := #[]) (by simp) (by simp) (ofc_iter (F := Ft 0 M h4) w75 (hcut.mono fun b hb => ⟨hb, k5.blk b hb.2.1 (fun h => h)⟩) (by omega)) I2
      ?_ ?_ M ?_ ?_ (by kernel_rfl) (by kernel_rfl) (fun _ => rfl) (by intro p hp; simp at hp; subst hp; decide) ?_ ?_
    · exact fun hi => ((hI2 _ _ _).1 hi).2.1
    · intro xs M h4 h5 hi m1 m2 k
      obtain ⟨hM, hlt, hx, hd, v, own, w1, g, ho⟩ := (hI2 _ _ _).1 hi
      exact (hI2 _ _ _).2 ⟨hM, fun b hb => Nat.lt_of_lt_of_le (hlt b hb) k.size, hx, k.at hd (by omega), v, own, k.at w1 (by omega), g.lp hlt m2 (fun e => (ho _ e).2.2 rfl) k, ho⟩
    · rintro b (rfl | hb)
      · exact ⟨by omega, fun hm => by have := hl _ hm; omega⟩
      · exact ⟨by have := hb.2.1; omega, hb.2.2⟩
    · intro h6 k6 hz6
      refine (hI2 _ _ _).2 ⟨⟨.inl mo5, .inl m1⟩, fun b hb => ?_, Nat.zero_le _, k6.at hdm5 (fun h => h), v, own, k6.at u55 (fun h => h), ?_, fun b hb => ⟨ho b hb, by have := g.own_lt b hb; omega, by have := g.own_lt b hb; omega⟩⟩
      · rcases hb with hb | hb | hb
        · have := hl b hb; omega
        · omega
        · omega
      · have t56 : Tr M (fun b => M b ∨ b = h5.size ∨ b = h5.size + 1) h5 h6 := (Tr.call ⟨.refl _ _, fun _ h => .inl h, fun b hb => by have := hl b hb; omega⟩ k6).more fun b hb => ⟨.inr (by omega), by omega⟩
        rw [show ([] : List (List Value)).length = 0 from rfl, List.take_zero, List.append_nil]
        exact g5.mono t56 (Nat.le_refl _) fun b hb => ⟨.inl (g5.mu b hb), k6.blk b (g5.own_lt b hb) (fun h => h)⟩
    · rintro xs cs M6 h6 hi6 ⟨hxk, hrep⟩ hz6 m61 m62 t6
      obtain ⟨hM, hlt, hx6, hd6, v6, own6, w1, g6, ho6⟩ := (hI2 _ _ _).1 hi6
      obtain ⟨ka, kc, sa, sc, na, nc, xa, xc, rfl, r1, _⟩ := cell_open hrep
      simp -dsimp
      rw [push_set rfl]
      generalize hB2 : Array.push h6 _ = h7
      have k7 : Keep none_ h6 h7 := by rw [← hB2]; exact .push _ _ _
      have hC : h7[h6.size]? = some (.cells #[.slice ka z[xs.length].key.length kc, .int .i64 z[xs.length].count, .slice sa z[xs.length].sum.length sc, .slice na z[xs.length].mn.length nc, .slice xa z[xs.length].mx.length xc] 31 (0, 0)) := by rw [← hB2]; exact push_new _ _
      refine ⟨k7, fun h8 k8 hz8 => ?_⟩
      have hzz : h7.size = h6.size + 1 := by rw [← hB2]; simp
      have t68 : Tr M6 M6 h6 h8 := (Tr.call ⟨.refl _ _, fun _ h => .inl h, hlt⟩ k7).trans (.lp (fun b hb => Nat.lt_of_lt_of_le (hlt b hb) k7.size) m62 k8)
      have g8 := (g6.call k7).lp (fun b hb => Nat.lt_of_lt_of_le (hlt b hb) k7.size) m62 (fun e => (ho6 _ e).2.2 rfl) k8
      have w8 := k8.at (k7.at w1 (fun h => h)) (by omega)
      have hd8 := k8.at (k7.at hd6 (fun h => h)) (by omega)
      have hC8 := k8.at hC (by omega)
      obtain ⟨va, vn, vc, rfl, hvn⟩ := g8.vals
      have hty : (out ++ z.take xs.length).length ≤ x.length + y.length := by rw [List.length_append, List.length_take]; omega
      have rx8 := rCell.mono hrep (t68.ft (Nat.le_refl 0))
      refine drawn_by [⟨0, true, []⟩, ⟨1, true, []⟩, ⟨2, false, [0]⟩, ⟨3, false, [0]⟩, ⟨4, false, []⟩, ⟨5, false, []⟩] (by kernel_rfl) (by kernel_rfl) ?_
      simp -dsimp [w8, hC8]
      refine call_by (mown_spec (rCell.mono rx8 (Ft.free (Nat.zero_le _))) (hzs _ (List.getElem_mem hxk))) ?_
      rintro _ h9 ⟨ds, rfl, rd, k9⟩
      obtain ⟨kb, kbc, sb, sbc, nb, nbc, xb, xbc, rfl, p1, _⟩ := cell_open rd
      have w9 := k9.at w8 (fun h => h)
      have hd9 := k9.at hd8 (fun h => h)
      have w9p : ∀ o, (h9.push o)[h.size + 1]? = _ := fun o => push_at w9
      have s8 := t68.size
      have T8 := T4.size
      simp -dsimp [w9, w9p, again_cons]
      refine gr_app1 (x := z[xs.length]) rfl cellT (g8.call k9) (t68.call k9).lt (rCell.mono rd (t68.ret (by omega))) rfl (by omega) (by omega) ?_
      intro v' h10 own10 g10 t10 k10 ho10
      have w10 := k10.at w9 (fun e => by have := (ho6 _ e).1; omega)
      have hd10 := k10.at hd9 (fun e => by have := (ho6 _ e).1; omega)
      have ho10' : ∀ b, own10 = some b → h1.size + 2 ≤ b ∧ b ≠ h5.size ∧ b ≠ h5.size + 1 := fun b e => (ho10 _ e).elim (ho6 b) fun e => by have := k9.size; omega
      obtain ⟨va', vn', vc', rfl, hvn'⟩ := g10.vals
      have hl10 := lt_of_blk w10
      have s9 := k9.size
      simp -dsimp [w10]
      have t11 := ((t68.call k9).trans t10).set (.cells #[.slice va' vn' vc'] 24) (.inl hM.1)
      refine ⟨_, (hI2 _ _ _).2 ⟨⟨.inl hM.1, .inl hM.2⟩, t11.lt, by simp only [List.length_append, List.length_singleton]; omega, (set_other _ (by omega)).trans hd10, _, own10, set_same _ hl10, ?_, ho10'⟩, t11, .inl m61, .inl m62, (set_other _ (by omega)).trans ((k10.blk _ (by omega) fun e => (ho6 _ e).2.1 rfl).trans (k9.blk _ (by omega) (fun h => h))), (set_other _ (by omega)).trans ((k10.blk _ (by omega) fun e => (ho6 _ e).2.2 rfl).trans (k9.blk _ (by omega) (fun h => h)))⟩
      rw [List.length_append, List.length_singleton, take_snoc hxk, ← List.append_assoc]
      exact g10.set _ (.inl hM.1) (fun e => by have := (ho10' _ e).1; omega)
    · rintro xs M6 h6 hxl hi6 hdm6 hz6 m61 m62 t6
      obtain ⟨hM, hlt, hx6, hd6, v6, own6, w1, g6, ho6⟩ := (hI2 _ _ _).1 hi6
      rw [hxl, List.take_of_length_le (Nat.le_refl _), ← he] at g6
      obtain ⟨va, vn, vc, rfl, hvn⟩ := g6.vals
      have k05 : Keep none_ h h5 := T4.keep.trans k5 fun _ _ h => h
      have T6 := Tr.from_ k05 t6 (fun b hb => T4.fresh b hb)
      simp -dsimp [w1]
      refine call_by (cloneCell_spec g6.grow Ft.lt (by omega)) ?_
      rintro _ h7 ⟨own7, g7, k7, ho7⟩
      obtain ⟨a7, c7, rfl⟩ := g7.val
      have hd7 := k7.at hdm6 (fun h => h)
      have hd7' := k7.at hd6 (fun h => h)
      simp -dsimp
      rw [takeS_cons hd7, takeS_cons ((set_other _ (by omega)).trans hd7')]
      simp -dsimp
      have s6 := T6.size
      have hold : ∀ b, b ≠ h5.size → b ≠ h1.size → ((h7.setIfInBounds h5.size (.deferred none)).setIfInBounds h1.size (.deferred none))[b]? = h7[b]? := fun b n1 n2 => by rw [set_other _ (fun e => n2 e.symm), set_other _ (fun e => n1 e.symm)]
      have hsz : ((h7.setIfInBounds h5.size (.deferred none)).setIfInBounds h1.size (.deferred none)).size = h7.size := by simp
      generalize (h7.setIfInBounds h5.size (.deferred none)).setIfInBounds h1.size (.deferred none) = h8 at hold hsz ⊢
      have s5 := t6.size
      have m1' : M6 h1.size := hM.2
      have hFt : ∀ b, Ft h.size M6 h6 b → h8[b]? = h6[b]? := fun b hb => by
        rw [hold b (fun e => hb.2.2 (e ▸ m61)) (fun e => hb.2.2 (e ▸ m1')), k7.blk b hb.2.1 (fun h => h)]
      refine hK _ _ ⟨⟨Ft h.size M6 h6, own7, g7.mono (fun b hb => ⟨hb, hold b (fun e => hb.2.2 (e ▸ m61)) (fun e => hb.2.2 (e ▸ m1'))⟩) fun b hb => ⟨g7.notF b hb, hold b ?_ ?_⟩, fun b hb => ⟨hb.1.at (Nat.le_refl _) (hFt b hb), ?_⟩, fun b hb => ?_⟩, ⟨?_, fun b hb _ => ?_⟩⟩
      · have := ho7 b hb; omega
      · have := ho7 b hb; omega
      · have := hb.2.1; have := k7.size; omega
      · have := ho7 b hb; omega
      · have := k7.size; omega
      · rw [hold b (by omega) (by omega), k7.blk b (by omega) (fun h => h), T6.keep.blk b hb (fun h => h)]
end Go.Proofs

/-
  Rows of rising cells made one, one by one; rows in pieces: the program's.
-/
namespace Go.HC
/-- Rows that come one by one. -/
def rowsA (ls : List (List CellM)) (xs : List Value) (v : Value) (M : Nat → Prop) (h : Heap) : Prop := ∃ hk : xs.length < ls.length, SlRep rCell (Ft 0 M h) h v ls[xs.length]
/-- Pieces of rows that come one by one. -/
def chunksA (n : Nat) (ls : List (List CellM)) (xs : List Value) (v : Value) (M : Nat → Prop) (h : Heap) : Prop := xs.length * n < ls.length ∧ SlRep (rSlice rCell) (Ft 0 M h) h v ((ls.drop (xs.length * n)).take n)
theorem flat_len_mem {ls : List (List CellM)} {r : List CellM} (h : r ∈ ls) : r.length ≤ ls.flatten.length := by
  obtain ⟨a, b, rfl⟩ := List.append_of_mem h
  simp; omega
end Go.HC
namespace Go.Proofs
open Go Go.HC

theorem ofr_spec (v : Value) (hv : v.cells = #[v]) (h : Heap) : CallH Try.prog 33 #[v] h fun r h' => r = .func (.func 47) #[] #[.pointer (some ⟨h.size, 0, none⟩)] ∧ h' = h.push (.cells #[v] 41) := by
  refine enter [.tmp 2] Try.func33 rfl rfl (by kernel_rfl) rfl ?_
  simp -dsimp [boxS_eq, hv]

set_option maxHeartbeats 4000000 in
set_option maxRecDepth 10000 in
theorem ofr_iter {h0 : Heap} {b1 : Nat} {v : Value} {ls : List (List CellM)} {F : Nat → Prop} (hb1 : h0[b1]? = some (.cells #[v] 41 (0, 0))) (hl : SlRep (rSlice rCell) F h0 v ls) (hln : ls.length < 1000000) :
    IterM Try.prog 47 #[] #[.pointer (some ⟨b1, 0, none⟩)] (fun v : Value => #[v]) (rowsA ls) (fun xs => xs.length = ls.length) (fun x => x = b1 ∨ F x) h0 := by
  intro y J M0 h ⟨yf, yu, yv', hyf⟩ hy hJ hsz hFp
  subst hyf
  have w1 := (hFp b1 (.inl rfl)).2.2.trans hb1
  have n1 := (hFp b1 (.inl rfl)).2.1
  have hlh : SlRep (rSlice rCell) (Ft 0 M0 h) h v ls := hl.mono fun x hx => by
    obtain ⟨g1, g2, g3⟩ := hFp x (.inr hx)
    exact ⟨⟨nz, by omega, g2⟩, g3⟩
  obtain ⟨a0, c0, rfl, _, _⟩ := hl.val
  refine callH_by fun K hK => ?_
  refine enter [] Try.func47 rfl rfl (by kernel_rfl) rfl ?_
  simp -dsimp [w1]
  refine loopc (σ := Nat) (fun k => [(0, .func yf yu yv'), (5, .slice a0 ls.length c0), (6, .int .i64 ls.length), (7, .int .i64 k)])
    (fun k h1 => k ≤ ls.length ∧ ∃ xs M, xs.length = k ∧ J xs M h1 ∧ Tr M0 M h h1) (fun k => ls.length - k) 0 0 (fun k _ => k = ls.length) noRet noRet_le (by simp)
    ⟨by omega, [], M0, rfl, hJ, ⟨.refl _ _, fun _ h => .inl h, fun b hb => hy.lt hJ b hb⟩⟩ (by kernel_rfl) ?_ ?_
  · rintro k h1 g ⟨hk, xs, M, hxs, hJ1, t⟩
    by_cases hkl : k < ls.length
    · have wk := wrap_succ (k := k) (by omega)
      obtain ⟨bl, ol, w, e1, _, hx1, hrep⟩ := (hlh.mono (t.ft (Nat.le_refl 0))).row_at k hkl
      obtain ⟨aw, cw, rfl, _, _⟩ := hrep.val
      simp -dsimp [hkl, e1, idxA_nat hkl, hx1]
      refine callV_by (hy.step (x := .slice aw ls[k].length cw) hJ1 ?_) ?_
      · refine ⟨by rw [hxs]; exact hkl, ?_⟩
        simpa [hxs] using hrep
      · rintro _ h4 ⟨rfl, M', hJ4, t4⟩
        simp -dsimp [wk]
        exact ⟨k + 1, by simp [e1], rfl, ⟨by omega, xs ++ [_], M', by simp [hxs], hJ4, t.trans t4⟩, by show ls.length - (k + 1) < ls.length - k; omega⟩
    · simp -dsimp [hkl]
      exact ⟨rfl, k, by simp, rfl, ⟨hk, xs, M, hxs, hJ1, t⟩, by omega⟩
  · rintro k h1 g ⟨hk, xs, M, hxs, hJ1, t⟩ rfl
    simp -dsimp
    exact hK _ _ ⟨xs, M, hxs, hJ1, t⟩

set_option maxHeartbeats 8000000 in
set_option maxRecDepth 10000 in
theorem mone_spec {h : Heap} {v : Value} {ls : List (List CellM)} (hl : SlRep (rSlice rCell) (Old h) h v ls) (h0 : 0 < ls.length) (hs : ∀ r ∈ ls, Srt r) (hsm : ∀ r ∈ ls, ∀ d ∈ r, CellSmall d) (hn : ls.flatten.length < 1000000) (hln : ls.length < 1000000) :
    CallH Try.prog 23 #[v] h fun r h' => NewC 31 h.size h' r (groupC ls.flatten) ∧ Keep none_ h h' := by
  refine callH_by fun K hK => ?_
  refine enter [.tmp 2] Try.func23 rfl rfl (by kernel_rfl) rfl ?_
  obtain ⟨a0, c0, rfl, hc0, _⟩ := hl.val
  obtain ⟨bl, ol, w, e1, _, hx1, hrep⟩ := hl.row_at 0 h0
  obtain ⟨aw, cw, rfl, _, _⟩ := hrep.val
  have hx1' : HC.cellIn h[bl]? ol = _ := hx1
  have hm0 : ls[0] ∈ ls := List.getElem_mem h0
  have hlen : ∀ r ∈ ls, r.length < 1000000 := fun r hr => by have := flat_len_mem hr; omega
  simp -dsimp [e1, idxA_zero h0, hx1']
  refine call_by (two_spec (y := []) hrep (.nil _ _ _) (hlen _ hm0) (by simp) (hsm _ hm0) (fun d hd => by cases hd)) ?_
  rintro v1 h1 ⟨n1, k1⟩
  rw [two_nil] at n1
  have hg0 : groupC (ls.take 1).flatten = ls[0] := by
    rw [take_snoc (k := 0) h0]
    simp only [List.take_zero, List.nil_append, List.flatten_cons, List.flatten_nil, List.append_nil]
    exact group_id (hs _ hm0)
  have hv1 : ∃ a n c, v1 = .slice a n c := by
    obtain ⟨F, own, g, _⟩ := n1
    obtain ⟨a, c, rfl⟩ := g.val
    exact ⟨_, _, _, rfl⟩
  obtain ⟨av1, nv1, cv1, rfl⟩ := hv1
  have hT : ((elS Try.prog 41).bind (szS Try.prog)).isSome = true := by simp
  have hsF : ∀ (K : Value → Heap → Prop) (h : Heap), sliceS Try.prog 41 (.slice (some ⟨bl, ol, none⟩) ls.length c0) (some (.int .i64 1)) none none h K = K (.slice (piece (some ⟨bl, ol, none⟩) 1 c0 1) (ls.length - 1) (c0 - 1)) h := fun K h => by
    have := sliceS_from (P := Try.prog) (a := some ⟨bl, ol, none⟩) (n := ls.length) (c := c0) (i := 1) (k := .i64) (K := K) (h := h) hT h0 hc0
    simpa using this
  have s1 := k1.size
  simp -dsimp [hsF]
  rw [push_set (by simp)]
  generalize hB : Array.push h1 _ = h2
  have k2 : Keep none_ h1 h2 := by rw [← hB]; exact .push _ _ _
  have hz2 : h2.size = h1.size + 1 := by rw [← hB]; simp
  have w3 : h2[h1.size]? = some (.cells #[.slice av1 nv1 cv1] 24 (0, 0)) := by rw [← hB]; exact push_new _ _
  refine call_by (ofr_spec _ (by simp) h2) ?_
  rintro _ h3 ⟨rfl, e3⟩
  have k3 : Keep none_ h2 h3 := by rw [e3]; exact .push _ _ _
  have hz3 : h3.size = h2.size + 1 := by rw [e3]; simp
  have w7 : h3[h2.size]? = some (.cells #[.slice (piece (some ⟨bl, ol, none⟩) 1 c0 1) (ls.length - 1) (c0 - 1)] 41 (0, 0)) := by rw [e3]; exact push_new _ _
  clear e3
  have k03 := (k1.trans k2 fun _ _ h => h).trans k3 fun _ _ h => h
  rw [e1] at hl
  have hcut := (hl.mono (F' := fun b => b < h.size) (h' := h3) fun b hb => ⟨hb.2.1, k03.blk b hb.2.1 (fun h => h)⟩).cut (i := 1) (j := ls.length) (m := c0) h0 (Nat.le_refl _) hc0 (Nat.le_refl _)
  have hdl : (ls.drop 1).take (ls.length - 1) = ls.drop 1 := List.take_of_length_le (by simp)
  rw [hdl] at hcut
  have hcut : SlRep (rSlice rCell) (fun b => b < h.size) h3 (.slice (piece (some ⟨bl, ol, none⟩) 1 c0 1) (ls.length - 1) (c0 - 1)) (ls.drop 1) := hcut
  have hdl2 : (ls.drop 1).length = ls.length - 1 := List.length_drop
  simp -dsimp
  obtain ⟨I, hI⟩ : ∃ I : List Value → (Nat → Prop) → Heap → Prop, ∀ xs M h', I xs M h' ↔ (M h1.size ∧ (∀ b, M b → b < h'.size) ∧ xs.length + 1 ≤ ls.length ∧ ∃ a n c, h'[h1.size]? = some (.cells #[.slice a n c] 24 (0, 0)) ∧ NewCM 31 h.size M h' (.slice a n c) (groupC (ls.take (xs.length + 1)).flatten)) := ⟨_, fun _ _ _ => Iff.rfl⟩
  refine range_m (val := fun v : Value => #[v]) (first := #[]) (by simp) (by simp) (ofr_iter w7 hcut (by omega)) I
    ?_ ?_ (fun b => b = h1.size) ?_ ?_ (by kernel_rfl) (by kernel_rfl) (fun _ => rfl) (by intro p hp; simp at hp; subst hp; decide) ?_ ?_
  · exact fun hi => ((hI _ _ _).1 hi).2.1
  · intro xs M h4 h5 hi m1 m2 k
    obtain ⟨hM, hlt, hx, a, n, c, w1, g⟩ := (hI _ _ _).1 hi
    exact (hI _ _ _).2 ⟨hM, fun b hb => Nat.lt_of_lt_of_le (hlt b hb) k.size, hx, a, n, c, k.at w1 (by omega), g.mono (.lp hlt m2 k)⟩
  · rintro b (rfl | hb)
    · exact ⟨by omega, by omega⟩
    · exact ⟨by omega, by omega⟩
  · intro h4 k4 hz4
    refine (hI _ _ _).2 ⟨.inl rfl, by omega, by simp only [List.length_nil]; omega, _, _, _, k4.at (k3.at w3 (fun h => h)) (fun h => h), ?_⟩
    have q1 : NewC 31 h.size h4 (.slice av1 nv1 cv1) ls[0] := ((n1.keep k2).keep k3).keep k4
    obtain ⟨F, own, g, hF, ho⟩ := n1
    have hl1 := g.own_lt
    have hk14 : Keep none_ h1 h4 := (k2.trans k3 fun _ _ h => h).trans k4 fun _ _ h => h
    rw [show ([] : List Value).length + 1 = 1 from rfl, hg0]
    exact ⟨F, own, g.mono (fun b hb => ⟨hb, hk14.blk b (hF b hb).2 (fun h => h)⟩) fun b hb => ⟨g.notF b hb, hk14.blk b (hl1 b hb) (fun h => h)⟩, fun b hb => ⟨(hF b hb).1.at (Nat.le_refl _) (hk14.blk b (hF b hb).2 (fun h => h)), by have := (hF b hb).2; have := hk14.size; omega, by have := (hF b hb).2; omega⟩,
      fun b hb => ⟨ho b hb, by have := hl1 b hb; omega⟩⟩
  · rintro xs v M h4 hi4 ⟨hxk, hrow⟩ hz4 m1 m2 t
    obtain ⟨hM, hlt, hx, a, n, c, w1, g⟩ := (hI _ _ _).1 hi4
    obtain ⟨ar, cr, rfl, _, _⟩ := hrow.val
    have hxl : xs.length + 1 < ls.length := by omega
    have hgd : (ls.drop 1)[xs.length] = ls[xs.length + 1] := by rw [List.getElem_drop]; congr 1; omega
    rw [hgd] at hrow
    simp -dsimp
    refine ⟨.refl _ _, fun h5 k5 hz5 => ?_⟩
    have t45 := Tr.lp hlt m2 k5
    have w5 := k5.at w1 (by omega)
    have g5 := g.mono t45
    have r5 := hrow.mono (t45.ft (Nat.le_refl 0))
    have hmem : ls[xs.length + 1] ∈ ls := List.getElem_mem hxl
    have hft := flatten_take hxl
    have hfl := flatten_take_le ls (xs.length + 1 + 1)
    have hfl1 := flatten_take_le ls (xs.length + 1)
    have hgl := groupC_le (ls.take (xs.length + 1)).flatten
    have hsmt : ∀ d ∈ groupC (ls.take (xs.length + 1)).flatten, CellSmall d := group_all small_join fun d hd => by
      obtain ⟨r, hr, hdr⟩ := List.mem_flatten.1 hd
      exact hsm r (List.mem_of_mem_take hr) d hdr
    simp -dsimp [w5]
    refine call_by (two_spec ((g5.rep (Nat.zero_le _)).mono (Ft.free (Nat.zero_le _))) (r5.mono (Ft.free (Nat.zero_le _))) (by omega) (hlen _ hmem) hsmt (hsm _ hmem)) ?_
    rintro v6 h6 ⟨n6, k6⟩
    have e6 : twoM (groupC (ls.take (xs.length + 1)).flatten) ls[xs.length + 1] = groupC (ls.take (xs.length + 1 + 1)).flatten := by
      rw [two_group (grp_group _).srt (hs _ hmem), group_left, hft]
    rw [e6] at n6
    have t46 := t45.call k6
    have s5 := t45.size
    have hv6 : ∃ a n c, v6 = .slice a n c := by
      obtain ⟨F, own, g, _⟩ := n6
      obtain ⟨a, c, rfl⟩ := g.val
      exact ⟨_, _, _, rfl⟩
    obtain ⟨a6, nn6, c6, rfl⟩ := hv6
    have w6 := k6.at w5 (fun h => h)
    have hl6 := lt_of_blk w6
    simp -dsimp [w6]
    have t47 := t46.set (.cells #[.slice a6 nn6 c6] 24) hM
    refine ⟨M, (hI _ _ _).2 ⟨hM, t47.lt, by simp only [List.length_append, List.length_singleton]; omega, _, _, _, set_same _ hl6, ?_⟩, t47, m1, m2, (set_other _ (by omega)).trans (k6.blk _ (by omega) (fun h => h)), (set_other _ (by omega)).trans (k6.blk _ (by omega) (fun h => h))⟩
    rw [List.length_append, List.length_singleton]
    have := n6.away (n0 := h.size) (M := M) (by have := t.size; omega) (fun b hb => by have := hlt b hb; omega)
    exact this.mono (Tr.set ⟨.refl _ _, fun _ h => .inl h, t46.lt⟩ _ hM)
  · rintro xs M h4 hxl hi4 hdm hz4 m1 m2 t
    obtain ⟨hM, hlt, hx, a, n, c, w1, g⟩ := (hI _ _ _).1 hi4
    have T4 := Tr.from_ k03 t (fun b hb => by omega)
    rw [hxl, hdl2, show ls.length - 1 + 1 = ls.length by omega, List.take_length] at g
    simp -dsimp [w1]
    rw [takeS_cons hdm]
    simp -dsimp
    exact hK _ _ ⟨(g.mono (Tr.set ⟨.refl _ _, fun _ h => .inl h, hlt⟩ _ m1)).newC, (T4.set _ m1).keep⟩

theorem chunk_spec (v : Value) (hv : v.cells = #[v]) {n : Nat} (hn : 1 ≤ n) (h : Heap) : CallH Try.prog 22 #[v, .int .i64 n] h fun r h' => r = .func (.func 31) #[] #[.pointer (some ⟨h.size, 0, none⟩), .pointer (some ⟨h.size + 1, 0, none⟩)] ∧ h' = (h.push (.cells #[v] 41)).push (.cells #[.int .i64 n] 3) := by
  refine callH_by fun K hK => ?_
  refine enter [.tmp 4] Try.func22 rfl rfl (by kernel_rfl) rfl ?_
  have hn' : ¬ (n : Int) < 1 := by omega
  simp -dsimp [boxS_eq, hv, hn']
  exact hK _ _ ⟨rfl, rfl⟩

set_option maxHeartbeats 4000000 in
set_option maxRecDepth 10000 in
theorem chunk_iter {h0 : Heap} {b1 b2 n : Nat} {v : Value} {ls : List (List CellM)} {F : Nat → Prop} (hb1 : h0[b1]? = some (.cells #[v] 41 (0, 0))) (hb2 : h0[b2]? = some (.cells #[.int .i64 n] 3 (0, 0))) (hl : SlRep (rSlice rCell) F h0 v ls) (hln : ls.length < 1000000) (hn : 1 ≤ n) (hn' : n < 9223372036854775807) :
    IterM Try.prog 31 #[] #[.pointer (some ⟨b1, 0, none⟩), .pointer (some ⟨b2, 0, none⟩)] (fun v : Value => #[v]) (chunksA n ls) (fun xs => ls.length ≤ xs.length * n) (fun x => x = b1 ∨ x = b2 ∨ F x) h0 := by
  intro y J M0 h ⟨yf, yu, yv', hyf⟩ hy hJ hsz hFp
  subst hyf
  have w1 := (hFp b1 (.inl rfl)).2.2.trans hb1
  have n1 := (hFp b1 (.inl rfl)).2.1
  have w2 := (hFp b2 (.inr (.inl rfl))).2.2.trans hb2
  have n2 := (hFp b2 (.inr (.inl rfl))).2.1
  have hlh : SlRep (rSlice rCell) (Ft 0 M0 h) h v ls := hl.mono fun x hx => by
    obtain ⟨g1, g2, g3⟩ := hFp x (.inr (.inr hx))
    exact ⟨⟨nz, by omega, g2⟩, g3⟩
  obtain ⟨a0, c0, rfl, hc0, hc0'⟩ := hl.val
  refine callH_by fun K hK => ?_
  refine enter [] Try.func31 rfl rfl (by kernel_rfl) rfl ?_
  simp -dsimp
  refine loopc (σ := Nat) (fun k => [(0, .func yf yu yv'), (1, .pointer (some ⟨b1, 0, none⟩)), (2, .pointer (some ⟨b2, 0, none⟩)), (4, .int .i64 (k * n : Nat))])
    (fun k h1 => (k = 0 ∨ (k - 1) * n < ls.length) ∧ ∃ xs M, xs.length = k ∧ J xs M h1 ∧ Tr M0 M h h1) (fun k => ls.length - k * n) 0 0 (fun k _ => ls.length ≤ k * n) noRet noRet_le (by simp)
    ⟨.inl rfl, [], M0, rfl, hJ, ⟨.refl _ _, fun _ h => .inl h, fun b hb => hy.lt hJ b hb⟩⟩ (by kernel_rfl) ?_ ?_
  · rintro k h1 g ⟨hk, xs, M, hxs, hJ1, t⟩
    have v1 := t.at w1 n1
    have v2 := t.at w2 n2
    obtain ⟨q, eq⟩ : ∃ q, q = k * n := ⟨_, rfl⟩
    have hsucc : (k + 1) * n = q + n := by rw [eq, Nat.add_mul, Nat.one_mul]
    rw [← eq]
    by_cases hkl : q < ls.length
    · have hnq : k = 0 ∧ q = 0 ∨ n ≤ q := by
        rcases Nat.eq_zero_or_pos k with rfl | hp
        · exact .inl ⟨rfl, by rw [eq]; omega⟩
        · refine .inr ?_
          rw [eq]
          exact Nat.le_mul_of_pos_left n hp
      obtain ⟨e, ee⟩ : ∃ e, e = min n (ls.length - q) := ⟨_, rfl⟩
      have wq : IntKind.i64.wrap ((q : Int) + (e : Int)) = (q : Int) + (e : Int) := wrap_i64 (by omega) (by omega)
      have wn : IntKind.i64.wrap ((q : Int) + (n : Int)) = (q : Int) + (n : Int) := wrap_i64 (by omega) (by omega)
      have ec : (q : Int) + (e : Int) = ((q + e : Nat) : Int) := by omega
      have hmin : min (n : Int) ((ls.length - q : Nat) : Int) = (e : Nat) := by omega
      have hq1 : q ≤ ls.length := by omega
      simp -dsimp [v1, hkl]
      refine drawn_by [⟨0, true, []⟩, ⟨1, true, []⟩, ⟨2, true, []⟩, ⟨3, true, []⟩, ⟨4, true, []⟩, ⟨5, false, []⟩, ⟨6, true, []⟩] (by kernel_rfl) (by kernel_rfl) ?_
      have hsl : ∀ (K : Value → Heap → Prop) (h : Heap), sliceS Try.prog 41 (.slice a0 ls.length c0) (some (.int .i64 (q : Int))) (some (.int .i64 ((q : Int) + (e : Int)))) (some (.int .i64 ((q : Int) + (e : Int)))) h K = K (.slice (piece a0 q (q + e) 1) (q + e - q) (q + e - q)) h := fun K h => by
        rw [ec]
        exact sliceS_slice Try.elS41 Try.szS24 (.inr ⟨_, rfl, by simp⟩) (.inr ⟨_, rfl⟩) (.inr ⟨_, rfl⟩) (by omega) (Nat.le_refl _) (by omega)
      simp -dsimp [v1, v2, elSz_eq, pieceV, natV, hq1, hc0, hmin, wq, hsl]
      refine callV_by (hy.step (x := .slice (piece a0 q (q + e) 1) e e) hJ1 ?_) ?_
      · have hcut := (hlh.mono (t.ft (Nat.le_refl 0))).cut (i := q) (j := q + e) (m := q + e) (by omega) (by omega) (Nat.le_refl _) (by omega)
        refine ⟨by rw [hxs, ← eq]; exact hkl, ?_⟩
        have e2 : (ls.drop q).take n = (ls.drop q).take (q + e - q) := by
          rw [show q + e - q = e by omega, ee]
          by_cases hc : n ≤ ls.length - q
          · rw [Nat.min_eq_left hc]
          · rw [Nat.min_eq_right (by omega), List.take_of_length_le (by simp; omega), List.take_of_length_le (by simp)]
        rw [hxs, ← eq, e2]
        have hee : q + e - q = e := Nat.add_sub_cancel_left ..
        rw [hee] at hcut ⊢
        exact hcut
      · rintro _ h4 ⟨rfl, M', hJ4, t4⟩
        have v24 := t4.keep.blk b2 (lt_of_blk v2) (fun hm => (t.new b2 hm).elim n2 fun e => by have := lt_of_blk w2; omega)
        simp -dsimp [v24.trans v2, wn]
        refine ⟨k + 1, by simp [hsucc], rfl, ⟨.inr (by rw [Nat.add_sub_cancel, ← eq]; exact hkl), xs ++ [_], M', by simp [hxs], hJ4, t.trans t4⟩, ?_⟩
        show ls.length - (k + 1) * n < ls.length - k * n
        omega
    · simp -dsimp [v1, hkl]
      exact ⟨rfl, k, by simp [eq], rfl, ⟨hk, xs, M, hxs, hJ1, t⟩, by omega⟩
  · rintro k h1 g ⟨hk, xs, M, hxs, hJ1, t⟩ hkl
    simp -dsimp
    exact hK _ _ ⟨xs, M, by show ls.length ≤ xs.length * n; rw [hxs]; exact hkl, hJ1, t⟩
end Go.Proofs

/-
  HC, part 29: a loop whose rounds range over functions; what is taken up at the end.
-/
namespace Go.HC
def ExJD {σ : Type} (idx : Nat) (S : σ → L) (D : σ → List Nat) (J : σ → Heap → Prop) (_t1 : Tag S) (_t2 : Tag J) (j : Nat) (l : L) (b : Base) (h : Heap) : Prop := j = idx ∧ ∃ s, Sub (S s) l b ∧ b.d = D s ∧ J s h
section
variable {P : Program} {n : Nat} {ro : Option Nat} {c : Code} {κ : Kont} {l : L} {b : Base} {h : Heap} {σ : Type}
theorem gsem_cutD {idx : Nat} {S : σ → L} {D : σ → List Nat} {J : σ → Heap → Prop} {R : L → Base → Heap → Prop} (hR : ∀ l b h, R l b h → κ.rt l b h)
    (hc : gsem P n ro c { nx := fun _ _ _ => False, rt := R, ex := ExJD idx S D J ⟨⟩ ⟨⟩, gt := fun _ _ _ _ => False } l b h)
    (after : ∀ s h g, J s h → κ.ex idx (S s) ⟨g, D s⟩ h) : gsem P n ro c κ l b h := by
  intro a w hw hfr fr k cs hkd hro
  obtain ⟨e, a', w', l', b', hs, hfr', hk, harr⟩ := hc a w hw hfr fr k cs hkd hro
  cases e with
  | nx => exact hk.elim
  | rt => exact ⟨.rt, a', w', l', b', hs, hfr', hR _ _ _ hk, harr⟩
  | ex j =>
    obtain ⟨rfl, s, hsub, hd, hJ⟩ := hk
    have hcl := hfr'.clean hsub
    rw [hd] at hcl
    exact ⟨.ex j, a', w', S s, ⟨fun t => a'.tmps.getD t undef, D s⟩, hs, hcl, after s _ _ hJ, harr⟩
  | gt t => exact hk.elim
/-- A loop that is cut off, in whose rounds blocks of marks are laid. -/
theorem loopcD (S : σ → L) (D : σ → List Nat) (J : σ → Heap → Prop) (μ : σ → Nat) (s0 : σ) (idx : Nat) (Q : σ → Heap → Prop) (R : L → Base → Heap → Prop) (hR : ∀ l b h, R l b h → κ.rt l b h) (hS : Sub (S s0) l b) (hD : b.d = D s0) (hJ : J s0 h) (hok : codeOk n c = true)
    (round : ∀ s h g, J s h → cs P n ro c { nx := LoopJ S D J μ s ⟨⟩ ⟨⟩ ⟨⟩, rt := R, ex := ExJD idx S D (fun s h => J s h ∧ Q s h) ⟨⟩ ⟨⟩, gt := fun _ _ _ _ => False } (S s) ⟨g, D s⟩ h)
    (after : ∀ s h g, J s h → Q s h → κ.ex idx (S s) ⟨g, D s⟩ h) : gs P n ro (.loop c) κ l b h :=
  gsem_cutD hR (loop (κ := { nx := fun _ _ _ => False, rt := R, ex := ExJD idx S D (fun s h => J s h ∧ Q s h) ⟨⟩ ⟨⟩, gt := fun _ _ _ _ => False }) S D J μ s0 hS hD hJ hok round) fun s h g hj => after s h g hj.1 hj.2
theorem takeS_all {K : Heap → Prop} : ∀ {ds : List Nat} {h : Heap}, (∀ d ∈ ds, h[d]? = some (.deferred (some []))) → ds.Nodup → (∀ h' : Heap, h'.size = h.size → (∀ b, b ∉ ds → h'[b]? = h[b]?) → K h') → takeS ds h K
  | [], h, _, _, hk => by rw [takeS_nil]; exact hk h rfl fun _ _ => rfl
  | d :: ds, h, hd, hn, hk => by
    rw [takeS_cons (hd d List.mem_cons_self)]
    obtain ⟨h1, h2⟩ := List.nodup_cons.1 hn
    refine takeS_all (fun e he => ?_) h2 fun h' hz hb => hk h' (by rw [hz]; simp) fun b hm => ?_
    · rw [set_other _ (fun (e' : d = e) => h1 (by rw [e']; exact he))]
      exact hd e (List.mem_cons_of_mem _ he)
    · rw [hb b (fun e => hm (List.mem_cons_of_mem _ e)), set_other _ (fun (e : d = b) => hm (by rw [e]; exact List.mem_cons_self))]
end
end Go.HC

/-
  All rows made one: the program's.
-/
namespace Go.HC
/-- Of each n rows one. -/
def outsM (n : Nat) (ls : List (List CellM)) (k : Nat) : List (List CellM) := (List.range k).map fun i => groupC ((ls.drop (i * n)).take n).flatten
section
variable {n : Nat} {ls : List (List CellM)}
theorem outs_len (k : Nat) : (outsM n ls k).length = k := by unfold outsM; simp
theorem outs_snoc (k : Nat) : outsM n ls (k + 1) = outsM n ls k ++ [groupC ((ls.drop (k * n)).take n).flatten] := by unfold outsM; rw [List.range_succ, List.map_append]; rfl
theorem take_chunk (k : Nat) : ls.take ((k + 1) * n) = ls.take (k * n) ++ (ls.drop (k * n)).take n := by rw [Nat.add_mul, Nat.one_mul, List.take_add]
theorem outs_flat : ∀ k, groupC (outsM n ls k).flatten = groupC (ls.take (k * n)).flatten
  | 0 => by unfold outsM; simp
  | k + 1 => by
    rw [outs_snoc, take_chunk, List.flatten_append, List.flatten_append]
    have : [groupC ((ls.drop (k * n)).take n).flatten].flatten = groupC ((ls.drop (k * n)).take n).flatten := by simp
    rw [this, group_right, ← group_left, outs_flat k, group_left]
theorem outs_le : ∀ k, (outsM n ls k).flatten.length ≤ (ls.take (k * n)).flatten.length
  | 0 => by unfold outsM; simp
  | k + 1 => by
    rw [outs_snoc, take_chunk, List.flatten_append, List.flatten_append, List.length_append, List.length_append]
    have h1 := outs_le k
    have h2 := groupC_le ((ls.drop (k * n)).take n).flatten
    have : [groupC ((ls.drop (k * n)).take n).flatten].flatten = groupC ((ls.drop (k * n)).take n).flatten := by simp
    rw [this]; omega
theorem chunk_le (a b : Nat) : ((ls.drop a).take b).flatten.length ≤ ls.flatten.length := by
  have h1 := flatten_take_le (ls.drop a) b
  have h2 : ls.flatten.length = (ls.take a).flatten.length + (ls.drop a).flatten.length := by
    conv => lhs; rw [← List.take_append_drop a ls]
    rw [List.flatten_append, List.length_append]
  omega
theorem outs_mem {k : Nat} {r : List CellM} (h : r ∈ outsM n ls k) : ∃ i, r = groupC ((ls.drop (i * n)).take n).flatten := by
  unfold outsM at h
  obtain ⟨i, _, rfl⟩ := List.mem_map.1 h
  exact ⟨i, rfl⟩
theorem chunk_count {k : Nat} (h2 : 2 ≤ n) (hl : 1 < ls.length) (h1 : k = 0 ∨ (k - 1) * n < ls.length) (hd : ls.length ≤ k * n) : k < ls.length := by
  rcases Nat.eq_zero_or_pos k with rfl | hp
  · omega
  · have h3 : (k - 1) * n < ls.length := h1.elim (fun h => by omega) id
    have h4 : (k - 1) * 2 ≤ (k - 1) * n := Nat.mul_le_mul_left _ h2
    omega
end
end Go.HC
namespace Go.Proofs
open Go Go.HC

set_option maxHeartbeats 8000000 in
set_option maxRecDepth 10000 in
theorem merge_spec {h : Heap} {v : Value} {ls0 : List (List CellM)} {n : Nat} (hl : SlRep (rSlice rCell) (Old h) h v ls0) (hs : ∀ r ∈ ls0, Srt r) (hsm : ∀ r ∈ ls0, ∀ d ∈ r, CellSmall d) (hn : ls0.flatten.length < 1000000) (hln : ls0.length < 1000000) (h2 : 2 ≤ n) (hn' : n < 9223372036854775807) :
    CallH Try.prog 14 #[v, .int .i64 n] h fun r h' => ∃ rv p, r = .tuple #[rv, .int .i64 p] ∧ NewC 31 h.size h' rv (groupC ls0.flatten) ∧ Keep none_ h h' := by
  refine callH_by fun K hK => ?_
  refine enter [.tmp 4, .tmp 5] Try.func14 rfl rfl (by kernel_rfl) rfl ?_
  have hmax : max (n : Int) 2 = n := by omega
  simp -dsimp [hmax]
  refine loopcD (σ := Int × Value × List (List CellM) × List Nat) (fun t => [(0, t.2.1), (1, .int .i64 n), (5, .int .i64 t.1)]) (fun t => t.2.2.2)
    (fun t h1 => Keep none_ h h1 ∧ (∀ d ∈ t.2.2.2, h.size ≤ d ∧ h1[d]? = some (.deferred (some []))) ∧ t.2.2.2.Nodup ∧ SlRep (rSlice rCell) (Old h1) h1 t.2.1 t.2.2.1 ∧ (∀ r ∈ t.2.2.1, Srt r) ∧ (∀ r ∈ t.2.2.1, ∀ d ∈ r, CellSmall d) ∧
      groupC t.2.2.1.flatten = groupC ls0.flatten ∧ t.2.2.1.flatten.length < 1000000 ∧ t.2.2.1.length < 1000000)
    (fun t => t.2.2.1.length) (0, v, ls0, []) 0 (fun t _ => ¬ 1 < t.2.2.1.length) noRet noRet_le (by simp) rfl ⟨.refl _ _, (fun d hd => by cases hd), List.nodup_nil, hl, hs, hsm, rfl, hn, hln⟩ (by kernel_rfl) ?_ ?_
  · rintro ⟨p, rv, ls, ds⟩ h1 g ⟨k1, hds, hnd, hr, hs1, hsm1, hg1, hf1, hl1⟩
    simp only at hds hnd hr hs1 hsm1 hg1 hf1 hl1
    obtain ⟨a1, c1, rfl, _, _⟩ := hr.val
    have s1 := k1.size
    by_cases hlen : 1 < ls.length
    · have hlen' : (1 : Int) < (ls.length : Int) := by omega
      simp -dsimp [hlen']
      refine call_by (chunk_spec _ (by simp) (show 1 ≤ n by omega) (h1.push (.cells #[.slice none 0 0] 41))) ?_
      rintro _ h3 ⟨rfl, e3⟩
      have hz3 : h3.size = h1.size + 3 := by rw [e3]; simp
      have k3 : Keep none_ h1 h3 := by rw [e3]; exact (((Keep.refl none_ h1).pushed _).pushed _).pushed _
      have w6 : h3[h1.size]? = some (.cells #[.slice none 0 0] 41 (0, 0)) := by rw [e3]; exact push_at (push_at (push_new _ _))
      have w7 : h3[h1.size + 1]? = some (.cells #[.slice a1 ls.length c1] 41 (0, 0)) := by rw [e3]; exact push_at (push_get (by simp))
      have w8 : h3[h1.size + 2]? = some (.cells #[.int .i64 n] 3 (0, 0)) := by rw [e3]; exact push_get (by simp)
      have hps : ∀ o, (Array.push h1 o).size = h1.size + 1 := fun o => by simp
      rw [hps]
      clear e3
      simp -dsimp
      obtain ⟨I, hI⟩ : ∃ I : List Value → (Nat → Prop) → Heap → Prop, ∀ xs M h', I xs M h' ↔ (M h1.size ∧ (∀ b, M b → b < h'.size) ∧ (xs.length = 0 ∨ (xs.length - 1) * n < ls.length) ∧ ∃ v own, h'[h1.size]? = some (.cells #[v] 41 (0, 0)) ∧
        Gr (rSlice rCell) 24 0 M h' v (outsM n ls xs.length) own ∧ ∀ b, own = some b → h3.size + 2 ≤ b) := ⟨_, fun _ _ _ => Iff.rfl⟩
      refine range_m (val := fun v : Value => #[v]) (first := #[]) (by simp) (by simp) (chunk_iter (n := n) (F := fun b => b < h1.size) w7 w8 (hr.mono fun b hb => ⟨hb.2.1, k3.blk b hb.2.1 (fun h => h)⟩) hl1 (by omega) hn') I
        ?_ ?_ (fun b => b = h1.size) ?_ ?_ (by kernel_rfl) (by kernel_rfl) (fun _ => rfl) (by intro p hp; simp at hp; subst hp; decide) ?_ ?_
      · exact fun hi => ((hI _ _ _).1 hi).2.1
      · intro xs M h4 h5 hi m1 m2 k
        obtain ⟨hM, hlt, hx, v, own, w1, g, ho⟩ := (hI _ _ _).1 hi
        exact (hI _ _ _).2 ⟨hM, fun b hb => Nat.lt_of_lt_of_le (hlt b hb) k.size, hx, v, own, k.at w1 (by omega), g.lp hlt m2 (fun e => by have := ho _ e; omega) k, ho⟩
      · rintro b (rfl | rfl | hb)
        · exact ⟨by omega, by omega⟩
        · exact ⟨by omega, by omega⟩
        · exact ⟨by omega, by omega⟩
      · intro h4 k4 hz4
        exact (hI _ _ _).2 ⟨.inl rfl, by omega, .inl rfl, _, none, k4.at w6 (fun h => h), .nil _ _ _ _ _, fun b hb => by cases hb⟩
      · rintro xs cv M h4 hi4 ⟨hxk, hrow⟩ hz4 m1 m2 t
        obtain ⟨hM, hlt, hx, v, own, w1, g, ho⟩ := (hI _ _ _).1 hi4
        obtain ⟨ar, cr, rfl, _, _⟩ := hrow.val
        obtain ⟨ck, eck⟩ : ∃ ck, ck = (ls.drop (xs.length * n)).take n := ⟨_, rfl⟩
        have hckl : 0 < ck.length := by rw [eck]; simp; omega
        have hckf : ck.flatten.length < 1000000 := by rw [eck]; have := chunk_le (ls := ls) (xs.length * n) n; omega
        have hckn : ck.length < 1000000 := by rw [eck]; simp; omega
        have hckm : ∀ r ∈ ck, r ∈ ls := fun r hr => List.mem_of_mem_drop (List.mem_of_mem_take (eck ▸ hr))
        rw [← eck] at hrow ⊢
        simp -dsimp
        refine ⟨.refl _ _, fun h5 k5 hz5 => ?_⟩
        have t45 := Tr.lp hlt m2 k5
        have w5 := k5.at w1 (by omega)
        have g5 := g.lp hlt m2 (fun e => by have := ho _ e; omega) k5
        have r5 := hrow.mono (t45.ft (Nat.le_refl 0))
        obtain ⟨va, vn, vc, rfl, hvn⟩ := g5.vals
        have hol := outs_len (n := n) (ls := ls) xs.length
        have hxn : xs.length ≤ xs.length * n := Nat.le_mul_of_pos_right _ (by omega)
        refine drawn_by [⟨0, true, []⟩, ⟨1, true, []⟩, ⟨2, false, [0]⟩, ⟨3, false, [0]⟩, ⟨4, false, []⟩, ⟨5, false, []⟩] (by kernel_rfl) (by kernel_rfl) ?_
        simp -dsimp [w5]
        refine call_by (mone_spec (r5.mono (Ft.free (Nat.zero_le _))) hckl (fun r hr => hs1 r (hckm r hr)) (fun r hr => hsm1 r (hckm r hr)) hckf hckn) ?_
        rintro v9 h9 ⟨n9, k9⟩
        have t49 := t45.call k9
        have r9 : SlRep rCell (Ft 0 M h9) h9 v9 (groupC ck.flatten) := (n9.rep (Nat.le_refl _)).mono (t45.ret (Nat.zero_le _))
        obtain ⟨a9, c9, rfl, _, _⟩ := r9.val
        have w9 := k9.at w5 (fun h => h)
        have w9p : ∀ o, (h9.push o)[h1.size]? = _ := fun o => push_at w9
        have s5 := t45.size
        simp -dsimp [w9, w9p, again_cons]
        refine gr_app1 (x := groupC ck.flatten) rfl cellsT (g5.call k9) t49.lt ⟨_, rfl, r9⟩ rfl (by omega) (by omega) ?_
        intro v' h10 own10 g10 t10 k10 ho10
        have w10 := k10.at w9 (fun e => by have := ho _ e; omega)
        have ho10' : ∀ b, own10 = some b → h3.size + 2 ≤ b := fun b e => (ho10 _ e).elim (ho b) fun e => by have := k9.size; omega
        obtain ⟨va', vn', vc', rfl, hvn'⟩ := g10.vals
        have hl10 := lt_of_blk w10
        have s9 := k9.size
        simp -dsimp [w10]
        have t11 := (t49.trans t10).set (.cells #[.slice va' vn' vc'] 41) (.inl hM)
        have hxl : ∀ u : Value, (xs ++ [u]).length = xs.length + 1 := fun u => by simp
        refine ⟨_, (hI _ _ _).2 ⟨.inl hM, t11.lt, .inr (by rw [hxl, Nat.add_sub_cancel]; exact hxk), _, own10, set_same _ hl10, ?_, ho10'⟩, t11, .inl m1, .inl m2, (set_other _ (by omega)).trans ((k10.blk _ (by omega) fun e => by have := ho _ e; omega).trans (k9.blk _ (by omega) (fun h => h))), (set_other _ (by omega)).trans ((k10.blk _ (by omega) fun e => by have := ho _ e; omega).trans (k9.blk _ (by omega) (fun h => h)))⟩
        rw [hxl, outs_snoc, ← eck]
        exact g10.set _ (.inl hM) (fun e => by have := ho10' _ e; omega)
      · rintro xs M h4 hdone hi4 hdm hz4 m1 m2 t
        have hdone : ls.length ≤ xs.length * n := hdone
        obtain ⟨hM, hlt, hx, v, own, w1, g, ho⟩ := (hI _ _ _).1 hi4
        have T4 := Tr.from_ k3 t (fun b hb => by omega)
        have hcnt := chunk_count h2 hlen hx hdone
        have htk : ls.take (xs.length * n) = ls := List.take_of_length_le hdone
        have hfl := outs_flat (n := n) (ls := ls) xs.length
        have hle := outs_le (n := n) (ls := ls) xs.length
        rw [htk] at hfl hle
        obtain ⟨va, vn, vc, rfl, hvn⟩ := g.vals
        simp -dsimp [w1]
        refine ⟨(IntKind.i64.wrap (p + 1), .slice va vn vc, outsM n ls xs.length, h3.size :: ds), by simp, rfl, ⟨k1.trans T4.keep fun _ _ h => h, ?_, ?_, g.rep (Nat.le_refl 0) (fun _ _ => Nat.zero_le _), ?_, ?_, hfl.trans hg1, by show (outsM n ls xs.length).flatten.length < 1000000; omega, by show (outsM n ls xs.length).length < 1000000; rw [outs_len]; omega⟩, by show (outsM n ls xs.length).length < ls.length; rw [outs_len]; exact hcnt⟩
        · intro d hd
          rcases List.mem_cons.1 hd with rfl | hd
          · exact ⟨by omega, hdm⟩
          · obtain ⟨q1, q2⟩ := hds d hd
            exact ⟨q1, T4.keep.at q2 (fun h => h)⟩
        · refine List.nodup_cons.2 ⟨fun hm => ?_, hnd⟩
          have := lt_of_blk (hds _ hm).2
          omega
        · intro r hr
          obtain ⟨i, rfl⟩ := outs_mem hr
          exact (grp_group _).srt
        · intro r hr
          obtain ⟨i, rfl⟩ := outs_mem hr
          refine group_all small_join fun d hd => ?_
          obtain ⟨r, hr, hdr⟩ := List.mem_flatten.1 hd
          exact hsm1 r (List.mem_of_mem_drop (List.mem_of_mem_take hr)) d hdr
    · have hlen' : ¬ (1 : Int) < (ls.length : Int) := by omega
      simp -dsimp [hlen']
      exact ⟨rfl, (p, .slice a1 ls.length c1, ls, ds), by simp, rfl, ⟨k1, hds, hnd, hr, hs1, hsm1, hg1, hf1, hl1⟩, hlen⟩
  · rintro ⟨p, rv, ls, ds⟩ h1 g ⟨k1, hds, hnd, hr, hs1, hsm1, hg1, hf1, hl1⟩ hlen
    simp only at hds hnd hr hs1 hsm1 hg1 hf1 hl1 hlen
    obtain ⟨a1, c1, rfl, _, _⟩ := hr.val
    have s1 := k1.size
    by_cases h0 : ls.length = 0
    · have h0' : ((ls.length : Int) == 0) = true := by simp [h0]
      simp -dsimp [h0']
      refine takeS_all (fun d hd => (hds d hd).2) hnd fun h' hz hb => ?_
      simp -dsimp
      have e0 : groupC ls0.flatten = [] := by
        rw [← hg1, List.eq_nil_of_length_eq_zero h0]; rfl
      refine hK _ _ ⟨_, _, rfl, by rw [e0]; exact ⟨none_, none, .nil _ _ _ _, fun b hb => hb.elim, fun b hb => by cases hb⟩, ⟨by omega, fun b hb' _ => ?_⟩⟩
      rw [hb b (fun hm => by have := (hds b hm).1; omega), k1.blk b hb' (fun h => h)]
    · have h0' : ((ls.length : Int) == 0) = false := by simp [h0]
      simp -dsimp [h0']
      refine call_by (mone_spec hr (by omega) hs1 hsm1 hf1 hl1) ?_
      rintro v2 h2' ⟨n2, k2⟩
      rw [hg1] at n2
      have hv2 : ∃ a n c, v2 = .slice a n c := by
        obtain ⟨F, own, g, _⟩ := n2
        obtain ⟨a, c, rfl⟩ := g.val
        exact ⟨_, _, _, rfl⟩
      obtain ⟨a2, nn2, c2, rfl⟩ := hv2
      simp -dsimp
      refine takeS_all (fun d hd => k2.at (hds d hd).2 (fun h => h)) hnd fun h' hz hb => ?_
      simp -dsimp
      have hlt : ∀ d ∈ ds, d < h1.size := fun d hd => lt_of_blk (hds d hd).2
      obtain ⟨F, own, gg, hF, ho⟩ := n2
      have hlo := gg.own_lt
      have hbF : ∀ b, F b → h'[b]? = h2'[b]? := fun b hf => hb b (fun hm => by have := hlt b hm; have := (hF b hf).1.1; omega)
      refine hK _ _ ⟨_, _, rfl, ⟨F, own, gg.mono (fun b hf => ⟨hf, hbF b hf⟩) fun b hf => ⟨gg.notF b hf, hb b (fun hm => by have := hlt b hm; have := ho b hf; omega)⟩, fun b hf => ⟨(hF b hf).1.at s1 (hbF b hf), by have := (hF b hf).2; omega⟩, fun b hf => by have := ho b hf; omega⟩, ⟨by have := k2.size; omega, fun b hb' _ => ?_⟩⟩
      rw [hb b (fun hm => by have := (hds b hm).1; omega), k2.blk b (by omega) (fun h => h), k1.blk b hb' (fun h => h)]
end Go.Proofs

/-
  How many cells a part comes to at most: the program's.
-/
namespace Go.HC
theorem vals_group {i : Nat} {l : List CellM} : valsM i (groupC l) = valsM i l := by
  unfold valsM
  congr 1
  funext v
  rw [Bool.eq_iff_iff]
  simp only [List.any_eq_true, decide_eq_true_eq]
  constructor
  · rintro ⟨c, hc, e⟩
    obtain ⟨d, hd, ek⟩ := group_key hc
    exact ⟨d, hd, by unfold atV at *; rw [ek]; exact e⟩
  · rintro ⟨c, hc, e⟩
    obtain ⟨d, hd, ek⟩ := key_group hc
    exact ⟨d, hd, by unfold atV at *; rw [ek]; exact e⟩
theorem group_group (l : List CellM) : groupC (groupC l) = groupC l := group_id (grp_group l).srt
theorem parts_group {n : Nat} : ∀ {f i : Nat} {l : List CellM}, partsM n f i (groupC l) = partsM n f i l
  | 0, i, l => by rw [partsM, partsM, group_group]
  | f + 1, i, l => by
    rw [partsM, partsM, group_group, vals_group]
    split
    · rfl
    · congr 1
      funext v
      rw [part_group]
      exact parts_group
theorem high_group {n f i : Nat} {l : List CellM} : highM n f i (groupC l) = highM n f i l := by unfold highM; rw [parts_group]
theorem vals_perm {i L : Nat} {l : List CellM} {vs : List Int} {es : Ents Int} {clock : Nat} (p : PV i l vs es) (hok : EntsOk es clock) (hp : Pre L i l) (hi : i < L) : (es.map (·.1)).Perm (valsM i l) := by
  have hv := hp.vals hi
  refine (List.perm_ext_iff_of_nodup hok.keys (hv.srt.imp fun h => by omega)).2 fun v => ?_
  rw [hv.mem, ← p.mem, ← p.is]
  constructor
  · intro h
    obtain ⟨e, he, rfl⟩ := List.mem_map.1 h
    rw [getE_mem (v := e.2.1) (c := e.2.2) hok.keys he]; rfl
  · intro h
    obtain ⟨u, hu⟩ := Option.isSome_iff_exists.1 h
    obtain ⟨c, hc⟩ := getE_some hu
    exact List.mem_map.2 ⟨_, hc, rfl⟩
end Go.HC
namespace Go.Proofs
open Go Go.HC

/-- How many cells a part of cells whose keys have f numbers from the place i on comes to. -/
def HighOk (f : Nat) : Prop := ∀ {i n : Nat} {h : Heap} {v : Value} {l : List CellM}, Pre (i + f) i l → SlRep rCell (Old h) h v l → 0 < n → n < 1000000000 → l.length < 1000000 → (∀ d ∈ l, CellSmall d) → i + f < 1000000 →
  CallH Try.prog 16 #[v, .int .i64 n, .int .i64 i] h fun r h' => r = .int .i64 (highM n f i l : Nat) ∧ Keep none_ h h'

set_option maxHeartbeats 8000000 in
set_option maxRecDepth 10000 in
theorem high_step_spec (f : Nat) (ih : ∀ f', f = f' + 1 → HighOk f') : HighOk f := by
  intro i n h v l hpre hl h0 hn hln hsm hif
  refine callH_by fun K hK => ?_
  refine enter [.tmp 6] Try.func16 rfl rfl (by kernel_rfl) rfl ?_
  obtain ⟨a00, c00, rfl, _, _⟩ := hl.val
  simp -dsimp
  refine call_by (cgroup_spec hl hln hsm) ?_
  rintro gv h1 ⟨ng, k1⟩
  have hgl := groupC_le l
  have hpg : Pre (i + f) i (groupC l) := by
    refine ⟨fun c hc => ?_, fun c hc => ?_, fun c hc d hd => ?_⟩
    · obtain ⟨e, he, ek⟩ := group_key hc; rw [← ek]; exact hpre.len e he
    · obtain ⟨e, he, ek⟩ := group_key hc; rw [← ek]; exact hpre.small e he
    · obtain ⟨e, he, ek⟩ := group_key hc
      obtain ⟨e', he', ek'⟩ := group_key hd
      rw [← ek, ← ek']; exact hpre.pre e he e' he'
  have hgs : ∀ d ∈ groupC l, CellSmall d := group_all small_join hsm
  have hgg := group_group l
  rw [← high_group] at hK
  have hg1 : SlRep rCell (Old h1) h1 gv (groupC l) := ng.rep (Nat.zero_le _)
  generalize groupC l = G at *
  obtain ⟨a0, c0, rfl, hc0, hc0'⟩ := hg1.val
  by_cases hnk : G.length ≤ n
  · simp -dsimp [hnk]
    refine hK _ _ ⟨?_, k1⟩
    rw [high_one (by rw [hgg]; exact hnk), hgg]
  · have hG0 : 0 < G.length := by omega
    obtain ⟨b1, o1, cs, e1, _, hrep, hx1⟩ := hg1.get 0 hG0
    obtain ⟨ka, kc, sa, sc, na, nc, xa, xc, rfl, r1, _⟩ := cell_open hrep
    have hx1' : HC.cellsIn h1[b1]? (o1 + 0 * 5) 5 = _ := hx1
    have hk1 : HC.cellIn h1[b1]? o1 = some (.slice ka G[0].key.length kc) := by
      have := cellsIn_cell (d := 0) hx1' (by decide)
      simpa using this
    have hkl : G[0].key.length = i + f := hpg.len _ (List.getElem_mem hG0)
    simp -dsimp [hnk, e1, idxA_zero hG0, hk1]
    cases f with
    | zero =>
      have hge : G[0].key.length ≤ i := by omega
      simp -dsimp [hge]
      refine hK _ _ ⟨?_, k1⟩
      unfold highM
      rw [partsM, hgg]
      simp [mostM]
    | succ f =>
      have hge : ¬ G[0].key.length ≤ i := by omega
      have hi : i < i + (f + 1) := by omega
      simp -dsimp [hge]
      refine loopc (σ := Nat) (fun k => [(1, .int .i64 n), (2, .int .i64 i), (8, .map (some h1.size)), (32, .slice a0 G.length c0), (33, .int .i64 G.length), (34, .int .i64 k)])
        (fun k h2 => k ≤ G.length ∧ ∃ vs es clock M O, PJ 3 31 i (G.take k) h1 h2 h1.size (.slice none 0 0) [] none es clock M O ∧ EntsOk es clock ∧ PV i (G.take k) vs es) (fun k => G.length - k) 0 0 (fun k _ => k = G.length) noRet noRet_le (by simp [e1]) ?_ (by kernel_rfl) ?_ ?_
      · exact ⟨Nat.zero_le _, [], [], 0, _, _, .start (Tr.start h1), .nil _, .nil⟩
      · rintro k h2 g ⟨hk, vs, es, clock, M, O, p, hok, pv⟩
        by_cases hkl2 : k < G.length
        · have wk := wrap_succ (k := k) (by omega)
          obtain ⟨b2, o2, cs2, e2, _, hrep2, hx2⟩ := (hg1.mono p.tr.old).get k hkl2
          obtain ⟨ka2, kc2, sa2, sc2, na2, nc2, xa2, xc2, rfl, r2, _⟩ := cell_open hrep2
          have hx2' : HC.cellsIn h2[b2]? (o2 + k * 5) 5 = _ := hx2
          obtain ⟨hik, hat, _⟩ := hpg.at hi (List.getElem_mem hkl2)
          simp -dsimp [hkl2, e2, idxA_nat hkl2, hx2']
          rw [push_set rfl]
          generalize hB2 : Array.push h2 _ = h3
          have k3 : Keep none_ h2 h3 := by rw [← hB2]; exact .push _ _ _
          have hC : h3[h2.size]? = some (.cells #[.slice ka2 G[k].key.length kc2, .int .i64 G[k].count, .slice sa2 G[k].sum.length sc2, .slice na2 G[k].mn.length nc2, .slice xa2 G[k].mx.length xc2] 31 (0, 0)) := by rw [← hB2]; exact push_new _ _
          have p3 := p.keep k3
          obtain ⟨b5, o5, rfl, hF5, hc5⟩ := (r2.mono (p.tr.here.call k3 |>.ft (Nat.le_refl 0))).int_at i hik
          have hmap3 := p3.map
          have hsn := take_snoc hkl2
          obtain ⟨x, ex⟩ : ∃ x, x = G[k].key[i] := ⟨_, rfl⟩
          rw [← ex] at hat hc5
          have hpl := part_len (i := i) (v := x) (l := G.take k)
          rw [List.length_take] at hpl
          have hrep3 := rCell.mono hrep2 (p.tr.here.call k3 |>.ft (Nat.le_refl 0))
          have hCp : ∀ o, (h3.push o)[h2.size]? = _ := fun o => push_at hC
          have hc5p : ∀ o, HC.cellIn (h3.push o)[b5]? (o5 + i) = _ := fun o => (congrArg (HC.cellIn · (o5 + i)) (push_old o hF5.2.1)).trans hc5
          have hmap3p : ∀ o, (h3.push o)[h1.size]? = _ := fun o => push_at hmap3
          refine drawn_by2 12 14 [⟨0, true, []⟩, ⟨1, true, []⟩, ⟨2, true, []⟩, ⟨3, true, []⟩, ⟨4, true, []⟩, ⟨5, true, []⟩, ⟨6, true, []⟩, ⟨7, true, []⟩, ⟨8, true, []⟩, ⟨9, true, []⟩, ⟨10, true, []⟩, ⟨11, true, []⟩, ⟨13, true, []⟩, ⟨12, false, [0, 1, 2, 3, 4, 5, 13]⟩, ⟨14, false, [0, 1, 2, 3, 4, 5]⟩, ⟨15, false, [0, 1, 2, 3, 4, 5]⟩, ⟨16, false, []⟩]
            [⟨0, true, []⟩, ⟨1, true, []⟩, ⟨2, true, []⟩, ⟨3, true, []⟩, ⟨4, true, []⟩, ⟨5, true, []⟩, ⟨6, true, []⟩, ⟨7, true, []⟩, ⟨8, true, []⟩, ⟨9, true, []⟩, ⟨10, true, []⟩, ⟨11, true, []⟩, ⟨13, true, []⟩, ⟨14, false, [0, 1, 2, 3, 4, 5, 6, 7, 8, 9, 10, 11]⟩, ⟨12, false, [0, 1, 2, 3, 4, 5]⟩, ⟨15, false, [0, 1, 2, 3, 4, 5]⟩, ⟨16, false, []⟩] (by kernel_rfl) (by kernel_rfl) ?_ ?_
          all_goals
            simp -dsimp [hC, hCp, hc5p, idxV_nat hik, elSz_eq, hc5, again_cons, lookup_int (T := 62) Try.mapS62 Try.underlying3 Try.zS24 hmap3, lookup_int (T := 62) Try.mapS62 Try.underlying3 Try.zS24 (hmap3p _)]
            refine gr_app1 (x := G[k]) rfl cellT (p3.part x) p3.tr.lt hrep3 rfl (by omega) (by omega) ?_
            intro v5 h5 own5 g5 t5 k5 ho5
            have hmap5 := k5.at hmap3 (p3.disb x)
            have hC5 := k5.at hC (fun e => by have := (p3.part x).mu _ e; have := p.tr.lt _ this; omega)
            have hc55 : HC.cellIn h5[b5]? (o5 + i) = _ := (congrArg (HC.cellIn · (o5 + i)) (k5.blk b5 hF5.2.1 fun e => hF5.2.2 ((p3.part x).mu _ e))).trans hc5
            have p5 := p3.cell hat g5 t5 k5 ho5
            have pv5 := pv.put (clock := clock) (v := v5) hat
            rw [← hsn] at p5 pv5
            simp -dsimp [hC5, hc55, idxV_nat hik, elSz_eq, wk, again_cons, update_int (T := 62) Try.mapS62 Try.underlying3 hmap5]
            exact ⟨k + 1, by simp [e2], rfl, ⟨by omega, _, _, _, _, _, p5, hok.put x v5, pv5⟩, by show G.length - (k + 1) < G.length - k; omega⟩
        · simp -dsimp [hkl2]
          exact ⟨rfl, k, by simp [e1], rfl, ⟨hk, vs, es, clock, M, O, p, hok, pv⟩, by omega⟩
      · rintro k h2 g ⟨hk, vs, es, clock, M, O, p, hok, pv⟩ hkl2
        subst hkl2
        rw [List.take_length] at p pv
        have hperm := vals_perm pv hok hpg hi
        have hkeys := hok.keys
        have hwi := wrap_succ (k := i) (by omega)
        have hmap := p.map
        have k12 := p.tr.keep
        simp -dsimp
        rw [range_map (kt := 3) (et := 24) Try.mapS62 hmap]
        simp -dsimp
        obtain ⟨gH, hgH⟩ : ∃ gH : Int → Nat, ∀ v, gH v = highM n f (i + 1) (partC i v G) := ⟨_, fun _ => rfl⟩
        refine loopc (σ := Ents Int × Ents Int) (fun t => [(1, .int .i64 n), (2, .int .i64 i), (11, .int .i64 (mostM (t.1.map fun e => gH e.1) : Nat)), (56, .pointer (some ⟨h2.size, 0, none⟩))])
          (fun t h3 => es.Perm (t.1 ++ t.2) ∧ h3[h2.size]? = some (.mapIter (some h1.size) clock (seenOf t.1) clock) ∧ Keep (fun b => b = h2.size) (h2.push (.mapIter (some h1.size) clock #[] clock)) h3) (fun t => t.2.length) ([], es) 2 (fun t _ => t.2 = []) noRet noRet_le (by simp [mostM]) ?_ (by kernel_rfl) ?_ ?_
        · exact ⟨by simp, push_new _ _, .refl _ _⟩
        · rintro ⟨done, rest⟩ h3 g ⟨hpm, hit, k3⟩
          simp only at hpm hit k3
          have hbm := lt_of_blk hmap
          have hz : (h2.push (.mapIter (some h1.size) clock #[] clock)).size = h2.size + 1 := by simp
          have k23 : ∀ b, b < h2.size → h3[b]? = h2[b]? := fun b hb => by rw [k3.blk b (by omega) (by omega), push_old _ hb]
          have hmap3 := (k23 _ hbm).trans hmap
          simp -dsimp
          refine next_map hok hit hmap3 hpm ?_ ?_
          · intro hr
            simp -dsimp
            exact ⟨rfl, (done, rest), by simp, rfl, ⟨hpm, hit, k3⟩, hr⟩
          · intro e rest' hr
            have he : e ∈ es := hpm.mem_iff.2 (List.mem_append_right _ (hr.mem_iff.2 List.mem_cons_self))
            have hlt := lt_of_blk hit
            have hsl : slotE e.1 es = e.2.1 := by
              unfold slotE
              rw [getE_mem (v := e.2.1) (c := e.2.2) hkeys he]; rfl
            simp -dsimp
            generalize hH : h3.setIfInBounds h2.size _ = h4
            have hs4 : h4.size = h3.size := by rw [← hH]; simp
            have ho4 : ∀ b, b ≠ h2.size → h4[b]? = h3[b]? := fun b hb => by rw [← hH]; exact set_other _ (fun e => hb e.symm)
            have hi4 : h4[h2.size]? = some (.mapIter (some h1.size) clock (seenOf (done ++ [e])) clock) := by rw [← hH]; exact set_same _ hlt
            have hm4 := (ho4 _ (by omega)).trans hmap3
            rw [entry_map hok hi4 hm4 he]
            have hpt : SlRep rCell (Old h4) h4 e.2.1 (partC i e.1 G) := by
              rw [← hsl]
              exact ((p.part e.1).rep (Nat.le_refl 0) (fun _ _ => Nat.zero_le _)).mono fun b hb => ⟨⟨nz, by have := hb.2.1; have := k3.size; omega, fun h => h⟩, by
                have := hb.2.1
                rw [ho4 b (by omega), k23 b this]⟩
            have hpl := part_len (i := i) (v := e.1) (l := G)
            obtain ⟨ae, ce, eae, _, _⟩ := hpt.val
            simp -dsimp [hwi]
            refine call_by (ih f rfl (i := i + 1) (show Pre (i + 1 + f) (i + 1) (partC i e.1 G) by have := hpg.part hi e.1; rwa [show i + 1 + f = i + (f + 1) by omega]) hpt h0 hn (by omega) (fun d hd => hgs d (mem_part.1 hd).1) (show i + 1 + f < 1000000 by omega)) ?_
            rintro _ h5 ⟨rfl, k5⟩
            have hmx : max ((mostM (done.map fun e => gH e.1) : Nat) : Int) ((highM n f (i + 1) (partC i e.1 G) : Nat) : Int) = ((mostM ((done ++ [e]).map fun e => gH e.1) : Nat) : Int) := by
              rw [List.map_append, most_append, ← hgH]
              simp [mostM]
              omega
            simp -dsimp [hmx]
            refine ⟨(done ++ [e], rest'), by simp, rfl, ⟨(hpm.trans (List.Perm.append_left done hr)).trans (by simp), k5.at hi4 (fun h => h), ⟨?_, fun b hb hne => ?_⟩⟩, by have := hr.length_eq; simp at this; show rest'.length < rest.length; omega⟩
            · have := k5.size; have := k3.size; omega
            · rw [k5.blk b (by have := k3.size; omega) (fun h => h), ho4 b hne, k3.blk b hb hne]
        · rintro ⟨done, rest⟩ h3 g ⟨hpm, hit, k3⟩ hrest
          simp only at hpm hit k3 hrest
          subst hrest
          rw [List.append_nil] at hpm
          have hres : mostM (done.map fun e => gH e.1) = highM n (f + 1) i G := by
            rw [high_step (by rw [hgg]; exact hnk)]
            have e1 : (done.map fun e => gH e.1).Perm ((valsM i G).map gH) := by
              have := (hpm.symm.map (fun e : Int × Value × Nat => e.1)).trans hperm
              have h2 := this.map gH
              rwa [List.map_map] at h2
            rw [most_perm e1]
            congr 1
            apply List.map_congr_left
            intro v _
            exact hgH v
          simp -dsimp
          refine hK _ _ ⟨by rw [hres], ⟨?_, fun b hb _ => ?_⟩⟩
          · have := k1.size; have := k12.size; have := k3.size; simp at this; omega
          · have := k1.size; have := k12.size
            rw [k3.blk b (by simp; omega) (by omega), push_old _ (by omega), k12.blk b (by omega) (fun h => h), k1.blk b hb (fun h => h)]
theorem high_spec (f : Nat) : HighOk f := by
  induction f with
  | zero => exact high_step_spec 0 fun f' h => by omega
  | succ f ih =>
    exact high_step_spec (f + 1) fun f' h => by
      cases h
      exact ih
end Go.Proofs

/-
  Plans carried out: the program's.
-/
namespace Go.HC
theorem NewC.vals {e n0 : Nat} {h : Heap} {v : Value} {l : List CellM} (g : NewC e n0 h v l) : ∃ a n c, v = .slice a n c := by
  obtain ⟨F, own, g, _⟩ := g
  obtain ⟨a, c, rfl⟩ := g.val
  exact ⟨_, _, _, rfl⟩
/-- Other blocks are written. -/
theorem NewC.keepS {e n0 : Nat} {h h' : Heap} {S : Nat → Prop} {v : Value} {l : List CellM} (g : NewC e n0 h v l) (k : Keep S h h') (hS : ∀ b, S b → b < n0) : NewC e n0 h' v l := by
  obtain ⟨F, own, g, hF, ho⟩ := g
  have hl := g.own_lt
  have hs : ∀ b, n0 ≤ b → ¬ S b := fun b h1 h2 => by have := hS b h2; omega
  exact ⟨F, own, g.mono (fun b hb => ⟨hb, k.blk b (hF b hb).2 (hs b (hF b hb).1.1)⟩) fun b hb => ⟨g.notF b hb, k.blk b (hl b hb) (hs b (ho b hb))⟩, fun b hb => ⟨(hF b hb).1.at (Nat.le_refl _) (k.blk b (hF b hb).2 (hs b (hF b hb).1.1)), Nat.lt_of_lt_of_le (hF b hb).2 k.size⟩, ho⟩
theorem most_take {α : Type} (g : α → Nat) {l : List α} {k : Nat} (hk : k < l.length) : mostM ((l.take (k + 1)).map g) = max (mostM ((l.take k).map g)) (g l[k]) := by
  rw [take_snoc hk, List.map_append, most_append]
  simp [mostM]
theorem flat_count {ls : List (List CellM)} (h : ∀ r ∈ ls, 0 < r.length) : ls.length ≤ ls.flatten.length := by
  induction ls with
  | nil => simp
  | cons r ls ih =>
    have h1 := h r List.mem_cons_self
    have h2 := ih fun r hr => h r (List.mem_cons_of_mem _ hr)
    rw [List.flatten_cons, List.length_append, List.length_cons]; omega
theorem runs_len (most : Nat) (h0 : 0 < most) {l : List CellM} (hsm : ∀ d ∈ l, CellSmall d) : (runsM most l).length ≤ l.length + 1 ∧ (∀ r ∈ runsM most l, ∀ d ∈ r, CellSmall d) := by
  have h := runB small_join h0 hsm l.length (Nat.le_refl _)
  rw [List.take_length] at h
  unfold runsM
  generalize runFold most l = st at *
  obtain ⟨out, held⟩ := st
  obtain ⟨h1, h2, h3, h4⟩ := h
  simp only at h1 h2 h3 h4 ⊢
  refine ⟨by rw [List.length_append]; split <;> simp <;> omega, fun r hr => ?_⟩
  rcases List.mem_append.1 hr with h | h
  · exact h1 r h
  · split at h
    · rw [List.mem_singleton] at h; subst h; exact h2
    · cases h
/-- All cells of the runs. -/
theorem runs_flat (most : Nat) (l : List CellM) : (runsM most l).flatten.length ≤ l.length := by
  have key : ∀ k, k ≤ l.length → ((runFold most (l.take k)).1.flatten ++ (runFold most (l.take k)).2).length ≤ k := by
    intro k
    induction k with
    | zero => intro _; simp [runFold]
    | succ k ih =>
      intro hk
      have ih := ih (by omega)
      rw [run_take (by omega)]
      generalize runFold most (l.take k) = st at *
      obtain ⟨out, held⟩ := st
      simp only at ih
      unfold runStep
      split
      · simp only [List.flatten_append, List.flatten_cons, List.flatten_nil, List.append_nil, List.length_append, List.length_singleton] at *
        omega
      · have := putC_le held l[k]
        simp only [List.length_append] at *
        omega
  have h := key l.length (Nat.le_refl _)
  rw [List.take_length] at h
  unfold runsM
  rw [List.flatten_append]
  split
  · simpa using h
  · simp only [List.length_append, List.flatten_nil, List.append_nil] at *
    omega
end Go.HC
namespace Go.Proofs
open Go Go.HC

set_option maxHeartbeats 8000000 in
set_option maxRecDepth 10000 in
theorem bySort_spec {h : Heap} {v : Value} {l : List CellM} {k : Nat} (hl : SlRep rCell (Old h) h v l) (hln : l.length < 1000000) (hsm : ∀ d ∈ l, CellSmall d) (hk : 3 ≤ k) (hk' : k < 9223372036854775808) :
    CallH Try.prog 8 #[v, .int .i64 k] h fun r h' => ∃ a n c, r = .agg #[.slice a n c, .int .i64 (sortHigh k l : Nat)] ∧ NewC 31 h.size h' (.slice a n c) (groupC l) ∧ Keep none_ h h' := by
  refine callH_by fun K hK => ?_
  refine enter [.cell 4 26] Try.func8 rfl rfl (by kernel_rfl) rfl ?_
  obtain ⟨a00, c00, rfl, _, _⟩ := hl.val
  simp -dsimp
  generalize hB : Array.push h _ = h0
  have k0 : Keep none_ h h0 := by rw [← hB]; exact .push _ _ _
  have hz0 : h0.size = h.size + 1 := by rw [← hB]; simp
  have w4 : h0[h.size]? = some (.cells #[.slice none 0 0, .int .i64 0] 26 (0, 0)) := by rw [← hB]; exact push_new _ _
  refine call_by (runs_spec (hl.mono ((Tr.of k0).ft (Nat.le_refl 0))) hln hsm (show 0 < k by omega)) ?_
  rintro rv h1 ⟨r1, k1⟩
  have hro := runs_ok (show 0 < k by omega) l
  obtain ⟨hrl, hrs⟩ := runs_len k (by omega) hsm
  have hrf := runs_flat k l
  have hrc := flat_count fun r hr => (hro.len r hr).1
  have hsh : sortHigh k l = if 1 < (runsM k l).length then max (mostM ((runsM k l).map (·.length))) (min (k - 1) (runsM k l).length + 1) else mostM ((runsM k l).map (·.length)) := rfl
  have hgr := hro.grp
  generalize runsM k l = rs at *
  obtain ⟨ra, rc, rfl, _, _⟩ := r1.val
  have s1 := k1.size
  have w1 : IntKind.i64.wrap ((k : Int) - 1) = ((k - 1 : Nat) : Int) := by rw [wrap_i64 (by omega) (by omega)]; omega
  simp -dsimp [w1]
  generalize hB2 : Array.push h1 _ = h2
  have k2 : Keep none_ h1 h2 := by rw [← hB2]; exact .push _ _ _
  have hz2 : h2.size = h1.size + 1 := by rw [← hB2]; simp
  have w7 : h2[h1.size]? = some (.cells #[.slice none 0 0, .int .i64 0] 26 (0, 0)) := by rw [← hB2]; exact push_new _ _
  have r2 : SlRep (rSlice rCell) (Old h2) h2 _ rs := (r1.mono (Ft.free (Nat.zero_le _))).mono ((Tr.of k2).ft (Nat.le_refl 0))
  refine call_by (merge_spec (n := k - 1) r2 hro.srt hrs (by omega) (by omega) (by omega) (by omega)) ?_
  rintro _ h3 ⟨mv, p, rfl, n3, k3⟩
  rw [hgr] at n3
  obtain ⟨ma, mn, mc, rfl⟩ := n3.vals
  have w73 := k3.at w7 (fun h => h)
  have hl7 := lt_of_blk w73
  have s3 := k3.size
  simp -dsimp [w73]
  generalize hH : Array.setIfInBounds h3 _ _ = h4
  have hz4 : h4.size = h3.size := by rw [← hH]; simp
  have w74 : h4[h1.size]? = some (.cells #[.slice ma mn mc, .int .i64 ((0 : Nat) : Int)] 26 (0, 0)) := by rw [← hH]; exact set_same _ hl7
  have ho4 : ∀ b, b ≠ h1.size → h4[b]? = h3[b]? := fun b hb => by rw [← hH]; exact set_other _ (fun e => hb e.symm)
  have w44 : h4[h.size]? = some (.cells #[.slice none 0 0, .int .i64 0] 26 (0, 0)) := (ho4 _ (by omega)).trans (k3.at (k2.at (k1.at w4 (fun h => h)) (fun h => h)) (fun h => h))
  have k34 : Keep (fun b => b = h1.size) h3 h4 := ⟨by omega, fun b _ hb => ho4 b hb⟩
  obtain ⟨mm, hmm⟩ : ∃ mm : Nat → Nat, ∀ i, mm i = mostM ((rs.take i).map (·.length)) := ⟨_, fun _ => rfl⟩
  have hmm0 : mm 0 = 0 := by rw [hmm]; rfl
  refine loopc (σ := Nat) (fun i => [(4, .pointer (some ⟨h.size, 0, none⟩)), (5, .slice ra rs.length rc), (6, .int .i64 (k - 1 : Nat)), (7, .pointer (some ⟨h1.size, 0, none⟩)), (22, .slice ra rs.length rc), (23, .int .i64 rs.length), (24, .int .i64 i)])
    (fun i h5 => i ≤ rs.length ∧ Keep (fun b => b = h1.size) h4 h5 ∧ h5[h1.size]? = some (.cells #[.slice ma mn mc, .int .i64 (mm i : Int)] 26 (0, 0))) (fun i => rs.length - i) 0 0 (fun i _ => i = rs.length) noRet noRet_le (by simp)
    ⟨Nat.zero_le _, .refl _ _, by rw [hmm0]; exact w74⟩ (by kernel_rfl) ?_ ?_
  · rintro i h5 g ⟨hi, k5, w75⟩
    have wk := wrap_succ (k := i) (by omega)
    by_cases hil : i < rs.length
    · have r5 : SlRep (rSlice rCell) (fun b => b < h1.size) h5 (.slice ra rs.length rc) rs := r1.mono fun b hb => ⟨hb.2.1, by rw [k5.blk b (by have := hb.2.1; omega) (by have := hb.2.1; omega), ho4 b (by have := hb.2.1; omega), k3.blk b (by have := hb.2.1; omega) (fun h => h), k2.blk b hb.2.1 (fun h => h)]⟩
      obtain ⟨bl, ol, w, e1, _, hx1, hrep⟩ := r5.row_at i hil
      obtain ⟨aw, cw, rfl, _, _⟩ := hrep.val
      have hl75 := lt_of_blk w75
      have hmt := most_take (fun r : List CellM => r.length) hil
      have hmx : max (mm i : Int) (rs[i].length : Int) = (mm (i + 1) : Int) := by rw [hmm, hmm, hmt]; omega
      simp -dsimp [hil, e1, idxA_nat hil, hx1, w75, wk, hmx]
      exact ⟨i + 1, by simp [e1], rfl, ⟨by omega, k5.trans (Keep.set (S := fun b => b = h1.size) _ _ fun _ => rfl) fun _ _ h => h, set_same _ hl75⟩, by show rs.length - (i + 1) < rs.length - i; omega⟩
    · simp -dsimp [hil]
      exact ⟨rfl, i, by simp, rfl, ⟨hi, k5, w75⟩, by omega⟩
  · rintro i h5 g ⟨hi, k5, w75⟩ rfl
    rw [hmm, List.take_length] at w75
    have hl75 := lt_of_blk w75
    have w45 := k5.at w44 (by omega)
    have hl4 := lt_of_blk w45
    have n5 : NewC 31 h.size h5 (.slice ma mn mc) (groupC l) := ((n3.keepS k34 (by omega)).keepS k5 (by omega)).older (by omega)
    have k05 : ∀ b, b < h.size → h5[b]? = h[b]? := fun b hb => by
      rw [k5.blk b (by omega) (by omega), ho4 b (by omega), k3.blk b (by omega) (fun h => h), k2.blk b (by omega) (fun h => h), k1.blk b (by omega) (fun h => h), k0.blk b hb (fun h => h)]
    have s5 := k5.size
    have fin : ∀ (hi : Nat) (h6 : Heap), hi = sortHigh k l → h6.size = h5.size → h6[h1.size]? = some (.cells #[.slice ma mn mc, .int .i64 (hi : Int)] 26 (0, 0)) → (∀ b, b ≠ h1.size → h6[b]? = h5[b]?) →
        K (.agg #[.slice ma mn mc, .int .i64 (hi : Int)]) (h6.setIfInBounds h.size (.cells #[.slice ma mn mc, .int .i64 (hi : Int)] 26)) := by
      rintro hi h6 rfl hz6 w76 ho6
      have n6 : NewC 31 (h2.size) (h6.setIfInBounds h.size (.cells #[.slice ma mn mc, .int .i64 ((sortHigh k l : Nat) : Int)] 26)) (.slice ma mn mc) (groupC l) := by
        have q5 : NewC 31 h2.size h5 (.slice ma mn mc) (groupC l) := (n3.keepS k34 (by omega)).keepS k5 (by omega)
        have q6 := q5.keepS (S := fun b => b = h1.size) (h' := h6) ⟨by omega, fun b _ hb => ho6 b hb⟩ (by omega)
        exact q6.keepS (S := fun b => b = h.size) (.set _ _ fun _ => rfl) (by omega)
      exact hK _ _ ⟨_, _, _, rfl, n6.older (by omega), ⟨by simp; omega, fun b hb _ => by rw [set_other _ (by omega), ho6 b (by omega), k05 b hb]⟩⟩
    by_cases hlen : 1 < rs.length
    · have hlen' : (1 : Int) < (rs.length : Int) := by omega
      rw [if_pos hlen] at hsh
      have hmin : min ((k - 1 : Nat) : Int) (rs.length : Int) = ((min (k - 1) rs.length : Nat) : Int) := by omega
      have wm : IntKind.i64.wrap (((min (k - 1) rs.length : Nat) : Int) + 1) = ((min (k - 1) rs.length : Nat) : Int) + 1 := wrap_i64 (by omega) (by omega)
      have hmx : max ((mostM (rs.map (·.length)) : Nat) : Int) (((min (k - 1) rs.length : Nat) : Int) + 1) = ((sortHigh k l : Nat) : Int) := by rw [hsh]; omega
      have hne : h1.size ≠ h.size := by omega
      have hs1 : ∀ o o', ((h5.setIfInBounds h1.size o).setIfInBounds h.size o')[h.size]? = some o' := fun o o' => set_same _ (by simpa using hl4)
      simp -dsimp [hlen', w75, hmin, wm, hmx, set_same _ hl75, set_other _ hne, w45, hs1]
      exact fin _ _ rfl (by simp) (set_same _ hl75) fun b hb => set_other _ (fun e => hb e.symm)
    · have hlen' : ¬ (1 : Int) < (rs.length : Int) := by omega
      rw [if_neg hlen] at hsh
      have hs1 : ∀ o', (h5.setIfInBounds h.size o')[h.size]? = some o' := fun o' => set_same _ hl4
      simp -dsimp [hlen', w75, w45, hs1]
      exact fin _ _ hsh.symm rfl w75 fun b hb => rfl

set_option maxHeartbeats 4000000 in
set_option maxRecDepth 10000 in
theorem byHash_spec {h : Heap} {v : Value} {l : List CellM} {n L : Nat} (hl : SlRep rCell (Old h) h v l) (hln : l.length < 1000000) (hsm : ∀ d ∈ l, CellSmall d) (hn : 0 < n) (hn' : n < 1000000000) (hp : Pre L 0 l) (hL : L < 1000000) :
    CallH Try.prog 9 #[v, .int .i64 n] h fun r h' => ∃ a m c, r = .agg #[.slice a m c, .int .i64 (highM n L 0 l : Nat)] ∧ NewC 31 h.size h' (.slice a m c) (groupC l) ∧ Keep none_ h h' := by
  refine callH_by fun K hK => ?_
  refine enter [.cell 4 26] Try.func9 rfl rfl (by kernel_rfl) rfl ?_
  obtain ⟨a00, c00, rfl, _, _⟩ := hl.val
  simp -dsimp
  generalize hB : Array.push h _ = h0
  have k0 : Keep none_ h h0 := by rw [← hB]; exact .push _ _ _
  have hz0 : h0.size = h.size + 1 := by rw [← hB]; simp
  have w4 : h0[h.size]? = some (.cells #[.slice none 0 0, .int .i64 0] 26 (0, 0)) := by rw [← hB]; exact push_new _ _
  have l0 := hl.mono ((Tr.of k0).ft (Nat.le_refl 0))
  refine call_by (hgroup_spec hp l0 hn hn' hln hsm hL) ?_
  rintro _ h1 ⟨⟨mv, rfl, n1⟩, k1⟩
  obtain ⟨ma, mn, mc, rfl⟩ := n1.vals
  have l1 := l0.mono ((Tr.of k1).ft (Nat.le_refl 0))
  simp -dsimp
  refine call_by (high_spec L (i := 0) (by rwa [Nat.zero_add]) l1 hn hn' hln hsm (by omega)) ?_
  rintro _ h2 ⟨rfl, k2⟩
  have w42 := k2.at (k1.at w4 (fun h => h)) (fun h => h)
  have hl4 := lt_of_blk w42
  have hs1 : ∀ o', (h2.setIfInBounds h.size o')[h.size]? = some o' := fun o' => set_same _ hl4
  simp -dsimp [w42, hs1]
  have s1 := k1.size
  have s2 := k2.size
  refine hK _ _ ⟨_, _, _, rfl, ((n1.keep k2).keepS (S := fun b => b = h.size) (.set _ _ fun _ => rfl) (by omega)).older (by omega), ⟨by simp; omega, fun b hb _ => by rw [set_other _ (by omega), k2.blk b (by omega) (fun h => h), k1.blk b (by omega) (fun h => h), k0.blk b hb (fun h => h)]⟩⟩

theorem narrowed_spec (v : Value) (hv : v.cells = #[v]) (a b : Int) (h : Heap) : CallH Try.prog 6 #[v, .int .i64 a, .int .i64 b] h fun r h' => r = .func (.func 11) #[] #[.pointer (some ⟨h.size, 0, none⟩), .pointer (some ⟨h.size + 1, 0, none⟩), .pointer (some ⟨h.size + 2, 0, none⟩)] ∧
    h' = ((h.push (.cells #[v] 24)).push (.cells #[.int .i64 a] 3)).push (.cells #[.int .i64 b] 3) := by
  refine callH_by fun K hK => ?_
  refine enter [.tmp 6] Try.func6 rfl rfl (by kernel_rfl) rfl ?_
  simp -dsimp [boxS_eq, hv]
  exact hK _ _ ⟨by simp, rfl⟩

set_option maxHeartbeats 8000000 in
set_option maxRecDepth 10000 in
/-- A set's cells are made of another one's. -/
theorem exec_spec {h : Heap} {v : Value} {l : List CellM} {m : Nat} (a b k alg : Int) (hl : SlRep rCell (Old h) h v l) (hln : l.length < 1000000) (hm : m < 1000000000) (hc : ∀ c ∈ l, CellOk m (dimsM a).length c) (hk : k < 9223372036854775808) :
    CallH Try.prog 5 #[v, .int .i64 a, .int .i64 b, .int .i64 k, .int .i64 alg] h fun r h' => ∃ x n c, r = .tuple #[.agg #[.slice x n c, .int .i64 ((execM a b k alg l).2.1 : Nat)], .int .i64 (execM a b k alg l).2.2] ∧ NewC 31 h.size h' (.slice x n c) (execM a b k alg l).1 ∧ Keep none_ h h' := by
  refine callH_by fun K hK => ?_
  refine enter [.cell 10 26, .tmp 11] Try.func5 rfl rfl (by kernel_rfl) rfl ?_
  obtain ⟨a00, c00, rfl, _, _⟩ := hl.val
  have err : ∀ e, execM a b k alg l = ([], 0, e) → ∀ o o', K (.tuple #[.agg #[.slice none 0 0, .int .i64 0], .int .i64 e]) ((Array.push h o).setIfInBounds h.size o') := fun e he o o' => by
    refine hK _ _ ⟨_, _, _, by rw [he]; rfl, by rw [he]; exact ⟨none_, none, .nil _ _ _ _, fun b hb => hb.elim, fun b hb => by cases hb⟩, ?_⟩
    exact ((Keep.refl none_ h).pushed _).setted _ fun hh => absurd hh (Nat.lt_irrefl _)
  refine if hC : alg ≠ 0 ∧ alg ≠ 1 then ?t1 else ?t2
  case' t1 =>
    have h1 : (alg != 0) = true := by simp [hC.1]
    have h2 : (alg != 1) = true := by simp [hC.2]
    simp -dsimp [h1, h2]
    exact err 10 (by unfold execM; rw [if_pos hC]) _ _
  refine if hK3 : k < 3 then ?t3 else ?t4
  case' t3 =>
    have hE : execM a b k alg l = ([], 0, 3) := by unfold execM; rw [if_neg hC, if_pos hK3]
    have h12 : alg = 0 ∨ alg = 1 := by omega
    rcases h12 with rfl | rfl
    · simp -dsimp [hK3]
      exact err 3 hE _ _
    · simp -dsimp [hK3]
      exact err 3 hE _ _
  have hE : execM a b k alg l = (groupC (l.map (narrowC a b)), highE alg k.toNat (lvlN a b) (l.map (narrowC a b)), 0) := by unfold execM; rw [if_neg hC, if_neg hK3]
  obtain ⟨kn, rfl⟩ : ∃ kn : Nat, k = kn := ⟨k.toNat, by omega⟩
  rw [Int.toNat_natCast] at hE
  have hsm : ∀ c ∈ l, CellSmall c := fun c hh => (hc c hh).sml.small hm
  have hcn : ∀ c ∈ l.map (narrowC a b), CellOk m (lvlN a b) c := fun c hh => by
    obtain ⟨d, hd, rfl⟩ := List.mem_map.1 hh
    exact (hc d hd).narrow
  have hsn : ∀ c ∈ l.map (narrowC a b), CellSmall c := fun c hh => (hcn c hh).sml.small hm
  have hnl : (l.map (narrowC a b)).length = l.length := List.length_map ..
  have hpre : Pre (lvlN a b) 0 (l.map (narrowC a b)) := .start (fun c hh => (hcn c hh).len) fun c hh => (hcn c hh).key
  have hlv : lvlN a b < 1000000 := by
    have h1 : lvlN a b ≤ (dimsM a).length := List.length_filter_le ..
    have h2 : (dimsM a).length ≤ (List.range 4).length := List.length_filter_le ..
    rw [List.length_range] at h2
    omega
  have hzz : ∀ o, (Array.push h o).size = h.size + 1 := fun o => by simp
  -- what is ahead of the two ways
  have ahead : CallH Try.prog 6 #[.slice a00 l.length c00, .int .i64 a, .int .i64 b] (h.push (.cells #[.slice none 0 0, .int .i64 0] 26)) fun r h2 => r = .func (.func 11) #[] #[.pointer (some ⟨h.size + 1, 0, none⟩), .pointer (some ⟨h.size + 2, 0, none⟩), .pointer (some ⟨h.size + 3, 0, none⟩)] ∧
      h2[h.size]? = some (.cells #[.slice none 0 0, .int .i64 0] 26 (0, 0)) ∧ Keep none_ h h2 ∧ h2.size = h.size + 4 ∧
      CallH Try.prog 7 #[r] h2 fun r h3 => NewC 31 h2.size h3 r (l.map (narrowC a b)) ∧ Keep none_ h2 h3 := by
    refine (narrowed_spec _ (by simp) a b _).mono ?_
    rintro _ h2 ⟨rfl, e2⟩
    rw [hzz] at *
    have k2 : Keep none_ h h2 := by rw [e2]; exact ((((Keep.refl none_ h).pushed _).pushed _).pushed _).pushed _
    have hz2 : h2.size = h.size + 4 := by rw [e2]; simp
    have w1 : h2[h.size + 1]? = some (.cells #[.slice a00 l.length c00] 24 (0, 0)) := by rw [e2]; exact push_at (push_at (push_get (by simp)))
    have w2 : h2[h.size + 2]? = some (.cells #[.int .i64 a] 3 (0, 0)) := by rw [e2]; exact push_at (push_get (by simp))
    have w3 : h2[h.size + 3]? = some (.cells #[.int .i64 b] 3 (0, 0)) := by rw [e2]; exact push_get (by simp)
    refine ⟨rfl, by rw [e2]; exact push_at (push_at (push_at (push_new _ _))), k2, hz2, ?_⟩
    have it := narrowed_iter h2.size (Nat.le_refl _) w1 w2 w3 (hl.mono ((Tr.of k2).ft (Nat.le_refl 0))) hln hsm
    rw [← hnl] at it
    refine all_spec (by simp) it ?_ (by omega)
    rintro x (rfl | rfl | rfl | hx)
    · omega
    · omega
    · omega
    · exact hx.2.1
  have fin : ∀ (hi : Nat) (h5 : Heap) (x : Option Addr) (n c : Nat), hi = highE alg kn (lvlN a b) (l.map (narrowC a b)) → NewC 31 (h.size + 1) h5 (.slice x n c) (groupC (l.map (narrowC a b))) → Keep none_ h h5 → h5[h.size]? = some (.cells #[.slice none 0 0, .int .i64 0] 26 (0, 0)) →
      K (.tuple #[.agg #[.slice x n c, .int .i64 (hi : Int)], .int .i64 0]) (h5.setIfInBounds h.size (.cells #[.slice x n c, .int .i64 (hi : Int)] 26)) := by
    rintro hi h5 x n c rfl n5 k5 w5
    refine hK _ _ ⟨_, _, _, by rw [hE], by rw [hE]; exact (n5.keepS (S := fun b => b = h.size) (.set _ _ fun _ => rfl) (by omega)).older (by omega), k5.setted _ fun hh => absurd hh (Nat.lt_irrefl _)⟩
  -- behind what was made
  have clone : ∀ (h4 h5 : Heap) (x : Option Addr) (n c : Nat), NewC 31 (h.size + 1) h4 (.slice x n c) (groupC (l.map (narrowC a b))) → Keep none_ h4 h5 → h.size + 1 ≤ h4.size → h4.size < h5.size →
      CallH Try.prog 10 #[.slice x n c] h5 fun r h6 => Keep none_ h5 h6 ∧ ∃ x' n' c', r = .slice x' n' c' ∧ NewCM 31 (h.size + 1) (fun b => b = h4.size) h6 (.slice x' n' c') (groupC (l.map (narrowC a b))) := by
    intro h4 h5 x n c n4 k5 hs4 hs5
    obtain ⟨F, own, g0, hF, ho⟩ := n4
    have lo := g0.own_lt
    have g : Grow rCell 31 F h5 _ _ own := g0.mono (fun b hb => ⟨hb, k5.blk b (hF b hb).2 (fun h => h)⟩) fun b hb => ⟨g0.notF b hb, k5.blk b (lo b hb) (fun h => h)⟩
    have hgl := groupC_le (l.map (narrowC a b))
    refine (cloneCell_spec g (fun b hb => by have := (hF b hb).2; omega) (by omega)).mono ?_
    rintro r h6 ⟨own6, g6, k6, ho6⟩
    obtain ⟨x', c', rfl⟩ := g6.val
    refine ⟨k6, _, _, _, rfl, F, own6, g6, fun b hb => ⟨(hF b hb).1.at (Nat.le_refl _) ((k6.blk b (by have := (hF b hb).2; omega) (fun h => h)).trans (k5.blk b (hF b hb).2 (fun h => h))), by have := (hF b hb).2; have := k6.size; omega, fun e => by have := (hF b hb).2; omega⟩, fun b hb => ⟨by have := ho6 b hb; omega, fun e => by have := ho6 b hb; omega⟩⟩
  have h12 : alg = 0 ∨ alg = 1 := by omega
  have hK3' : ¬ (kn : Int) < 3 := hK3
  rcases h12 with rfl | rfl
  case' t4.inl =>
    simp -dsimp [hK3']
    refine call_by ahead ?_
    rintro _ h2 ⟨rfl, w2, k2, hz2, hall⟩
    simp -dsimp
    refine call_by hall ?_
    rintro v3 h3 ⟨n3, k3⟩
    obtain ⟨a3, m3, c3, rfl⟩ := n3.vals
    have l3 : SlRep rCell (Old h3) h3 (.slice a3 m3 c3) (l.map (narrowC a b)) := n3.rep (Nat.zero_le _)
    simp -dsimp
    refine call_by (bySort_spec l3 (by omega) hsn (by omega) (by omega)) ?_
    rintro _ h4 ⟨x4, nn4, c4, rfl, n4, k4⟩
    obtain ⟨hi, ehi⟩ : ∃ hi, hi = sortHigh kn (l.map (narrowC a b)) := ⟨_, rfl⟩
    rw [← ehi]
    have ehi : hi = highE 0 kn (lvlN a b) (l.map (narrowC a b)) := by unfold highE; rw [if_pos rfl]; exact ehi
  case' t4.inr =>
    have hmin : min (kn : Int) 10000 = ((min kn 10000 : Nat) : Int) := by omega
    simp -dsimp [hK3']
    refine call_by ahead ?_
    rintro _ h2 ⟨rfl, w2, k2, hz2, hall⟩
    simp -dsimp
    refine call_by hall ?_
    rintro v3 h3 ⟨n3, k3⟩
    obtain ⟨a3, m3, c3, rfl⟩ := n3.vals
    have l3 : SlRep rCell (Old h3) h3 (.slice a3 m3 c3) (l.map (narrowC a b)) := n3.rep (Nat.zero_le _)
    simp -dsimp [hmin]
    refine call_by (byHash_spec l3 (by omega) hsn (by omega) (by omega) hpre hlv) ?_
    rintro _ h4 ⟨x4, nn4, c4, rfl, n4, k4⟩
    obtain ⟨hi, ehi⟩ : ∃ hi, hi = highM (min kn 10000) (lvlN a b) 0 (l.map (narrowC a b)) := ⟨_, rfl⟩
    rw [← ehi]
    have ehi : hi = highE 1 kn (lvlN a b) (l.map (narrowC a b)) := by unfold highE; rw [if_neg (by decide)]; exact ehi
  all_goals
    have k24 := k3.trans k4 fun _ _ h => h
    have s4 := k24.size
    have s3 := k3.size
    simp -dsimp
    rw [push_set rfl]
    generalize hB5 : Array.push h4 _ = h5
    have k5 : Keep none_ h4 h5 := by rw [← hB5]; exact .push _ _ _
    have w5 : h5[h4.size]? = some (.cells #[.slice x4 nn4 c4, .int .i64 (hi : Int)] 26 (0, 0)) := by rw [← hB5]; exact push_new _ _
    have s5 : h5.size = h4.size + 1 := by rw [← hB5]; simp
    refine call_by (clone h4 h5 _ _ _ (n4.older (by omega)) k5 (by omega) (by omega)) ?_
    rintro _ h6 ⟨k6, x6, nn6, c6, rfl, n6⟩
    have w6 := k6.at w5 (fun h => h)
    have hl6 := lt_of_blk w6
    have w06 := k6.at (k5.at (k24.at w2 (fun h => h)) (fun h => h)) (fun h => h)
    have hl0 := lt_of_blk w06
    have hne : h4.size ≠ h.size := by omega
    have hs1 : ∀ o o', ((h6.setIfInBounds h4.size o).setIfInBounds h.size o')[h.size]? = some o' := fun o o' => set_same _ (by simpa using hl0)
    simp -dsimp [w6, set_same _ hl6, set_other _ hne, w06, hs1]
    refine fin hi _ x6 nn6 c6 ehi ?_ ?_ ?_
    · exact (n6.mono (Tr.set (M := fun b => b = h4.size) ⟨.refl _ _, fun _ h => .inl h, fun b hb => by rw [hb]; exact hl6⟩ _ rfl)).newC
    · exact ((((k2.trans k24 fun _ _ h => h).trans k5 fun _ _ h => h).trans k6 fun _ _ h => h).setted _ fun hh => by have := k2.size; omega)
    · exact (set_other _ hne).trans w06
end Go.Proofs

/-
  Runs of cells: the document's.
-/
namespace Go.HC
theorem sml_join {m : Nat} (a b : CellM) (ha : Sml m a) (hb : Sml m b) : Sml m (joinC a b) := ha.join hb
end Go.HC
namespace Go.Proofs
open Go Go.HC

end Go.Proofs

/-
  Rows of rising cells made one: the document's.
-/
namespace Go.Proofs
open Go Go.HC

end Go.Proofs

/-
  Plans carried out: the document's.
-/
namespace Go.HC
theorem runs_all {p : CellM → Prop} (most : Nat) (h0 : 0 < most) (hj : ∀ a b, p a → p b → p (joinC a b)) {l : List CellM} (hsm : ∀ d ∈ l, p d) : ∀ r ∈ runsM most l, ∀ d ∈ r, p d := by
  have h := runB hj h0 hsm l.length (Nat.le_refl _)
  rw [List.take_length] at h
  unfold runsM
  generalize runFold most l = st at *
  obtain ⟨out, held⟩ := st
  obtain ⟨h1, h2, h3, h4⟩ := h
  simp only at h1 h2 h3 h4 ⊢
  intro r hr
  rcases List.mem_append.1 hr with h | h
  · exact h1 r h
  · split at h
    · rw [List.mem_singleton] at h; subst h; exact h2
    · cases h
end Go.HC
namespace Go.Proofs
open Go Go.HC

end Go.Proofs

/-
  Plans carried out: the document's, whole.
-/
namespace Go.Proofs
open Go Go.HC

end Go.Proofs

/-
  hypercubelaw12: what its statements share.
-/
namespace Go.HC
theorem wf_bound {n : Int} (h : (Lit.int .i64 n).wf = true) : -9223372036854775808 ≤ n ∧ n < 9223372036854775808 := by
  have h1 : (decide (IntKind.i64.min ≤ n) && decide (n ≤ IntKind.i64.max)) = true := h
  rw [Bool.and_eq_true, decide_eq_true_eq, decide_eq_true_eq] at h1
  have e1 : IntKind.i64.min = -9223372036854775808 := by decide
  have e2 : IntKind.i64.max = 9223372036854775807 := by decide
  rw [e1, e2] at h1
  omega
end Go.HC
namespace Go.Proofs
open Go Go.HC

def cell12 : CellM := ⟨[4], 2, [], [], []⟩
set_option maxHeartbeats 4000000 in
set_option maxRecDepth 10000 in
theorem known12_spec (h : Heap) : CallH Try.prog 4 #[] h fun r h' => r = .bool true ∧ Keep none_ h h' := by
  refine callH_by fun K hK => ?_
  refine enter [.tmp 0] Try.func4 rfl rfl (by kernel_rfl) rfl ?_
  have x1 : execM 1 0 3 0 [] = ([], 0, 0) := by kernel_rfl
  have x2 : execM 1 0 3 1 [cell12] = ([⟨[], 2, [], [], []⟩], 1, 0) := by kernel_rfl
  have x3 : execM 1 0 2 0 [] = ([], 0, 3) := by kernel_rfl
  simp -dsimp
  refine call_by (exec_spec (m := 0) (l := []) 1 0 3 0 (.nil _ _ _) (by simp) (by omega) (fun c hc => by cases hc) (by omega)) ?_
  rintro _ h1 ⟨ma, mn, mc, rfl, n1, k1⟩
  rw [x1] at n1 ⊢
  obtain ⟨_, _, hv, _, _⟩ := (n1.rep (Nat.zero_le _)).val
  cases hv
  have s1 := k1.size
  simp -dsimp
  rw [push_set rfl]
  generalize hB : Array.push (Array.push (Array.push h1 _) _) _ = h2
  have k2 : Keep none_ h1 h2 := by rw [← hB]; exact (((Keep.refl none_ h1).pushed _).pushed _).pushed _
  have w1 : h2[h1.size]? = some (.cells #[.slice ma 0 mc, .int .i64 0] 26 (0, 0)) := by rw [← hB]; exact push_at (push_at (push_new _ _))
  have wi : h2[h1.size + 1]? = some (.cells #[.int .i64 4] 3 (0, 0)) := by rw [← hB]; exact push_at (push_get (by simp))
  have wc : h2[h1.size + 2]? = some (.cells #[.slice (some ⟨h1.size + 1, 0, none⟩) 1 1, .int .i64 2, .slice none 0 0, .slice none 0 0, .slice none 0 0] 31 (0, 0)) := by rw [← hB]; exact push_get (by simp)
  have hrow : SlRep rCell (Old h2) h2 (.slice (some ⟨h1.size + 2, 0, none⟩) 1 1) [cell12] := by
    refine ⟨_, 1, [.slice (some ⟨h1.size + 1, 0, none⟩) 1 1, .int .i64 2, .slice none 0 0, .slice none 0 0, .slice none 0 0], rfl, Nat.le_refl _, by decide, .inr ⟨h1.size + 2, 0, _, _, _, rfl, ⟨nz, lt_of_blk wc, fun h => h⟩, wc, rfl⟩, .single ?_⟩
    refine ⟨_, _, _, _, rfl, ?_, .nil _ _ _, .nil _ _ _, .nil _ _ _⟩
    exact ⟨_, 1, _, rfl, Nat.le_refl _, by decide, .inr ⟨h1.size + 1, 0, _, _, _, rfl, ⟨nz, lt_of_blk wi, fun h => h⟩, wi, rfl⟩, .single rfl⟩
  have hok : ∀ c ∈ [cell12], CellOk 0 (dimsM 1).length c := fun c hc => by
    rw [List.mem_singleton] at hc; subst hc
    exact ⟨⟨by decide, rfl, rfl, rfl⟩, by decide, fun v hv => by simp [cell12] at hv; omega⟩
  have hzz : h1.size + 1 + 1 = h1.size + 2 := rfl
  refine call_by (exec_spec (m := 0) (l := [cell12]) 1 0 3 1 hrow (by simp) (by omega) hok (by omega)) ?_
  rintro _ h3 ⟨na, nn, nc, rfl, n3, k3⟩
  rw [x2] at n3 ⊢
  have r3 : SlRep rCell (Old h3) h3 (.slice na nn nc) [⟨[], 2, [], [], []⟩] := n3.rep (Nat.zero_le _)
  obtain ⟨_, _, hv, _, _⟩ := r3.val
  cases hv
  obtain ⟨b3, o3, cs3, rfl, _, hrep3, hx3⟩ := r3.get 0 (by simp)
  obtain ⟨ka, kc, sa, sc, na', nc', xa, xc, rfl, _⟩ := cell_open hrep3
  have hx3' : HC.cellIn h3[b3]? (o3 + 1) = some (.int .i64 2) := by
    have := cellsIn_cell (d := 1) hx3 (by decide)
    simpa using this
  have w13 := k3.at w1 (fun h => h)
  have s3 := k3.size
  simp -dsimp
  rw [push_set rfl]
  generalize hB4 : Array.push h3 _ = h4
  have k4 : Keep none_ h3 h4 := by rw [← hB4]; exact .push _ _ _
  have w24 : h4[h3.size]? = some (.cells #[.slice (some ⟨b3, o3, none⟩) 1 nc, .int .i64 1] 26 (0, 0)) := by rw [← hB4]; exact push_new _ _
  have w14 := k4.at w13 (fun h => h)
  refine call_by (exec_spec (m := 0) (l := []) 1 0 2 0 (.nil _ _ _) (by simp) (by omega) (fun c hc => by cases hc) (by omega)) ?_
  rintro _ h5 ⟨pa, pn, pc, rfl, n5, k5⟩
  rw [x3] at n5 ⊢
  have w15 := k5.at w14 (fun h => h)
  have w25 := k5.at w24 (fun h => h)
  have hb3 := k5.size
  have hx5 : HC.cellIn h5[b3]? (o3 + 1) = some (.int .i64 2) := by
    have hb : b3 < h3.size := by
      obtain ⟨_, _, _, e, hf, _⟩ := r3.get 0 (by simp)
      cases e; exact hf.2.1
    rw [k5.blk b3 (by have := k4.size; omega) (fun h => h), k4.blk b3 hb (fun h => h)]; exact hx3'
  simp -dsimp
  rw [push_set rfl]
  have w16 : ∀ o, (Array.push h5 o)[h1.size]? = _ := fun o => push_at w15
  have w26 : ∀ o, (Array.push h5 o)[h3.size]? = _ := fun o => push_at w25
  have hlb : b3 < h5.size := by
    obtain ⟨_, _, _, e, hf, _⟩ := r3.get 0 (by simp)
    cases e
    have := hf.2.1; have := k4.size; omega
  have hx6 : ∀ o, HC.cellIn (Array.push h5 o)[b3]? (o3 + 1) = some (.int .i64 2) := fun o => (congrArg (HC.cellIn · (o3 + 1)) (push_old o hlb)).trans hx5
  simp -dsimp [w16, w26, hx6, idxA_zero (show 0 < 1 by decide)]
  exact hK _ _ ⟨rfl, ((((k1.trans k2 fun _ _ h => h).trans k3 fun _ _ h => h).trans k4 fun _ _ h => h).trans k5 fun _ _ h => h).pushed _⟩
end Go.Proofs

/-
  The bridge from a contract on heaps to a row: what an argument that is a slice of numbers is, in memory.
-/
namespace Go.HC
open Go.ChangeShapes Go.WideShapes Go.ChangeAt Go.RowKit

theorem cells_of {w : World} {a : Addr} {vs : List Value} (hc : ∀ i (hi : i < vs.length), w.cell? (a.add i) = some vs[i]) : Cells (fun b => b < w.heap.size) w.heap (some a) vs := by
  by_cases hne : vs = []
  · exact .inl hne
  · have hpos : 0 < vs.length := List.length_pos_iff.2 hne
    obtain ⟨bk, off, spot⟩ := a
    have h0 := hc 0 hpos
    rw [cellH_eq] at h0
    unfold cellH at h0
    simp only [Addr.add, if_true] at h0
    cases hb : w.heap[bk]? with
    | none => rw [hb] at h0; cases h0
    | some o =>
      rw [hb] at h0
      cases o with
      | cells c e fz =>
        simp only at h0
        have hsp : spot = none := by
          cases spot with
          | none => rfl
          | some s => simp at h0
        subst hsp
        refine .inr ⟨bk, off, c, e, fz, rfl, lt_of_blk hb, hb, ?_⟩
        apply List.ext_getElem?
        intro i
        by_cases hi : i < vs.length
        · have h1 := hc i hi
          rw [cellH_eq] at h1
          unfold cellH at h1
          rw [add_mk] at h1
          simp only [hb, Option.isSome_none, Bool.false_eq_true, if_false] at h1
          rw [List.getElem?_take, if_pos hi, List.getElem?_drop, Array.getElem?_toList, h1, List.getElem?_eq_getElem hi]
        · rw [List.getElem?_take, if_neg hi, List.getElem?_eq_none (by omega)]
      | _ => cases h0

variable {H : Type} {enc : TypeId × Value → H} {P : Program} {W : World} {base : Nat}
theorem open_rep {t e : TypeId} {k : IntKind} {v : Value} {d : DataW H} {p : List MemPlace} (ht : P.underlying t = some (.slice e)) (he : P.underlying e = some (.int k)) (hc : P.cellsOf e = 1)
    (hval : Value.okWide P W .any base t v) (hd : DataW.Trod enc P W 0 (fun _ => true) true t v d p) :
    ∃ (a : Option Addr) (n c : Nat) (zs : List Int), v = .slice a n c ∧ zs.length = n ∧ n ≤ c ∧ c < 9223372036854775808 ∧ Cells (fun b => b < W.heap.size) W.heap a (zs.map (.int k)) ∧ ∀ z ∈ zs, (Lit.int k z).wf = true := by
  obtain ⟨a0, len, cap, rfl⟩ := okWide_slice ht hval
  obtain ⟨fuel, hf⟩ := hd
  rcases open_ints ht he hc hf with ⟨hcs, hx⟩ | ⟨a, len', cap', zs, hcs, _, hl, hm, hz, hx, hcell, hwz⟩
  · simp [Value.cells] at hcs
    obtain ⟨rfl, rfl, rfl⟩ := hcs
    exact ⟨none, 0, 0, [], rfl, rfl, Nat.le_refl _, by decide, .inl rfl, by simp⟩
  · simp [Value.cells] at hcs
    obtain ⟨rfl, rfl, rfl⟩ := hcs
    simp only [if_true] at hz
    have hm' : maxLen = 9223372036854775807 := rfl
    refine ⟨some a, len, cap, zs.take len, rfl, by simp; omega, hl, by omega, cells_of fun i hi => ?_, fun z hz => hwz z (List.mem_of_mem_take hz)⟩
    simp only [List.length_map, List.length_take] at hi
    rw [hcell i (by omega)]
    simp [List.getElem_map, List.getElem_take, List.getD, List.getElem?_eq_getElem (show i < zs.length by omega)]
theorem open_intRep {t e : TypeId} {v : Value} {d : DataW H} {p : List MemPlace} (ht : P.underlying t = some (.slice e)) (he : P.underlying e = some (.int .i64)) (hc : P.cellsOf e = 1)
    (hval : Value.okWide P W .any base t v) (hd : DataW.Trod enc P W 0 (fun _ => true) true t v d p) : ∃ xs : List Int, SlRep rInt (fun b => b < W.heap.size) W.heap v xs := by
  obtain ⟨a, n, c, zs, rfl, rfl, h1, h2, h3, _⟩ := open_rep ht he hc hval hd
  exact ⟨zs, a, c, _, rfl, h1, h2, h3, ints_map.2 rfl⟩
theorem open_byteRep {t e : TypeId} {v : Value} {d : DataW H} {p : List MemPlace} (ht : P.underlying t = some (.slice e)) (he : P.underlying e = some (.int .u8)) (hc : P.cellsOf e = 1)
    (hval : Value.okWide P W .any base t v) (hd : DataW.Trod enc P W 0 (fun _ => true) true t v d p) : ∃ xs : List UInt8, SlRep rByte (fun b => b < W.heap.size) W.heap v xs := by
  obtain ⟨a, n, c, zs, rfl, rfl, h1, h2, h3, h4⟩ := open_rep ht he hc hval hd
  have hl : (zs.map fun z => UInt8.ofNat z.toNat).length = zs.length := by simp
  refine ⟨zs.map fun z => UInt8.ofNat z.toNat, a, c, _, by rw [hl], by rw [hl]; exact h1, h2, h3, bytes_map.2 ?_⟩
  rw [List.map_map]
  apply List.map_congr_left
  intro z hz
  have := h4 z hz
  have e1 : IntKind.u8.min = 0 := rfl
  have e2 : IntKind.u8.max = 255 := rfl
  simp only [Lit.wf, Bool.and_eq_true, decide_eq_true_eq, e1, e2] at this
  simp only [Function.comp_apply, Value.int.injEq, true_and, UInt8.toNat_ofNat']
  omega

/-- A contract, as the row's walk. -/
theorem below_of {w w' : World} (h : Same w w') (k : Keep none_ w.heap w'.heap) : Below w.heap.size w w' :=
  ⟨h.os, h.tape, h.output, k.size, fun i hi => k.blk i hi (fun h => h)⟩
theorem calls_of {f : FuncId} {args : Array Value} {w : World} (h : CallH P f args w.heap fun r h' => r = .bool true ∧ Keep none_ w.heap h') : Calls P f args w fun e w' => e = .returned (.bool true) ∧ Below w.heap.size w w' :=
  (h w rfl).mono fun e w' ⟨v, he, hs, hv, hk⟩ => ⟨by rw [he, hv], below_of hs hk⟩
end Go.HC

/-
  The bridge: arguments that stay as they were, all at once.
-/
namespace Go.HC
open Go.ChangeShapes Go.WideShapes Go.ChangeAt Go.RowKit Go.ChangeMaps
theorem below_trodAll {H : Type} {enc : TypeId × Value → H} {P : Program} (hl : laidOutB P = true) {W W' : World} (hb : Below W.heap.size W W') :
    ∀ {ts : List TypeId} {vs : List Value} {ds : List (DataW H)} {ps : List MemPlace}, (ts.all fun t => P.readableRec t && decide (t < P.types.size)) = true →
      DataW.TrodAll enc P W 0 (fun _ => true) true ts vs ds ps → (∀ x ∈ ps, x.block < W.heap.size) → DataW.TrodAll enc P W' 0 (fun b => decide (b < W.heap.size)) true ts vs ds ps
  | [], vs, ds, ps, _, h, _ => by
    obtain ⟨rfl, rfl, rfl⟩ := trodAll_nil h
    exact trodAll_mk0
  | t :: ts, vs, ds, ps, ht, h, hlt => by
    rw [List.all_cons, Bool.and_eq_true, Bool.and_eq_true] at ht
    obtain ⟨⟨h1, h2⟩, h3⟩ := ht
    obtain ⟨v, vs', d, ds', p, q, rfl, rfl, rfl, hd, hs⟩ := trodAll_cons h
    exact trodAll_cons_mk (Below.trod hl h1 (of_decide_eq_true h2) hd hb fun x hx => hlt x (List.mem_append.2 (.inl hx))) (below_trodAll hl hb h3 hs fun x hx => hlt x (List.mem_append.2 (.inr hx)))
theorem open_u8 {H : Type} {enc : TypeId × Value → H} {P : Program} {W : World} {r : Reach} {b0 : Nat} {t : TypeId} {v : Value} {d : DataW H} {ps : List MemPlace} (ht : P.underlying t = some (.int .u8)) (hval : Value.okWide P W r b0 t v)
    (hd : DataW.Trod enc P W 0 (fun _ => true) true t v d ps) : ∃ c : UInt8, v = .int .u8 c.toNat := by
  obtain ⟨a, rfl, _, _, wa⟩ := open_int ht hval hd
  have e1 : IntKind.u8.min = 0 := rfl
  have e2 : IntKind.u8.max = 255 := rfl
  simp only [Lit.wf, Bool.and_eq_true, decide_eq_true_eq, e1, e2] at wa
  refine ⟨UInt8.ofNat a.toNat, ?_⟩
  simp only [Value.int.injEq, true_and, UInt8.toNat_ofNat']
  omega
theorem open_str {H : Type} {enc : TypeId × Value → H} {P : Program} {W : World} {r : Reach} {b0 : Nat} {t : TypeId} {v : Value} {d : DataW H} {ps : List MemPlace} (ht : P.underlying t = some .string) (hval : Value.okWide P W r b0 t v)
    (hd : DataW.Trod enc P W 0 (fun _ => true) true t v d ps) : ∃ s : ByteArray, v = .string s ∧ s.size ≤ 9223372036854775807 := by
  obtain ⟨s, rfl, _, _, hs⟩ := open_string ht hval hd
  exact ⟨s, rfl, hs⟩
end Go.HC
