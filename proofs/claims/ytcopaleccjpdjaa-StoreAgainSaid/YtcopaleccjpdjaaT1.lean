/-
  The laws' steps: one thing is done to the program's store and to the document's.
-/
import Derived.Test.YtcopaleccjpdjaaR6
namespace Go.Proofs
open Go Go.HC

def names11 : List Nm := [⟨#[97]⟩, ⟨#[98]⟩, ⟨#[116]⟩, ⟨#[112, 108, 97, 110]⟩, ⟨#[99, 49]⟩, ⟨#[99, 49, 48]⟩, ⟨#[]⟩, ⟨#[97]⟩, ⟨#[116]⟩, ⟨#[49, 50, 51, 52, 53, 54, 55, 56, 57, 48, 49, 50, 51, 52, 53, 54, 55, 56, 57, 48]⟩, ⟨#[49, 50, 51, 52, 53, 54, 55, 56, 57, 48, 49, 50, 51, 52, 53, 54, 55, 56, 57, 48, 49]⟩]
def nameM (n : Int) : Nm := names11.getD (withinM n 11).toNat ⟨#[]⟩
set_option maxRecDepth 10000 in
theorem lawName_spec (n : Int) (h : Heap) : CallH Try.prog 42 #[.int .i64 n] h fun r h' => r = .string (nameM n) ∧ Keep none_ h h' := by
  refine callH_by fun K hK => ?_
  refine enter [.tmp 2] Try.func42 rfl rfl (by kernel_rfl) rfl ?_
  simp -dsimp
  generalize hH : h.push _ = h1
  have k1 : Keep none_ h h1 := by rw [← hH]; exact .push _ _ _
  have hb : h1[h.size]? = some (.cells (names11.map Value.string).toArray 9 (0, 0)) := by rw [← hH]; exact push_new _ _
  refine call_by (within_spec n 11 (by decide) (by decide) h1) ?_
  rintro _ h' ⟨rfl, hh⟩
  obtain rfl := hh.symm
  obtain ⟨hm0, hm1⟩ := withinM_bound (a := n) (n := 11) (by decide)
  have hnm : nameM n = names11.getD (withinM n 11).toNat ⟨#[]⟩ := rfl
  obtain ⟨k, hk⟩ : ∃ k : Nat, withinM n 11 = k := ⟨(withinM n 11).toNat, by omega⟩
  rw [hk] at hm0 hm1 hnm ⊢
  have hk11 : k < 11 := by omega
  have hidx : ∀ (K : Value → Heap → Prop) (h' : Heap), indexAddrS Try.prog 36 (.slice (some ⟨h.size, 0, none⟩) 11 11) (.int .i64 (k : Int)) h' K = K (.pointer (some ⟨h.size, k, none⟩)) h' := by
    intro K h'
    rw [indexAddrS_slice _ _ _ _ _ _ (by omega) (by omega) rfl]
    simp [elSz]
  have hcell : cellIn h1[h.size]? k = some (.string (nameM n)) := by
    rw [hb, cellIn_some, hnm]
    have hl : names11.length = 11 := rfl
    simp [List.getElem?_map, List.getElem?_eq_getElem (show k < names11.length by omega), List.getD]
  simp -dsimp [hidx, hcell]
  exact hK _ _ ⟨rfl, k1⟩

def Both (h0 : Heap) (v w : Value) (h : Heap) (M : Mod) : Prop := h0.size ≤ h.size ∧ ∃ F G, StAt v F h M ∧ RefAt w G h M ∧ (∀ b, F b → h0.size ≤ b ∧ ¬ G b) ∧ ∀ b, G b → h0.size ≤ b
theorem Both.keep {h0 : Heap} {v w : Value} {h h' : Heap} {M : Mod} {S : Nat → Prop} (s : Both h0 v w h M) (k : Keep S h h') (hS : ∀ b, b < h.size → h0.size ≤ b → ¬ S b) : Both h0 v w h' M := by
  obtain ⟨e, F, G, s1, x1, hF, hG⟩ := s
  exact ⟨Nat.le_trans e k.size, F, G, s1.keep k (fun b hb => hS b (s1.lt b hb) (hF b hb).1), x1.keep k (fun b hb => hS b (x1.lt b hb) (hG b hb)), hF, hG⟩
theorem both_end {h0 h h1 h2 h3 h4 : Heap} {v w : Value} {M' : Mod} {F G F2 G4 : Nat → Prop} (hF : ∀ b, F b → h0.size ≤ b ∧ ¬ G b) (hG : ∀ b, G b → h0.size ≤ b) (lG : ∀ b, G b → b < h.size) (e0 : h0.size ≤ h.size)
    (k1 : Keep none_ h h1) (k2 : Keep F h1 h2) (hF2 : ∀ b, F2 b → F b ∨ h1.size ≤ b) (s2 : StAt v F2 h2 M') (k3 : Keep none_ h2 h3) (k4 : Keep G h3 h4) (hG4 : ∀ b, G4 b → G b ∨ h3.size ≤ b) (x4 : RefAt w G4 h4 M') :
    Both h0 v w h4 M' ∧ Keep (fun c => h0.size ≤ c) h h4 := by
  have e1 := k1.size
  have e2 := k2.size
  have e3 := k3.size
  have e4 := k4.size
  have l2 := s2.lt
  have q : ∀ b, F2 b → ¬ G b := fun b hb hg => (hF2 b hb).elim (fun h => (hF b h).2 hg) (fun h => by have := lG b hg; omega)
  refine ⟨⟨by omega, F2, G4, (s2.keep k3 (fun _ _ h => h)).keep k4 q, x4, fun b hb => ⟨(hF2 b hb).elim (fun h => (hF b h).1) (fun h => by omega), fun hg => (hG4 b hg).elim (q b hb) (fun h => by have := l2 b hb; omega)⟩, fun b hb => (hG4 b hb).elim (hG b) (fun h => by omega)⟩, ⟨by omega, fun b hb hn => ?_⟩⟩
  rw [k4.blk b (by omega) (fun hg => hn (hG b hg)), k3.blk b (by omega) (fun h => h), k2.blk b (by omega) (fun hf => hn (hF b hf).1), k1.blk b hb (fun h => h)]
theorem both_ref {h0 h h1 h2 h3 : Heap} {w : Value} {M : Mod} {F G : Nat → Prop} (hF : ∀ b, F b → h0.size ≤ b ∧ ¬ G b) (x : RefAt w G h M) (k1 : Keep none_ h h1) (k2 : Keep F h1 h2) (k3 : Keep none_ h2 h3) : RefAt w G h3 M :=
  ((x.keep k1 (fun _ _ h => h)).keep k2 (fun b hb hf => (hF b hf).2 hb)).keep k3 (fun _ _ h => h)

/-- A step, plainly. -/
def stepM (M : Mod) (n : Int) (b : List UInt8) : Mod :=
  let k := IntKind.i64.wrap (n.tdiv 8)
  let z := withinM n 8
  if z = 0 ∨ z = 1 ∨ z = 2 then (M.write (nameM k) (b.take (withinM (IntKind.i64.wrap (k.tdiv 11)) ((b.length : Int) + 1)).toNat)).2
  else if z = 3 ∨ z = 4 then (M.sync (nameM k)).2
  else if z = 5 ∨ z = 6 then (M.publish (nameM k) (nameM (IntKind.i64.wrap (k.tdiv 11)))).2
  else (M.remove (nameM k)).2

set_option maxHeartbeats 40000000 in
set_option maxRecDepth 10000 in
theorem step_spec {h0 h : Heap} {v w : Value} {M : Mod} (s : Both h0 v w h M) {m : Nat} (hm : M.Small m) (hm' : m < 1000000000) (hlo : -9223372030000000000 ≤ M.limit) (hhi : M.limit ≤ 9223372036854775807) (n : Int) {B : Nat → Prop} {bv : Value} {b : List UInt8}
    (hb : SlRep rByte B h bv b) (hB : ∀ c, B c → c < h0.size) (hbl : b.length < 1000000) :
    CallH Try.prog 24 #[v, w, .int .i64 n, bv] h fun r h' => r = .bool true ∧ Both h0 v w h' (stepM M n b) ∧ Keep (fun c => h0.size ≤ c) h h' := by
  refine callH_by fun K hK => ?_
  obtain ⟨e0, F, G, s0, x0, hF, hG⟩ := s
  obtain ⟨bs, hv⟩ : ∃ bs, v = .pointer (some ⟨bs, 0, none⟩) := by
    obtain ⟨bs, _, _, _, _, _, _, rfl, _⟩ := s0; exact ⟨bs, rfl⟩
  obtain ⟨xs, hw⟩ : ∃ xs, w = .pointer (some ⟨xs, 0, none⟩) := by
    obtain ⟨xs, _, _, _, _, _, rfl, _⟩ := x0; exact ⟨xs, rfl⟩
  subst hv; subst hw
  obtain ⟨ba, bc, rfl, hbc, _⟩ := hb.val
  have lG := x0.lt
  have lF := s0.lt
  refine enter [.tmp 8] Try.func24 rfl rfl (by kernel_rfl) rfl ?_
  simp -dsimp
  refine call_by (within_spec n 8 (by decide) (by decide) h) ?_
  rintro _ h' ⟨rfl, hh⟩
  obtain rfl := hh.symm
  unfold stepM at hK
  simp only at hK
  generalize IntKind.i64.wrap (n.tdiv 8) = k at hK ⊢
  obtain ⟨hz0, hz8⟩ := withinM_bound (a := n) (n := 8) (by decide)
  generalize withinM n 8 = z at hK hz0 hz8 ⊢
  by_cases hw : z = 0 ∨ z = 1 ∨ z = 2
  · rw [if_pos hw] at hK
    rcases hw with rfl | rfl | rfl
    all_goals
      have hwl : IntKind.i64.wrap ((b.length : Int) + 1) = (b.length : Int) + 1 := wrap_i64 (by omega) (by omega)
      simp -dsimp [hwl]
      generalize IntKind.i64.wrap (k.tdiv 11) = q at hK ⊢
      refine call_by (within_spec q ((b.length : Int) + 1) (by omega) (by omega) h) ?_
      rintro _ h' ⟨rfl, hh⟩
      obtain rfl := hh.symm
      obtain ⟨hj0, hj1⟩ := withinM_bound (a := q) (n := (b.length : Int) + 1) (by omega)
      obtain ⟨j, hj⟩ : ∃ j : Nat, withinM q ((b.length : Int) + 1) = j := ⟨(withinM q ((b.length : Int) + 1)).toNat, by omega⟩
      rw [hj] at hj0 hj1 hK ⊢
      rw [Int.toNat_natCast] at hK
      simp -dsimp
      rw [sliceS_slice (i := 0) (j := j) (m := bc) Try.elS30 Try.szS5 (.inl ⟨rfl, rfl⟩) (.inr ⟨_, rfl⟩) (.inl ⟨rfl, rfl⟩) (by omega) (by omega) (by omega)]
      have hpc0 := hb.cut (i := 0) (j := j) (m := bc) (by omega) (by omega) (by omega) (by omega)
      rw [List.drop_zero] at hpc0
      have hpc : SlRep rByte B h (.slice (piece ba 0 bc 1) j bc) (b.take j) := hpc0
      have htl : (b.take j).length < 1000000000 := by simp; omega
      simp -dsimp
      refine call_by (lawName_spec k h) ?_
      rintro _ h1 ⟨rfl, k1⟩
      have e1 := k1.size
      have s1 := s0.keep k1 (fun _ _ h => h)
      have hp1 := hpc.mono (F' := B) (h' := h1) fun c hc => ⟨hc, k1.blk c (by have := hB c hc; omega) (fun h => h)⟩
      simp -dsimp
      refine call_by (write_spec s1 hm hm' (nameM k) hp1 (fun c hc => by have := hB c hc; omega) htl) ?_
      rintro _ h2 ⟨rfl, F2, s2, k2, hF2⟩
      simp -dsimp
      refine call_by (lawName_spec k h2) ?_
      rintro _ h3 ⟨rfl, k3⟩
      have e2 := k2.size
      have e3 := k3.size
      have x3 := both_ref hF x0 k1 k2 k3
      have hp3 := hp1.mono (F' := B) (h' := h3) fun c hc => ⟨hc, by rw [k3.blk c (by have := hB c hc; omega) (fun h => h), k2.blk c (by have := hB c hc; omega) (fun hf => by have := (hF c hf).1; have := hB c hc; omega)]⟩
      simp -dsimp
      refine call_by (rwrite_spec x3 hm hm' hlo hhi (nameM k) hp3 (fun c hc => by have := hB c hc; omega) htl) ?_
      rintro _ h4 ⟨rfl, G4, x4, k4, hG4⟩
      obtain ⟨q1, q2⟩ := both_end hF hG lG e0 k1 k2 hF2 s2 k3 k4 hG4 x4
      simp -dsimp
      exact hK _ _ ⟨rfl, q1, q2⟩
  · rw [if_neg hw] at hK
    have n0 : (z == 0) = false := by simp; omega
    have n1 : (z == 1) = false := by simp; omega
    have n2 : (z == 2) = false := by simp; omega
    by_cases hs : z = 3 ∨ z = 4
    · rw [if_pos hs] at hK
      rcases hs with rfl | rfl
      all_goals
        simp -dsimp
        refine call_by (lawName_spec k h) ?_
        rintro _ h1 ⟨rfl, k1⟩
        have s1 := s0.keep k1 (fun _ _ h => h)
        simp -dsimp
        refine call_by (sync_spec s1 hm hm' (nameM k)) ?_
        rintro _ h2 ⟨rfl, F2, s2, k2, hF2⟩
        simp -dsimp
        refine call_by (lawName_spec k h2) ?_
        rintro _ h3 ⟨rfl, k3⟩
        have x3 := both_ref hF x0 k1 k2 k3
        simp -dsimp
        refine call_by (rsync_spec x3 hm hm' (nameM k)) ?_
        rintro _ h4 ⟨rfl, G4, x4, k4, hG4⟩
        obtain ⟨q1, q2⟩ := both_end hF hG lG e0 k1 k2 hF2 s2 k3 k4 hG4 x4
        simp -dsimp
        exact hK _ _ ⟨rfl, q1, q2⟩
    · rw [if_neg hs] at hK
      have n3 : (z == 3) = false := by simp; omega
      have n4 : (z == 4) = false := by simp; omega
      by_cases hp : z = 5 ∨ z = 6
      · rw [if_pos hp] at hK
        generalize hq : IntKind.i64.wrap (k.tdiv 11) = q at hK
        rcases hp with rfl | rfl
        all_goals
          simp -dsimp
          refine call_by (lawName_spec k h) ?_
          rintro _ h1 ⟨rfl, k1⟩
          simp -dsimp [hq]
          refine call_by (lawName_spec q h1) ?_
          rintro _ h1' ⟨rfl, k1'⟩
          have k1'' := k1.trans k1' (fun _ _ h => h)
          have s1 := s0.keep k1'' (fun _ _ h => h)
          simp -dsimp
          refine call_by (publish_spec s1 hm hm' (nameM k) (nameM q)) ?_
          rintro _ h2 ⟨rfl, F2, s2, k2, hF2⟩
          simp -dsimp
          refine call_by (lawName_spec k h2) ?_
          rintro _ h3 ⟨rfl, k3⟩
          simp -dsimp [hq]
          refine call_by (lawName_spec q h3) ?_
          rintro _ h3' ⟨rfl, k3'⟩
          have k3'' := k3.trans k3' (fun _ _ h => h)
          have x3 := both_ref hF x0 k1'' k2 k3''
          simp -dsimp
          refine call_by (rpublish_spec x3 hm hm' (nameM k) (nameM q)) ?_
          rintro _ h4 ⟨rfl, G4, x4, k4, hG4⟩
          obtain ⟨q1, q2⟩ := both_end hF hG lG e0 k1'' k2 hF2 s2 k3'' k4 hG4 x4
          simp -dsimp
          exact hK _ _ ⟨rfl, q1, q2⟩
      · rw [if_neg hp] at hK
        have n5 : (z == 5) = false := by simp; omega
        have n6 : (z == 6) = false := by simp; omega
        simp -dsimp [n0, n1, n2, n3, n4, n5, n6]
        refine call_by (lawName_spec k h) ?_
        rintro _ h1 ⟨rfl, k1⟩
        have s1 := s0.keep k1 (fun _ _ h => h)
        simp -dsimp
        refine call_by (remove_spec s1 hm hm' (nameM k)) ?_
        rintro _ h2 ⟨rfl, F2, s2, k2, hF2⟩
        simp -dsimp
        refine call_by (lawName_spec k h2) ?_
        rintro _ h3 ⟨rfl, k3⟩
        have x3 := both_ref hF x0 k1 k2 k3
        simp -dsimp
        refine call_by (rremove_spec x3 hm hm' (nameM k)) ?_
        rintro _ h4 ⟨rfl, G4, x4, k4, hG4⟩
        obtain ⟨q1, q2⟩ := both_end hF hG lG e0 k1 k2 hF2 s2 k3 k4 hG4 x4
        simp -dsimp
        exact hK _ _ ⟨rfl, q1, q2⟩
end Go.Proofs
