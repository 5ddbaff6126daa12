/-
  StoreTraces, StoreMissing: the laws' walks.
-/
import Derived.Test.YtcopaleccjpdjaaP1
namespace Go.HC
/-- Names are not empty; kinds are from 1 to 4. -/
structure TrOk (M : Mod) : Prop where
  nm : ∀ p ∈ M.files, 1 ≤ p.1.size
  tr : ∀ q ∈ M.trace, 1 ≤ q.1 ∧ q.1 ≤ 4 ∧ 1 ≤ q.2.size
theorem TrOk.more {M : Mod} (t : TrOk M) {k : Int} {x : Nm} (h1 : 1 ≤ k) (h2 : k ≤ 4) (hx : 1 ≤ x.size) : ∀ q ∈ M.trace ++ [(k, x)], 1 ≤ q.1 ∧ q.1 ≤ 4 ∧ 1 ≤ q.2.size := by
  intro q hq
  rcases List.mem_append.1 hq with hq | hq
  · exact t.tr q hq
  · rw [List.mem_singleton] at hq; subst hq; exact ⟨h1, h2, hx⟩
theorem nameOk_pos {x : Nm} (h : nameOk x = true) : 1 ≤ x.size := by
  unfold nameOk at h
  rw [Bool.and_eq_true] at h
  exact of_decide_eq_true h.1
theorem TrOk.write {M : Mod} (t : TrOk M) (x : Nm) (b : List UInt8) : TrOk (M.write x b).2 := by
  unfold Mod.write
  split
  · exact t
  · rename_i hx
    have hx' := nameOk_pos (by simpa using hx)
    split
    · exact t
    · exact ⟨fun p hp => (mem_putF hp).elim (fun e => by rw [e]; exact hx') (t.nm p), t.more (by decide) (by decide) hx'⟩
theorem TrOk.sync {M : Mod} (t : TrOk M) (x : Nm) : TrOk (M.sync x).2 := by
  unfold Mod.sync
  split
  · exact t
  · rename_i f hf
    have hx' : 1 ≤ x.size := t.nm _ (mem_lookF hf)
    exact ⟨fun p hp => (mem_putF hp).elim (fun e => by rw [e]; exact hx') (t.nm p), t.more (by decide) (by decide) hx'⟩
theorem TrOk.remove {M : Mod} (t : TrOk M) (x : Nm) : TrOk (M.remove x).2 := by
  unfold Mod.remove
  split
  · exact t
  · rename_i f hf
    have hx' : 1 ≤ x.size := t.nm _ (mem_lookF hf)
    exact ⟨fun p hp => t.nm p ((delF_sub x M.files).subset hp), t.more (by decide) (by decide) hx'⟩
theorem TrOk.publish {M : Mod} (t : TrOk M) (x y : Nm) : TrOk (M.publish x y).2 := by
  unfold Mod.publish
  split
  · exact t
  · rename_i hy
    have hy' := nameOk_pos (by simpa using hy)
    split
    · exact t
    · split
      · exact t
      · split
        · exact t
        · exact ⟨fun p hp => (mem_putF hp).elim (fun e => by rw [e]; exact hy') (fun hp => t.nm p ((delF_sub x M.files).subset hp)), t.more (by decide) (by decide) hy'⟩
end Go.HC
namespace Go.Proofs
open Go Go.HC
theorem trOk_step {M : Mod} (t : TrOk M) (n : Int) (b : List UInt8) : TrOk (stepM M n b) := by
  unfold stepM
  simp only
  split
  · exact t.write ..
  · split
    · exact t.sync ..
    · split
      · exact t.publish ..
      · exact t.remove ..

set_option maxHeartbeats 40000000 in
set_option maxRecDepth 10000 in
theorem storeTraces_spec {G0 G1 : Nat → Prop} {h : Heap} {nv bv : Value} {ns : List Int} {b : List UInt8} (hn : SlRep rInt G0 h nv ns) (hG0 : ∀ b, G0 b → b < h.size) (hb : SlRep rByte G1 h bv b) (hG1 : ∀ b, G1 b → b < h.size) :
    CallH Try.prog 7 #[nv, bv] h fun r h' => r = .bool true ∧ Keep none_ h h' := by
  refine callH_by fun K hK => ?_
  refine enter [.tmp 4] Try.func7 rfl rfl (by kernel_rfl) rfl ?_
  obtain ⟨a0, c0, rfl, hc0, hc0'⟩ := hn.val
  obtain ⟨a1, c1, rfl, hc1, hc1'⟩ := hb.val
  simp -dsimp
  refine call_by (known_spec h) ?_
  rintro _ h1 ⟨rfl, k1⟩
  by_cases hl : 40 < b.length
  · have : (40 : Int) < b.length := by omega
    simp -dsimp [this]
    exact hK _ _ ⟨rfl, k1⟩
  · have hlb : ¬ (40 : Int) < b.length := by omega
    simp -dsimp [hlb]
    refine call_by (new_spec 60 h1) ?_
    rintro v h2 ⟨F2, s2, k2, n2⟩
    simp -dsimp
    refine call_by (rnew_spec 60 h2) ?_
    rintro w h3 ⟨G3, x3, k3, n3⟩
    have bo3 := both_new (k1.trans k2 (fun _ _ h => h)).size s2 x3 (fun b hb => Nat.le_trans k1.size (n2 b hb)) k3 n3
    have k03 := (k1.trans k2 (fun _ _ h => h)).trans k3 (fun _ _ h => h)
    obtain ⟨bs, xs, hv, hw⟩ := bo3.ptr
    subst hv; subst hw
    simp -dsimp
    refine loop' (σ := Nat × Mod) (fun t => [(0, .slice a0 ns.length c0), (1, .slice a1 b.length c1), (5, .pointer (some ⟨bs, 0, none⟩)), (6, .pointer (some ⟨xs, 0, none⟩)), (7, .int .i64 t.2.trace.length), (8, .int .i64 t.1)]) (fun _ => [])
      (fun t h4 => t.1 ≤ 40 ∧ t.2.Small (41 * t.1) ∧ t.2.limit = 60 ∧ TrOk t.2 ∧ Keep none_ h h4 ∧ Both h (.pointer (some ⟨bs, 0, none⟩)) (.pointer (some ⟨xs, 0, none⟩)) h4 t.2)
      (fun t => 40 - t.1) (0, Mod.new 60) ?_ rfl ⟨by omega, ⟨Nat.le_refl _, Nat.le_refl _, Nat.le_refl _⟩, rfl, ⟨(fun p hp => by cases hp), (fun p hp => by cases hp)⟩, k03, bo3⟩ (by kernel_rfl) ?_
    · intro p hp
      simp at hp
      rcases hp with rfl | rfl | rfl | rfl | rfl | rfl <;> simp [Mod.new]
    · rintro ⟨i, M⟩ h4 g ⟨hi60, hsm, hlim, htr, k4, bo⟩
      simp only at hi60 hsm hlim bo htr
      have e4 := k4.size
      have hmt := hsm.trace
      by_cases hic : i < ns.length ∧ i < 40
      · obtain ⟨hi, hi2⟩ := hic
        have e2 : decide ((i : Int) < 40) = true := by simp; omega
        obtain ⟨e0, F, G, s4, x4, hF, hG⟩ := bo
        simp -dsimp [hi, e2]
        refine call_by (rtrace_spec x4 (by omega)) ?_
        rintro _ h5 ⟨own5, hg5, k5, ho5⟩
        obtain ⟨a5, c5, rfl⟩ := hg5.val
        have bo5 : Both h (.pointer (some ⟨bs, 0, none⟩)) (.pointer (some ⟨xs, 0, none⟩)) h5 M := (show Both h _ _ h4 M from ⟨e0, F, G, s4, x4, hF, hG⟩).keep k5 (fun _ _ _ h => h)
        have k05 := k4.trans k5 (fun _ _ h => h)
        have hs5 := hn.mono (F' := G0) (h' := h5) fun b hb => ⟨hb, k05.blk b (hG0 b hb) (fun h => h)⟩
        have hb5 := hb.mono (F' := G1) (h' := h5) fun b hb => ⟨hb, k05.blk b (hG1 b hb) (fun h => h)⟩
        obtain ⟨bk, off, v, rfl, hGb, hrv, hcell⟩ := hs5.get1 rfl i hi
        have hv : v = .int .i64 ns[i] := by simpa [rInt] using hrv
        subst hv
        have hidx : ∀ (K : Value → Heap → Prop) (h : Heap), indexAddrS Try.prog 22 (.slice (some ⟨bk, off, none⟩) ns.length c0) (.int .i64 (i : Int)) h K = K (.pointer (some ⟨bk, off + i, none⟩)) h := by
          intro K h
          rw [indexAddrS_slice _ _ _ _ _ _ (by omega) (by omega) rfl]
          simp [elSz]
        have wi : IntKind.i64.wrap ((i : Int) + 1) = ((i + 1 : Nat) : Int) := by rw [wrap_i64 (by omega) (by omega)]; rfl
        simp -dsimp [hidx, hcell]
        refine call_by (step_spec bo5 hsm (by omega) (by omega) (by omega) ns[i] hb5 hG1 (by omega)) ?_
        rintro _ h6 ⟨rfl, bo6, k6⟩
        have hsm6 := (small_step bo5.ok.sorted hsm ns[i] b).up (show _ ≤ 41 * (i + 1) by omega)
        have hlim6 := (limit_step M ns[i] b).trans hlim
        have htr6 := trOk_step htr ns[i] b
        have hmt6 := hsm6.trace
        generalize stepM M ns[i] b = M6 at bo6 hsm6 hlim6 htr6 hmt6
        obtain ⟨e6, F6, G6, s6, x6, hF6, hG6⟩ := bo6
        simp -dsimp
        refine call_by (rtrace_spec x6 (by omega)) ?_
        rintro _ h7 ⟨own7, hg7, k7, ho7⟩
        obtain ⟨a7, c7, rfl⟩ := hg7.val
        have bo7 : Both h (.pointer (some ⟨bs, 0, none⟩)) (.pointer (some ⟨xs, 0, none⟩)) h7 M6 := (show Both h _ _ h6 M6 from ⟨e6, F6, G6, s6, x6, hF6, hG6⟩).keep k7 (fun _ _ _ h => h)
        have w1 : IntKind.i64.wrap ((M.trace.length : Int) + (M6.trace.length : Int)) = (M.trace.length : Int) + (M6.trace.length : Int) := wrap_i64 (by omega) (by omega)
        have w2 : IntKind.i64.wrap ((M.trace.length : Int) + (M6.trace.length : Int) - (M.trace.length : Int)) = (M6.trace.length : Int) := by rw [wrap_i64 (by omega) (by omega)]; omega
        have q5 := k5.size
        have q6 := k6.size
        have q7 := k7.size
        simp -dsimp [w1, w2, wi]
        refine ⟨(i + 1, M6), ?_, rfl, ⟨by show i + 1 ≤ 40; omega, hsm6, hlim6, htr6, ⟨by omega, fun c hc _ => by rw [k7.blk c (by omega) (fun h => h), k6.blk c (by omega) (by omega), k05.blk c hc (fun h => h)]⟩, bo7⟩, by show 40 - (i + 1) < 40 - i; omega⟩
        intro p hp
        simp at hp
        rcases hp with rfl | rfl | rfl | rfl | rfl | rfl <;> simp
      · by_cases hi : i < ns.length
        case' pos =>
          have e2 : ¬ ((i : Int) < 40) := by omega
          simp -dsimp [hi, e2]
        case' neg => simp -dsimp [hi]
        all_goals
          have bo4 := bo
          obtain ⟨e0, F, G, s4, x4, hF, hG⟩ := bo
          refine call_by (trace_spec s4 hsm (by omega)) ?_
          rintro _ h5 ⟨own5, hg5, k5, ho5⟩
          obtain ⟨a5, c5, rfl⟩ := hg5.val
          have bo5 := bo4.keep k5 (fun _ _ _ h => h)
          have k05 := k4.trans k5 (fun _ _ h => h)
          have ht5 := hg5.rep
          simp -dsimp
          refine loop' (σ := Nat) (fun k => [(5, .pointer (some ⟨bs, 0, none⟩)), (6, .pointer (some ⟨xs, 0, none⟩)), (7, .int .i64 M.trace.length), (10, .slice a5 M.trace.length c5), (11, .int .i64 k)]) (fun _ => [])
            (fun k h6 => h6 = h5) (fun k => M.trace.length - k) 0 ?_ rfl rfl (by kernel_rfl) ?_
          · intro p hp
            simp at hp
            rcases hp with rfl | rfl | rfl | rfl | rfl <;> simp
          · rintro j h6 g rfl
            by_cases hjl : j < M.trace.length
            · obtain ⟨nb, no, rfl, _, hn0, hn1⟩ := op_cells ht5 j hjl
              obtain ⟨q1, q2, q3⟩ := htr.tr _ (List.getElem_mem hjl)
              have hidx : ∀ (K : Value → Heap → Prop) (h : Heap), indexAddrS Try.prog 50 (.slice (some ⟨nb, no, none⟩) M.trace.length c5) (.int .i64 (j : Int)) h K = K (.pointer (some ⟨nb, no + j * 2, none⟩)) h := by
                intro K h
                rw [indexAddrS_slice _ _ _ _ _ _ (by omega) (by omega) rfl]
                simp [elSz]
              have g1 : ¬ (M.trace[j].1 < 1) := by omega
              have g2 : ¬ (4 < M.trace[j].1) := by omega
              have g3 : M.trace[j].2 ≠ (⟨#[]⟩ : ByteArray) := fun e => by rw [e] at q3; exact absurd q3 (by decide)
              have wj : IntKind.i64.wrap ((j : Int) + 1) = ((j + 1 : Nat) : Int) := by rw [wrap_i64 (by omega) (by omega)]; rfl
              simp -dsimp [hjl, hidx, hn0, hn1, g1, g2, g3, wj]
              refine ⟨j + 1, ?_, rfl, rfl, by show M.trace.length - (j + 1) < M.trace.length - j; omega⟩
              intro p hp
              simp at hp
              rcases hp with rfl | rfl | rfl | rfl | rfl <;> simp
            · simp -dsimp [hjl]
              refine call_by (same_spec bo5 hsm (by omega)) ?_
              rintro _ h7 ⟨rfl, k7⟩
              simp -dsimp
              exact hK _ _ ⟨rfl, k05.trans k7 (fun _ _ h => h)⟩

set_option maxHeartbeats 40000000 in
set_option maxRecDepth 10000 in
theorem storeMissing_spec {h : Heap} (x : ByteArray) (hx : x.size ≤ 9223372036854775807) (y : ByteArray) (hy : y.size ≤ 9223372036854775807) :
    CallH Try.prog 8 #[.string x, .string y] h fun r h' => r = .bool true ∧ Keep none_ h h' := by
  refine callH_by fun K hK => ?_
  refine enter [.tmp 4] Try.func8 rfl rfl (by kernel_rfl) rfl ?_
  simp -dsimp
  refine call_by (known_spec h) ?_
  rintro _ h1 ⟨rfl, k1⟩
  by_cases hl : 60 < x.size ∨ 60 < y.size
  · by_cases hl0 : 60 < x.size
    · have : (60 : Int) < x.size := by omega
      simp -dsimp [this]
      exact hK _ _ ⟨rfl, k1⟩
    · have h2 : (60 : Int) < y.size := by omega
      have h1 : ¬ (60 : Int) < x.size := by omega
      simp -dsimp [h1, h2]
      exact hK _ _ ⟨rfl, k1⟩
  · have hlb : ¬ (60 : Int) < x.size := by omega
    have hlr : ¬ (60 : Int) < y.size := by omega
    simp -dsimp [hlb, hlr]
    refine call_by (new_spec 10 h1) ?_
    rintro v h2 ⟨F2, s2, k2, n2⟩
    simp -dsimp
    refine call_by (rnew_spec 10 h2) ?_
    rintro w h3 ⟨G3, x3, k3, n3⟩
    have bo3 := both_new (k1.trans k2 (fun _ _ h => h)).size s2 x3 (fun b hb => Nat.le_trans k1.size (n2 b hb)) k3 n3
    have k03 := (k1.trans k2 (fun _ _ h => h)).trans k3 (fun _ _ h => h)
    obtain ⟨bs, xs, hv, hw⟩ := bo3.ptr
    subst hv; subst hw
    obtain ⟨e0, F, G, s3, x3, hF, hG⟩ := bo3
    have sm : (Mod.new 10).Small 0 := ⟨Nat.le_refl _, Nat.le_refl _, Nat.le_refl _⟩
    have hlk : ((Mod.new 10).look x).isSome = false := rfl
    simp -dsimp
    refine call_by (read_spec s3 (by decide) x) ?_
    rintro _ h4 ⟨u4, own4, rfl, hg4, k4, ho4⟩
    obtain ⟨a4, c4, rfl⟩ := hg4.val
    rw [hlk]
    have s4 := s3.keep k4 (fun _ _ h => h)
    have x4 := x3.keep k4 (fun _ _ h => h)
    have hsy : (Mod.new 10).sync x = (5, Mod.new 10) := rfl
    have hrm : (Mod.new 10).remove x = (5, Mod.new 10) := rfl
    have hpu : ((Mod.new 10).publish x y).2 = Mod.new 10 := by
      have hlk : (Mod.new 10).look x = none := rfl
      unfold Mod.publish
      rw [hlk]
      split <;> rfl
    simp -dsimp
    refine call_by (sync_spec s4 sm (by omega) x) ?_
    rintro _ h5 ⟨rfl, F5, s5, k5, hF5⟩
    rw [hsy] at s5 ⊢
    have x5 := both_ref hF x4 (.refl _ _) k5 (.refl _ _)
    have e3 := k03.size
    have e4 := k4.size
    have e5 := k5.size
    have lG := x4.lt
    have hF5' : ∀ b, F5 b → h.size ≤ b ∧ ¬ G b := fun b hb => (hF5 b hb).elim (hF b) (fun h => ⟨by omega, fun hg => by have := lG b hg; omega⟩)
    simp -dsimp
    refine call_by (remove_spec s5 sm (by omega) x) ?_
    rintro _ h6 ⟨rfl, F6, s6, k6, hF6⟩
    rw [hrm] at s6 ⊢
    have x6 := both_ref hF5' x5 (.refl _ _) k6 (.refl _ _)
    have e6 := k6.size
    have hF6' : ∀ b, F6 b → h.size ≤ b ∧ ¬ G b := fun b hb => (hF6 b hb).elim (hF5' b) (fun h => ⟨by omega, fun hg => by have := lG b hg; omega⟩)
    simp -dsimp
    refine call_by (publish_spec s6 sm (by omega) x y) ?_
    rintro _ h7 ⟨rfl, F7, s7, k7, hF7⟩
    have x7 := both_ref hF6' x6 (.refl _ _) k7 (.refl _ _)
    have e7 := k7.size
    have hF7' : ∀ b, F7 b → h.size ≤ b ∧ ¬ G b := fun b hb => (hF7 b hb).elim (hF6' b) (fun h => ⟨by omega, fun hg => by have := lG b hg; omega⟩)
    simp -dsimp
    refine call_by (rpublish_spec x7 sm (by omega) x y) ?_
    rintro _ h8 ⟨rfl, G8, x8, k8, hG8⟩
    have e8 := k8.size
    have s8 := s7.keep k8 (fun b hb => (hF7' b hb).2)
    rw [hpu] at s8
    have k08 : Keep none_ h h8 := ⟨by omega, fun c hc _ => by
      rw [k8.blk c (by omega) (fun hg => by have := hG c hg; omega), k7.blk c (by omega) (fun hf => by have := (hF6' c hf).1; omega), k6.blk c (by omega) (fun hf => by have := (hF5' c hf).1; omega), k5.blk c (by omega) (fun hf => by have := (hF c hf).1; omega), k4.blk c (by omega) (fun h => h), k03.blk c hc (fun h => h)]⟩
    simp -dsimp
    refine call_by (trace_spec s8 sm (by omega)) ?_
    rintro _ h9 ⟨own9, hg9, k9, ho9⟩
    obtain ⟨a9, c9, rfl⟩ := hg9.val
    have ht0 : (Mod.new 10).trace.length = 0 := rfl
    simp -dsimp [ht0]
    refine call_by (names_spec (s8.keep k9 (fun _ _ h => h)) sm (by omega)) ?_
    rintro _ h10 ⟨own10, hg10, k10, ho10⟩
    obtain ⟨a10, c10, rfl⟩ := hg10.val
    have hn0 : (Mod.new 10).names.length = 0 := rfl
    simp -dsimp [hn0]
    exact hK _ _ ⟨rfl, (k08.trans k9 (fun _ _ h => h)).trans k10 (fun _ _ h => h)⟩
end Go.Proofs
