/-
  StorePlays: the law's walk.
-/
import Derived.Test.YtcopaleccjpdjaaT2
namespace Go.HC
theorem Mod.Small.up {M : Mod} {m m' : Nat} (h : M.Small m) (hm : m ≤ m') : M.Small m' := ⟨Nat.le_trans h.used hm, Nat.le_trans h.files hm, Nat.le_trans h.trace hm⟩
theorem small_write {M : Mod} {m : Nat} (hs : SortedF M.files) (h : M.Small m) (x : Nm) (b : List UInt8) : (M.write x b).2.Small (m + b.length + 1) := by
  unfold Mod.write
  split
  · exact h.up (by omega)
  · split
    · exact h.up (by omega)
    · have h1 := used_put (x := x) (f := ⟨b, (M.look x).bind (·.sure), false⟩) hs
      have h2 := length_put (x := x) (f := ⟨b, (M.look x).bind (·.sure), false⟩) (l := M.files)
      have := h.used
      have := h.files
      have := h.trace
      simp only at h1
      refine ⟨?_, ?_, ?_⟩
      · show usedF (putF _ _ _) ≤ _; omega
      · show (putF _ _ _).length ≤ _; omega
      · show (M.trace ++ [_]).length ≤ _; simp; omega
theorem small_sync {M : Mod} {m : Nat} (hs : SortedF M.files) (h : M.Small m) (x : Nm) : (M.sync x).2.Small (m + 1) := by
  unfold Mod.sync
  split
  · exact h.up (by omega)
  · rename_i f hf
    have h1 := used_put (x := x) (f := ⟨f.now, some f.now, true⟩) hs
    have h2 := length_put (x := x) (f := ⟨f.now, some f.now, true⟩) (l := M.files)
    have hf' : lookF x M.files = some f := hf
    rw [hf'] at h1
    have := h.used
    have := h.files
    have := h.trace
    simp only [Option.map_some, Option.getD_some] at h1
    refine ⟨?_, ?_, ?_⟩
    · show usedF (putF _ _ _) ≤ _; omega
    · show (putF _ _ _).length ≤ _; omega
    · show (M.trace ++ [_]).length ≤ _; simp; omega
theorem small_remove {M : Mod} {m : Nat} (h : M.Small m) (x : Nm) : (M.remove x).2.Small (m + 1) := by
  unfold Mod.remove
  have := h.used
  have := h.files
  have := h.trace
  split
  · exact h.up (by omega)
  · have h1 := used_del (x := x) (l := M.files)
    have h2 := (delF_sub x M.files).length_le
    refine ⟨?_, ?_, ?_⟩
    · show usedF (delF _ _) ≤ _; omega
    · show (delF _ _).length ≤ _; omega
    · show (M.trace ++ [_]).length ≤ _; simp; omega
theorem small_publish {M : Mod} {m : Nat} (hs : SortedF M.files) (h : M.Small m) (x y : Nm) : (M.publish x y).2.Small (m + 1) := by
  unfold Mod.publish
  have := h.used
  have := h.files
  have := h.trace
  split
  · exact h.up (by omega)
  · split
    · exact h.up (by omega)
    · rename_i f hf
      split
      · exact h.up (by omega)
      · split
        · exact h.up (by omega)
        · have h1 := used_del (x := x) (l := M.files)
          have h2 := (delF_sub x M.files).length_le
          have h3 := used_put (x := y) (f := f) (hs.del x)
          have h4 := length_put (x := y) (f := f) (l := delF x M.files)
          have hf' : lookF x M.files = some f := hf
          rw [hf'] at h1
          simp only [Option.map_some, Option.getD_some] at h1
          refine ⟨?_, ?_, ?_⟩
          · show usedF (putF _ _ _) ≤ _; omega
          · show (putF _ _ _).length ≤ _; omega
          · show (M.trace ++ [_]).length ≤ _; simp; omega
theorem limit_write (M : Mod) (x : Nm) (b : List UInt8) : (M.write x b).2.limit = M.limit := by
  unfold Mod.write
  split
  · rfl
  · split <;> rfl
theorem limit_sync (M : Mod) (x : Nm) : (M.sync x).2.limit = M.limit := by unfold Mod.sync; split <;> rfl
theorem limit_remove (M : Mod) (x : Nm) : (M.remove x).2.limit = M.limit := by unfold Mod.remove; split <;> rfl
theorem limit_publish (M : Mod) (x y : Nm) : (M.publish x y).2.limit = M.limit := by
  unfold Mod.publish
  split
  · rfl
  · split
    · rfl
    · split
      · rfl
      · split <;> rfl
end Go.HC
namespace Go.Proofs
open Go Go.HC

theorem small_step {M : Mod} {m : Nat} (hs : SortedF M.files) (h : M.Small m) (n : Int) (b : List UInt8) : (stepM M n b).Small (m + b.length + 1) := by
  unfold stepM
  simp only
  split
  · refine (small_write hs h _ _).up ?_
    simp; omega
  · split
    · exact (small_sync hs h _).up (by omega)
    · split
      · exact (small_publish hs h _ _).up (by omega)
      · exact (small_remove h _).up (by omega)
theorem limit_step (M : Mod) (n : Int) (b : List UInt8) : (stepM M n b).limit = M.limit := by
  unfold stepM
  simp only
  split
  · exact limit_write ..
  · split
    · exact limit_sync ..
    · split
      · exact limit_publish ..
      · exact limit_remove ..
theorem Both.ok {h0 h : Heap} {v w : Value} {M : Mod} (s : Both h0 v w h M) : M.Ok := by
  obtain ⟨_, F, G, s, _⟩ := s
  exact s.ok
theorem Both.ptr {h0 h : Heap} {v w : Value} {M : Mod} (s : Both h0 v w h M) : ∃ bs xs, v = .pointer (some ⟨bs, 0, none⟩) ∧ w = .pointer (some ⟨xs, 0, none⟩) := by
  obtain ⟨_, F, G, ⟨bs, _, _, _, _, _, _, rfl, _⟩, ⟨xs, _, _, _, _, _, rfl, _⟩, _⟩ := s
  exact ⟨bs, xs, rfl, rfl⟩
theorem both_new {h0 h1 h2 : Heap} {v w : Value} {k : Int} {F G : Nat → Prop} (e0 : h0.size ≤ h1.size) (s : StAt v F h1 (Mod.new k)) (x : RefAt w G h2 (Mod.new k)) (nF : ∀ b, F b → h0.size ≤ b) (k2 : Keep none_ h1 h2) (nG : ∀ b, G b → h1.size ≤ b) : Both h0 v w h2 (Mod.new k) :=
  ⟨Nat.le_trans e0 k2.size, F, G, s.keep k2 (fun _ _ h => h), x, fun b hb => ⟨nF b hb, fun hg => by have := s.lt b hb; have := nG b hg; omega⟩, fun b hb => Nat.le_trans e0 (nG b hb)⟩

set_option maxHeartbeats 40000000 in
set_option maxRecDepth 10000 in
theorem storePlays_spec {G0 G1 : Nat → Prop} {h : Heap} {nv bv : Value} {ns : List Int} {b : List UInt8} (limit : Int) (hn : SlRep rInt G0 h nv ns) (hG0 : ∀ b, G0 b → b < h.size) (hb : SlRep rByte G1 h bv b) (hG1 : ∀ b, G1 b → b < h.size) (raw : ByteArray) (hraw : raw.size ≤ 9223372036854775807) :
    CallH Try.prog 6 #[.int .i64 limit, nv, bv, .string raw] h fun r h' => r = .bool true ∧ Keep none_ h h' := by
  refine callH_by fun K hK => ?_
  refine enter [.tmp 8] Try.func6 rfl rfl (by kernel_rfl) rfl ?_
  obtain ⟨a0, c0, rfl, hc0, hc0'⟩ := hn.val
  obtain ⟨a1, c1, rfl, hc1, hc1'⟩ := hb.val
  simp -dsimp
  refine call_by (known_spec h) ?_
  rintro _ h1 ⟨rfl, k1⟩
  by_cases hl : 100 < b.length ∨ 60 < raw.size
  · by_cases hl0 : 100 < b.length
    · have : (100 : Int) < b.length := by omega
      simp -dsimp [this]
      exact hK _ _ ⟨rfl, k1⟩
    · have h2 : (60 : Int) < raw.size := by omega
      have h1 : ¬ (100 : Int) < b.length := by omega
      simp -dsimp [h1, h2]
      exact hK _ _ ⟨rfl, k1⟩
  · have hlb : ¬ (100 : Int) < b.length := by omega
    have hlr : ¬ (60 : Int) < raw.size := by omega
    simp -dsimp [hlb, hlr]
    refine call_by (within_spec limit 200 (by decide) (by decide) h1) ?_
    rintro _ h1' ⟨rfl, hh⟩
    obtain rfl := hh.symm
    obtain ⟨hk0, hk1⟩ := withinM_bound (a := limit) (n := 200) (by decide)
    generalize withinM limit 200 = kl at hk0 hk1 ⊢
    simp -dsimp
    refine call_by (new_spec kl h1) ?_
    rintro v h2 ⟨F2, s2, k2, n2⟩
    simp -dsimp
    refine call_by (rnew_spec kl h2) ?_
    rintro w h3 ⟨G3, x3, k3, n3⟩
    have bo3 := both_new (k1.trans k2 (fun _ _ h => h)).size s2 x3 (fun b hb => Nat.le_trans k1.size (n2 b hb)) k3 n3
    have k03 := (k1.trans k2 (fun _ _ h => h)).trans k3 (fun _ _ h => h)
    obtain ⟨bs, xs, hv, hw⟩ := bo3.ptr
    subst hv; subst hw
    simp -dsimp
    refine loop' (σ := Nat × Mod) (fun t => [(1, .slice a0 ns.length c0), (2, .slice a1 b.length c1), (3, .string raw), (10, .pointer (some ⟨bs, 0, none⟩)), (11, .pointer (some ⟨xs, 0, none⟩)), (12, .int .i64 t.1)]) (fun _ => [])
      (fun t h4 => t.1 ≤ 60 ∧ t.2.Small (101 * t.1) ∧ t.2.limit = kl ∧ Keep none_ h h4 ∧ Both h (.pointer (some ⟨bs, 0, none⟩)) (.pointer (some ⟨xs, 0, none⟩)) h4 t.2)
      (fun t => 60 - t.1) (0, Mod.new kl) ?_ rfl ⟨by omega, ⟨Nat.le_refl _, Nat.le_refl _, Nat.le_refl _⟩, rfl, k03, bo3⟩ (by kernel_rfl) ?_
    · intro p hp
      simp at hp
      rcases hp with rfl | rfl | rfl | rfl | rfl | rfl <;> simp
    · rintro ⟨i, M⟩ h4 g ⟨hi60, hsm, hlim, k4, bo⟩
      simp only at hi60 hsm hlim bo
      have e4 := k4.size
      by_cases hic : i < ns.length ∧ i < 60
      · obtain ⟨hi, hi2⟩ := hic
        have e2 : decide ((i : Int) < 60) = true := by simp; omega
        have hs4 := hn.mono (F' := G0) (h' := h4) fun b hb => ⟨hb, k4.blk b (hG0 b hb) (fun h => h)⟩
        have hb4 := hb.mono (F' := G1) (h' := h4) fun b hb => ⟨hb, k4.blk b (hG1 b hb) (fun h => h)⟩
        obtain ⟨bk, off, v, rfl, hGb, hrv, hcell⟩ := hs4.get1 rfl i hi
        have hv : v = .int .i64 ns[i] := by simpa [rInt] using hrv
        subst hv
        have hidx : ∀ (K : Value → Heap → Prop) (h : Heap), indexAddrS Try.prog 22 (.slice (some ⟨bk, off, none⟩) ns.length c0) (.int .i64 (i : Int)) h K = K (.pointer (some ⟨bk, off + i, none⟩)) h := by
          intro K h
          rw [indexAddrS_slice _ _ _ _ _ _ (by omega) (by omega) rfl]
          simp [elSz]
        have wi : IntKind.i64.wrap ((i : Int) + 1) = ((i + 1 : Nat) : Int) := by rw [wrap_i64 (by omega) (by omega)]; rfl
        simp -dsimp [hi, e2, hidx, hcell]
        refine call_by (step_spec bo hsm (by omega) (by omega) (by omega) ns[i] hb4 hG1 (by omega)) ?_
        rintro _ h5 ⟨rfl, bo5, k5⟩
        have hsm5 := (small_step bo.ok.sorted hsm ns[i] b).up (show _ ≤ 101 * (i + 1) by omega)
        have hlim5 := (limit_step M ns[i] b).trans hlim
        simp -dsimp
        refine call_by (same_spec bo5 hsm5 (by omega)) ?_
        rintro _ h6 ⟨rfl, k6⟩
        have e5 := k5.size
        have e6 := k6.size
        simp -dsimp [wi]
        refine ⟨(i + 1, stepM M ns[i] b), ?_, rfl, ⟨by show i + 1 ≤ 60; omega, hsm5, hlim5, ⟨by omega, fun c hc _ => by rw [k6.blk c (by omega) (fun h => h), k5.blk c (by omega) (by omega), k4.blk c hc (fun h => h)]⟩, bo5.keep k6 (fun _ _ _ h => h)⟩, by show 60 - (i + 1) < 60 - i; omega⟩
        intro p hp
        simp at hp
        rcases hp with rfl | rfl | rfl | rfl | rfl | rfl <;> simp
      · by_cases hi : i < ns.length
        case' pos =>
          have e2 : ¬ ((i : Int) < 60) := by omega
          simp -dsimp [hi, e2]
        case' neg => simp -dsimp [hi]
        all_goals
          obtain ⟨e0, F, G, s4, x4, hF, hG⟩ := bo
          have hus := hsm.used
          have hfs := hsm.files
          refine call_by (read_spec s4 (by omega) raw) ?_
          rintro _ h5 ⟨u5, own5, rfl, hg5, k5, ho5⟩
          obtain ⟨a5, c5, rfl⟩ := hg5.val
          simp -dsimp
          refine call_by (rread_spec (x4.keep k5 (fun _ _ h => h)) (by omega) (by omega) raw) ?_
          rintro _ h6 ⟨u6, own6, rfl, hg6, k6, ho6⟩
          obtain ⟨a6, c6, rfl⟩ := hg6.val
          have k56 := k5.trans k6 (fun _ _ h => h)
          have s6 := s4.keep k56 (fun _ _ h => h)
          have x6 := x4.keep k56 (fun _ _ h => h)
          have e6 := k56.size
          simp -dsimp
          refine call_by (sync_spec s6 hsm (by omega) raw) ?_
          rintro _ h7 ⟨rfl, F7, s7, k7, hF7⟩
          have x7 := both_ref hF x6 (.refl _ _) k7 (.refl _ _)
          simp -dsimp
          refine call_by (rsync_spec x7 hsm (by omega) raw) ?_
          rintro _ h8 ⟨rfl, G8, x8, k8, hG8⟩
          obtain ⟨bo8, k68⟩ := both_end hF hG x6.lt (by omega) (.refl _ _) k7 hF7 s7 (.refl _ _) k8 hG8 x8
          have hsm8 := small_sync s6.ok.sorted hsm raw
          have hlim8 := limit_sync M raw
          obtain ⟨e8, F8, G8', s8, x8', hF8, hG8'⟩ := bo8
          have hus8 := hsm8.used
          simp -dsimp
          refine call_by (write_spec s8 hsm8 (by omega) raw (SlRep.nil rByte none_ h8) (fun b hb => hb.elim) (by decide)) ?_
          rintro _ h9 ⟨rfl, F9, s9, k9, hF9⟩
          have x9 := both_ref hF8 x8' (.refl _ _) k9 (.refl _ _)
          simp -dsimp
          refine call_by (rwrite_spec x9 hsm8 (by omega) (by rw [hlim8]; omega) (by rw [hlim8]; omega) raw (SlRep.nil rByte none_ h9) (fun b hb => hb.elim) (by decide)) ?_
          rintro _ h10 ⟨rfl, G10, x10, k10, hG10⟩
          obtain ⟨bo10, k810⟩ := both_end hF8 hG8' x8'.lt e8 (.refl _ _) k9 hF9 s9 (.refl _ _) k10 hG10 x10
          have e68 := k68.size
          have e810 := k810.size
          simp -dsimp
          exact hK _ _ ⟨rfl, ⟨by omega, fun c hc _ => by rw [k810.blk c (by omega) (by omega), k68.blk c (by omega) (by omega), k56.blk c (by omega) (fun h => h), k4.blk c hc (fun h => h)]⟩⟩
end Go.Proofs
