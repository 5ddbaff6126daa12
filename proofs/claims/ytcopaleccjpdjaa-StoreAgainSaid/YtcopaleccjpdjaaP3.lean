/-
  StoreAgain, StoreCrashes: plain laws of crashes.
-/
import Derived.Test.YtcopaleccjpdjaaP1
import Derived.Test.YtcopaleccjpdjaaR7
namespace Go.HC
theorem crashF_again : ∀ {l : Files} {ks : List Int}, (∀ q ∈ l, q.2.safe = true ∧ q.2.sure = some q.2.now) → crashF ks l = l
  | [], _, _ => rfl
  | p :: l, ks, h => by
    obtain ⟨h1, h2⟩ := h p (List.mem_cons_self ..)
    have ih := crashF_again (l := l) (ks := ks) fun q hq => h q (List.mem_cons_of_mem _ hq)
    rw [crashF]
    simp only [h1, if_true, h2, ih]
    obtain ⟨x, nw, su, sf⟩ := p
    simp only at h1 h2
    rw [h1, h2]
theorem crash_again (M : Mod) (ks ks' : List Int) : (M.crash ks).crash ks' = M.crash ks := by
  unfold Mod.crash
  simp only
  rw [crashF_again fun q hq => ⟨(crashF_mem hq).1, (crashF_mem hq).2.1⟩]
/-- Bytes, and sure bytes, are at most so many. -/
def SuOk (M : Mod) (c : Nat) : Prop := ∀ p ∈ M.files, p.2.now.length ≤ c ∧ ∀ b, p.2.sure = some b → b.length ≤ c
theorem SuOk.put {M : Mod} {c : Nat} (h : SuOk M c) {x : Nm} {f : FileM} (h1 : f.now.length ≤ c) (h2 : ∀ b, f.sure = some b → b.length ≤ c) : ∀ p ∈ putF x f M.files, p.2.now.length ≤ c ∧ ∀ b, p.2.sure = some b → b.length ≤ c :=
  fun p hp => (mem_putF hp).elim (fun e => by rw [e]; exact ⟨h1, h2⟩) (h p)
theorem SuOk.write {M : Mod} {c : Nat} (h : SuOk M c) (x : Nm) {b : List UInt8} (hb : b.length ≤ c) : SuOk (M.write x b).2 c := by
  unfold Mod.write
  split
  · exact h
  · split
    · exact h
    · refine h.put hb fun b' hb' => ?_
      simp only at hb'
      cases hl : M.look x with
      | none => rw [hl] at hb'; cases hb'
      | some f => rw [hl] at hb'; exact (h _ (mem_lookF hl)).2 b' hb'
theorem SuOk.sync {M : Mod} {c : Nat} (h : SuOk M c) (x : Nm) : SuOk (M.sync x).2 c := by
  unfold Mod.sync
  split
  · exact h
  · rename_i f hf
    have := h _ (mem_lookF hf)
    exact h.put this.1 fun b hb => by cases hb; exact this.1
theorem SuOk.remove {M : Mod} {c : Nat} (h : SuOk M c) (x : Nm) : SuOk (M.remove x).2 c := by
  unfold Mod.remove
  split
  · exact h
  · exact fun p hp => h p ((delF_sub x M.files).subset hp)
theorem SuOk.publish {M : Mod} {c : Nat} (h : SuOk M c) (x y : Nm) : SuOk (M.publish x y).2 c := by
  unfold Mod.publish
  split
  · exact h
  · split
    · exact h
    · rename_i f hf
      split
      · exact h
      · split
        · exact h
        · have := h _ (mem_lookF hf)
          exact fun p hp => (mem_putF hp).elim (fun e => by rw [e]; exact this) (fun hp => h p ((delF_sub x M.files).subset hp))
theorem SuOk.crash {M : Mod} {c : Nat} (h : SuOk M c) (ks : List Int) : SuOk (M.crash ks) c := by
  have key : ∀ {l : Files} {ks : List Int}, (∀ p ∈ l, p.2.now.length ≤ c ∧ ∀ b, p.2.sure = some b → b.length ≤ c) → ∀ p ∈ crashF ks l, p.2.now.length ≤ c := by
    intro l
    induction l with
    | nil => intro ks _ p hp; cases hp
    | cons q l ih =>
      intro ks hl p hp
      rw [crashF] at hp
      have hq := hl q (List.mem_cons_self ..)
      have hl' := fun p hp => hl p (List.mem_cons_of_mem _ hp)
      split at hp
      · rename_i b hb
        rcases List.mem_cons.1 hp with rfl | hp
        · simp only
          split at hb
          · exact hq.2 b hb
          · unfold leftF at hb
            split at hb
            · cases hb; exact hq.1
            · split at hb
              · cases hb; simp; omega
              · exact hq.2 b hb
        · exact ih hl' p hp
      · exact ih hl' p hp
  intro p hp
  have h1 := key h p hp
  exact ⟨h1, fun b hb => by rw [(crashF_mem hp).2.1] at hb; cases hb; exact h1⟩
theorem used_le {c : Nat} : ∀ {l : Files}, (∀ p ∈ l, p.2.now.length ≤ c) → usedF l ≤ c * l.length
  | [], _ => by simp
  | p :: l, h => by
    have h1 := h p (List.mem_cons_self ..)
    have h2 := used_le (l := l) fun q hq => h q (List.mem_cons_of_mem _ hq)
    rw [usedF_cons, List.length_cons, Nat.mul_succ]; omega
theorem small_crash {M : Mod} {c n : Nat} (h : SuOk M c) (hn : M.Small n) (hc : 1 ≤ c) (ks : List Int) : (M.crash ks).Small (c * n) := by
  have h1 := crashF_le (l := M.files) (ks := ks)
  have h2 := used_le (c := c) (l := (M.crash ks).files) fun p hp => (h.crash ks p hp).1
  have h3 := hn.files
  have h4 : c * (M.crash ks).files.length ≤ c * n := Nat.mul_le_mul_left _ (Nat.le_trans h1 h3)
  have h5 : n ≤ c * n := Nat.le_mul_of_pos_left _ hc
  refine ⟨by omega, ?_, Nat.zero_le _⟩
  have : (M.crash ks).files.length ≤ M.files.length := h1
  omega
end Go.HC
namespace Go.Proofs
open Go Go.HC
theorem suOk_step {M : Mod} {c : Nat} (h : SuOk M c) (n : Int) {b : List UInt8} (hb : b.length ≤ c) : SuOk (stepM M n b) c := by
  unfold stepM
  simp only
  split
  · refine h.write _ ?_
    simp; omega
  · split
    · exact h.sync _
    · split
      · exact h.publish _ _
      · exact h.remove _
theorem both_mk {h0 h1 h2 : Heap} {v w : Value} {M : Mod} {F G : Nat → Prop} (e0 : h0.size ≤ h1.size) (s : StAt v F h1 M) (x : RefAt w G h2 M) (nF : ∀ b, F b → h0.size ≤ b) (k2 : Keep none_ h1 h2) (nG : ∀ b, G b → h1.size ≤ b) : Both h0 v w h2 M :=
  ⟨Nat.le_trans e0 k2.size, F, G, s.keep k2 (fun _ _ h => h), x, fun b hb => ⟨nF b hb, fun hg => by have := s.lt b hb; have := nG b hg; omega⟩, fun b hb => Nat.le_trans e0 (nG b hb)⟩

set_option maxHeartbeats 40000000 in
set_option maxRecDepth 10000 in
theorem storeAgain_spec {G0 G1 G2 G3 : Nat → Prop} {h : Heap} {nv bv kv mv : Value} {ns : List Int} {b : List UInt8} {ks ms : List Int} (hn : SlRep rInt G0 h nv ns) (hG0 : ∀ b, G0 b → b < h.size) (hb : SlRep rByte G1 h bv b) (hG1 : ∀ b, G1 b → b < h.size)
    (hk : SlRep rInt G2 h kv ks) (hG2 : ∀ b, G2 b → b < h.size) (hmr : SlRep rInt G3 h mv ms) (hG3 : ∀ b, G3 b → b < h.size) :
    CallH Try.prog 13 #[nv, bv, kv, mv] h fun r h' => r = .bool true ∧ Keep none_ h h' := by
  refine callH_by fun K hK => ?_
  refine enter [.tmp 8] Try.func13 rfl rfl (by kernel_rfl) rfl ?_
  obtain ⟨a0, c0, rfl, hc0, hc0'⟩ := hn.val
  obtain ⟨a1, c1, rfl, hc1, hc1'⟩ := hb.val
  obtain ⟨a2, c2, rfl, hc2, hc2'⟩ := hk.val
  obtain ⟨a3, c3, rfl, hc3, hc3'⟩ := hmr.val
  simp -dsimp
  refine call_by (known_spec h) ?_
  rintro _ h1 ⟨rfl, k1⟩
  by_cases hl : 60 < b.length ∨ 60 < ks.length ∨ 60 < ms.length
  · by_cases hl0 : 60 < b.length
    · have : (60 : Int) < b.length := by omega
      simp -dsimp [this]
      exact hK _ _ ⟨rfl, k1⟩
    · have h1 : ¬ (60 : Int) < b.length := by omega
      by_cases hl1 : 60 < ks.length
      · have h2 : (60 : Int) < ks.length := by omega
        simp -dsimp [h1, h2]
        exact hK _ _ ⟨rfl, k1⟩
      · have h2 : ¬ (60 : Int) < ks.length := by omega
        have h3 : (60 : Int) < ms.length := by omega
        simp -dsimp [h1, h2, h3]
        exact hK _ _ ⟨rfl, k1⟩
  · have hlb : ¬ (60 : Int) < b.length := by omega
    have hlk : ¬ (60 : Int) < ks.length := by omega
    have hlm : ¬ (60 : Int) < ms.length := by omega
    simp -dsimp [hlb, hlk, hlm]
    refine call_by (new_spec 200 h1) ?_
    rintro v h2 ⟨F2, s2, k2, n2⟩
    simp -dsimp
    refine call_by (rnew_spec 200 h2) ?_
    rintro w h3 ⟨Gx, x3, k3, n3⟩
    have bo3 := both_mk (k1.trans k2 (fun _ _ h => h)).size s2 x3 (fun b hb => Nat.le_trans k1.size (n2 b hb)) k3 n3
    have k03 := (k1.trans k2 (fun _ _ h => h)).trans k3 (fun _ _ h => h)
    obtain ⟨bs, xs, hv, hw⟩ := bo3.ptr
    subst hv; subst hw
    simp -dsimp
    refine loop' (σ := Nat × Mod) (fun t => [(0, .slice a0 ns.length c0), (1, .slice a1 b.length c1), (2, .slice a2 ks.length c2), (3, .slice a3 ms.length c3), (9, .pointer (some ⟨bs, 0, none⟩)), (10, .pointer (some ⟨xs, 0, none⟩)), (11, .int .i64 t.1)]) (fun _ => [])
      (fun t h4 => t.1 ≤ 30 ∧ t.2.Small (61 * t.1) ∧ t.2.limit = 200 ∧ SuOk t.2 60 ∧ Keep none_ h h4 ∧ Both h (.pointer (some ⟨bs, 0, none⟩)) (.pointer (some ⟨xs, 0, none⟩)) h4 t.2)
      (fun t => 30 - t.1) (0, Mod.new 200) ?_ rfl ⟨by omega, ⟨Nat.le_refl _, Nat.le_refl _, Nat.le_refl _⟩, rfl, (fun p hp => by cases hp), k03, bo3⟩ (by kernel_rfl) ?_
    · intro p hp
      simp at hp
      rcases hp with rfl | rfl | rfl | rfl | rfl | rfl | rfl <;> simp
    · rintro ⟨i, M⟩ h4 g ⟨hi60, hsm, hlim, hsu, k4, bo⟩
      simp only at hi60 hsm hlim bo hsu
      have e4 := k4.size
      by_cases hic : i < ns.length ∧ i < 30
      · obtain ⟨hi, hi2⟩ := hic
        have e2 : decide ((i : Int) < 30) = true := by simp; omega
        have hs4 := hn.mono (F' := G0) (h' := h4) fun b hb => ⟨hb, k4.blk b (hG0 b hb) (fun h => h)⟩
        have hb4 := hb.mono (F' := G1) (h' := h4) fun b hb => ⟨hb, k4.blk b (hG1 b hb) (fun h => h)⟩
        obtain ⟨bk, off, v, rfl, hGb, hrv, hcell⟩ := hs4.get1 rfl i hi
        have hv : v = .int .i64 ns[i] := by simpa [rInt] using hrv
        subst hv
        have hidx : ∀ (K : Value → Heap → Prop) (h : Heap), indexAddrS Try.prog 22 (.slice (some ⟨bk, off, none⟩) ns.length c0) (.int .i64 (i : Int)) h K = K (.pointer (some ⟨bk, off + i, none⟩)) h := by
          intro K h
          rw [indexAddrS_slice _ _ _ _ _ _ (by omega) (by omega) rfl]
          simp [elSz]
        have wi : IntKind.i64.wrap ((i : Int) + 1) = ((i + 1 : Nat) : Int) := by rw [wrap_i64 (by omega) (by omega)]; rfl
        simp -dsimp [hi, e2, hidx, hcell]
        refine call_by (step_spec bo hsm (by omega) (by omega) (by omega) ns[i] hb4 hG1 (by omega)) ?_
        rintro _ h5 ⟨rfl, bo5, k5⟩
        have hsm5 := (small_step bo.ok.sorted hsm ns[i] b).up (show _ ≤ 61 * (i + 1) by omega)
        have hlim5 := (limit_step M ns[i] b).trans hlim
        have hsu5 := suOk_step hsu ns[i] (b := b) (by omega)
        have e5 := k5.size
        simp -dsimp [wi]
        refine ⟨(i + 1, stepM M ns[i] b), ?_, rfl, ⟨by show i + 1 ≤ 30; omega, hsm5, hlim5, hsu5, ⟨by omega, fun c hc _ => by rw [k5.blk c (by omega) (by omega), k4.blk c hc (fun h => h)]⟩, bo5⟩, by show 30 - (i + 1) < 30 - i; omega⟩
        intro p hp
        simp at hp
        rcases hp with rfl | rfl | rfl | rfl | rfl | rfl | rfl <;> simp
      · by_cases hi : i < ns.length
        case' pos =>
          have e2 : ¬ ((i : Int) < 30) := by omega
          simp -dsimp [hi, e2]
        case' neg => simp -dsimp [hi]
        all_goals
          obtain ⟨e0, F, G, s4, x4, hF, hG⟩ := bo
          have hsu' : ∀ p ∈ M.files, ∀ b, p.2.sure = some b → b.length < 1000000000 := fun p hp b hb => by have := (hsu p hp).2 b hb; omega
          have hk4 := hk.mono (F' := G2) (h' := h4) fun b hb => ⟨hb, k4.blk b (hG2 b hb) (fun h => h)⟩
          refine call_by (crash_spec s4 hsm (by omega) hsu' hk4 (fun b hb => by have := hG2 b hb; omega)) ?_
          rintro r h5 ⟨F5, t5, k5, n5⟩
          obtain ⟨tb, hr⟩ : ∃ tb, r = .pointer (some ⟨tb, 0, none⟩) := by
            obtain ⟨tb, _, _, _, _, _, _, rfl, _⟩ := t5; exact ⟨tb, rfl⟩
          subst hr
          have hsmc : (M.crash ks).Small (60 * (61 * i)) := small_crash hsu hsm (by decide) ks
          have hsuc := hsu.crash ks
          have hsuc' : ∀ p ∈ (M.crash ks).files, ∀ b, p.2.sure = some b → b.length < 1000000000 := fun p hp b hb => by have := (hsuc p hp).2 b hb; omega
          have k05 := k4.trans k5 (fun _ _ h => h)
          have hm5 := hmr.mono (F' := G3) (h' := h5) fun b hb => ⟨hb, k05.blk b (hG3 b hb) (fun h => h)⟩
          have e5 := k5.size
          simp -dsimp
          refine call_by (crash_spec t5 hsmc (by omega) hsuc' hm5 (fun b hb => by have := hG3 b hb; omega)) ?_
          rintro r h6 ⟨F6, u6, k6, n6⟩
          obtain ⟨ub, hr⟩ : ∃ ub, r = .pointer (some ⟨ub, 0, none⟩) := by
            obtain ⟨ub, _, _, _, _, _, _, rfl, _⟩ := u6; exact ⟨ub, rfl⟩
          subst hr
          rw [crash_again] at u6
          have k46 := k5.trans k6 (fun _ _ h => h)
          have k06 := k4.trans k46 (fun _ _ h => h)
          have x6 := x4.keep k46 (fun _ _ h => h)
          have t6 := t5.keep k6 (fun _ _ h => h)
          have e6 := k6.size
          have hk6 := hk.mono (F' := G2) (h' := h6) fun b hb => ⟨hb, k06.blk b (hG2 b hb) (fun h => h)⟩
          simp -dsimp
          refine call_by (rcrash_spec x6 hsm (by omega) hsu' hk6 (fun b hb => by have := hG2 b hb; omega) (by omega)) ?_
          rintro y h7 ⟨G7, y7, k7, n7⟩
          have bo7 := both_mk (h0 := h5) e6 u6 y7 n6 k7 n7
          simp -dsimp
          refine call_by (same_spec bo7 hsmc (by omega)) ?_
          rintro _ h8 ⟨rfl, k8⟩
          have k68 := k7.trans k8 (fun _ _ h => h)
          have k08 := k06.trans k68 (fun _ _ h => h)
          have x8 := x6.keep k68 (fun _ _ h => h)
          have t8 := t6.keep k68 (fun _ _ h => h)
          have hk8 := hk.mono (F' := G2) (h' := h8) fun b hb => ⟨hb, k08.blk b (hG2 b hb) (fun h => h)⟩
          have e8 := k68.size
          simp -dsimp
          refine call_by (rcrash_spec x8 hsm (by omega) hsu' hk8 (fun b hb => by have := hG2 b hb; omega) (by omega)) ?_
          rintro z h9 ⟨G9, z9, k9, n9⟩
          have bo9 := both_mk (h0 := h4) (by omega) t8 z9 n5 k9 n9
          simp -dsimp
          refine call_by (same_spec bo9 hsmc (by omega)) ?_
          rintro _ h10 ⟨rfl, k10⟩
          simp -dsimp
          exact hK _ _ ⟨rfl, (k08.trans k9 (fun _ _ h => h)).trans k10 (fun _ _ h => h)⟩

set_option maxHeartbeats 40000000 in
set_option maxRecDepth 10000 in
theorem storeCrashes_spec {G0 G1 G2 G3 : Nat → Prop} {h : Heap} {nv bv kv mv : Value} {ns : List Int} {b : List UInt8} {ks ms : List Int} (limit : Int) (hn : SlRep rInt G0 h nv ns) (hG0 : ∀ b, G0 b → b < h.size) (hb : SlRep rByte G1 h bv b) (hG1 : ∀ b, G1 b → b < h.size)
    (hk : SlRep rInt G2 h kv ks) (hG2 : ∀ b, G2 b → b < h.size) (hmr : SlRep rInt G3 h mv ms) (hG3 : ∀ b, G3 b → b < h.size) :
    CallH Try.prog 12 #[.int .i64 limit, nv, bv, kv, mv] h fun r h' => r = .bool true ∧ Keep none_ h h' := by
  refine callH_by fun K hK => ?_
  refine enter [.tmp 10] Try.func12 rfl rfl (by kernel_rfl) rfl ?_
  obtain ⟨a0, c0, rfl, hc0, hc0'⟩ := hn.val
  obtain ⟨a1, c1, rfl, hc1, hc1'⟩ := hb.val
  obtain ⟨a2, c2, rfl, hc2, hc2'⟩ := hk.val
  obtain ⟨a3, c3, rfl, hc3, hc3'⟩ := hmr.val
  simp -dsimp
  refine call_by (known_spec h) ?_
  rintro _ h1 ⟨rfl, k1⟩
  by_cases hl : 100 < b.length ∨ 60 < ks.length
  · by_cases hl0 : 100 < b.length
    · have : (100 : Int) < b.length := by omega
      simp -dsimp [this]
      exact hK _ _ ⟨rfl, k1⟩
    · have h1 : ¬ (100 : Int) < b.length := by omega
      have h2 : (60 : Int) < ks.length := by omega
      simp -dsimp [h1, h2]
      exact hK _ _ ⟨rfl, k1⟩
  · have hlb : ¬ (100 : Int) < b.length := by omega
    have hlk : ¬ (60 : Int) < ks.length := by omega
    simp -dsimp [hlb, hlk]
    refine call_by (within_spec limit 300 (by decide) (by decide) h1) ?_
    rintro _ h1' ⟨rfl, hh⟩
    obtain rfl := hh.symm
    obtain ⟨hk0, hk1⟩ := withinM_bound (a := limit) (n := 300) (by decide)
    generalize withinM limit 300 = kl at hk0 hk1 ⊢
    simp -dsimp
    refine call_by (new_spec kl h1) ?_
    rintro v h2 ⟨F2, s2, k2, n2⟩
    simp -dsimp
    refine call_by (rnew_spec kl h2) ?_
    rintro w h3 ⟨Gx, x3, k3, n3⟩
    have bo3 := both_mk (k1.trans k2 (fun _ _ h => h)).size s2 x3 (fun b hb => Nat.le_trans k1.size (n2 b hb)) k3 n3
    have k03 := (k1.trans k2 (fun _ _ h => h)).trans k3 (fun _ _ h => h)
    obtain ⟨bs, xs, hv, hw⟩ := bo3.ptr
    subst hv; subst hw
    simp -dsimp
    refine loop' (σ := Nat × Mod) (fun t => [(1, .slice a0 ns.length c0), (2, .slice a1 b.length c1), (3, .slice a2 ks.length c2), (4, .slice a3 ms.length c3), (12, .pointer (some ⟨bs, 0, none⟩)), (13, .pointer (some ⟨xs, 0, none⟩)), (14, .int .i64 t.1)]) (fun _ => [])
      (fun t h4 => t.1 ≤ 40 ∧ t.2.Small (101 * t.1) ∧ t.2.limit = kl ∧ SuOk t.2 100 ∧ Keep none_ h h4 ∧ Both h (.pointer (some ⟨bs, 0, none⟩)) (.pointer (some ⟨xs, 0, none⟩)) h4 t.2)
      (fun t => 40 - t.1) (0, Mod.new kl) ?_ rfl ⟨by omega, ⟨Nat.le_refl _, Nat.le_refl _, Nat.le_refl _⟩, rfl, (fun p hp => by cases hp), k03, bo3⟩ (by kernel_rfl) ?_
    · intro p hp
      simp at hp
      rcases hp with rfl | rfl | rfl | rfl | rfl | rfl | rfl <;> simp
    · rintro ⟨i, M⟩ h4 g ⟨hi60, hsm, hlim, hsu, k4, bo⟩
      simp only at hi60 hsm hlim bo hsu
      have e4 := k4.size
      by_cases hic : i < ns.length ∧ i < 40
      · obtain ⟨hi, hi2⟩ := hic
        have e2 : decide ((i : Int) < 40) = true := by simp; omega
        have hs4 := hn.mono (F' := G0) (h' := h4) fun b hb => ⟨hb, k4.blk b (hG0 b hb) (fun h => h)⟩
        have hb4 := hb.mono (F' := G1) (h' := h4) fun b hb => ⟨hb, k4.blk b (hG1 b hb) (fun h => h)⟩
        obtain ⟨bk, off, v, rfl, hGb, hrv, hcell⟩ := hs4.get1 rfl i hi
        have hv : v = .int .i64 ns[i] := by simpa [rInt] using hrv
        subst hv
        have hidx : ∀ (K : Value → Heap → Prop) (h : Heap), indexAddrS Try.prog 22 (.slice (some ⟨bk, off, none⟩) ns.length c0) (.int .i64 (i : Int)) h K = K (.pointer (some ⟨bk, off + i, none⟩)) h := by
          intro K h
          rw [indexAddrS_slice _ _ _ _ _ _ (by omega) (by omega) rfl]
          simp [elSz]
        have wi : IntKind.i64.wrap ((i : Int) + 1) = ((i + 1 : Nat) : Int) := by rw [wrap_i64 (by omega) (by omega)]; rfl
        simp -dsimp [hi, e2, hidx, hcell]
        refine call_by (step_spec bo hsm (by omega) (by omega) (by omega) ns[i] hb4 hG1 (by omega)) ?_
        rintro _ h5 ⟨rfl, bo5, k5⟩
        have hsm5 := (small_step bo.ok.sorted hsm ns[i] b).up (show _ ≤ 101 * (i + 1) by omega)
        have hlim5 := (limit_step M ns[i] b).trans hlim
        have hsu5 := suOk_step hsu ns[i] (b := b) (by omega)
        have e5 := k5.size
        simp -dsimp [wi]
        refine ⟨(i + 1, stepM M ns[i] b), ?_, rfl, ⟨by show i + 1 ≤ 40; omega, hsm5, hlim5, hsu5, ⟨by omega, fun c hc _ => by rw [k5.blk c (by omega) (by omega), k4.blk c hc (fun h => h)]⟩, bo5⟩, by show 40 - (i + 1) < 40 - i; omega⟩
        intro p hp
        simp at hp
        rcases hp with rfl | rfl | rfl | rfl | rfl | rfl | rfl <;> simp
      · by_cases hi : i < ns.length
        case' pos =>
          have e2 : ¬ ((i : Int) < 40) := by omega
          simp -dsimp [hi, e2]
        case' neg => simp -dsimp [hi]
        all_goals
          obtain ⟨e0, F, G, s4, x4, hF, hG⟩ := bo
          have lF := s4.lt
          have lG := x4.lt
          have hsu' : ∀ p ∈ M.files, ∀ b, p.2.sure = some b → b.length < 1000000000 := fun p hp b hb => by have := (hsu p hp).2 b hb; omega
          have hk4 := hk.mono (F' := G2) (h' := h4) fun b hb => ⟨hb, k4.blk b (hG2 b hb) (fun h => h)⟩
          refine call_by (crash_spec s4 hsm (by omega) hsu' hk4 (fun b hb => by have := hG2 b hb; omega)) ?_
          rintro r h5 ⟨F5, t5, k5, n5⟩
          have k05 := k4.trans k5 (fun _ _ h => h)
          have e5 := k5.size
          have x5 := x4.keep k5 (fun _ _ h => h)
          have hk5 := hk.mono (F' := G2) (h' := h5) fun b hb => ⟨hb, k05.blk b (hG2 b hb) (fun h => h)⟩
          simp -dsimp
          refine call_by (rcrash_spec x5 hsm (by omega) hsu' hk5 (fun b hb => by have := hG2 b hb; omega) (by omega)) ?_
          rintro y h6 ⟨G6, y6, k6, n6⟩
          have bo6 := both_mk (h0 := h4) e5 t5 y6 n5 k6 n6
          obtain ⟨tb, yb, hr, hy⟩ := bo6.ptr
          subst hr; subst hy
          have hsmc : (M.crash ks).Small (100 * (101 * i)) := small_crash hsu hsm (by decide) ks
          have hsuc := hsu.crash ks
          have hlimc : (M.crash ks).limit = kl := hlim
          have k46 := k5.trans k6 (fun _ _ h => h)
          simp -dsimp
          refine call_by (same_spec bo6 hsmc (by omega)) ?_
          rintro _ h7 ⟨rfl, k7⟩
          have k47 := k46.trans k7 (fun _ _ h => h)
          have e47 := k47.size
          have e67 := k7.size
          have bo7 := bo6.keep k7 (fun _ _ _ h => h)
          have bx7 : Both h (.pointer (some ⟨bs, 0, none⟩)) (.pointer (some ⟨xs, 0, none⟩)) h7 M := ⟨by omega, F, G, s4.keep k47 (fun _ _ h => h), x4.keep k47 (fun _ _ h => h), hF, hG⟩
          simp -dsimp
          refine call_by (same_spec bx7 hsm (by omega)) ?_
          rintro _ h8 ⟨rfl, k8⟩
          have k48 := k47.trans k8 (fun _ _ h => h)
          have bo8 := bo7.keep k8 (fun _ _ _ h => h)
          have k08 := k4.trans k48 (fun _ _ h => h)
          have e48 := k48.size
          simp -dsimp
          generalize M.crash ks = C at bo8 hsmc hsuc hlimc
          refine loop' (σ := Nat × Mod) (fun t => [(2, .slice a1 b.length c1), (4, .slice a3 ms.length c3), (12, .pointer (some ⟨bs, 0, none⟩)), (13, .pointer (some ⟨xs, 0, none⟩)), (15, .pointer (some ⟨tb, 0, none⟩)), (16, .pointer (some ⟨yb, 0, none⟩)), (17, .int .i64 t.1)]) (fun _ => [])
            (fun t h9 => t.1 ≤ 20 ∧ t.2.Small (404000 + 101 * t.1) ∧ t.2.limit = kl ∧ SuOk t.2 100 ∧ Keep (fun c => h4.size ≤ c) h8 h9 ∧ Both h4 (.pointer (some ⟨tb, 0, none⟩)) (.pointer (some ⟨yb, 0, none⟩)) h9 t.2)
            (fun t => 20 - t.1) (0, C) ?_ rfl ⟨by omega, hsmc.up (by omega), hlimc, hsuc, .refl _ _, bo8⟩ (by kernel_rfl) ?_
          · intro p hp
            simp at hp
            rcases hp with rfl | rfl | rfl | rfl | rfl | rfl | rfl <;> simp
          · rintro ⟨j, N⟩ h9 g ⟨hj20, hsm9, hlim9, hsu9, k9, bo9⟩
            simp only at hj20 hsm9 hlim9 bo9 hsu9
            have e9 := k9.size
            have k09 : Keep none_ h h9 := ⟨by omega, fun c hc _ => by rw [k9.blk c (by omega) (by omega), k08.blk c hc (fun h => h)]⟩
            by_cases hjc : j < ms.length ∧ j < 20
            · obtain ⟨hj, hj2⟩ := hjc
              have e2 : decide ((j : Int) < 20) = true := by simp; omega
              have hs9 := hmr.mono (F' := G3) (h' := h9) fun b hb => ⟨hb, k09.blk b (hG3 b hb) (fun h => h)⟩
              have hb9 := hb.mono (F' := G1) (h' := h9) fun b hb => ⟨hb, k09.blk b (hG1 b hb) (fun h => h)⟩
              obtain ⟨bk, off, v, rfl, hGb, hrv, hcell⟩ := hs9.get1 rfl j hj
              have hv : v = .int .i64 ms[j] := by simpa [rInt] using hrv
              subst hv
              have hidx : ∀ (K : Value → Heap → Prop) (h : Heap), indexAddrS Try.prog 22 (.slice (some ⟨bk, off, none⟩) ms.length c3) (.int .i64 (j : Int)) h K = K (.pointer (some ⟨bk, off + j, none⟩)) h := by
                intro K h
                rw [indexAddrS_slice _ _ _ _ _ _ (by omega) (by omega) rfl]
                simp [elSz]
              have wj : IntKind.i64.wrap ((j : Int) + 1) = ((j + 1 : Nat) : Int) := by rw [wrap_i64 (by omega) (by omega)]; rfl
              simp -dsimp [hj, e2, hidx, hcell]
              refine call_by (step_spec bo9 hsm9 (by omega) (by omega) (by omega) ms[j] hb9 (fun b hb => by have := hG1 b hb; omega) (by omega)) ?_
              rintro _ h10 ⟨rfl, bo10, k10⟩
              have hsm10 := (small_step bo9.ok.sorted hsm9 ms[j] b).up (show _ ≤ 404000 + 101 * (j + 1) by omega)
              have hlim10 := (limit_step N ms[j] b).trans hlim9
              have hsu10 := suOk_step hsu9 ms[j] (b := b) (by omega)
              simp -dsimp
              refine call_by (same_spec bo10 hsm10 (by omega)) ?_
              rintro _ h11 ⟨rfl, k11⟩
              have e10 := k10.size
              have e11 := k11.size
              simp -dsimp [wj]
              refine ⟨(j + 1, stepM N ms[j] b), ?_, rfl, ⟨by show j + 1 ≤ 20; omega, hsm10, hlim10, hsu10, ⟨by omega, fun c hc hn => by rw [k11.blk c (by omega) (fun h => h), k10.blk c (by omega) hn, k9.blk c hc hn]⟩, bo10.keep k11 (fun _ _ _ h => h)⟩, by show 20 - (j + 1) < 20 - j; omega⟩
              intro p hp
              simp at hp
              rcases hp with rfl | rfl | rfl | rfl | rfl | rfl | rfl <;> simp
            · by_cases hj : j < ms.length
              case' pos =>
                have e2 : ¬ ((j : Int) < 20) := by omega
                simp -dsimp [hj, e2]
              case' neg => simp -dsimp [hj]
              all_goals
                obtain ⟨f0, F9, G9, t9, y9, hF9, hG9⟩ := bo9
                have hsu9' : ∀ p ∈ N.files, ∀ b, p.2.sure = some b → b.length < 1000000000 := fun p hp b hb => by have := (hsu9 p hp).2 b hb; omega
                refine call_by (crash_spec t9 hsm9 (by omega) hsu9' (SlRep.nil rInt none_ h9) (fun b hb => hb.elim)) ?_
                rintro r h10 ⟨F10, u10, k10, n10⟩
                obtain ⟨ub, hr⟩ : ∃ ub, r = .pointer (some ⟨ub, 0, none⟩) := by
                  obtain ⟨ub, _, _, _, _, _, _, rfl, _⟩ := u10; exact ⟨ub, rfl⟩
                subst hr
                have y10 := y9.keep k10 (fun _ _ h => h)
                simp -dsimp
                refine call_by (rcrash_spec y10 hsm9 (by omega) hsu9' (SlRep.nil rInt none_ h10) (fun b hb => hb.elim) (by decide)) ?_
                rintro z h11 ⟨G11, z11, k11, n11⟩
                have bo11 := both_mk (h0 := h9) k10.size u10 z11 n10 k11 n11
                have hsmz : (N.crash []).Small (100 * (404000 + 101 * j)) := small_crash hsu9 hsm9 (by decide) []
                simp -dsimp
                refine call_by (same_spec bo11 hsmz (by omega)) ?_
                rintro _ h12 ⟨rfl, k12⟩
                have k912 := (k10.trans k11 (fun _ _ h => h)).trans k12 (fun _ _ h => h)
                have e912 := k912.size
                have bx12 : Both h (.pointer (some ⟨bs, 0, none⟩)) (.pointer (some ⟨xs, 0, none⟩)) h12 M :=
                  ⟨by omega, F, G, s4.mono (by omega) fun c hc => by have := lF c hc; rw [k912.blk c (by omega) (fun h => h), k9.blk c (by omega) (by omega), k48.blk c (by omega) (fun h => h)],
                    x4.mono (by omega) fun c hc => by have := lG c hc; rw [k912.blk c (by omega) (fun h => h), k9.blk c (by omega) (by omega), k48.blk c (by omega) (fun h => h)], hF, hG⟩
                simp -dsimp
                refine call_by (same_spec bx12 hsm (by omega)) ?_
                rintro _ h13 ⟨rfl, k13⟩
                simp -dsimp
                exact hK _ _ ⟨rfl, (k09.trans k912 (fun _ _ h => h)).trans k13 (fun _ _ h => h)⟩
end Go.Proofs
