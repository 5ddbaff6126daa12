/-
  StoreSure: the law's walk.
-/
import Derived.Test.YtcopaleccjpdjaaN5
namespace Go.Proofs
open Go Go.HC

set_option maxHeartbeats 40000000 in
set_option maxRecDepth 10000 in
theorem storeSure_spec {G0 G1 G2 : Nat → Prop} {h : Heap} {nv bv kv : Value} {ns : List Int} {b : List UInt8} {ks : List Int} (hn : SlRep rInt G0 h nv ns) (hG0 : ∀ b, G0 b → b < h.size) (hb : SlRep rByte G1 h bv b) (hG1 : ∀ b, G1 b → b < h.size)
    (hk : SlRep rInt G2 h kv ks) (hG2 : ∀ b, G2 b → b < h.size) :
    CallH Try.prog 10 #[nv, bv, kv] h fun r h' => r = .bool true ∧ Keep none_ h h' := by
  refine callH_by fun K hK => ?_
  refine enter [.tmp 6] Try.func10 rfl rfl (by kernel_rfl) rfl ?_
  obtain ⟨a0, c0, rfl, hc0, hc0'⟩ := hn.val
  obtain ⟨a1, c1, rfl, hc1, hc1'⟩ := hb.val
  obtain ⟨a2, c2, rfl, hc2, hc2'⟩ := hk.val
  simp -dsimp
  refine call_by (known_spec h) ?_
  rintro _ h1 ⟨rfl, k1⟩
  by_cases hl : 60 < b.length ∨ 60 < ks.length
  · by_cases hl0 : 60 < b.length
    · have : (60 : Int) < b.length := by omega
      simp -dsimp [this]
      exact hK _ _ ⟨rfl, k1⟩
    · have h2 : (60 : Int) < ks.length := by omega
      have h1 : ¬ (60 : Int) < b.length := by omega
      simp -dsimp [h1, h2]
      exact hK _ _ ⟨rfl, k1⟩
  · have hlb : ¬ (60 : Int) < b.length := by omega
    have hlk : ¬ (60 : Int) < ks.length := by omega
    simp -dsimp [hlb, hlk]
    refine call_by (new_spec 1000 h1) ?_
    rintro r h2 ⟨F2, s2, k2, n2⟩
    obtain ⟨bs, hr⟩ : ∃ bs, r = .pointer (some ⟨bs, 0, none⟩) := by
      obtain ⟨bs, _, _, _, _, _, _, rfl, _⟩ := s2; exact ⟨bs, rfl⟩
    subst hr
    have k12 := k1.trans k2 (fun _ _ h => h)
    simp -dsimp
    refine loop' (σ := Nat × Mod × Value) (fun t => [(0, .slice a0 ns.length c0), (1, .slice a1 b.length c1), (2, .slice a2 ks.length c2), (7, .pointer (some ⟨bs, 0, none⟩)), (8, t.2.2), (9, .int .i64 t.1)]) (fun _ => [])
      (fun t h3 => SureAt t.2.1 t.1 ∧ t.1 ≤ 12 ∧ Keep none_ h h3 ∧ ∃ own, Grow rStr 9 none_ h3 t.2.2 (sureN t.2.1.files) own ∧ (∀ b, own = some b → h.size ≤ b) ∧
        ∃ F, StAt (.pointer (some ⟨bs, 0, none⟩)) F h3 t.2.1 ∧ (∀ b, F b → h.size ≤ b) ∧ ∀ b, own = some b → ¬ F b)
      (fun t => 12 - t.1) (0, Mod.new 1000, .slice none 0 0) ?_ rfl
      ⟨⟨rfl, rfl, Nat.le_refl _, Nat.le_refl _, (fun p hp => by cases hp), (fun p hp => by cases hp), (fun p hp => by cases hp)⟩, by omega, k12, none, .nil _ _ _ _, (fun b hb => by cases hb), F2, s2, (fun b hb => Nat.le_trans k1.size (n2 b hb)), fun b hb => by cases hb⟩ (by kernel_rfl) ?_
    · intro p hp
      simp at hp
      rcases hp with rfl | rfl | rfl | rfl | rfl | rfl <;> simp
    · rintro ⟨i, M, tv⟩ h3 g ⟨hsa, hi12, k3, own, hg, hown, F, s3, hF, hoF⟩
      simp only at hsa hi12 s3 hg
      have sm := hsa.small hi12
      have e3 := k3.size
      obtain ⟨ta, tc, rfl⟩ := hg.val
      by_cases hic : i < ns.length ∧ i < 12
      · obtain ⟨hi, hi2⟩ := hic
        have e2 : decide ((i : Int) < 12) = true := by simp; omega
        have hs3 := hn.mono (F' := G0) (h' := h3) fun b hb => ⟨hb, k3.blk b (hG0 b hb) (fun h => h)⟩
        obtain ⟨bk, off, v, rfl, hGb, hrv, hcell⟩ := hs3.get1 rfl i hi
        have hv : v = .int .i64 ns[i] := by simpa [rInt] using hrv
        subst hv
        have hidx : ∀ (K : Value → Heap → Prop) (h : Heap), indexAddrS Try.prog 22 (.slice (some ⟨bk, off, none⟩) ns.length c0) (.int .i64 (i : Int)) h K = K (.pointer (some ⟨bk, off + i, none⟩)) h := by
          intro K h
          rw [indexAddrS_slice _ _ _ _ _ _ (by omega) (by omega) rfl]
          simp [elSz]
        have hw8 : IntKind.i64.wrap (97 + (i : Int)) = 97 + (i : Int) := wrap_i64 (by omega) (by omega)
        have hu8 : IntKind.u8.wrap (97 + (i : Int)) = ((UInt8.ofNat (97 + i)).toNat : Int) := by
          rw [wrap_u8 (by omega) (by omega)]
          simp; omega
        simp -dsimp [hi, e2, hw8, hu8]
        generalize hH4 : h3.push _ = h4
        have k34 : Keep none_ h3 h4 := by rw [← hH4]; exact .push _ _ _
        have hb4 : SlRep rByte (fun b => b = h3.size) h4 (.slice (some ⟨h3.size, 0, none⟩) 1 1) [UInt8.ofNat (97 + i)] := by
          rw [← hH4]
          exact ⟨_, 1, [.int .u8 (UInt8.ofNat (97 + i)).toNat], rfl, Nat.le_refl _, by decide, .inr ⟨h3.size, 0, _, _, _, rfl, rfl, push_new _ _, rfl⟩, bytes_map.2 rfl⟩
        rw [conv_bytes_str Try.elS30 Try.intK5 Try.strT9 hb4]
        have hnm : strOf [UInt8.ofNat (97 + i)] = nmS i := rfl
        rw [hnm]
        have s4 := s3.keep k34 (fun _ _ h => h)
        have k4 := k3.trans k34 (fun _ _ h => h)
        have hcell4 : cellIn h4[bk]? (off + i) = some (.int .i64 ns[i]) := by rw [k34.blk bk (by have := hG0 bk hGb; omega) (fun h => h)]; exact hcell
        have hwl : IntKind.i64.wrap ((b.length : Int) + 1) = (b.length : Int) + 1 := wrap_i64 (by omega) (by omega)
        simp -dsimp [hidx, hcell4, hwl]
        refine call_by (within_spec ns[i] ((b.length : Int) + 1) (by omega) (by omega) h4) ?_
        rintro _ h4' ⟨rfl, hh⟩
        obtain rfl := hh.symm
        obtain ⟨hm0, hm1⟩ := withinM_bound (a := ns[i]) (n := (b.length : Int) + 1) (by omega)
        obtain ⟨m, hm⟩ : ∃ m : Nat, withinM ns[i] ((b.length : Int) + 1) = m := ⟨(withinM ns[i] ((b.length : Int) + 1)).toNat, by omega⟩
        rw [hm] at hm0 hm1 ⊢
        simp -dsimp
        rw [sliceS_slice (i := 0) (j := m) (m := c1) Try.elS30 Try.szS5 (.inl ⟨rfl, rfl⟩) (.inr ⟨_, rfl⟩) (.inl ⟨rfl, rfl⟩) (by omega) (by omega) (by omega)]
        have hb4' := hb.mono (F' := G1) (h' := h4) fun b hb => ⟨hb, k4.blk b (hG1 b hb) (fun h => h)⟩
        have hpc0 := hb4'.cut (i := 0) (j := m) (m := c1) (by omega) (by omega) (by omega) (by omega)
        rw [List.drop_zero] at hpc0
        have hpc : SlRep rByte G1 h4 (.slice (piece a1 0 c1 1) m c1) (b.take m) := hpc0
        have htl : (b.take m).length ≤ 60 := by simp; omega
        simp -dsimp
        refine call_by (write_spec s4 sm (by omega) (nmS i) hpc (fun b hb => by have := hG1 b hb; have := k4.size; omega) (by omega)) ?_
        rintro _ h5 ⟨rfl, F5, s5, k5, hF5⟩
        obtain ⟨hw, hsa5⟩ := hsa.write hi2 htl
        rw [hw] at s5 ⊢
        replace s5 : StAt (.pointer (some ⟨bs, 0, none⟩)) F5 h5 (sureMod M i (b.take m)) := s5
        have e4 := k4.size
        have e34 := k34.size
        have e5 := k5.size
        have sm5 := hsa5.small (by omega)
        have k05 : Keep none_ h h5 := ⟨by omega, fun b hb _ => by rw [k5.blk b (by omega) (fun hf => by have := hF b hf; omega), k4.blk b hb (fun h => h)]⟩
        have hF5' : ∀ b, F5 b → h.size ≤ b := fun b hb => (hF5 b hb).elim (hF b) (fun h => by omega)
        have hoF5 : ∀ b, own = some b → ¬ F5 b := fun b hb hf => (hF5 b hf).elim (hoF b hb) (fun h => by have := hg.own_lt b hb; omega)
        have hg5 : Grow rStr 9 none_ h5 (.slice ta (sureN M.files).length tc) (sureN M.files) own := hg.mono (fun b hb => hb.elim) fun b hb => ⟨fun h => h, by
          have := hg.own_lt b hb
          rw [k5.blk b (by omega) (hoF b hb), k34.blk b (by omega) (fun h => h)]⟩
        have hcell5 : cellIn h5[bk]? (off + i) = some (.int .i64 ns[i]) := by rw [k5.blk bk (by have := hG0 bk hGb; omega) (fun hf => by have := hF bk hf; have := hG0 bk hGb; omega)]; exact hcell4
        simp -dsimp [hidx, hcell5]
        refine call_by (within_spec ns[i] 2 (by omega) (by omega) h5) ?_
        rintro _ h5' ⟨rfl, hh⟩
        obtain rfl := hh.symm
        generalize withinM ns[i] 2 = z
        have wi : IntKind.i64.wrap ((i : Int) + 1) = ((i + 1 : Nat) : Int) := by rw [wrap_i64 (by omega) (by omega)]; rfl
        by_cases hz : z = 0
        · subst hz
          simp -dsimp
          refine call_by (sync_spec s5 sm5 (by omega) (nmS i)) ?_
          rintro _ h6 ⟨rfl, F6, s6, k6, hF6⟩
          obtain ⟨hsy, hsa6⟩ := hsa.sync hi2 htl
          rw [hsy] at s6 ⊢
          replace s6 : StAt (.pointer (some ⟨bs, 0, none⟩)) F6 h6 (sureMod2 M i (b.take m)) := s6
          have e6 := k6.size
          have k06 : Keep none_ h h6 := ⟨by omega, fun b hb _ => by rw [k6.blk b (by omega) (fun hf => by have := hF5' b hf; omega), k05.blk b hb (fun h => h)]⟩
          have hF6' : ∀ b, F6 b → h.size ≤ b := fun b hb => (hF6 b hb).elim (hF5' b) (fun h => by omega)
          have hoF6 : ∀ b, own = some b → ¬ F6 b := fun b hb hf => (hF6 b hf).elim (hoF5 b hb) (fun h => by have := hg5.own_lt b hb; omega)
          have hg6 : Grow rStr 9 none_ h6 (.slice ta (sureN M.files).length tc) (sureN M.files) own := hg5.mono (fun b hb => hb.elim) fun b hb => ⟨fun h => h, k6.blk b (hg5.own_lt b hb) (hoF5 b hb)⟩
          have hsl : (sureN M.files).length ≤ 12 := by
            have := List.length_filter_le (fun p : Nm × FileM => p.2.safe) M.files
            have := hsa.len
            simp only [sureN, List.length_map]; omega
          simp -dsimp
          refine append_grow (F2 := fun b => b = h6.size) strT (hg6.push (fun _ h => h.elim) _) (fun _ h => h.elim) (ys := [nmS i]) rfl
            (.inr ⟨h6.size, 0, _, _, _, rfl, rfl, push_new _ _, rfl⟩) (.single rfl) (by simp; omega) (by simp; omega) ?_
          intro tv' h7 own' hg7 hk7 ho7
          have hps : (h6.push (.cells #[.string (nmS i)] 9)).size = h6.size + 1 := by simp
          rw [hps] at ho7
          have e7 := hk7.size
          rw [hps] at e7
          have hblk : ∀ b, b < h6.size → own ≠ some b → h7[b]? = h6[b]? := fun b hb hn => by
            rw [hk7.blk b (by omega) hn, push_old _ hb]
          have s7 : StAt (.pointer (some ⟨bs, 0, none⟩)) F6 h7 (sureMod2 M i (b.take m)) := s6.mono (by omega) fun b hb => hblk b (s6.lt b hb) (fun e => hoF6 b e hb)
          have k07 : Keep none_ h h7 := ⟨by omega, fun b hb _ => by rw [hblk b (by omega) (fun e => by have := hown b e; omega), k06.blk b hb (fun h => h)]⟩
          rw [← sureN_2] at hg7
          simp -dsimp [wi]
          refine ⟨(i + 1, sureMod2 M i (b.take m), tv'), ?_, rfl, ⟨hsa6, by omega, k07, own', hg7, fun b hb => (ho7 b hb).elim (hown b) (fun h => by omega), F6, s7, hF6', fun b hb hf => (ho7 b hb).elim (fun e => hoF6 b e hf) (fun h => by have := s6.lt b hf; omega)⟩, by simp; omega⟩
          intro p hp
          simp at hp
          rcases hp with rfl | rfl | rfl | rfl | rfl | rfl <;> simp
        · have hz' : (z == 0) = false := by simpa using hz
          simp -dsimp [hz', wi]
          rw [← sureN_1 M i (b.take m)] at hg5
          refine ⟨(i + 1, sureMod M i (b.take m), .slice ta (sureN M.files).length tc), ?_, rfl, ⟨hsa5, by omega, k05, own, by rw [sureN_1] at hg5 ⊢; exact hg5, hown, F5, s5, hF5', hoF5⟩, by simp; omega⟩
          intro p hp
          simp at hp
          rcases hp with rfl | rfl | rfl | rfl | rfl | rfl <;> simp
      · by_cases hi : i < ns.length
        case' pos =>
          have e2 : ¬ ((i : Int) < 12) := by omega
          simp -dsimp [hi, e2]
        case' neg => simp -dsimp [hi]
        all_goals
          have hk3 := hk.mono (F' := G2) (h' := h3) fun b hb => ⟨hb, k3.blk b (hG2 b hb) (fun h => h)⟩
          have hsu : ∀ p ∈ M.files, ∀ x, p.2.sure = some x → x.length ≤ p.2.now.length := by
            intro p hp x hx
            rw [hsa.sure p hp] at hx
            split at hx
            · cases hx; exact Nat.le_refl _
            · cases hx
          have hsu' : ∀ p ∈ M.files, ∀ x, p.2.sure = some x → x.length < 1000000000 := fun p hp x hx => by
            have := hsu p hp x hx
            have := hsa.now p hp
            omega
          refine call_by (crash_spec s3 sm (by omega) hsu' hk3 (fun b hb => by have := hG2 b hb; omega)) ?_
          rintro r h4 ⟨F4, s4, k4, n4⟩
          obtain ⟨ob, hr⟩ : ∃ ob, r = .pointer (some ⟨ob, 0, none⟩) := by
            obtain ⟨ob, _, _, _, _, _, _, rfl, _⟩ := s4; exact ⟨ob, rfl⟩
          subst hr
          have hok := s3.ok
          have smc : (M.crash ks).Small 1000 := ⟨Nat.le_trans (used_crash hsu) sm.used, Nat.le_trans crashF_le sm.files, Nat.zero_le _⟩
          have s3' := s3.keep k4 (fun _ _ h => h)
          have e4 := k4.size
          have hg4 : SlRep rStr (fun b => own = some b) h4 (.slice ta (sureN M.files).length tc) (sureN M.files) := hg.strs.mono fun b hb => ⟨hb, k4.blk b (hg.own_lt b hb) (fun h => h)⟩
          have hsl : (sureN M.files).length ≤ (crashF ks M.files).length := by
            have := crashF_ge (l := M.files) (ks := ks) fun p hp h => by rw [hsa.sure p hp, if_pos h]
            simp only [sureN, List.length_map]; omega
          have hsl12 : (sureN M.files).length ≤ 12 := by
            have := List.length_filter_le (fun p : Nm × FileM => p.2.safe) M.files
            have := hsa.len
            simp only [sureN, List.length_map]; omega
          simp -dsimp
          refine loop' (σ := Nat) (fun k => [(7, .pointer (some ⟨bs, 0, none⟩)), (8, .slice ta (sureN M.files).length tc), (11, .pointer (some ⟨ob, 0, none⟩)), (12, .int .i64 k)]) (fun _ => [])
            (fun k h5 => Keep none_ h4 h5)
            (fun k => (sureN M.files).length - k) 0 ?_ rfl (.refl _ _) (by kernel_rfl) ?_
          · intro p hp
            simp at hp
            rcases hp with rfl | rfl | rfl | rfl <;> simp
          · rintro k h5 g k5
            have s5 := s3'.keep k5 (fun _ _ h => h)
            have t5 := s4.keep k5 (fun _ _ h => h)
            have e5 := k5.size
            have k35 := k4.trans k5 (fun _ _ h => h)
            by_cases hkl : k < (sureN M.files).length
            · have hg5 : SlRep rStr (fun b => own = some b) h5 (.slice ta (sureN M.files).length tc) (sureN M.files) := hg4.mono fun b hb => ⟨hb, k5.blk b (by have := hg.own_lt b hb; omega) (fun h => h)⟩
              obtain ⟨nbk, noff, nv1, rfl, hnb, hrv1, hcell1⟩ := hg5.get1 rfl k hkl
              have hv1 : nv1 = .string (sureN M.files)[k] := by simpa [rStr] using hrv1
              subst hv1
              have hidk : ∀ (K : Value → Heap → Prop) (h : Heap), indexAddrS Try.prog 36 (.slice (some ⟨nbk, noff, none⟩) (sureN M.files).length tc) (.int .i64 (k : Int)) h K = K (.pointer (some ⟨nbk, noff + k, none⟩)) h := by
                intro K h
                rw [indexAddrS_slice _ _ _ _ _ _ (by omega) (by omega) rfl]
                simp [elSz]
              obtain ⟨q, hq, hqs, hqn⟩ : ∃ q ∈ M.files, q.2.safe = true ∧ (sureN M.files)[k] = q.1 := by
                have hkf : k < (M.files.filter (·.2.safe)).length := by simpa [sureN] using hkl
                have hm := List.getElem_mem hkf
                rw [List.mem_filter] at hm
                exact ⟨_, hm.1, hm.2, by simp [sureN]⟩
              have hq2 : q.2.sure = some q.2.now := by rw [hsa.sure q hq, if_pos hqs]
              have hl1 : M.look q.1 = some q.2 := lookF_mem hok.sorted hq
              have hl2 : (M.crash ks).look q.1 = some ⟨q.2.now, some q.2.now, true⟩ := lookF_mem hok.sorted.crash (crashF_safe hqs hq2 hq)
              simp -dsimp [hkl, hidk, hcell1, hqn]
              refine call_by (read_spec s5 (Nat.lt_of_le_of_lt sm.used (by omega)) q.1) ?_
              rintro _ h6 ⟨u6, own6, rfl, hg6, k6, ho6⟩
              have hn1 : M.nowOf q.1 = q.2.now := by unfold Mod.nowOf; rw [hl1]; rfl
              have hi1 : (M.look q.1).isSome = true := by rw [hl1]; rfl
              rw [hn1] at hg6
              rw [hi1]
              obtain ⟨a6, c6, rfl⟩ := hg6.val
              have hcell6 := (k6.blk nbk (by have := hg.own_lt nbk hnb; omega) (fun h => h))
              rw [← hcell6] at hcell1
              simp -dsimp [hidk, hcell1, hqn]
              refine call_by (read_spec (t5.keep k6 (fun _ _ h => h)) (Nat.lt_of_le_of_lt smc.used (by omega)) q.1) ?_
              rintro _ h7 ⟨u7, own7, rfl, hg7, k7, ho7⟩
              have hn2 : (M.crash ks).nowOf q.1 = q.2.now := by unfold Mod.nowOf; rw [hl2]; rfl
              have hi2 : ((M.crash ks).look q.1).isSome = true := by rw [hl2]; rfl
              rw [hn2] at hg7
              rw [hi2]
              obtain ⟨a7, c7, rfl⟩ := hg7.val
              have hx7 : SlRep rByte (fun b => own6 = some b) h7 (.slice a6 q.2.now.length c6) q.2.now := hg6.bytes.mono fun b hb => ⟨hb, k7.blk b (hg6.own_lt b hb) (fun h => h)⟩
              simp -dsimp
              rw [conv_bytes_str Try.elS30 Try.intK5 Try.strT9 hx7]
              simp -dsimp
              rw [conv_bytes_str Try.elS30 Try.intK5 Try.strT9 hg7.bytes]
              have wk : IntKind.i64.wrap ((k : Int) + 1) = ((k + 1 : Nat) : Int) := by rw [wrap_i64 (by omega) (by omega)]; rfl
              simp -dsimp [wk]
              refine ⟨k + 1, ?_, rfl, (k5.trans k6 (fun _ _ h => h)).trans k7 (fun _ _ h => h), by show (sureN M.files).length - (k + 1) < (sureN M.files).length - k; omega⟩
              intro p hp
              simp at hp
              rcases hp with rfl | rfl | rfl | rfl <;> simp
            · simp -dsimp [hkl]
              refine call_by (names_spec t5 smc (by omega)) ?_
              rintro r h6 ⟨own6, hg6, k6, ho6⟩
              obtain ⟨a6, c6, rfl⟩ := hg6.val
              have hcl : (M.crash ks).names.length = (crashF ks M.files).length := by simp [Mod.names, Mod.crash]
              have hml : M.names.length = M.files.length := by simp [Mod.names]
              have hcle := crashF_le (l := M.files) (ks := ks)
              have ge1 : (((sureN M.files).length : Int) ≤ ((crashF ks M.files).length : Int)) := by omega
              have ge2 : (((crashF ks M.files).length : Int) ≤ (M.files.length : Int)) := by omega
              simp -dsimp [hcl, ge1]
              refine call_by (names_spec (t5.keep k6 (fun _ _ h => h)) smc (by omega)) ?_
              rintro r h7 ⟨own7, hg7, k7, ho7⟩
              obtain ⟨a7, c7, rfl⟩ := hg7.val
              simp -dsimp [hcl]
              refine call_by (names_spec (s5.keep (k6.trans k7 (fun _ _ h => h)) (fun _ _ h => h)) sm (by omega)) ?_
              rintro r h8 ⟨own8, hg8, k8, ho8⟩
              obtain ⟨a8, c8, rfl⟩ := hg8.val
              simp -dsimp [hml, ge2]
              refine call_by (trace_spec (t5.keep ((k6.trans k7 (fun _ _ h => h)).trans k8 (fun _ _ h => h)) (fun _ _ h => h)) smc (by omega)) ?_
              rintro r h9 ⟨own9, hg9, k9, ho9⟩
              obtain ⟨a9, c9, rfl⟩ := hg9.val
              have htl : (M.crash ks).trace.length = 0 := rfl
              simp -dsimp [htl]
              exact hK _ _ ⟨rfl, ((((k3.trans k35 (fun _ _ h => h)).trans k6 (fun _ _ h => h)).trans k7 (fun _ _ h => h)).trans k8 (fun _ _ h => h)).trans k9 (fun _ _ h => h)⟩
end Go.Proofs
