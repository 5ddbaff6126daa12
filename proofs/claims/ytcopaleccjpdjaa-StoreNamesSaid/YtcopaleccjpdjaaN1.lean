/-
  StoreNames: the law's walk.
-/
import Derived.Test.YtcopaleccjpdjaaS12
import Derived.Test.YtcopaleccjpdjaaL2
namespace Go.Proofs
open Go Go.HC

theorem nm1_ok (c : UInt8) : nameOk (strOf [c]) = true := rfl
/-- What the law's loop holds. -/
structure NamesAt (M : Mod) (i : Nat) : Prop where
  lim : M.limit = 1000
  small : M.Small i
  ones : ∀ p ∈ M.files, p.2.now.length = 1
theorem used_ones : ∀ {l : Files}, (∀ p ∈ l, p.2.now.length = 1) → usedF l = l.length
  | [], _ => rfl
  | p :: l, h => by
    rw [usedF_cons, h p (List.mem_cons_self ..), used_ones fun q hq => h q (List.mem_cons_of_mem _ hq), List.length_cons]; omega
theorem NamesAt.write {M : Mod} {i : Nat} (hn : NamesAt M i) (hs : SortedF M.files) (hi : i ≤ 30) (c b : UInt8) : (M.write (strOf [c]) [b]).1 = 0 ∧ NamesAt (M.write (strOf [c]) [b]).2 (i + 1) := by
  have hf : M.fits (strOf [c]) [b] = true := by
    unfold Mod.fits
    have := hn.small.used
    rw [hn.lim]
    simp; omega
  have hw : M.write (strOf [c]) [b] = (0, M.wrote (strOf [c]) [b]) := by unfold Mod.write; rw [nm1_ok, hf]; rfl
  rw [hw]
  refine ⟨rfl, hn.lim, ?_, ?_⟩
  · have h1 := used_put (x := strOf [c]) (f := ⟨[b], (M.look (strOf [c])).bind (·.sure), false⟩) hs
    have h2 := length_put (x := strOf [c]) (f := ⟨[b], (M.look (strOf [c])).bind (·.sure), false⟩) (l := M.files)
    have := hn.small.used
    have := hn.small.files
    have := hn.small.trace
    refine ⟨?_, ?_, ?_⟩
    · show usedF (putF _ _ _) ≤ _
      simp only [List.length_singleton] at h1
      omega
    · show (putF _ _ _).length ≤ _
      omega
    · show (M.trace ++ [_]).length ≤ _
      simp; omega
  · intro p hp
    rcases mem_putF hp with rfl | hp
    · rfl
    · exact hn.ones p hp
theorem NamesAt.remove {M : Mod} {i : Nat} (hn : NamesAt M i) (x : Nm) : NamesAt (M.remove x).2 (i + 1) := by
  unfold Mod.remove
  have := hn.small.used
  have := hn.small.files
  have := hn.small.trace
  split
  · exact ⟨hn.lim, ⟨by show usedF M.files ≤ _; omega, by show M.files.length ≤ _; omega, by show M.trace.length ≤ _; omega⟩, hn.ones⟩
  · have h1 := used_del (x := x) (l := M.files)
    have h2 := (delF_sub x M.files).length_le
    exact ⟨hn.lim, ⟨by show usedF (delF _ _) ≤ _; omega, by show (delF _ _).length ≤ _; omega, by show (M.trace ++ [_]).length ≤ _; simp; omega⟩, fun p hp => hn.ones p ((delF_sub x M.files).subset hp)⟩
theorem look_remove {M : Mod} (hs : SortedF M.files) (x : Nm) : ((M.remove x).2.look x).isSome = false := by
  unfold Mod.remove
  split
  · rename_i h; rw [h]; rfl
  · unfold Mod.look
    simp [lookF_del hs]

set_option maxHeartbeats 40000000 in
set_option maxRecDepth 10000 in
theorem storeNames_spec {G : Nat → Prop} {h : Heap} {sv : Value} {ns : List Int} (hs : SlRep rInt G h sv ns) (hG : ∀ b, G b → b < h.size) (n : Int) :
    CallH Try.prog 4 #[sv, .int .i64 n] h fun r h' => r = .bool true ∧ Keep none_ h h' := by
  refine callH_by fun K hK => ?_
  refine enter [.tmp 4] Try.func4 rfl rfl (by kernel_rfl) rfl ?_
  obtain ⟨a0, c0, rfl, hc0, hc0'⟩ := hs.val
  simp -dsimp
  refine call_by (known_spec h) ?_
  rintro _ h1 ⟨rfl, k1⟩
  simp -dsimp
  refine call_by (new_spec 1000 h1) ?_
  rintro r h2 ⟨F2, s2, k2, n2⟩
  obtain ⟨bs, hr⟩ : ∃ bs, r = .pointer (some ⟨bs, 0, none⟩) := by
    obtain ⟨bs, _, _, _, _, _, _, rfl, _⟩ := s2; exact ⟨bs, rfl⟩
  subst hr
  have k12 := k1.trans k2 (fun _ _ h => h)
  simp -dsimp
  refine loop' (σ := Nat × Mod) (fun t => [(0, .slice a0 ns.length c0), (1, .int .i64 n), (5, .pointer (some ⟨bs, 0, none⟩)), (6, .int .i64 t.1)]) (fun _ => [])
    (fun t h3 => NamesAt t.2 t.1 ∧ t.1 ≤ 30 ∧ Keep none_ h h3 ∧ ∃ F, StAt (.pointer (some ⟨bs, 0, none⟩)) F h3 t.2 ∧ (∀ b, F b → h.size ≤ b))
    (fun t => 30 - t.1) (0, Mod.new 1000) ?_ rfl ⟨⟨rfl, ⟨Nat.le_refl _, Nat.le_refl _, Nat.le_refl _⟩, fun p hp => by cases hp⟩, by omega, k12, F2, s2, fun b hb => Nat.le_trans k1.size (n2 b hb)⟩ (by kernel_rfl) ?_
  · intro p hp
    simp at hp
    rcases hp with rfl | rfl | rfl | rfl <;> simp
  · rintro ⟨i, M⟩ h3 g ⟨hna, hi30, k3, F, s3, hF⟩
    simp only at hna hi30 s3
    by_cases hic : i < ns.length ∧ i < 30
    · obtain ⟨hi, hi2⟩ := hic
      have e2 : decide ((i : Int) < 30) = true := by simp; omega
      have hs3 := hs.mono (F' := G) (h' := h3) fun b hb => ⟨hb, k3.blk b (hG b hb) (fun h => h)⟩
      obtain ⟨bk, off, v, rfl, hGb, hrv, hcell⟩ := hs3.get1 rfl i hi
      have hv : v = .int .i64 ns[i] := by simpa [rInt] using hrv
      subst hv
      have hidx : ∀ (K : Value → Heap → Prop) (h : Heap), indexAddrS Try.prog 22 (.slice (some ⟨bk, off, none⟩) ns.length c0) (.int .i64 (i : Int)) h K = K (.pointer (some ⟨bk, off + i, none⟩)) h := by
        intro K h
        rw [indexAddrS_slice _ _ _ _ _ _ (by omega) (by omega) rfl]
        simp [elSz]
      simp -dsimp [hi, e2, hidx, hcell]
      refine call_by (within_spec ns[i] 12 (by decide) (by decide) h3) ?_
      rintro _ h3' ⟨rfl, hh⟩
      obtain rfl := hh.symm
      obtain ⟨hf0, hf12⟩ := withinM_bound (a := ns[i]) (n := 12) (by decide)
      generalize withinM ns[i] 12 = f at hf0 hf12
      have hw8 : IntKind.i64.wrap (97 + f) = 97 + f := wrap_i64 (by omega) (by omega)
      obtain ⟨ch, hu8⟩ : ∃ ch : UInt8, IntKind.u8.wrap (97 + f) = (ch.toNat : Int) := by
        refine ⟨UInt8.ofNat (97 + f).toNat, ?_⟩
        rw [wrap_u8 (by omega) (by omega)]
        simp; omega
      simp -dsimp [hw8, hu8]
      generalize hH4 : h3.push _ = h4
      have k34 : Keep none_ h3 h4 := by rw [← hH4]; exact .push _ _ _
      have hb4 : SlRep rByte (fun b => b = h3.size) h4 (.slice (some ⟨h3.size, 0, none⟩) 1 1) [ch] := by
        rw [← hH4]
        exact ⟨_, 1, [.int .u8 ch.toNat], rfl, Nat.le_refl _, by decide, .inr ⟨h3.size, 0, _, _, _, rfl, rfl, push_new _ _, rfl⟩, bytes_map.2 rfl⟩
      rw [conv_bytes_str Try.elS30 Try.intK5 Try.strT9 hb4]
      have s4 := s3.keep k34 (fun _ _ h => h)
      have k4 := k3.trans k34 (fun _ _ h => h)
      have hcell4 : cellIn h4[bk]? (off + i) = some (.int .i64 ns[i]) := by rw [k34.blk bk (by have := hG bk hGb; have := k3.size; omega) (fun h => h)]; exact hcell
      simp -dsimp [hidx, hcell4]
      generalize IntKind.i64.wrap ((ns[i]).tdiv 12) = q
      refine call_by (within_spec q 3 (by decide) (by decide) h4) ?_
      rintro _ h4' ⟨rfl, hh⟩
      obtain rfl := hh.symm
      generalize withinM q 3 = z
      have hok := s3.ok
      by_cases hz : z = 0
      case' pos =>
        subst hz
        simp -dsimp
        refine call_by (remove_spec s4 hna.small (by omega) (strOf [ch])) ?_
        rintro _ h5 ⟨rfl, F5, s5, k5, hF5⟩
        have hna5 := hna.remove (strOf [ch])
        have hlk := look_remove hok.sorted (strOf [ch])
        generalize (M.remove (strOf [ch])).2 = M5 at s5 hna5 hlk
        simp -dsimp
        refine call_by (read_spec s5 (Nat.lt_of_le_of_lt hna5.small.used (by omega)) (strOf [ch])) ?_
        rintro _ h6 ⟨u6, own6, rfl, hg6, k6, ho6⟩
        obtain ⟨a6, c6, rfl⟩ := hg6.val
        rw [hlk]
        have s6 := s5.keep k6 (fun _ _ h => h)
        simp -dsimp
        have k06 : Keep none_ h h6 := by
          have e3 := k3.size
          have e4 := k34.size
          have e5 := k5.size
          have e6 := k6.size
          refine ⟨by omega, fun b hb _ => ?_⟩
          rw [k6.blk b (by omega) (fun h => h), k5.blk b (by omega) (fun hf => by have := hF b hf; omega), k4.blk b hb (fun h => h)]
        have hF6 : ∀ b, F5 b → h.size ≤ b := fun b hb => (hF5 b hb).elim (hF b) (fun h => by have := k4.size; omega)
      case' neg =>
        have hz' : (z == 0) = false := by simpa using hz
        simp -dsimp [hz']
        generalize hH5 : h4.push _ = h5
        have k45 : Keep none_ h4 h5 := by rw [← hH5]; exact .push _ _ _
        have hs5 : h5.size = h4.size + 1 := by rw [← hH5]; simp
        have hb5 : SlRep rByte (fun b => b = h4.size) h5 (.slice (some ⟨h4.size, 0, none⟩) 1 1) [1] := by
          rw [← hH5]
          exact ⟨_, 1, [.int .u8 1], rfl, Nat.le_refl _, by decide, .inr ⟨h4.size, 0, _, _, _, rfl, rfl, push_new _ _, rfl⟩, bytes_map.2 rfl⟩
        have s5' := s4.keep k45 (fun _ _ h => h)
        refine call_by (write_spec s5' hna.small (by omega) (strOf [ch]) hb5 (fun b hb => by omega) (by decide)) ?_
        rintro _ h6 ⟨rfl, F5, s6, k6, hF5⟩
        obtain ⟨hw0, hna5⟩ := hna.write hok.sorted hi30 ch 1
        rw [hw0]
        generalize (M.write (strOf [ch]) [1]).2 = M5 at s6 hna5
        simp -dsimp
        have k06 : Keep none_ h h6 := by
          have e3 := k3.size
          have e4 := k34.size
          have e5 := k45.size
          have e6 := k6.size
          refine ⟨by omega, fun b hb _ => ?_⟩
          rw [k6.blk b (by omega) (fun hf => by have := hF b hf; omega), k45.blk b (by omega) (fun h => h), k4.blk b hb (fun h => h)]
        have hF6 : ∀ b, F5 b → h.size ≤ b := fun b hb => (hF5 b hb).elim (hF b) (fun h => by have := k4.size; omega)
      all_goals
        refine call_by (names_spec s6 hna5.small (by omega)) ?_
        rintro r h7 ⟨own7, hg7, k7, ho7⟩
        obtain ⟨a7, c7, rfl⟩ := hg7.val
        have hnl : M5.names.length = M5.files.length := by simp [Mod.names]
        have hfl := hna5.small.files
        have s7 := s6.keep k7 (fun _ _ h => h)
        have k07 := k06.trans k7 (fun _ _ h => h)
        simp -dsimp
        refine loop' (σ := Nat) (fun k => [(0, .slice (some ⟨bk, off, none⟩) ns.length c0), (1, .int .i64 n), (5, .pointer (some ⟨bs, 0, none⟩)), (6, .int .i64 i), (10, .slice a7 M5.names.length c7), (11, .int .i64 k)]) (fun _ => [])
          (fun k h8 => h8 = h7 ∧ 1 ≤ k)
          (fun k => M5.names.length - k) 1 ?_ rfl ⟨rfl, Nat.le_refl _⟩ (by kernel_rfl) ?_
        · intro p hp
          simp at hp
          rcases hp with rfl | rfl | rfl | rfl | rfl | rfl <;> simp
        · rintro k h8 g ⟨rfl, hk1⟩
          by_cases hk : k < M5.names.length
          · have hg8 : SlRep rStr (fun b => own7 = some b) h8 (.slice a7 M5.names.length c7) M5.names := hg7.strs
            obtain ⟨nbk, noff, nv1, rfl, _, hrv1, hcell1⟩ := hg8.get1 rfl (k - 1) (by omega)
            obtain ⟨nbk', noff', nv2, he, _, hrv2, hcell2⟩ := hg8.get1 rfl k hk
            simp only [Option.some.injEq, Addr.mk.injEq, and_true] at he
            obtain ⟨rfl, rfl⟩ := he
            have hv1 : nv1 = .string M5.names[k - 1] := by simpa [rStr] using hrv1
            have hv2 : nv2 = .string M5.names[k] := by simpa [rStr] using hrv2
            subst hv1; subst hv2
            have hidk : ∀ (m : Nat) (hm : m < M5.names.length) sz ar kk, idxV sz ar (.slice (some ⟨nbk, noff, none⟩) M5.names.length c7) (.int kk (m : Int)) = sz.map fun s => .pointer (some ⟨nbk, noff + m * s, none⟩) := by
              intro m hm sz ar kk
              rw [idxV_slice (by omega) (by omega) rfl]
              simp
            have hwk : IntKind.i64.wrap ((k : Int) - 1) = ((k - 1 : Nat) : Int) := by rw [wrap_i64 (by omega) (by omega)]; omega
            have hwk1 : IntKind.i64.wrap ((k : Int) + 1) = ((k + 1 : Nat) : Int) := by rw [wrap_i64 (by omega) (by omega)]; omega
            have hlt : nLt M5.names[k - 1] M5.names[k] := by
              have hp := List.pairwise_iff_getElem.1 s7.ok.sorted (k - 1) k (by omega) (by omega) (by omega)
              simpa [Mod.names] using hp
            simp -dsimp [hk]
            refine drawn_by [⟨0, true, []⟩, ⟨1, true, []⟩, ⟨2, true, []⟩, ⟨3, true, []⟩, ⟨4, true, []⟩, ⟨5, true, []⟩, ⟨6, true, []⟩, ⟨7, true, []⟩, ⟨8, true, []⟩, ⟨9, true, []⟩] (by kernel_rfl) (by kernel_rfl) ?_
            have hs12 : sLt M5.names[k - 1] M5.names[k] = true := by rw [sLt_eq]; exact decide_eq_true hlt
            simp -dsimp [hwk, hidk (k - 1) (by omega), hidk k hk, hcell1, hcell2, elSz, hs12, hwk1]
            refine ⟨k + 1, ?_, rfl, ⟨rfl, by omega⟩, by show M5.names.length - (k + 1) < M5.names.length - k; omega⟩
            intro p hp
            simp at hp
            rcases hp with rfl | rfl | rfl | rfl | rfl | rfl <;> simp
          · have hus := used_ones hna5.ones
            simp -dsimp [hk]
            refine call_by (used_spec s7 (by omega)) ?_
            rintro _ h9 ⟨rfl, k9⟩
            have wi : IntKind.i64.wrap ((i : Int) + 1) = ((i + 1 : Nat) : Int) := by rw [wrap_i64 (by omega) (by omega)]; rfl
            have hun : usedF M5.files = M5.names.length := by rw [hus, hnl]
            simp -dsimp [hun, wi]
            refine ⟨(i + 1, M5), ?_, rfl, ⟨hna5, by omega, k07.trans k9 (fun _ _ h => h), F5, s7.keep k9 (fun _ _ h => h), hF6⟩, by simp; omega⟩
            intro p hp
            simp at hp
            rcases hp with rfl | rfl | rfl | rfl <;> simp
    · by_cases hi : i < ns.length
      case' pos =>
        have e2 : ¬ ((i : Int) < 30) := by omega
        simp -dsimp [hi, e2]
      case' neg => simp -dsimp [hi]
      all_goals
        obtain ⟨hf0, hf30⟩ := withinM_bound (a := n) (n := 30) (by decide)
        refine loop' (σ := Nat × Nm) (fun t => [(1, .int .i64 n), (5, .pointer (some ⟨bs, 0, none⟩)), (12, .string t.2), (13, .int .i64 t.1)]) (fun _ => [])
          (fun t h8 => h8 = h3 ∧ t.2.size = t.1 ∧ t.1 ≤ 30)
          (fun t => 30 - t.1) (0, ⟨#[]⟩) ?_ rfl ⟨rfl, rfl, by omega⟩ (by kernel_rfl) ?_
        · intro p hp
          simp at hp
          rcases hp with rfl | rfl | rfl | rfl <;> simp
        · rintro ⟨j, x⟩ h8 g ⟨rfl, hx, hj30⟩
          simp only at hx hj30
          simp -dsimp
          refine call_by (within_spec n 30 (by decide) (by decide) h8) ?_
          rintro _ h8' ⟨rfl, hh⟩
          obtain rfl := hh.symm
          simp -dsimp
          by_cases hj : (j : Int) < withinM n 30
          · have hadd : strRes .add x ⟨#[120]⟩ = some (.string (x ++ ⟨#[120]⟩)) := by
              unfold strRes
              have : (⟨#[120]⟩ : ByteArray).size = 1 := rfl
              rw [if_pos (by omega)]
            have wj : IntKind.i64.wrap ((j : Int) + 1) = ((j + 1 : Nat) : Int) := by rw [wrap_i64 (by omega) (by omega)]; rfl
            simp -dsimp [hj, hadd, wj]
            refine ⟨(j + 1, x ++ ⟨#[120]⟩), ?_, rfl, ⟨rfl, by simp only [ByteArray.size_append, hx]; rfl, by omega⟩, by simp; omega⟩
            intro p hp
            simp at hp
            rcases hp with rfl | rfl | rfl | rfl <;> simp
          · have hsm := hna.small.used
            simp -dsimp [hj]
            refine call_by (write_spec s3 hna.small (by omega) x (SlRep.nil rByte none_ h8) (fun b hb => hb.elim) (by decide)) ?_
            rintro _ h9 ⟨rfl, F9, s9, k9, hF9⟩
            have hw : (M.write x []).1 = if nameOk x = false then 1 else 0 := by
              have hf : M.fits x [] = true := by unfold Mod.fits; rw [hna.lim]; simp; omega
              unfold Mod.write
              rw [hf]
              split <;> rfl
            have hno : nameOk x = (decide (1 ≤ (x.size : Int)) && decide ((x.size : Int) ≤ 20)) := by
              unfold nameOk
              congr 1 <;> simp <;> omega
            rw [hw]
            have kend : Keep none_ h h9 := ⟨by have := k3.size; have := k9.size; omega, fun b hb _ => by
              rw [k9.blk b (by have := k3.size; omega) (fun hf => by have := hF b hf; omega), k3.blk b hb (fun h => h)]⟩
            by_cases q1 : 1 ≤ x.size
            · by_cases q2 : x.size ≤ 20
              · have q1' : (1 : Int) ≤ x.size := by omega
                have q2' : (x.size : Int) ≤ 20 := by omega
                have : nameOk x = true := by rw [hno]; simp [q1', q2']
                rw [this]
                simp -dsimp [q1', q2']
                exact hK _ _ ⟨rfl, kend⟩
              · have q1' : (1 : Int) ≤ x.size := by omega
                have q2' : ¬ (x.size : Int) ≤ 20 := by omega
                have : nameOk x = false := by rw [hno]; simp [q1', q2']
                rw [this]
                simp -dsimp [q1', q2']
                exact hK _ _ ⟨rfl, kend⟩
            · have q1' : ¬ (1 : Int) ≤ x.size := by omega
              have : nameOk x = false := by rw [hno]; simp [q1']
              rw [this]
              simp -dsimp [q1']
              exact hK _ _ ⟨rfl, kend⟩
end Go.Proofs
