/-
  The laws' comparison: is a store the document's?
-/
import Derived.Test.YtcopaleccjpdjaaT1
namespace Go.Proofs
open Go Go.HC

theorem op_cells {F : Nat → Prop} {h : Heap} {a : Option Addr} {n c : Nat} {xs : List (Int × Nm)} (hs : SlRep rOp F h (.slice a n c) xs) (k : Nat) (hk : k < xs.length) :
    ∃ bk off, a = some ⟨bk, off, none⟩ ∧ F bk ∧ cellIn h[bk]? (off + k * 2) = some (.int .i64 xs[k].1) ∧ cellIn h[bk]? (off + k * 2 + 1) = some (.string xs[k].2) := by
  obtain ⟨bk, off, cs, rfl, hF, hr, hc⟩ := hs.get k hk
  obtain ⟨c1, c2, rfl, h1, h2⟩ := hr
  have h1' : c1 = [.int .i64 xs[k].1] := h1
  have h2' : c2 = [.string xs[k].2] := h2
  subst h1'; subst h2'
  refine ⟨bk, off, rfl, hF, ?_, ?_⟩
  · have := cellsIn_cell (d := 0) hc (by decide)
    simpa [rOp, Rp.prod, rInt, rStr] using this
  · have := cellsIn_cell (d := 1) hc (by decide)
    simpa [rOp, Rp.prod, rInt, rStr] using this

set_option maxHeartbeats 40000000 in
set_option maxRecDepth 10000 in
theorem same_spec {h0 h : Heap} {v w : Value} {M : Mod} (s : Both h0 v w h M) {m : Nat} (hm : M.Small m) (hm' : m < 1000000000) :
    CallH Try.prog 25 #[v, w] h fun r h' => r = .bool true ∧ Keep none_ h h' := by
  refine callH_by fun K hK => ?_
  obtain ⟨e0, F, G, s0, x0, hF, hG⟩ := s
  obtain ⟨bs, hv⟩ : ∃ bs, v = .pointer (some ⟨bs, 0, none⟩) := by
    obtain ⟨bs, _, _, _, _, _, _, rfl, _⟩ := s0; exact ⟨bs, rfl⟩
  obtain ⟨xs, hw⟩ : ∃ xs, w = .pointer (some ⟨xs, 0, none⟩) := by
    obtain ⟨xs, _, _, _, _, _, rfl, _⟩ := x0; exact ⟨xs, rfl⟩
  subst hv; subst hw
  have hmf := hm.files
  have hmu := hm.used
  have hmt := hm.trace
  have hok := s0.ok
  have hnl : M.names.length = M.files.length := by simp [Mod.names]
  refine enter [.tmp 4] Try.func25 rfl rfl (by kernel_rfl) rfl ?_
  simp -dsimp
  refine call_by (names_spec s0 hm hm') ?_
  rintro _ h1 ⟨own1, hg1, k1, ho1⟩
  obtain ⟨a1, c1, rfl⟩ := hg1.val
  have s1 := s0.keep k1 (fun _ _ h => h)
  have x1 := x0.keep k1 (fun _ _ h => h)
  simp -dsimp
  refine call_by (rnames_spec x1 (by omega)) ?_
  rintro _ h2 ⟨own2, hg2, k2, ho2⟩
  obtain ⟨a2, c2, rfl⟩ := hg2.val
  have s2 := s1.keep k2 (fun _ _ h => h)
  have x2 := x1.keep k2 (fun _ _ h => h)
  simp -dsimp
  refine call_by (used_spec s2 (by omega)) ?_
  rintro _ h3 ⟨rfl, k3⟩
  have s3 := s2.keep k3 (fun _ _ h => h)
  have x3 := x2.keep k3 (fun _ _ h => h)
  simp -dsimp
  refine call_by (rused_spec x3 (by omega) (by omega)) ?_
  rintro _ h3' ⟨rfl, hh⟩
  obtain rfl := hh.symm
  have k03 := (k1.trans k2 (fun _ _ h => h)).trans k3 (fun _ _ h => h)
  have hn3 : SlRep rStr (fun b => own1 = some b) h3 (.slice a1 M.names.length c1) M.names := hg1.strs.mono fun b hb => ⟨hb, (k2.trans k3 (fun _ _ h => h)).blk b (hg1.own_lt b hb) (fun h => h)⟩
  have hm3 : SlRep rStr (fun b => own2 = some b) h3 (.slice a2 M.names.length c2) M.names := hg2.strs.mono fun b hb => ⟨hb, k3.blk b (hg2.own_lt b hb) (fun h => h)⟩
  have l1 : ∀ b, own1 = some b → b < h3.size := fun b hb => by have := hg1.own_lt b hb; have := k2.size; have := k3.size; omega
  have l2 : ∀ b, own2 = some b → b < h3.size := fun b hb => by have := hg2.own_lt b hb; have := k3.size; omega
  simp -dsimp
  refine loop' (σ := Nat) (fun k => [(0, .pointer (some ⟨bs, 0, none⟩)), (1, .pointer (some ⟨xs, 0, none⟩)), (5, .slice a1 M.names.length c1), (6, .slice a2 M.names.length c2), (7, .int .i64 k)]) (fun _ => [])
    (fun k h4 => Keep none_ h3 h4) (fun k => M.names.length - k) 0 ?_ rfl (.refl _ _) (by kernel_rfl) ?_
  · intro p hp
    simp at hp
    rcases hp with rfl | rfl | rfl | rfl | rfl <;> simp
  · rintro k h4 g k4
    have s4 := s3.keep k4 (fun _ _ h => h)
    have x4 := x3.keep k4 (fun _ _ h => h)
    have e4 := k4.size
    by_cases hkl : k < M.names.length
    · have hn4 := hn3.mono (F' := fun b => own1 = some b) (h' := h4) fun b hb => ⟨hb, k4.blk b (l1 b hb) (fun h => h)⟩
      have hm4 := hm3.mono (F' := fun b => own2 = some b) (h' := h4) fun b hb => ⟨hb, k4.blk b (l2 b hb) (fun h => h)⟩
      obtain ⟨nb, no, nv, rfl, hnb, hrv, hnc⟩ := hn4.get1 rfl k hkl
      obtain ⟨mb, mo, mv, rfl, hmb, hrv', hmc⟩ := hm4.get1 rfl k hkl
      have hnv : nv = .string M.names[k] := by simpa [rStr] using hrv
      have hmv : mv = .string M.names[k] := by simpa [rStr] using hrv'
      subst hnv; subst hmv
      have hidx : ∀ (K : Value → Heap → Prop) (h : Heap), indexAddrS Try.prog 36 (.slice (some ⟨mb, mo, none⟩) M.names.length c2) (.int .i64 (k : Int)) h K = K (.pointer (some ⟨mb, mo + k, none⟩)) h := by
        intro K h
        rw [indexAddrS_slice _ _ _ _ _ _ (by omega) (by omega) rfl]
        simp [elSz]
      have hidv1 : ∀ sz ar kk, idxV sz ar (.slice (some ⟨nb, no, none⟩) M.names.length c1) (.int kk (k : Int)) = sz.map fun s => .pointer (some ⟨nb, no + k * s, none⟩) := by
        intro sz ar kk
        rw [idxV_slice (by omega) (by omega) rfl]
        simp
      have hidv2 : ∀ sz ar kk, idxV sz ar (.slice (some ⟨mb, mo, none⟩) M.names.length c2) (.int kk (k : Int)) = sz.map fun s => .pointer (some ⟨mb, mo + k * s, none⟩) := by
        intro sz ar kk
        rw [idxV_slice (by omega) (by omega) rfl]
        simp
      have hex : ∃ f, M.look M.names[k] = some f := by
        have hkf : k < M.files.length := by omega
        have hnm : M.names[k] = M.files[k].1 := by simp [Mod.names]
        exact ⟨M.files[k].2, by rw [hnm]; exact lookF_mem hok.sorted (List.getElem_mem hkf)⟩
      obtain ⟨f, hf⟩ := hex
      have his : (M.look M.names[k]).isSome = true := by rw [hf]; rfl
      simp -dsimp [hkl, hidx, hmc]
      refine call_by (read_spec s4 (by omega) M.names[k]) ?_
      rintro _ h5 ⟨u5, own5, rfl, hg5, k5, ho5⟩
      rw [his]
      obtain ⟨a5, c5, rfl⟩ := hg5.val
      have hmc5 : cellIn h5[mb]? (mo + k) = some (.string M.names[k]) := by rw [k5.blk mb (by have := l2 mb hmb; omega) (fun h => h)]; exact hmc
      have hnc5 : cellIn h5[nb]? (no + k) = some (.string M.names[k]) := by rw [k5.blk nb (by have := l1 nb hnb; omega) (fun h => h)]; exact hnc
      simp -dsimp [hidx, hmc5]
      refine call_by (rread_spec (x4.keep k5 (fun _ _ h => h)) (by omega) (by omega) M.names[k]) ?_
      rintro _ h6 ⟨u6, own6, rfl, hg6, k6, ho6⟩
      rw [his]
      obtain ⟨a6, c6, rfl⟩ := hg6.val
      have e5 := k5.size
      have hmc6 : cellIn h6[mb]? (mo + k) = some (.string M.names[k]) := by rw [k6.blk mb (by have := l2 mb hmb; omega) (fun h => h)]; exact hmc5
      have hnc6 : cellIn h6[nb]? (no + k) = some (.string M.names[k]) := by rw [k6.blk nb (by have := l1 nb hnb; omega) (fun h => h)]; exact hnc5
      have hx6 : SlRep rByte (fun b => own5 = some b) h6 (.slice a5 (M.nowOf M.names[k]).length c5) (M.nowOf M.names[k]) := hg5.bytes.mono fun b hb => ⟨hb, k6.blk b (hg5.own_lt b hb) (fun h => h)⟩
      have wk : IntKind.i64.wrap ((k : Int) + 1) = ((k + 1 : Nat) : Int) := by rw [wrap_i64 (by omega) (by omega)]; rfl
      simp -dsimp
      refine drawn_by [⟨0, true, []⟩, ⟨1, true, []⟩, ⟨2, true, []⟩, ⟨3, true, []⟩, ⟨4, true, []⟩, ⟨5, true, []⟩, ⟨6, true, []⟩, ⟨7, true, []⟩, ⟨8, true, []⟩, ⟨9, true, []⟩, ⟨10, true, []⟩, ⟨11, true, []⟩, ⟨12, true, []⟩, ⟨13, true, []⟩, ⟨14, true, []⟩, ⟨15, true, []⟩, ⟨16, true, []⟩, ⟨17, true, []⟩, ⟨18, true, []⟩, ⟨19, true, []⟩] (by kernel_rfl) (by kernel_rfl) ?_
      simp -dsimp [hidv1, hidv2, hnc6, hmc6, elSz, hx6.bytesV, hg6.bytes.bytesV, wk]
      refine ⟨k + 1, ?_, rfl, (k4.trans k5 (fun _ _ h => h)).trans k6 (fun _ _ h => h), by show M.names.length - (k + 1) < M.names.length - k; omega⟩
      intro p hp
      simp at hp
      rcases hp with rfl | rfl | rfl | rfl | rfl <;> simp
    · simp -dsimp [hkl]
      refine call_by (trace_spec s4 hm hm') ?_
      rintro _ h5 ⟨own5, hg5, k5, ho5⟩
      obtain ⟨a5, c5, rfl⟩ := hg5.val
      simp -dsimp
      refine call_by (rtrace_spec (x4.keep k5 (fun _ _ h => h)) (by omega)) ?_
      rintro _ h6 ⟨own6, hg6, k6, ho6⟩
      obtain ⟨a6, c6, rfl⟩ := hg6.val
      have k06 := ((k03.trans k4 (fun _ _ h => h)).trans k5 (fun _ _ h => h)).trans k6 (fun _ _ h => h)
      have ht5 : SlRep rOp (fun b => none_ b ∨ own5 = some b) h6 (.slice a5 M.trace.length c5) M.trace := hg5.rep.mono fun b hb => ⟨hb, k6.blk b (hb.elim (fun h => h.elim) (hg5.own_lt b)) (fun h => h)⟩
      have ht6 := hg6.rep
      simp -dsimp
      refine loop' (σ := Nat) (fun k => [(12, .slice a5 M.trace.length c5), (13, .slice a6 M.trace.length c6), (14, .int .i64 k)]) (fun _ => [])
        (fun k h7 => h7 = h6) (fun k => M.trace.length - k) 0 ?_ rfl rfl (by kernel_rfl) ?_
      · intro p hp
        simp at hp
        rcases hp with rfl | rfl | rfl <;> simp
      · rintro i h7 g rfl
        by_cases hil : i < M.trace.length
        · obtain ⟨nb, no, rfl, _, hn0, hn1⟩ := op_cells ht5 i hil
          obtain ⟨mb, mo, rfl, _, hm0, hm1⟩ := op_cells ht6 i hil
          have hidv1 : ∀ sz ar kk, idxV sz ar (.slice (some ⟨nb, no, none⟩) M.trace.length c5) (.int kk (i : Int)) = sz.map fun s => .pointer (some ⟨nb, no + i * s, none⟩) := by
            intro sz ar kk
            rw [idxV_slice (by omega) (by omega) rfl]
            simp
          have hidv2 : ∀ sz ar kk, idxV sz ar (.slice (some ⟨mb, mo, none⟩) M.trace.length c6) (.int kk (i : Int)) = sz.map fun s => .pointer (some ⟨mb, mo + i * s, none⟩) := by
            intro sz ar kk
            rw [idxV_slice (by omega) (by omega) rfl]
            simp
          have wi : IntKind.i64.wrap ((i : Int) + 1) = ((i + 1 : Nat) : Int) := by rw [wrap_i64 (by omega) (by omega)]; rfl
          simp -dsimp [hil]
          refine drawn_by [⟨0, true, []⟩, ⟨1, true, []⟩, ⟨2, true, []⟩, ⟨3, true, []⟩, ⟨4, true, []⟩, ⟨5, true, []⟩, ⟨6, true, []⟩, ⟨7, true, []⟩, ⟨8, true, []⟩, ⟨9, true, []⟩, ⟨10, true, []⟩, ⟨11, true, []⟩, ⟨12, true, []⟩, ⟨13, true, []⟩, ⟨14, true, []⟩, ⟨15, true, []⟩, ⟨16, true, []⟩, ⟨17, true, []⟩, ⟨18, true, []⟩, ⟨19, true, []⟩, ⟨20, true, []⟩, ⟨21, true, []⟩, ⟨22, true, []⟩, ⟨23, true, []⟩] (by kernel_rfl) (by kernel_rfl) ?_
          simp -dsimp [hidv1, hidv2, hn0, hn1, hm0, hm1, elSz, wi]
          refine ⟨i + 1, ?_, rfl, rfl, by show M.trace.length - (i + 1) < M.trace.length - i; omega⟩
          intro p hp
          simp at hp
          rcases hp with rfl | rfl | rfl <;> simp
        · simp -dsimp [hil]
          exact hK _ _ ⟨rfl, k06⟩
end Go.Proofs
