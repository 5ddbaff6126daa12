/-
  StoreFull: the law's walk.
-/
import Derived.Test.YtcopaleccjpdjaaL1
namespace Go.Proofs
open Go Go.HC

/-- The four names. -/
def nmF (f : Nat) : Nm := strOf [UInt8.ofNat (97 + f)]
theorem nmF_inj {f g : Nat} (hf : f < 4) (hg : g < 4) (h : nmF f = nmF g) : f = g := by
  rcases f with _ | _ | _ | _ | f <;> rcases g with _ | _ | _ | _ | g <;> first | rfl | omega | (exfalso; revert h; decide)
theorem nmF_ok {f : Nat} (hf : f < 4) : nameOk (nmF f) = true := by
  rcases f with _ | _ | _ | _ | f <;> first | decide | omega
theorem lenF_wrote (M : Mod) (x y : Nm) (b : List UInt8) : lenF (M.wrote x b).files y = if y = x then b.length else lenF M.files y := by
  unfold lenF Mod.wrote
  simp only [lookF_put]
  split <;> rfl
theorem nowOf_len (M : Mod) (x : Nm) : (M.nowOf x).length = lenF M.files x := by
  unfold Mod.nowOf Mod.look lenF
  cases lookF x M.files <;> rfl

/-- What the law's loop holds. -/
structure FullAt (M : Mod) (k : Int) (i : Nat) : Prop where
  lim : M.limit = k
  small : M.Small (i * 100)
  cap : (usedF M.files : Int) ≤ k
  sum : usedF M.files = lenF M.files (nmF 0) + lenF M.files (nmF 1) + lenF M.files (nmF 2) + lenF M.files (nmF 3)

set_option maxHeartbeats 4000000 in
set_option maxRecDepth 10000 in
theorem full_spec {G : Nat → Prop} {h : Heap} {sv : Value} {sizes : List Int} (limit : Int) (hs : SlRep rInt G h sv sizes) (hG : ∀ b, G b → b < h.size) :
    CallH Try.prog 3 #[.int .i64 limit, sv] h fun r h' => r = .bool true ∧ Keep none_ h h' := by
  refine enter [.tmp 4] Try.func3 rfl rfl (by kernel_rfl) rfl ?_
  obtain ⟨a0, c0, rfl, hc0, hc0'⟩ := hs.val
  simp -dsimp
  refine call_by (known_spec h) ?_
  rintro _ h1 ⟨rfl, k1⟩
  simp -dsimp
  refine call_by (within_spec limit 100 (by decide) (by decide) h1) ?_
  rintro _ h1' ⟨rfl, hh⟩
  obtain rfl := hh.symm
  obtain ⟨hk0, hk1⟩ := withinM_bound (a := limit) (n := 100) (by decide)
  generalize withinM limit 100 = k at hk0 hk1 ⊢
  simp -dsimp
  refine call_by (new_spec k h1) ?_
  rintro r h2 ⟨F2, s2, k2, n2⟩
  obtain ⟨bs, hr⟩ : ∃ bs, r = .pointer (some ⟨bs, 0, none⟩) := by
    obtain ⟨bs, _, _, _, _, _, _, rfl, _⟩ := s2; exact ⟨bs, rfl⟩
  subst hr
  have k12 := k1.trans k2 (fun _ _ h => h)
  simp -dsimp
  refine loop (σ := Nat × Mod) (fun t => [(1, .slice a0 sizes.length c0), (5, .int .i64 k), (6, .pointer (some ⟨bs, 0, none⟩)), (7, .pointer (some ⟨h2.size, 0, none⟩)), (8, .int .i64 t.1)]) (fun _ => [])
    (fun t h3 => FullAt t.2 k t.1 ∧ t.1 ≤ 40 ∧ Keep none_ h h3 ∧ (∃ F, StAt (.pointer (some ⟨bs, 0, none⟩)) F h3 t.2 ∧ (∀ b, F b → h.size ≤ b) ∧ ¬ F h2.size) ∧
      h3[h2.size]? = some (.cells #[.int .i64 (lenF t.2.files (nmF 0)), .int .i64 (lenF t.2.files (nmF 1)), .int .i64 (lenF t.2.files (nmF 2)), .int .i64 (lenF t.2.files (nmF 3))] 27 (0, 0)))
    (fun t => 40 - t.1) (0, Mod.new k) ?_ rfl ⟨⟨rfl, ⟨Nat.le_refl _, Nat.le_refl _, Nat.le_refl _⟩, hk0, rfl⟩, by omega, k12.pushed _, ⟨F2, s2.keep (.push none_ _ _) (fun _ _ h => h), fun b hb => Nat.le_trans k1.size (n2 b hb), fun hf => by have := s2.lt _ hf; omega⟩, push_new _ _⟩ (by kernel_rfl) ?_
  · intro p hp
    simp at hp
    rcases hp with rfl | rfl | rfl | rfl | rfl <;> simp
  · rintro ⟨i, M⟩ h3 g ⟨hfa, hi40, k3, ⟨F, s3, hF, hnF⟩, harr⟩
    simp only at hfa hi40 s3 harr
    by_cases hi : i < sizes.length
    · by_cases hi2 : i < 40
      · have e1 : decide ((i : Int) < sizes.length) = true := by simp; omega
        have e2 : decide ((i : Int) < 40) = true := by simp; omega
        have hs3 := hs.mono (F' := G) (h' := h3) fun b hb => ⟨hb, k3.blk b (hG b hb) (fun h => h)⟩
        obtain ⟨bk, off, v, rfl, hGb, hrv, hcell⟩ := hs3.get1 rfl i hi
        have hv : v = .int .i64 sizes[i] := by simpa [rInt] using hrv
        subst hv
        have hidx : ∀ sz ar kk, idxV sz ar (.slice (some ⟨bk, off, none⟩) sizes.length c0) (.int kk (i : Int)) = sz.map fun s => .pointer (some ⟨bk, off + i * s, none⟩) := by
          intro sz ar kk
          rw [idxV_slice (by omega) (by omega) rfl]
          simp
        simp -dsimp [hi, e2]
        refine drawn_by [⟨0, true, []⟩, ⟨1, true, []⟩, ⟨2, true, []⟩, ⟨3, true, []⟩, ⟨5, true, []⟩, ⟨6, true, []⟩, ⟨7, true, []⟩, ⟨8, true, []⟩, ⟨9, true, []⟩, ⟨4, false, [5, 6, 7, 8, 9]⟩, ⟨10, false, []⟩, ⟨11, true, []⟩, ⟨12, true, []⟩] (by kernel_rfl) (by kernel_rfl) ?_
        simp -dsimp [hidx, hcell, elSz]
        refine call_by (within_spec sizes[i] 4 (by decide) (by decide) h3) ?_
        rintro _ h3' ⟨rfl, hh⟩
        obtain rfl := hh.symm
        obtain ⟨hf0, hf4⟩ := withinM_bound (a := sizes[i]) (n := 4) (by decide)
        obtain ⟨f, hf⟩ : ∃ f : Nat, withinM sizes[i] 4 = f := ⟨(withinM sizes[i] 4).toNat, by omega⟩
        rw [hf] at hf0 hf4 ⊢
        have hf4' : f < 4 := by omega
        simp -dsimp [again_cons, hidx, hcell, elSz]
        generalize IntKind.i64.wrap ((sizes[i]).tdiv 4) = q
        refine call_by (within_spec q 60 (by decide) (by decide) h3) ?_
        rintro _ h3' ⟨rfl, hh⟩
        obtain rfl := hh.symm
        obtain ⟨hn0, hn60⟩ := withinM_bound (a := q) (n := 60) (by decide)
        obtain ⟨n, hn⟩ : ∃ n : Nat, withinM q 60 = n := ⟨(withinM q 60).toNat, by omega⟩
        rw [hn] at hn0 hn60 ⊢
        have hsm := hfa.small
        have hus := hsm.used
        have hsum := hfa.sum
        have w1 : IntKind.i64.wrap ((lenF M.files (nmF 0) : Int) + lenF M.files (nmF 1)) = (lenF M.files (nmF 0) : Int) + lenF M.files (nmF 1) := wrap_i64 (by omega) (by omega)
        have w2 : IntKind.i64.wrap ((lenF M.files (nmF 0) : Int) + lenF M.files (nmF 1) + lenF M.files (nmF 2)) = (lenF M.files (nmF 0) : Int) + lenF M.files (nmF 1) + lenF M.files (nmF 2) := wrap_i64 (by omega) (by omega)
        have w3 : IntKind.i64.wrap ((lenF M.files (nmF 0) : Int) + lenF M.files (nmF 1) + lenF M.files (nmF 2) + lenF M.files (nmF 3)) = (usedF M.files : Int) := by
          rw [wrap_i64 (by omega) (by omega)]; omega
        have harT := fun (i : Int) (h0 : 0 ≤ i) (h1 : i < (4 : Nat)) (K : Value → Heap → Prop) (h : Heap) => indexAddrS_array (P := Try.prog) (T := 27) (bk := h2.size) (off := 0) (k := .i64) (K := K) (h := h) Try.arrS27 h0 h1
        simp -dsimp [again_cons, hidx, hcell, elSz, harT, harr, w1, w2, w3]
        have hw8 : IntKind.i64.wrap (97 + (f : Int)) = 97 + (f : Int) := wrap_i64 (by omega) (by omega)
        obtain ⟨ch, hu8, hnm⟩ : ∃ ch : UInt8, IntKind.u8.wrap (97 + (f : Int)) = (ch.toNat : Int) ∧ strOf [ch] = nmF f := by
          refine ⟨UInt8.ofNat (97 + f), ?_, rfl⟩
          rw [wrap_u8 (by omega) (by omega)]
          simp; omega
        have hnok := nmF_ok hf4'
        refine drawn_by2 4 7 [⟨0, true, []⟩, ⟨1, true, []⟩, ⟨2, true, []⟩, ⟨3, true, []⟩, ⟨6, true, []⟩, ⟨4, false, [0, 6]⟩, ⟨5, true, []⟩, ⟨7, false, [0, 5]⟩, ⟨8, false, []⟩, ⟨9, true, []⟩] [⟨0, true, []⟩, ⟨1, true, []⟩, ⟨2, true, []⟩, ⟨3, true, []⟩, ⟨6, true, []⟩, ⟨7, false, [0, 1, 2, 3]⟩, ⟨4, false, [0]⟩, ⟨5, true, []⟩, ⟨8, false, []⟩, ⟨9, true, []⟩] (by kernel_rfl) (by kernel_rfl) ?_ ?_
        · simp -dsimp [hw8, hu8]
          generalize hH4 : h3.push _ = h4
          have k34 : Keep none_ h3 h4 := by rw [← hH4]; exact .push _ _ _
          have hsz4 : h4.size = h3.size + 1 := by rw [← hH4]; simp
          have hb4 : SlRep rByte (fun b => b = h3.size) h4 (.slice (some ⟨h3.size, 0, none⟩) 1 1) [ch] := by
            rw [← hH4]
            exact ⟨_, 1, [.int .u8 ch.toNat], rfl, Nat.le_refl _, by decide, .inr ⟨h3.size, 0, _, _, _, rfl, rfl, push_new _ _, rfl⟩, bytes_map.2 rfl⟩
          simp -dsimp [again_cons, hw8, hu8, hb4.bytesV, hnm]
          refine make_bytes Try.elS30 Try.szS5 Try.byS5 Try.zS5 (by omega) (by omega) ?_
          intro hg5
          generalize hH5 : h4.push _ = h5 at hg5 ⊢
          have k45 : Keep none_ h4 h5 := by rw [← hH5]; exact .push _ _ _
          have hsz5 : h5.size = h4.size + 1 := by rw [← hH5]; simp
          have hb5 := hb4.mono (F' := fun b => b = h3.size) (h' := h5) fun b hb => ⟨hb, k45.blk b (by omega) (fun h => h)⟩
          have hbv := hg5.bytes
          have hbl : ∀ b, some h4.size = some b → b < h5.size := fun b hb => by cases hb; omega
          have k35 : Keep none_ h3 h5 := k34.trans k45 (fun _ _ h => h)
          simp -dsimp [again_cons, hw8, hu8, hb5.bytesV, hnm]
          have s5 := s3.keep k35 (fun _ _ h => h)
          have hrl : (List.replicate (n : Int).toNat (0 : UInt8)).length = n := by simp
          rw [Int.toNat_natCast] at hbv hrl
          refine call_by (write_spec s5 hsm (by omega) (nmF f) hbv hbl (by rw [hrl]; omega)) ?_
          rintro _ h6 ⟨rfl, F6, s6, k56, hF6⟩
          have hwr : M.write (nmF f) (List.replicate n 0) = if M.fits (nmF f) (List.replicate n 0) = false then (4, M) else (0, M.wrote (nmF f) (List.replicate n 0)) := by
            unfold Mod.write; rw [hnok]; simp
          have hfit : M.fits (nmF f) (List.replicate n 0) = decide ((usedF M.files : Int) - lenF M.files (nmF f) + n ≤ k) := by
            unfold Mod.fits; rw [nowOf_len, hrl, hfa.lim]
          have harr6 : h6[h2.size]? = some (.cells #[.int .i64 (lenF M.files (nmF 0)), .int .i64 (lenF M.files (nmF 1)), .int .i64 (lenF M.files (nmF 2)), .int .i64 (lenF M.files (nmF 3))] 27 (0, 0)) := by
            have hlt := lt_of_blk harr
            rw [k56.blk _ (by have := k35.size; omega) hnF]
            exact (k35.blk _ hlt (fun h => h)).trans harr
          have hlf : lenF M.files (nmF f) ≤ usedF M.files := by rw [← nowOf_len]; exact now_le s5.ok _
          have hcf : ∀ M' : Mod, (#[Value.int .i64 (lenF M'.files (nmF 0)), .int .i64 (lenF M'.files (nmF 1)), .int .i64 (lenF M'.files (nmF 2)), .int .i64 (lenF M'.files (nmF 3))] : Array Value)[f]? = some (.int .i64 (lenF M'.files (nmF f))) := by
            intro M'
            rcases f with _ | _ | _ | _ | f <;> first | rfl | omega
          have w4 : IntKind.i64.wrap (IntKind.i64.wrap ((usedF M.files : Int) - lenF M.files (nmF f)) + n) = (usedF M.files : Int) - lenF M.files (nmF f) + n := by
            have h1 : IntKind.i64.wrap ((usedF M.files : Int) - lenF M.files (nmF f)) = (usedF M.files : Int) - lenF M.files (nmF f) := wrap_i64 (by omega) (by omega)
            rw [h1, wrap_i64 (by omega) (by omega)]
          have hfl : (f : Int) < 4 := hf4
          cases hft : M.fits (nmF f) (List.replicate n 0) with
          | false =>
            rw [hft] at hfit
            rw [hft] at hwr
            simp only [if_true] at hwr
            have hle : ¬ ((usedF M.files : Int) - lenF M.files (nmF f) + n ≤ k) := of_decide_eq_false hfit.symm
            rw [hwr] at s6 ⊢
            simp -dsimp [harT, hfl, harr6, hcf, w4, hle]
            have k07 : Keep none_ h h6 := by
              refine ⟨by have := k3.size; have := k35.size; have := k56.size; omega, fun b hb _ => ?_⟩
              have := k3.size
              have := k35.size
              rw [k56.blk b (by omega) (fun hf => by have := hF b hf; omega), k35.blk b (by omega) (fun h => h), k3.blk b hb (fun h => h)]
            have hF7 : ∀ b, F6 b → h.size ≤ b := fun b hb => (hF6 b hb).elim (hF b) (fun h => by have := k3.size; have := k35.size; omega)
            have hnF7 : ¬ F6 h2.size := fun hb => (hF6 _ hb).elim hnF (fun h => by have := lt_of_blk harr; have := k35.size; omega)
            have hfa7 : FullAt M k (i + 1) := ⟨hfa.lim, ⟨by have := hsm.used; omega, by have := hsm.files; omega, by have := hsm.trace; omega⟩, hfa.cap, hfa.sum⟩
            have s7 : StAt (.pointer (some ⟨bs, 0, none⟩)) F6 h6 M := s6
            have harr7 := harr6
            have hsm7 := hfa7.small
            have hus7 := hsm7.used
            have hsum7 := hfa7.sum
            have hcap7 := hfa7.cap
            have v1 : IntKind.i64.wrap ((lenF M.files (nmF 0) : Int) + lenF M.files (nmF 1)) = (lenF M.files (nmF 0) : Int) + lenF M.files (nmF 1) := wrap_i64 (by omega) (by omega)
            have v2 : IntKind.i64.wrap ((lenF M.files (nmF 0) : Int) + lenF M.files (nmF 1) + lenF M.files (nmF 2)) = (lenF M.files (nmF 0) : Int) + lenF M.files (nmF 1) + lenF M.files (nmF 2) := wrap_i64 (by omega) (by omega)
            have v3 : IntKind.i64.wrap ((lenF M.files (nmF 0) : Int) + lenF M.files (nmF 1) + lenF M.files (nmF 2) + lenF M.files (nmF 3)) = (usedF M.files : Int) := by
              rw [wrap_i64 (by omega) (by omega)]; omega
            have hgt : ¬ (k < (usedF M.files : Int)) := by omega
            refine drawn_by [⟨0, true, []⟩, ⟨2, true, []⟩, ⟨3, true, []⟩, ⟨4, true, []⟩, ⟨5, true, []⟩, ⟨6, true, []⟩, ⟨7, true, []⟩, ⟨8, true, []⟩, ⟨9, true, []⟩, ⟨10, true, []⟩, ⟨11, true, []⟩, ⟨12, true, []⟩, ⟨1, false, [2, 3, 4, 5, 6, 7, 8, 9, 10, 11, 12]⟩, ⟨13, true, []⟩, ⟨14, true, []⟩, ⟨15, true, []⟩, ⟨17, true, []⟩, ⟨16, false, [17]⟩, ⟨18, true, []⟩, ⟨19, true, []⟩] (by kernel_rfl) (by kernel_rfl) ?_
            simp -dsimp [harr7, v1, v2, v3]
            refine call_by (used_spec s7 (by omega)) ?_
            rintro _ h8 ⟨rfl, k78⟩
            have s8 := s7.keep k78 (fun _ _ h => h)
            have harr8 := k78.at harr7 (fun h => h)
            simp -dsimp [again_cons, harr8, v1, v2, v3]
            refine call_by (used_spec s8 (by omega)) ?_
            rintro _ h9 ⟨rfl, k89⟩
            have s9 := s8.keep k89 (fun _ _ h => h)
            have harr9 := k89.at harr8 (fun h => h)
            have wi : IntKind.i64.wrap ((i : Int) + 1) = ((i + 1 : Nat) : Int) := by rw [wrap_i64 (by omega) (by omega)]; rfl
            simp -dsimp [again_cons, hgt, wi]
            refine ⟨i + 1, ?_, ⟨M, hfa7, by omega, (k07.trans k78 (fun _ _ h => h)).trans k89 (fun _ _ h => h), ⟨F6, s9, hF7, hnF7⟩, harr9⟩, by omega⟩
            intro p hp
            simp at hp
            rcases hp with rfl | rfl | rfl | rfl | rfl <;> simp
          | true =>
            rw [hft] at hfit
            rw [hft] at hwr
            simp only [Bool.true_eq_false, if_false] at hwr
            have hle : ((usedF M.files : Int) - lenF M.files (nmF f) + n ≤ k) := of_decide_eq_true hfit.symm
            rw [hwr] at s6 ⊢
            simp -dsimp [harT, hfl, harr6, hcf, w4, hle]
            have k07 : Keep none_ h h6 := by
              refine ⟨by have := k3.size; have := k35.size; have := k56.size; omega, fun b hb _ => ?_⟩
              have := k3.size
              have := k35.size
              rw [k56.blk b (by omega) (fun hf => by have := hF b hf; omega), k35.blk b (by omega) (fun h => h), k3.blk b hb (fun h => h)]
            have hF7 : ∀ b, F6 b → h.size ≤ b := fun b hb => (hF6 b hb).elim (hF b) (fun h => by have := k3.size; have := k35.size; omega)
            have hnF7 : ¬ F6 h2.size := fun hb => (hF6 _ hb).elim hnF (fun h => by have := lt_of_blk harr; have := k35.size; omega)
            have hf3 : f ≤ 3 := by omega
            have hset : ([Value.int .i64 (lenF M.files (nmF 0)), .int .i64 (lenF M.files (nmF 1)), .int .i64 (lenF M.files (nmF 2)), .int .i64 (lenF M.files (nmF 3))].set f (.int .i64 n)) =
                [Value.int .i64 (lenF (M.wrote (nmF f) (List.replicate n 0)).files (nmF 0)), .int .i64 (lenF (M.wrote (nmF f) (List.replicate n 0)).files (nmF 1)), .int .i64 (lenF (M.wrote (nmF f) (List.replicate n 0)).files (nmF 2)), .int .i64 (lenF (M.wrote (nmF f) (List.replicate n 0)).files (nmF 3))] := by
              simp only [lenF_wrote, hrl]
              clear hcf hlf hfit hwr hle w4 hft s6 hF6 hnm hnok
              rcases f with _ | _ | _ | _ | f
              · rw [if_pos rfl, if_neg (by decide), if_neg (by decide), if_neg (by decide)]; rfl
              · rw [if_neg (by decide), if_pos rfl, if_neg (by decide), if_neg (by decide)]; rfl
              · rw [if_neg (by decide), if_neg (by decide), if_pos rfl, if_neg (by decide)]; rfl
              · rw [if_neg (by decide), if_neg (by decide), if_neg (by decide), if_pos rfl]; rfl
              · omega
            simp -dsimp [hf3, hset]
            generalize hM7 : M.wrote (nmF f) (List.replicate n 0) = M7 at *
            have hput := used_put (x := nmF f) (f := ⟨List.replicate n 0, (M.look (nmF f)).bind (·.sure), false⟩) s5.ok.sorted
            have hpl := length_put (x := nmF f) (f := ⟨List.replicate n 0, (M.look (nmF f)).bind (·.sure), false⟩) (l := M.files)
            have hMf : M7.files = putF (nmF f) ⟨List.replicate n 0, (M.look (nmF f)).bind (·.sure), false⟩ M.files := by rw [← hM7]; rfl
            have hMt : M7.trace = M.trace ++ [(1, nmF f)] := by rw [← hM7]; rfl
            have hMl : M7.limit = k := by rw [← hM7]; exact hfa.lim
            have hlk : ((lookF (nmF f) M.files).map (·.now.length)).getD 0 = lenF M.files (nmF f) := rfl
            rw [← hMf, hlk] at hput
            rw [← hMf] at hpl
            simp only [hrl] at hput
            have hls : ∀ j, j < 4 → lenF M7.files (nmF j) = if f = j then n else lenF M.files (nmF j) := by
              intro j hj
              rw [← hM7, lenF_wrote, hrl]
              by_cases hfj : f = j
              · subst hfj; simp
              · rw [if_neg hfj, if_neg (fun e => hfj (nmF_inj hj hf4' e).symm)]
            have hfa7 : FullAt M7 k (i + 1) := by
              refine ⟨hMl, ⟨by omega, by have := hsm.files; omega, by have := hsm.trace; rw [hMt]; simp; omega⟩, by omega, ?_⟩
              rw [hls 0 (by omega), hls 1 (by omega), hls 2 (by omega), hls 3 (by omega)]
              have hff : f = 0 ∨ f = 1 ∨ f = 2 ∨ f = 3 := by omega
              clear hf hw8 hu8 hnm hnok hcf hset hls
              rcases hff with rfl | rfl | rfl | rfl <;> simp <;> omega
            generalize hH7 : h6.setIfInBounds h2.size _ = h7
            have hl6 := lt_of_blk harr6
            have k67 : Keep none_ h h7 := by rw [← hH7]; exact k07.setted _ (fun hh => absurd hh (by have := k12.size; omega))
            have s7 : StAt (.pointer (some ⟨bs, 0, none⟩)) F6 h7 M7 := s6.mono (by rw [← hH7]; simp) (fun b hb => by rw [← hH7]; exact set_other _ (fun e => hnF7 (e ▸ hb)))
            have harr7 : h7[h2.size]? = some (.cells #[.int .i64 (lenF M7.files (nmF 0)), .int .i64 (lenF M7.files (nmF 1)), .int .i64 (lenF M7.files (nmF 2)), .int .i64 (lenF M7.files (nmF 3))] 27 (0, 0)) := by
              rw [← hH7]; exact set_same _ hl6
            have hsm7 := hfa7.small
            have hus7 := hsm7.used
            have hsum7 := hfa7.sum
            have hcap7 := hfa7.cap
            have v1 : IntKind.i64.wrap ((lenF M7.files (nmF 0) : Int) + lenF M7.files (nmF 1)) = (lenF M7.files (nmF 0) : Int) + lenF M7.files (nmF 1) := wrap_i64 (by omega) (by omega)
            have v2 : IntKind.i64.wrap ((lenF M7.files (nmF 0) : Int) + lenF M7.files (nmF 1) + lenF M7.files (nmF 2)) = (lenF M7.files (nmF 0) : Int) + lenF M7.files (nmF 1) + lenF M7.files (nmF 2) := wrap_i64 (by omega) (by omega)
            have v3 : IntKind.i64.wrap ((lenF M7.files (nmF 0) : Int) + lenF M7.files (nmF 1) + lenF M7.files (nmF 2) + lenF M7.files (nmF 3)) = (usedF M7.files : Int) := by
              rw [wrap_i64 (by omega) (by omega)]; omega
            have hgt : ¬ (k < (usedF M7.files : Int)) := by omega
            refine drawn_by [⟨0, true, []⟩, ⟨2, true, []⟩, ⟨3, true, []⟩, ⟨4, true, []⟩, ⟨5, true, []⟩, ⟨6, true, []⟩, ⟨7, true, []⟩, ⟨8, true, []⟩, ⟨9, true, []⟩, ⟨10, true, []⟩, ⟨11, true, []⟩, ⟨12, true, []⟩, ⟨1, false, [2, 3, 4, 5, 6, 7, 8, 9, 10, 11, 12]⟩, ⟨13, true, []⟩, ⟨14, true, []⟩, ⟨15, true, []⟩, ⟨17, true, []⟩, ⟨16, false, [17]⟩, ⟨18, true, []⟩, ⟨19, true, []⟩] (by kernel_rfl) (by kernel_rfl) ?_
            simp -dsimp [harr7, v1, v2, v3]
            refine call_by (used_spec s7 (by omega)) ?_
            rintro _ h8 ⟨rfl, k78⟩
            have s8 := s7.keep k78 (fun _ _ h => h)
            have harr8 := k78.at harr7 (fun h => h)
            simp -dsimp [again_cons, harr8, v1, v2, v3]
            refine call_by (used_spec s8 (by omega)) ?_
            rintro _ h9 ⟨rfl, k89⟩
            have s9 := s8.keep k89 (fun _ _ h => h)
            have harr9 := k89.at harr8 (fun h => h)
            have wi : IntKind.i64.wrap ((i : Int) + 1) = ((i + 1 : Nat) : Int) := by rw [wrap_i64 (by omega) (by omega)]; rfl
            simp -dsimp [again_cons, hgt, wi]
            refine ⟨i + 1, ?_, ⟨M7, hfa7, by omega, (k67.trans k78 (fun _ _ h => h)).trans k89 (fun _ _ h => h), ⟨F6, s9, hF7, hnF7⟩, harr9⟩, by omega⟩
            intro p hp
            simp at hp
            rcases hp with rfl | rfl | rfl | rfl | rfl <;> simp
        · simp -dsimp [hw8, hu8]
          refine make_bytes Try.elS30 Try.szS5 Try.byS5 Try.zS5 (by omega) (by omega) ?_
          intro hg4
          generalize hH4 : h3.push _ = h4 at hg4 ⊢
          have k34 : Keep none_ h3 h4 := by rw [← hH4]; exact .push _ _ _
          have hsz4 : h4.size = h3.size + 1 := by rw [← hH4]; simp
          simp -dsimp [again_cons, hw8, hu8]
          generalize hH5 : h4.push _ = h5
          have k45 : Keep none_ h4 h5 := by rw [← hH5]; exact .push _ _ _
          have hsz5 : h5.size = h4.size + 1 := by rw [← hH5]; simp
          have hb5 : SlRep rByte (fun b => b = h4.size) h5 (.slice (some ⟨h4.size, 0, none⟩) 1 1) [ch] := by
            rw [← hH5]
            exact ⟨_, 1, [.int .u8 ch.toNat], rfl, Nat.le_refl _, by decide, .inr ⟨h4.size, 0, _, _, _, rfl, rfl, push_new _ _, rfl⟩, bytes_map.2 rfl⟩
          have hbv : SlRep rByte (fun b => some h3.size = some b) h5 _ _ := hg4.bytes.mono fun b hb => ⟨hb, k45.blk b (by cases hb; omega) (fun h => h)⟩
          have hbl : ∀ b, some h3.size = some b → b < h5.size := fun b hb => by cases hb; omega
          have k35 : Keep none_ h3 h5 := k34.trans k45 (fun _ _ h => h)
          simp -dsimp [hb5.bytesV, hnm]
          have s5 := s3.keep k35 (fun _ _ h => h)
          have hrl : (List.replicate (n : Int).toNat (0 : UInt8)).length = n := by simp
          rw [Int.toNat_natCast] at hbv hrl
          refine call_by (write_spec s5 hsm (by omega) (nmF f) hbv hbl (by rw [hrl]; omega)) ?_
          rintro _ h6 ⟨rfl, F6, s6, k56, hF6⟩
          have hwr : M.write (nmF f) (List.replicate n 0) = if M.fits (nmF f) (List.replicate n 0) = false then (4, M) else (0, M.wrote (nmF f) (List.replicate n 0)) := by
            unfold Mod.write; rw [hnok]; simp
          have hfit : M.fits (nmF f) (List.replicate n 0) = decide ((usedF M.files : Int) - lenF M.files (nmF f) + n ≤ k) := by
            unfold Mod.fits; rw [nowOf_len, hrl, hfa.lim]
          have harr6 : h6[h2.size]? = some (.cells #[.int .i64 (lenF M.files (nmF 0)), .int .i64 (lenF M.files (nmF 1)), .int .i64 (lenF M.files (nmF 2)), .int .i64 (lenF M.files (nmF 3))] 27 (0, 0)) := by
            have hlt := lt_of_blk harr
            rw [k56.blk _ (by have := k35.size; omega) hnF]
            exact (k35.blk _ hlt (fun h => h)).trans harr
          have hlf : lenF M.files (nmF f) ≤ usedF M.files := by rw [← nowOf_len]; exact now_le s5.ok _
          have hcf : ∀ M' : Mod, (#[Value.int .i64 (lenF M'.files (nmF 0)), .int .i64 (lenF M'.files (nmF 1)), .int .i64 (lenF M'.files (nmF 2)), .int .i64 (lenF M'.files (nmF 3))] : Array Value)[f]? = some (.int .i64 (lenF M'.files (nmF f))) := by
            intro M'
            rcases f with _ | _ | _ | _ | f <;> first | rfl | omega
          have w4 : IntKind.i64.wrap (IntKind.i64.wrap ((usedF M.files : Int) - lenF M.files (nmF f)) + n) = (usedF M.files : Int) - lenF M.files (nmF f) + n := by
            have h1 : IntKind.i64.wrap ((usedF M.files : Int) - lenF M.files (nmF f)) = (usedF M.files : Int) - lenF M.files (nmF f) := wrap_i64 (by omega) (by omega)
            rw [h1, wrap_i64 (by omega) (by omega)]
          have hfl : (f : Int) < 4 := hf4
          cases hft : M.fits (nmF f) (List.replicate n 0) with
          | false =>
            rw [hft] at hfit
            rw [hft] at hwr
            simp only [if_true] at hwr
            have hle : ¬ ((usedF M.files : Int) - lenF M.files (nmF f) + n ≤ k) := of_decide_eq_false hfit.symm
            rw [hwr] at s6 ⊢
            simp -dsimp [harT, hfl, harr6, hcf, w4, hle]
            have k07 : Keep none_ h h6 := by
              refine ⟨by have := k3.size; have := k35.size; have := k56.size; omega, fun b hb _ => ?_⟩
              have := k3.size
              have := k35.size
              rw [k56.blk b (by omega) (fun hf => by have := hF b hf; omega), k35.blk b (by omega) (fun h => h), k3.blk b hb (fun h => h)]
            have hF7 : ∀ b, F6 b → h.size ≤ b := fun b hb => (hF6 b hb).elim (hF b) (fun h => by have := k3.size; have := k35.size; omega)
            have hnF7 : ¬ F6 h2.size := fun hb => (hF6 _ hb).elim hnF (fun h => by have := lt_of_blk harr; have := k35.size; omega)
            have hfa7 : FullAt M k (i + 1) := ⟨hfa.lim, ⟨by have := hsm.used; omega, by have := hsm.files; omega, by have := hsm.trace; omega⟩, hfa.cap, hfa.sum⟩
            have s7 : StAt (.pointer (some ⟨bs, 0, none⟩)) F6 h6 M := s6
            have harr7 := harr6
            have hsm7 := hfa7.small
            have hus7 := hsm7.used
            have hsum7 := hfa7.sum
            have hcap7 := hfa7.cap
            have v1 : IntKind.i64.wrap ((lenF M.files (nmF 0) : Int) + lenF M.files (nmF 1)) = (lenF M.files (nmF 0) : Int) + lenF M.files (nmF 1) := wrap_i64 (by omega) (by omega)
            have v2 : IntKind.i64.wrap ((lenF M.files (nmF 0) : Int) + lenF M.files (nmF 1) + lenF M.files (nmF 2)) = (lenF M.files (nmF 0) : Int) + lenF M.files (nmF 1) + lenF M.files (nmF 2) := wrap_i64 (by omega) (by omega)
            have v3 : IntKind.i64.wrap ((lenF M.files (nmF 0) : Int) + lenF M.files (nmF 1) + lenF M.files (nmF 2) + lenF M.files (nmF 3)) = (usedF M.files : Int) := by
              rw [wrap_i64 (by omega) (by omega)]; omega
            have hgt : ¬ (k < (usedF M.files : Int)) := by omega
            refine drawn_by [⟨0, true, []⟩, ⟨2, true, []⟩, ⟨3, true, []⟩, ⟨4, true, []⟩, ⟨5, true, []⟩, ⟨6, true, []⟩, ⟨7, true, []⟩, ⟨8, true, []⟩, ⟨9, true, []⟩, ⟨10, true, []⟩, ⟨11, true, []⟩, ⟨12, true, []⟩, ⟨1, false, [2, 3, 4, 5, 6, 7, 8, 9, 10, 11, 12]⟩, ⟨13, true, []⟩, ⟨14, true, []⟩, ⟨15, true, []⟩, ⟨17, true, []⟩, ⟨16, false, [17]⟩, ⟨18, true, []⟩, ⟨19, true, []⟩] (by kernel_rfl) (by kernel_rfl) ?_
            simp -dsimp [harr7, v1, v2, v3]
            refine call_by (used_spec s7 (by omega)) ?_
            rintro _ h8 ⟨rfl, k78⟩
            have s8 := s7.keep k78 (fun _ _ h => h)
            have harr8 := k78.at harr7 (fun h => h)
            simp -dsimp [again_cons, harr8, v1, v2, v3]
            refine call_by (used_spec s8 (by omega)) ?_
            rintro _ h9 ⟨rfl, k89⟩
            have s9 := s8.keep k89 (fun _ _ h => h)
            have harr9 := k89.at harr8 (fun h => h)
            have wi : IntKind.i64.wrap ((i : Int) + 1) = ((i + 1 : Nat) : Int) := by rw [wrap_i64 (by omega) (by omega)]; rfl
            simp -dsimp [again_cons, hgt, wi]
            refine ⟨i + 1, ?_, ⟨M, hfa7, by omega, (k07.trans k78 (fun _ _ h => h)).trans k89 (fun _ _ h => h), ⟨F6, s9, hF7, hnF7⟩, harr9⟩, by omega⟩
            intro p hp
            simp at hp
            rcases hp with rfl | rfl | rfl | rfl | rfl <;> simp
          | true =>
            rw [hft] at hfit
            rw [hft] at hwr
            simp only [Bool.true_eq_false, if_false] at hwr
            have hle : ((usedF M.files : Int) - lenF M.files (nmF f) + n ≤ k) := of_decide_eq_true hfit.symm
            rw [hwr] at s6 ⊢
            simp -dsimp [harT, hfl, harr6, hcf, w4, hle]
            have k07 : Keep none_ h h6 := by
              refine ⟨by have := k3.size; have := k35.size; have := k56.size; omega, fun b hb _ => ?_⟩
              have := k3.size
              have := k35.size
              rw [k56.blk b (by omega) (fun hf => by have := hF b hf; omega), k35.blk b (by omega) (fun h => h), k3.blk b hb (fun h => h)]
            have hF7 : ∀ b, F6 b → h.size ≤ b := fun b hb => (hF6 b hb).elim (hF b) (fun h => by have := k3.size; have := k35.size; omega)
            have hnF7 : ¬ F6 h2.size := fun hb => (hF6 _ hb).elim hnF (fun h => by have := lt_of_blk harr; have := k35.size; omega)
            have hf3 : f ≤ 3 := by omega
            have hset : ([Value.int .i64 (lenF M.files (nmF 0)), .int .i64 (lenF M.files (nmF 1)), .int .i64 (lenF M.files (nmF 2)), .int .i64 (lenF M.files (nmF 3))].set f (.int .i64 n)) =
                [Value.int .i64 (lenF (M.wrote (nmF f) (List.replicate n 0)).files (nmF 0)), .int .i64 (lenF (M.wrote (nmF f) (List.replicate n 0)).files (nmF 1)), .int .i64 (lenF (M.wrote (nmF f) (List.replicate n 0)).files (nmF 2)), .int .i64 (lenF (M.wrote (nmF f) (List.replicate n 0)).files (nmF 3))] := by
              simp only [lenF_wrote, hrl]
              clear hcf hlf hfit hwr hle w4 hft s6 hF6 hnm hnok
              rcases f with _ | _ | _ | _ | f
              · rw [if_pos rfl, if_neg (by decide), if_neg (by decide), if_neg (by decide)]; rfl
              · rw [if_neg (by decide), if_pos rfl, if_neg (by decide), if_neg (by decide)]; rfl
              · rw [if_neg (by decide), if_neg (by decide), if_pos rfl, if_neg (by decide)]; rfl
              · rw [if_neg (by decide), if_neg (by decide), if_neg (by decide), if_pos rfl]; rfl
              · omega
            simp -dsimp [hf3, hset]
            generalize hM7 : M.wrote (nmF f) (List.replicate n 0) = M7 at *
            have hput := used_put (x := nmF f) (f := ⟨List.replicate n 0, (M.look (nmF f)).bind (·.sure), false⟩) s5.ok.sorted
            have hpl := length_put (x := nmF f) (f := ⟨List.replicate n 0, (M.look (nmF f)).bind (·.sure), false⟩) (l := M.files)
            have hMf : M7.files = putF (nmF f) ⟨List.replicate n 0, (M.look (nmF f)).bind (·.sure), false⟩ M.files := by rw [← hM7]; rfl
            have hMt : M7.trace = M.trace ++ [(1, nmF f)] := by rw [← hM7]; rfl
            have hMl : M7.limit = k := by rw [← hM7]; exact hfa.lim
            have hlk : ((lookF (nmF f) M.files).map (·.now.length)).getD 0 = lenF M.files (nmF f) := rfl
            rw [← hMf, hlk] at hput
            rw [← hMf] at hpl
            simp only [hrl] at hput
            have hls : ∀ j, j < 4 → lenF M7.files (nmF j) = if f = j then n else lenF M.files (nmF j) := by
              intro j hj
              rw [← hM7, lenF_wrote, hrl]
              by_cases hfj : f = j
              · subst hfj; simp
              · rw [if_neg hfj, if_neg (fun e => hfj (nmF_inj hj hf4' e).symm)]
            have hfa7 : FullAt M7 k (i + 1) := by
              refine ⟨hMl, ⟨by omega, by have := hsm.files; omega, by have := hsm.trace; rw [hMt]; simp; omega⟩, by omega, ?_⟩
              rw [hls 0 (by omega), hls 1 (by omega), hls 2 (by omega), hls 3 (by omega)]
              have hff : f = 0 ∨ f = 1 ∨ f = 2 ∨ f = 3 := by omega
              clear hf hw8 hu8 hnm hnok hcf hset hls
              rcases hff with rfl | rfl | rfl | rfl <;> simp <;> omega
            generalize hH7 : h6.setIfInBounds h2.size _ = h7
            have hl6 := lt_of_blk harr6
            have k67 : Keep none_ h h7 := by rw [← hH7]; exact k07.setted _ (fun hh => absurd hh (by have := k12.size; omega))
            have s7 : StAt (.pointer (some ⟨bs, 0, none⟩)) F6 h7 M7 := s6.mono (by rw [← hH7]; simp) (fun b hb => by rw [← hH7]; exact set_other _ (fun e => hnF7 (e ▸ hb)))
            have harr7 : h7[h2.size]? = some (.cells #[.int .i64 (lenF M7.files (nmF 0)), .int .i64 (lenF M7.files (nmF 1)), .int .i64 (lenF M7.files (nmF 2)), .int .i64 (lenF M7.files (nmF 3))] 27 (0, 0)) := by
              rw [← hH7]; exact set_same _ hl6
            have hsm7 := hfa7.small
            have hus7 := hsm7.used
            have hsum7 := hfa7.sum
            have hcap7 := hfa7.cap
            have v1 : IntKind.i64.wrap ((lenF M7.files (nmF 0) : Int) + lenF M7.files (nmF 1)) = (lenF M7.files (nmF 0) : Int) + lenF M7.files (nmF 1) := wrap_i64 (by omega) (by omega)
            have v2 : IntKind.i64.wrap ((lenF M7.files (nmF 0) : Int) + lenF M7.files (nmF 1) + lenF M7.files (nmF 2)) = (lenF M7.files (nmF 0) : Int) + lenF M7.files (nmF 1) + lenF M7.files (nmF 2) := wrap_i64 (by omega) (by omega)
            have v3 : IntKind.i64.wrap ((lenF M7.files (nmF 0) : Int) + lenF M7.files (nmF 1) + lenF M7.files (nmF 2) + lenF M7.files (nmF 3)) = (usedF M7.files : Int) := by
              rw [wrap_i64 (by omega) (by omega)]; omega
            have hgt : ¬ (k < (usedF M7.files : Int)) := by omega
            refine drawn_by [⟨0, true, []⟩, ⟨2, true, []⟩, ⟨3, true, []⟩, ⟨4, true, []⟩, ⟨5, true, []⟩, ⟨6, true, []⟩, ⟨7, true, []⟩, ⟨8, true, []⟩, ⟨9, true, []⟩, ⟨10, true, []⟩, ⟨11, true, []⟩, ⟨12, true, []⟩, ⟨1, false, [2, 3, 4, 5, 6, 7, 8, 9, 10, 11, 12]⟩, ⟨13, true, []⟩, ⟨14, true, []⟩, ⟨15, true, []⟩, ⟨17, true, []⟩, ⟨16, false, [17]⟩, ⟨18, true, []⟩, ⟨19, true, []⟩] (by kernel_rfl) (by kernel_rfl) ?_
            simp -dsimp [harr7, v1, v2, v3]
            refine call_by (used_spec s7 (by omega)) ?_
            rintro _ h8 ⟨rfl, k78⟩
            have s8 := s7.keep k78 (fun _ _ h => h)
            have harr8 := k78.at harr7 (fun h => h)
            simp -dsimp [again_cons, harr8, v1, v2, v3]
            refine call_by (used_spec s8 (by omega)) ?_
            rintro _ h9 ⟨rfl, k89⟩
            have s9 := s8.keep k89 (fun _ _ h => h)
            have harr9 := k89.at harr8 (fun h => h)
            have wi : IntKind.i64.wrap ((i : Int) + 1) = ((i + 1 : Nat) : Int) := by rw [wrap_i64 (by omega) (by omega)]; rfl
            simp -dsimp [again_cons, hgt, wi]
            refine ⟨i + 1, ?_, ⟨M7, hfa7, by omega, (k67.trans k78 (fun _ _ h => h)).trans k89 (fun _ _ h => h), ⟨F6, s9, hF7, hnF7⟩, harr9⟩, by omega⟩
            intro p hp
            simp at hp
            rcases hp with rfl | rfl | rfl | rfl | rfl <;> simp
      · have e2 : ¬ ((i : Int) < 40) := by omega
        simp -dsimp [hi, e2]
        exact k3
    · simp -dsimp [hi]
      exact k3
end Go.Proofs
