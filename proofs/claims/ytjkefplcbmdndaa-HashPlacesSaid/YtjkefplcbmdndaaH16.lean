/-
  HashPlaces: the law's walk.
-/
import Derived.Test.YtjkefplcbmdndaaH15
namespace Go.Proofs
open Go Go.HC

def cellK (key : List Int) (n : Int) : CellM := ⟨key, n, [], [], []⟩
theorem cellK_small {key : List Int} (n : Int) (h : key.length < 1000000000) : CellSmall (cellK key n) := ⟨h, by simp [cellK], by simp [cellK], by simp [cellK]⟩
theorem newM_small' (n : Nat) : TabSmall (newM n) := fun k d hd => by
  unfold newM at hd
  rw [List.getElem?_replicate] at hd
  split at hd <;> cases hd
theorem within16 {x : Int} (h0 : 0 ≤ x) (h1 : x < 16) : 0 ≤ withinM (x + 1) 16 ∧ withinM (x + 1) 16 < 16 ∧ withinM (x + 1) 16 ≠ x := by
  obtain ⟨q0, q1⟩ := withinM_bound (a := x + 1) (n := 16) (by decide)
  refine ⟨q0, q1, ?_⟩
  unfold withinM
  rw [Int.tmod_eq_emod_of_nonneg (by omega)]
  split <;> omega

set_option maxHeartbeats 40000000 in
set_option maxRecDepth 10000 in
theorem hashPlaces_spec {G : Nat → Prop} {h : Heap} {nv : Value} {ns : List Int} (hn : SlRep rInt G h nv ns) (hG : ∀ b, G b → b < h.size) (slots : Int) :
    CallH Try.prog 9 #[nv, .int .i64 slots] h fun r h' => r = .bool true ∧ Keep none_ h h' := by
  refine callH_by fun K hK => ?_
  refine enter [.tmp 4] Try.func9 rfl rfl (by kernel_rfl) rfl ?_
  obtain ⟨a0, c0, rfl, hc0, hc0'⟩ := hn.val
  simp -dsimp
  refine call_by (hknown_spec h) ?_
  rintro _ h1 ⟨rfl, k1⟩
  simp -dsimp
  refine loop' (σ := Nat × Value) (fun t => [(0, .slice a0 ns.length c0), (1, .int .i64 slots), (5, t.2), (6, .int .i64 t.1)]) (fun _ => [])
    (fun t h2 => Keep none_ h h2 ∧ ∃ ks own, Grow rInt 3 none_ h2 t.2 ks own ∧ ks.length = t.1 ∧ t.1 ≤ 4 ∧ (∀ v ∈ ks, 0 ≤ v ∧ v < 16) ∧ ∀ b, own = some b → h.size ≤ b) (fun t => 4 - t.1) (0, .slice none 0 0) ?_ rfl ⟨k1, [], none, .nil _ _ _ _, rfl, by omega, (fun v hv => by cases hv), fun b hb => by cases hb⟩ (by kernel_rfl) ?_
  · intro p hp
    simp at hp
    rcases hp with rfl | rfl | rfl | rfl <;> simp
  · rintro ⟨i, tv⟩ h2 g ⟨k2, ks, own, hg, hkl, hi4, hkr, ho⟩
    simp only at hkl hi4 hg
    have e2 := k2.size
    obtain ⟨va, vc, rfl⟩ := hg.val
    by_cases hic : i < ns.length ∧ i < 4
    · obtain ⟨hi, hi2⟩ := hic
      have e4 : decide ((i : Int) < 4) = true := by simp; omega
      have hs3 := hn.mono (F' := G) (h' := h2) fun b hb => ⟨hb, k2.blk b (hG b hb) (fun h => h)⟩
      obtain ⟨bk, off, v, rfl, hGb, hrv, hcell⟩ := hs3.get1 rfl i hi
      have hv : v = .int .i64 ns[i] := by simpa [rInt] using hrv
      subst hv
      have hidx : ∀ (K : Value → Heap → Prop) (h : Heap), indexAddrS Try.prog 22 (.slice (some ⟨bk, off, none⟩) ns.length c0) (.int .i64 (i : Int)) h K = K (.pointer (some ⟨bk, off + i, none⟩)) h := by
        intro K h
        rw [indexAddrS_slice _ _ _ _ _ _ (by omega) (by omega) rfl]
        simp [elSz]
      have wi : IntKind.i64.wrap ((i : Int) + 1) = ((i + 1 : Nat) : Int) := by rw [wrap_i64 (by omega) (by omega)]; rfl
      simp -dsimp [hi, e4, hidx, hcell]
      refine call_by (within_spec ns[i] 16 (by decide) (by decide) h2) ?_
      rintro _ h2' ⟨rfl, hh⟩
      obtain rfl := hh.symm
      obtain ⟨q0, q1⟩ := withinM_bound (a := ns[i]) (n := 16) (by decide)
      generalize withinM ns[i] 16 = w at q0 q1 ⊢
      simp -dsimp
      have hps : (h2.push (.cells #[.int .i64 w] 3)).size = h2.size + 1 := by simp
      refine append_grow (F2 := fun b => b = h2.size) (ys := [w]) intT (hg.push (fun _ h => h.elim) _) (fun _ (h : none_ _) => h.elim) rfl
        (.inr ⟨h2.size, 0, _, _, _, rfl, rfl, push_new _ _, rfl⟩) (.single rfl) (by simp; omega) (by simp; omega) ?_
      intro tv' h3 own' hg3 kk3 ho3
      rw [hps] at ho3
      have e3 := kk3.size
      rw [hps] at e3
      simp -dsimp [wi]
      refine ⟨(i + 1, tv'), ?_, rfl, ⟨⟨by omega, fun b hb _ => by rw [kk3.blk b (by omega) (fun e => by have := ho b e; omega), push_old _ (by omega), k2.blk b hb (fun h => h)]⟩, ks ++ [w], own', hg3, by simp [hkl], by show i + 1 ≤ 4; omega, fun v hv => by
        rcases List.mem_append.1 hv with hv | hv
        · exact hkr v hv
        · rw [List.mem_singleton] at hv; subst hv; exact ⟨q0, q1⟩, fun b hb => (ho3 b hb).elim (ho b) (fun h => by omega)⟩, by show 4 - (i + 1) < 4 - i; omega⟩
      intro p hp
      simp at hp
      rcases hp with rfl | rfl | rfl | rfl <;> simp
    · by_cases hi : i < ns.length
      case' pos =>
        have e4 : ¬ ((i : Int) < 4) := by omega
        simp -dsimp [hi, e4]
      case' neg => simp -dsimp [hi]
      all_goals
        by_cases hke : ks.length = 0
        · have hz : ((ks.length : Int) == 0) = true := beq_iff_eq.2 (by omega)
          simp -dsimp only [hz]
          simp -dsimp [hke]
          exact hK _ _ ⟨rfl, k2⟩
        · have hz : ((ks.length : Int) == 0) = false := beq_eq_false_iff_ne.2 (by omega)
          have lo := hg.own_lt
          simp -dsimp only [hz]
          simp -dsimp
          refine call_by (within_spec slots 50 (by decide) (by decide) h2) ?_
          rintro _ h2' ⟨rfl, hh⟩
          obtain rfl := hh.symm
          obtain ⟨hk0, hk50⟩ := withinM_bound (a := slots) (n := 50) (by decide)
          obtain ⟨n, hnn⟩ : ∃ n : Nat, 2 + withinM slots 50 = n := ⟨(2 + withinM slots 50).toNat, by omega⟩
          have hwk : IntKind.i64.wrap (2 + withinM slots 50) = (n : Int) := by rw [wrap_i64 (by omega) (by omega)]; exact hnn
          have hko : KeyOk ks := fun v hv => by have := hkr v hv; omega
          have hp := placeM_lt ks (n := n) (by omega)
          simp -dsimp [hwk]
          refine call_by (hnew_spec n (by omega) h2) ?_
          rintro tvv h3 ⟨F3, t3, k3, n3⟩
          obtain ⟨bs, htv⟩ : ∃ bs, tvv = .pointer (some ⟨bs, 0, none⟩) := by
            obtain ⟨bs, _, _, _, rfl, _⟩ := t3; exact ⟨bs, rfl⟩
          subst htv
          have e3 := k3.size
          have l3 := t3.lt
          have hks3 : SlRep rInt (fun b => own = some b) h3 (.slice va ks.length vc) ks := hg.ints.mono fun b hb => ⟨hb, k3.blk b (lo b hb) (fun h => h)⟩
          simp -dsimp
          refine call_by (place_spec hks3 hko n (by omega) (by omega)) ?_
          rintro _ h3' ⟨rfl, hh⟩
          obtain rfl := hh.symm
          simp -dsimp
          generalize hB : Array.setIfInBounds _ h3.size _ = h4
          have hz4 : h4.size = h3.size + 1 := by rw [← hB]; simp
          have k4 : Keep none_ h3 h4 := by rw [← hB]; exact ((Keep.refl none_ h3).pushed _).setted _ (fun hh => absurd hh (by omega))
          have hc4 : h4[h3.size]? = some (.cells #[.slice va ks.length vc, .int .i64 1, .slice none 0 0, .slice none 0 0, .slice none 0 0] 39 (0, 0)) := by rw [← hB]; exact set_same _ (by simp)
          have hks4 : SlRep rInt (fun b => own = some b) h4 (.slice va ks.length vc) ks := hks3.mono fun b hb => ⟨hb, k4.blk b (by have := lo b hb; omega) (fun h => h)⟩
          have repc : ∀ (h' : Heap) (m : Int), SlRep rInt (fun b => own = some b) h' (.slice va ks.length vc) ks → rCell.rep (fun b => own = some b) h' [.slice va ks.length vc, .int .i64 m, .slice none 0 0, .slice none 0 0, .slice none 0 0] (cellK ks m) := fun h' m hk => ⟨_, _, _, _, rfl, hk, .nil _ _ _, .nil _ _ _, .nil _ _ _⟩
          have t4 := t3.keep k4 (fun _ _ h => h)
          have hksl : ks.length < 1000000000 := by omega
          have hnl : (newM n).length < 1000000000 := by rw [newM_len]; omega
          refine call_by (hput_spec t4 hnl (newM_small' n) (repc h4 1 hks4) (fun b hb => by have := lo b hb; omega) (cellK_small 1 hksl)) ?_
          rintro _ h5 ⟨rfl, F5, t5, k5, n5⟩
          have hp5 : putM (newM n) (cellK ks 1) = some ((newM n).set (placeM ks n) (some (cellK ks 1))) := put_new1 (by omega) (cellK ks 1)
          rw [hp5] at t5 ⊢
          replace t5 : TabAt (.pointer (some ⟨bs, 0, none⟩)) F5 h5 ((newM n).set (placeM ks n) (some (cellK ks 1))) := t5
          have e5 := k5.size
          have hf3 : ∀ b, F3 b → h2.size ≤ b ∧ b < h3.size := fun b hb => ⟨n3 b hb, l3 b hb⟩
          have hf5 : ∀ b, F5 b → (h2.size ≤ b ∧ b < h3.size) ∨ h4.size ≤ b := fun b hb => (n5 b hb).imp (hf3 b) id
          have hc5 := k5.at hc4 (fun hf => by have := hf3 _ hf; omega)
          have hks5 : SlRep rInt (fun b => own = some b) h5 (.slice va ks.length vc) ks := hks4.mono fun b hb => ⟨hb, k5.blk b (by have := lo b hb; omega) (fun hf => by have := hf3 _ hf; have := lo b hb; omega)⟩
          have hsm5 : TabSmall ((newM n).set (placeM ks n) (some (cellK ks 1))) := put_small (newM_small' n) (cellK_small 1 hksl) hp5
          have hl5 : ((newM n).set (placeM ks n) (some (cellK ks 1))).length < 1000000000 := by rw [List.length_set]; exact hnl
          simp -dsimp [hc5]
          refine call_by (hput_spec t5 hl5 hsm5 (repc h5 1 hks5) (fun b hb => by have := lo b hb; omega) (cellK_small 1 hksl)) ?_
          rintro _ h6 ⟨rfl, F6, t6, k6, n6⟩
          have hjn : joinC (cellK ks 1) (cellK ks 1) = cellK ks 2 := rfl
          have hp6 : putM ((newM n).set (placeM ks n) (some (cellK ks 1))) (cellK ks 1) = some ((newM n).set (placeM ks n) (some (cellK ks 2))) := by
            have := put_again (n := n) (by omega) (cellK ks 1) (cellK ks 1) rfl
            rw [hjn] at this
            exact this
          have hsm6 := put_small hsm5 (cellK_small 1 hksl) hp6
          rw [hp6] at t6 ⊢
          replace t6 : TabAt (.pointer (some ⟨bs, 0, none⟩)) F6 h6 ((newM n).set (placeM ks n) (some (cellK ks 2))) := t6
          have e6 := k6.size
          have hf6 : ∀ b, F6 b → (h2.size ≤ b ∧ b < h3.size) ∨ h4.size ≤ b := fun b hb => (n6 b hb).elim (hf5 b) (fun h => .inr (by omega))
          have hks6 : SlRep rInt (fun b => own = some b) h6 (.slice va ks.length vc) ks := hks5.mono fun b hb => ⟨hb, k6.blk b (by have := lo b hb; omega) (fun hf => by have := hf5 _ hf; have := lo b hb; omega)⟩
          have htk6 : takenM ((newM n).set (placeM ks n) (some (cellK ks 2))) = 1 := by rw [← cells_len, cells_one hp]; rfl
          have k06 : Keep none_ h h6 := ⟨by omega, fun b hb _ => by rw [k6.blk b (by omega) (fun hf => by have := hf5 b hf; omega), k5.blk b (by omega) (fun hf => by have := hf3 b hf; omega), k4.blk b (by omega) (fun h => h), k3.blk b (by omega) (fun h => h), k2.blk b hb (fun h => h)]⟩
          simp -dsimp
          refine call_by (len_spec t6) ?_
          rintro _ h6' ⟨rfl, hh⟩
          obtain rfl := hh.symm
          rw [htk6]
          simp -dsimp
          obtain ⟨a6, c6', news6, hv6, hq1, hq2, hq3, hq4⟩ := hks6
          cases hv6
          refine clone_cells (F := none_) (F2 := fun b => own = some b) (xs := ks) intT (fun _ h => h.elim) (fun b hb => by have := lo b hb; omega) rfl hq3 (ints_map.2 (ints_map.1 hq4)) (by omega) (by omega) ?_
          intro ov h7 own7 hg7 k7 ho7 hz7
          obtain ⟨oa, oc, rfl⟩ := hg7.val
          have lo7 := hg7.own_lt
          have t7 := t6.keep k7 (fun _ _ h => h)
          have hpos : 0 < ks.length := by omega
          obtain ⟨r0, r1⟩ := hkr ks[0] (List.getElem_mem hpos)
          obtain ⟨w0, w16, wne⟩ := within16 r0 r1
          obtain ⟨bk7, oc', o7, hv7, how7, hwr7, hg8⟩ := hg7.setE (i := 0) (x := withinM (ks[0] + 1) 16) (news := [.int .i64 (withinM (ks[0] + 1) 16)]) hpos rfl
          have hoa : oa = some ⟨bk7, 0, none⟩ := by simp at hv7; exact hv7.1
          subst hoa
          obtain ⟨bk8, off8, v8, he8, _, hrv8, hcell8⟩ := hg7.ints.get1 rfl 0 hpos
          have he8' : bk7 = bk8 ∧ 0 = off8 := by simpa using he8
          obtain ⟨rfl, rfl⟩ := he8'
          have hv8 : v8 = .int .i64 ks[0] := by simpa [rInt] using hrv8
          subst hv8
          have hidx0 : ∀ (K : Value → Heap → Prop) (h : Heap), indexAddrS Try.prog 22 (.slice (some ⟨bk7, 0, none⟩) ks.length oc) (.int .i64 0) h K = K (.pointer (some ⟨bk7, 0, none⟩)) h := by
            intro K h
            rw [indexAddrS_slice (i := 0) _ _ _ _ _ (by omega) (by omega) rfl]
            simp [elSz]
          have hwr7' : writeIn h7[bk7]? 0 [.int .i64 (withinM (ks[0] + 1) 16)] = some o7 := by
            have : 0 * rInt.sz = 0 := rfl
            rw [this] at hwr7
            exact hwr7
          have hw1 : IntKind.i64.wrap (ks[0] + 1) = ks[0] + 1 := wrap_i64 (by omega) (by omega)
          rw [Nat.zero_add] at hcell8
          simp -dsimp [hidx0, hcell8, hw1]
          refine call_by (within_spec (ks[0] + 1) 16 (by decide) (by decide) h7) ?_
          rintro _ h7' ⟨rfl, hh⟩
          obtain rfl := hh.symm
          simp -dsimp [hidx0, hwr7']
          obtain rfl : own7 = some bk7 := how7
          generalize hH8 : h7.setIfInBounds bk7 o7 = h8 at hg8 ⊢
          have hz8 : h8.size = h7.size := by rw [← hH8]; simp
          have hold8 : ∀ b, b ≠ bk7 → h8[b]? = h7[b]? := fun b hn => by rw [← hH8, set_other _ (fun e => hn e.symm)]
          have hb7 := ho7 bk7 rfl
          have lb7 := lo7 bk7 rfl
          have l6 := t6.lt
          have t8 := t7.mono (h' := h8) (by omega) fun b hb => hold8 b (fun e => by have := l6 b hb; omega)
          have k08 : Keep none_ h h8 := ⟨by omega, fun b hb _ => by rw [hold8 b (by omega), k7.blk b (by omega) (fun h => h), k06.blk b hb (fun h => h)]⟩
          have hos : SlRep rInt (fun b => some bk7 = some b) h8 (.slice (some ⟨bk7, 0, none⟩) ks.length oc) (ks.set 0 (withinM (ks[0] + 1) 16)) := hg8.ints
          have hosl : (ks.set 0 (withinM (ks[0] + 1) 16)).length = ks.length := List.length_set
          have hos0 : ks ≠ ks.set 0 (withinM (ks[0] + 1) 16) := fun e => by
            have h1 : (ks.set 0 (withinM (ks[0] + 1) 16))[0]? = some (withinM (ks[0] + 1) 16) := by rw [List.getElem?_set_self hpos]
            rw [← e, List.getElem?_eq_getElem hpos] at h1
            simp only [Option.some.injEq] at h1
            exact wne h1.symm
          have hoko : KeyOk (ks.set 0 (withinM (ks[0] + 1) 16)) := fun v hv => by
            rcases List.mem_or_eq_of_mem_set hv with hv | rfl
            · exact hko v hv
            · omega
          generalize ks.set 0 (withinM (ks[0] + 1) 16) = os at hos hosl hos0 hoko hg8
          rw [← hosl] at hos
          have hrd : rCell.rep (fun b => some bk7 = some b) h8 [.slice (some ⟨bk7, 0, none⟩) os.length oc, .int .i64 7, .slice none 0 0, .slice none 0 0, .slice none 0 0] (cellK os 7) := ⟨_, _, _, _, rfl, hos, .nil _ _ _, .nil _ _ _, .nil _ _ _⟩
          obtain ⟨hp9, hq, hqp⟩ := put_other (n := n) (by omega) (cellK ks 2) (cellK os 7) hos0 hp
          have hdk : (cellK os 7).key = os := rfl
          rw [hdk] at hp9 hq hqp
          have hl6 : ((newM n).set (placeM ks n) (some (cellK ks 2))).length < 1000000000 := by rw [List.length_set]; exact hnl
          rw [← hosl]
          refine call_by (hput_spec t8 hl6 hsm6 hrd (fun b hb => by cases hb; omega) (cellK_small 7 (by omega))) ?_
          rintro _ h9 ⟨rfl, F9, t9, k9, n9⟩
          have hsm9 := put_small hsm6 (cellK_small 7 (by omega)) hp9
          rw [hp9] at t9 ⊢
          have e9 := k9.size
          have hbf : ¬ F6 bk7 := fun hf => by have := l6 _ hf; omega
          have hos9 : SlRep rInt (fun b => some bk7 = some b) h9 (.slice (some ⟨bk7, 0, none⟩) os.length oc) os := hos.mono fun b hb => ⟨hb, by cases hb; exact k9.blk bk7 (by omega) hbf⟩
          have hf6' : ∀ b, F6 b → h.size ≤ b := fun b hb => by have := hf6 b hb; omega
          have k09 : Keep none_ h h9 := ⟨by omega, fun b hb _ => by rw [k9.blk b (by omega) (fun hf => by have := hf6' b hf; omega), k08.blk b hb (fun h => h)]⟩
          have hl9 : (((newM n).set (placeM ks n) (some (cellK ks 2))).set (nextP (placeM ks n) n os) (some (cellK os 7))).length < 1000000000 := by rw [List.length_set]; exact hl6
          replace t9 : TabAt (.pointer (some ⟨bs, 0, none⟩)) F9 h9 (((newM n).set (placeM ks n) (some (cellK ks 2))).set (nextP (placeM ks n) n os) (some (cellK os 7))) := t9
          simp -dsimp
          refine call_by (hcells_spec t9 hl9 hsm9) ?_
          rintro _ h10 ⟨E, own10, hg10, k10, hE10, ho10⟩
          rw [cells_two hp hq hqp] at hg10
          have hos10 := hos9.mono (F' := fun b => some bk7 = some b) (h' := h10) fun b hb => ⟨hb, by cases hb; exact k10.blk bk7 (by omega) (fun h => h)⟩
          have k010 := k09.trans k10 (fun _ _ h => h)
          have hnp : nextP (placeM ks n) n os = if placeM os n = placeM ks n then (placeM ks n + 1) % n else placeM os n := rfl
          generalize nextP (placeM ks n) n os = q at hg10 hq hqp hnp
          generalize hpe : placeM ks n = p at hg10 hp hqp hnp ⊢
          obtain ⟨x, y, hxy, hcx, hcy⟩ : ∃ x y : CellM, (if p < q then [cellK ks 2, cellK os 7] else [cellK os 7, cellK ks 2]) = [x, y] ∧ (x.count == 2) = decide ((p : Int) < q) ∧ (y.count == 2) = decide ((q : Int) < p) := by
            by_cases hpq : p < q
            · exact ⟨cellK ks 2, cellK os 7, by rw [if_pos hpq], (decide_eq_true (by omega)).symm, (decide_eq_false (by omega)).symm⟩
            · exact ⟨cellK os 7, cellK ks 2, by rw [if_neg hpq], (decide_eq_false (by omega)).symm, (decide_eq_true (by omega)).symm⟩
          rw [hxy] at hg10
          obtain ⟨la, lc, rfl⟩ := hg10.val
          obtain ⟨b1, cs1, rfl, ho1, hr1, hcc1⟩ := hg10.elem 0 (by simp)
          obtain ⟨b2, cs2, hb12, ho2, hr2, hcc2⟩ := hg10.elem 1 (by simp)
          simp only [Option.some.injEq, Addr.mk.injEq, and_true] at hb12
          subst hb12
          obtain ⟨_, _, _, _, rfl, _⟩ := hr1
          obtain ⟨_, _, _, _, rfl, _⟩ := hr2
          have hx1 : cellIn h10[b1]? 1 = some (.int .i64 x.count) := by
            have := cellsIn_cell (d := 1) hcc1 (show 1 < 5 from by decide)
            exact this
          have hy1 : cellIn h10[b1]? 6 = some (.int .i64 y.count) := by
            have := cellsIn_cell (d := 1) hcc2 (show 1 < 5 from by decide)
            exact this
          have hix0 : ∀ (K : Value → Heap → Prop) (h : Heap), indexAddrS Try.prog 29 (.slice (some ⟨b1, 0, none⟩) 2 lc) (.int .i64 0) h K = K (.pointer (some ⟨b1, 0, none⟩)) h := by
            intro K h
            rw [indexAddrS_slice (i := 0) _ _ _ _ _ (by omega) (by omega) rfl]
            simp [elSz]
          have hix1 : ∀ (K : Value → Heap → Prop) (h : Heap), indexAddrS Try.prog 29 (.slice (some ⟨b1, 0, none⟩) 2 lc) (.int .i64 1) h K = K (.pointer (some ⟨b1, 5, none⟩)) h := by
            intro K h
            rw [indexAddrS_slice (i := 1) _ _ _ _ _ (by omega) (by omega) rfl]
            simp [elSz]
          have hrem : ∀ x : Int, intRes .rem .i64 x (n : Int) = some (.int .i64 (x.tmod n)) := fun x => intRes_rem _ _ _ (by omega)
          have hwp : IntKind.i64.wrap ((p : Int) + 1) = (p : Int) + 1 := wrap_i64 (by omega) (by omega)
          have hwm : ((p : Int) + 1).tmod (n : Int) = (((p + 1) % n : Nat) : Int) := (Int.ofNat_tmod (p + 1) n).symm
          simp -dsimp
          refine call_by (place_spec hos10 hoko n (by omega) (by omega)) ?_
          rintro _ h10' ⟨rfl, hh⟩
          obtain rfl := hh.symm
          by_cases he : placeM os n = p
          · rw [if_pos he] at hnp
            have hee : ((placeM os n : Int) == (p : Int)) = true := beq_iff_eq.2 (by omega)
            rw [← hnp] at hwm
            simp -dsimp [hee, hwp, hrem, hwm, hix0, hx1, hix1, hy1, hcx, hcy]
            exact hK _ _ ⟨rfl, k010⟩
          · rw [if_neg he] at hnp
            have hee : ((placeM os n : Int) == (p : Int)) = false := beq_eq_false_iff_ne.2 (by omega)
            rw [← hnp] at hee ⊢
            simp -dsimp [hee, hix0, hx1, hix1, hy1, hcx, hcy]
            exact hK _ _ ⟨rfl, k010⟩
end Go.Proofs
