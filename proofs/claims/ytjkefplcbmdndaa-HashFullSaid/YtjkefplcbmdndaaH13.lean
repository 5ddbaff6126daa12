/-
  HashFull: the law's walk.
-/
import Derived.Test.YtjkefplcbmdndaaH12
namespace Go.Proofs
open Go Go.HC

abbrev rKey : Rp (List Int) := rSlice rInt
theorem keyT : ElemT Try.prog 50 22 rKey 24 := ⟨Try.elS50, Try.szS22, Try.byS22, _, Try.zS22, rfl⟩
theorem TabAt.ok {v : Value} {F : Nat → Prop} {h : Heap} {T : Tab} (s : TabAt v F h T) : TabOk T := by
  obtain ⟨_, _, _, _, _, _, s⟩ := s
  exact s.ok
def cell2 (a b : Int) : CellM := ⟨[a, b], 1, [], [], []⟩
theorem cell2_small (a b : Int) : CellSmall (cell2 a b) := ⟨by simp [cell2], by simp [cell2], by simp [cell2], by simp [cell2]⟩
theorem newM_small (n : Nat) : TabSmall (newM n) := fun k d hd => by
  unfold newM at hd
  rw [List.getElem?_replicate] at hd
  split at hd <;> cases hd
/-- What the law's loop holds. -/
structure FullAt (h h1 : Heap) (bs k : Nat) (T : Tab) (kv : Value) (keys : List (List Int)) (R : Nat → Prop) (own : Option Nat) (F : Nat → Prop) : Prop where
  keep : Keep none_ h h1
  ks : Grow rKey 22 R h1 kv keys own
  rR : ∀ b, R b → h.size ≤ b ∧ b < h1.size ∧ ¬ F b
  ro : ∀ b, own = some b → h.size ≤ b ∧ ¬ F b
  tab : TabAt (.pointer (some ⟨bs, 0, none⟩)) F h1 T
  rF : ∀ b, F b → h.size ≤ b
  len : T.length = k
  small : TabSmall T
  taken : takenM T = keys.length
  mem : ∀ x, x ∈ keysM T ↔ x ∈ keys

set_option maxHeartbeats 40000000 in
set_option maxRecDepth 10000 in
theorem hashFull_spec {G : Nat → Prop} {h : Heap} {nv : Value} {ns : List Int} (slots : Int) (hn : SlRep rInt G h nv ns) (hG : ∀ b, G b → b < h.size) :
    CallH Try.prog 5 #[.int .i64 slots, nv] h fun r h' => r = .bool true ∧ Keep none_ h h' := by
  refine callH_by fun K hK => ?_
  refine enter [.tmp 4] Try.func5 rfl rfl (by kernel_rfl) rfl ?_
  obtain ⟨a0, c0, rfl, hc0, hc0'⟩ := hn.val
  simp -dsimp
  refine call_by (hknown_spec h) ?_
  rintro _ h1 ⟨rfl, k1⟩
  simp -dsimp
  refine call_by (within_spec slots 40 (by decide) (by decide) h1) ?_
  rintro _ h1' ⟨rfl, hh⟩
  obtain rfl := hh.symm
  obtain ⟨hk0, hk40⟩ := withinM_bound (a := slots) (n := 40) (by decide)
  obtain ⟨k, hk⟩ : ∃ k : Nat, 1 + withinM slots 40 = k := ⟨(1 + withinM slots 40).toNat, by omega⟩
  have hwk : IntKind.i64.wrap (1 + withinM slots 40) = (k : Int) := by rw [wrap_i64 (by omega) (by omega)]; exact hk
  simp -dsimp [hwk]
  refine call_by (hnew_spec k (by omega) h1) ?_
  rintro tv h2 ⟨F2, t2, k2, n2⟩
  obtain ⟨bs, htv⟩ : ∃ bs, tv = .pointer (some ⟨bs, 0, none⟩) := by
    obtain ⟨bs, _, _, _, rfl, _⟩ := t2; exact ⟨bs, rfl⟩
  subst htv
  have k12 := k1.trans k2 (fun _ _ h => h)
  have e1 := k1.size
  simp -dsimp
  refine loop' (σ := Nat × Tab × Value) (fun t => [(1, .slice a0 ns.length c0), (5, .int .i64 k), (6, .pointer (some ⟨bs, 0, none⟩)), (7, t.2.2), (8, .int .i64 t.1)]) (fun _ => [])
    (fun t h3 => t.1 ≤ 90 ∧ ∃ keys R own F, FullAt h h3 bs k t.2.1 t.2.2 keys R own F)
    (fun t => 90 - t.1) (0, newM k, .slice none 0 0) ?_ rfl ⟨by omega, [], none_, none, F2, k12, .nil _ _ _ _, (fun b hb => hb.elim), (fun b hb => by cases hb), t2, (fun b hb => by have := n2 b hb; omega), List.length_replicate, newM_small k, newM_taken k, fun x => by
      rw [mem_keys]
      constructor
      · rintro ⟨j, c, hc, _⟩
        unfold newM at hc
        rw [List.getElem?_replicate] at hc
        split at hc <;> cases hc
      · intro hx; cases hx⟩ (by kernel_rfl) ?_
  · intro p hp
    simp at hp
    rcases hp with rfl | rfl | rfl | rfl | rfl <;> simp
  · rintro ⟨i, T, kv⟩ h3 g ⟨hi90, keys, R, own, F, fa⟩
    simp only at hi90 fa
    obtain ⟨k3, hks, rR, ro, t3, rF, hTl, hsm, htk, hmem⟩ := fa
    have e3 := k3.size
    have htl := taken_le T
    obtain ⟨va, vc, rfl⟩ := hks.val
    have lo := hks.own_lt
    have lF := t3.lt
    by_cases hic : i < ns.length ∧ i < 90
    · obtain ⟨hi, hi2⟩ := hic
      have e2 : decide ((i : Int) < 90) = true := by simp; omega
      have hs3 := hn.mono (F' := G) (h' := h3) fun b hb => ⟨hb, k3.blk b (hG b hb) (fun h => h)⟩
      obtain ⟨bk, off, v, rfl, hGb, hrv, hcell⟩ := hs3.get1 rfl i hi
      have hv : v = .int .i64 ns[i] := by simpa [rInt] using hrv
      subst hv
      have hidx : ∀ sz ar kk, idxV sz ar (.slice (some ⟨bk, off, none⟩) ns.length c0) (.int kk (i : Int)) = sz.map fun s => .pointer (some ⟨bk, off + i * s, none⟩) := by
        intro sz ar kk
        rw [idxV_slice (by omega) (by omega) rfl]
        simp
      have wi : IntKind.i64.wrap ((i : Int) + 1) = ((i + 1 : Nat) : Int) := by rw [wrap_i64 (by omega) (by omega)]; rfl
      simp -dsimp [hi, e2]
      refine drawn_by [⟨0, true, []⟩, ⟨1, true, []⟩, ⟨2, true, []⟩, ⟨3, true, []⟩, ⟨5, true, []⟩, ⟨6, true, []⟩, ⟨7, true, []⟩, ⟨8, true, []⟩, ⟨9, true, []⟩, ⟨4, false, [5, 6, 7, 8, 9]⟩, ⟨10, false, []⟩, ⟨11, false, []⟩, ⟨12, true, []⟩] (by kernel_rfl) (by kernel_rfl) ?_
      simp -dsimp [hidx, hcell, elSz]
      refine call_by (within_spec ns[i] 16 (by decide) (by decide) h3) ?_
      rintro _ h3' ⟨rfl, hh⟩
      obtain rfl := hh.symm
      generalize withinM ns[i] 16 = a
      simp -dsimp [again_cons, hidx, hcell, elSz]
      generalize IntKind.i64.wrap ((ns[i]).tdiv 16) = q
      refine call_by (within_spec q 16 (by decide) (by decide) h3) ?_
      rintro _ h3' ⟨rfl, hh⟩
      obtain rfl := hh.symm
      generalize withinM q 16 = b
      simp -dsimp
      generalize hB : h3.push _ = h4
      have hz4 : h4.size = h3.size + 1 := by rw [← hB]; simp
      have k34 : Keep none_ h3 h4 := by rw [← hB]; exact .push _ _ _
      have hb4 : h4[h3.size]? = some (.cells #[.int .i64 a, .int .i64 b] 3 (0, 0)) := by rw [← hB]; exact push_new _ _
      have hkey : SlRep rInt (fun x => x = h3.size) h4 (.slice (some ⟨h3.size, 0, none⟩) 2 2) [a, b] := ⟨_, 2, _, rfl, Nat.le_refl _, by decide, .inr ⟨h3.size, 0, _, _, _, rfl, rfl, hb4, rfl⟩, ints_map.2 rfl⟩
      have hks4 : Grow rKey 22 R h4 (.slice va keys.length vc) keys own := hks.mono (fun c hc => ⟨hc, k34.blk c (rR c hc).2.1 (fun h => h)⟩) fun c hc => ⟨fun hRc => by
        rcases hks with ⟨_, _, rfl⟩ | ⟨_, _, _, _, _, rfl, _, hn, _⟩
        · cases hc
        · cases hc; exact hn hRc, k34.blk c (lo c hc) (fun h => h)⟩
      have t4 := t3.keep k34 (fun _ _ h => h)
      refine loop' (σ := Nat) (fun j => [(1, .slice (some ⟨bk, off, none⟩) ns.length c0), (5, .int .i64 k), (6, .pointer (some ⟨bs, 0, none⟩)), (7, .slice va keys.length vc), (8, .int .i64 i), (9, .slice (some ⟨h3.size, 0, none⟩) 2 2), (10, .bool (decide ([a, b] ∈ keys.take j))), (11, .int .i64 j)]) (fun _ => [])
        (fun j h' => h' = h4 ∧ j ≤ keys.length) (fun j => keys.length - j) 0 ?_ rfl ⟨rfl, Nat.zero_le _⟩ (by kernel_rfl) ?_
      · intro p hp
        simp at hp
        rcases hp with rfl | rfl | rfl | rfl | rfl | rfl | rfl | rfl <;> simp
      · rintro j h' g ⟨hhe, hjk⟩
        subst hhe
        by_cases hj : j < keys.length
        · have wj : IntKind.i64.wrap ((j : Int) + 1) = ((j + 1 : Nat) : Int) := by rw [wrap_i64 (by omega) (by omega)]; rfl
          have htake : keys.take (j + 1) = keys.take j ++ [keys[j]] := by rw [List.take_add_one, List.getElem?_eq_getElem hj]; rfl
          by_cases hth : [a, b] ∈ keys.take j
          · have hd : decide ([a, b] ∈ keys.take j) = true := decide_eq_true hth
            have hd' : decide ([a, b] ∈ keys.take (j + 1)) = true := decide_eq_true (by rw [htake]; exact List.mem_append.2 (.inl hth))
            simp -dsimp only [hd]
            simp -dsimp [hj, wj]
            refine ⟨j + 1, ?_, rfl, ⟨rfl, by omega⟩, by show keys.length - (j + 1) < keys.length - j; omega⟩
            simp -dsimp only [hd']
            intro p hp
            simp at hp
            rcases hp with rfl | rfl | rfl | rfl | rfl | rfl | rfl | rfl <;> simp
          · have hd : decide ([a, b] ∈ keys.take j) = false := decide_eq_false hth
            obtain ⟨kb, kcs, rfl, hkown, hkr, hkc⟩ := hks4.elem j hj
            obtain ⟨kv1, rfl, hkv1⟩ := hkr
            have hkc' : cellIn h'[kb]? j = some kv1 := by
              have := cellsIn_cell (d := 0) hkc (show 0 < 1 from by decide)
              have h2 : j * rKey.sz + 0 = j := by show j * 1 + 0 = j; omega
              rw [h2] at this
              exact this
            obtain ⟨xa, xc, rfl, _, _⟩ := hkv1.val
            have hidk : ∀ (K : Value → Heap → Prop) (h : Heap), indexAddrS Try.prog 50 (.slice (some ⟨kb, 0, none⟩) keys.length vc) (.int .i64 (j : Int)) h K = K (.pointer (some ⟨kb, j, none⟩)) h := by
              intro K h
              rw [indexAddrS_slice _ _ _ _ _ _ (by omega) (by omega) rfl]
              simp [elSz]
            simp -dsimp only [hd]
            simp -dsimp [hj, hidk, hkc']
            refine call_by (rless_spec hkv1 hkey) ?_
            rintro _ h'' ⟨rfl, hh⟩
            obtain rfl := hh.symm
            have hd' : (lessM keys[j] [a, b] == 0) = decide ([a, b] ∈ keys.take (j + 1)) := by
              rw [htake]
              have h1 : ([a, b] ∈ keys.take j ++ [keys[j]]) ↔ keys[j] = [a, b] := by
                simp only [List.mem_append, List.mem_singleton]
                exact ⟨fun h => h.elim (fun h => absurd h hth) (fun h => h.symm), fun h => .inr h.symm⟩
              by_cases he : keys[j] = [a, b]
              · rw [decide_eq_true (h1.2 he), lessM_zero.2 he]; rfl
              · rw [decide_eq_false (fun h => he (h1.1 h))]
                exact beq_eq_false_iff_ne.2 fun h => he (lessM_zero.1 h)
            simp -dsimp [wj]
            refine ⟨j + 1, ?_, rfl, ⟨rfl, by omega⟩, by show keys.length - (j + 1) < keys.length - j; omega⟩
            intro p hp
            simp -dsimp only [← hd'] at hp
            simp at hp
            rcases hp with rfl | rfl | rfl | rfl | rfl | rfl | rfl | rfl <;> simp
        · have hall : keys.take j = keys := List.take_of_length_le (by omega)
          have hcr : rCell.rep (fun x => x = h3.size) h' [.slice (some ⟨h3.size, 0, none⟩) 2 2, .int .i64 1, .slice none 0 0, .slice none 0 0, .slice none 0 0] (cell2 a b) := ⟨_, _, _, _, rfl, hkey, .nil _ _ _, .nil _ _ _, .nil _ _ _⟩
          have hgo := put_goes (T := T) (cell2 a b)
          have hck : (cell2 a b).key = [a, b] := rfl
          rw [hck, hmem, htk, hTl] at hgo
          have hTok := t4.ok
          have k04 := k3.trans k34 (fun _ _ h => h)
          have l4 := t4.lt
          have hput := hput_spec t4 (by omega) hsm hcr (fun c hc => by omega) (cell2_small a b)
          rw [hall]
          simp -dsimp [hj]
          refine call_by hput ?_
          rintro _ h5 ⟨rfl, F5, t5, k5, n5⟩
          have e5 := k5.size
          have k05 : Keep none_ h h5 := ⟨by omega, fun c hc _ => by rw [k5.blk c (by omega) (fun hf => by have := rF c hf; omega), k04.blk c hc (fun h => h)]⟩
          have hF5 : ∀ c, F5 c → h.size ≤ c := fun c hc => (n5 c hc).elim (rF c) (fun h => by omega)
          have rR5 : ∀ c, R c → ¬ F5 c := fun c hc hf => (n5 c hf).elim (rR c hc).2.2 (fun h => by have := (rR c hc).2.1; omega)
          have ro5 : ∀ c, own = some c → ¬ F5 c := fun c hc hf => (n5 c hf).elim (ro c hc).2 (fun h => by have := lo c hc; omega)
          have lks := hks4.own_lt
          have hks5 : Grow rKey 22 R h5 (.slice va keys.length vc) keys own := hks4.mono (fun c hc => ⟨hc, k5.blk c (by have := (rR c hc).2.1; omega) (rR c hc).2.2⟩) fun c hc => ⟨fun hRc => by
            rcases hks with ⟨_, _, rfl⟩ | ⟨_, _, _, _, _, rfl, _, hn, _⟩
            · cases hc
            · cases hc; exact hn hRc, k5.blk c (lks c hc) (ro c hc).2⟩
          have hnk : ¬ F h3.size := fun hf => by have := lF _ hf; omega
          have hnk5 : ¬ F5 h3.size := fun hf => (n5 _ hf).elim hnk (fun h => by omega)
          have hb5 : h5[h3.size]? = some (.cells #[.int .i64 a, .int .i64 b] 3 (0, 0)) := k5.at hb4 hnk
          by_cases hin : [a, b] ∈ keys
          · have hd : decide ([a, b] ∈ keys) = true := decide_eq_true hin
            have hsome := hgo.2 (.inl hin)
            obtain ⟨T5, hT5⟩ := Option.isSome_iff_exists.1 hsome
            rw [hT5] at t5 ⊢
            obtain ⟨hok5, htk5, hmem5⟩ := put_ok hTok hT5
            rw [hck, if_pos ((hmem _).2 hin)] at htk5
            have hlen5 := put_len hT5
            rw [hd]
            simp -dsimp
            refine call_by (len_spec t5) ?_
            rintro _ h5' ⟨rfl, hh⟩
            obtain rfl := hh.symm
            have hT5k : takenM T5 = keys.length := htk5.trans htk
            have htk6 : takenM ((some T5).getD T) = keys.length := hT5k
            rw [htk6]
            simp -dsimp [wi]
            refine ⟨(i + 1, T5, .slice va keys.length vc), ?_, rfl, ⟨by show i + 1 ≤ 90; omega, keys, R, own, F5, k05, hks5, fun c hc => ⟨(rR c hc).1, by have := (rR c hc).2.1; omega, rR5 c hc⟩, fun c hc => ⟨(ro c hc).1, ro5 c hc⟩, t5, hF5, hlen5.trans hTl, put_small hsm (cell2_small a b) hT5, hT5k, fun x => by
              rw [hmem5, hmem, hck]
              exact ⟨fun h => h.elim (fun e => e ▸ hin) id, .inr⟩⟩, by show 90 - (i + 1) < 90 - i; omega⟩
            intro p hp
            simp at hp
            rcases hp with rfl | rfl | rfl | rfl | rfl <;> simp
          · have hd : decide ([a, b] ∈ keys) = false := decide_eq_false hin
            rw [hd]
            by_cases hroom : keys.length < k
            · have hsome := hgo.2 (.inr hroom)
              obtain ⟨T5, hT5⟩ := Option.isSome_iff_exists.1 hsome
              rw [hT5] at t5 ⊢
              obtain ⟨hok5, htk5, hmem5⟩ := put_ok hTok hT5
              rw [hck, if_neg (fun h => hin ((hmem _).1 h))] at htk5
              have hlen5 := put_len hT5
              have hT5k : takenM T5 = keys.length + 1 := by rw [htk5, htk]
              simp -dsimp [hroom]
              refine append_grow (F := fun c => R c ∨ c = h3.size) (F2 := fun c => c = h5.size) (ys := [[a, b]]) keyT ((hks5.mono (F' := fun c => R c ∨ c = h3.size) (h' := h5) (fun c hc => ⟨.inl hc, rfl⟩) fun c hc => ⟨fun hRc => by
                  rcases hRc with hRc | hRc
                  · rcases hks with ⟨_, _, rfl⟩ | ⟨_, _, _, _, _, rfl, _, hn, _⟩
                    · cases hc
                    · cases hc; exact hn hRc
                  · have := lo c hc; omega, rfl⟩).push (fun c hc => hc.elim (fun h => by have := (rR c h).2.1; omega) (fun h => by omega)) (.cells #[.slice (some ⟨h3.size, 0, none⟩) 2 2] 22)) (fun c hc => by
                  have : (h5.push (.cells #[.slice (some ⟨h3.size, 0, none⟩) 2 2] 22)).size = h5.size + 1 := by simp
                  exact hc.elim (fun h => by have := (rR c h).2.1; omega) (fun h => by omega)) rfl
                (.inr ⟨h5.size, 0, _, _, _, rfl, rfl, push_new _ _, rfl⟩) (.single ⟨_, rfl, ⟨_, 2, _, rfl, Nat.le_refl _, by decide, .inr ⟨h3.size, 0, _, _, _, rfl, .inr rfl, (push_old _ (by omega)).trans hb5, rfl⟩, ints_map.2 rfl⟩⟩) (by simp; omega) (by simp; omega) ?_
              intro kv6 h6 own6 hg6 k6 ho6
              have hps : (h5.push (.cells #[.slice (some ⟨h3.size, 0, none⟩) 2 2] 22)).size = h5.size + 1 := by simp
              rw [hps] at ho6
              have e6 := k6.size
              rw [hps] at e6
              have hblk : ∀ c, c < h5.size → own ≠ some c → h6[c]? = h5[c]? := fun c hc hn => by rw [k6.blk c (by omega) hn, push_old _ hc]
              have t6 := t5.mono (h' := h6) (by omega) fun c hc => hblk c (t5.lt c hc) (fun e => ro5 c e hc)
              obtain ⟨xa, xc, hkv6⟩ := hg6.val
              have hl6 : (keys ++ [[a, b]]).length = keys.length + 1 := by simp
              rw [hl6] at hkv6
              subst hkv6
              simp -dsimp
              refine call_by (len_spec t6) ?_
              rintro _ h6' ⟨rfl, hh⟩
              obtain rfl := hh.symm
              have htk6 : takenM ((some T5).getD T) = keys.length + 1 := hT5k
              rw [htk6]
              simp -dsimp [wi]
              refine ⟨(i + 1, T5, .slice xa (keys.length + 1) xc), ?_, rfl, ⟨by show i + 1 ≤ 90; omega, keys ++ [[a, b]], fun c => R c ∨ c = h3.size, own6, F5, ⟨by omega, fun c hc _ => by rw [hblk c (by omega) (fun e => by have := (ro c e).1; omega), k05.blk c hc (fun h => h)]⟩, hg6, fun c hc => hc.elim (fun h => ⟨(rR c h).1, by have := (rR c h).2.1; omega, rR5 c h⟩) (fun h => by subst h; exact ⟨by omega, by omega, hnk5⟩), fun c hc => (ho6 c hc).elim (fun h => ⟨(ro c h).1, ro5 c h⟩) (fun h => ⟨by omega, fun hf => by have := t5.lt c hf; omega⟩), t6, hF5, hlen5.trans hTl, put_small hsm (cell2_small a b) hT5, by rw [hT5k, hl6], fun x => by
                rw [hmem5, hmem, hck, List.mem_append, List.mem_singleton]
                exact ⟨fun h => h.symm, fun h => h.symm⟩⟩, by show 90 - (i + 1) < 90 - i; omega⟩
              intro p hp
              simp at hp
              rcases hp with rfl | rfl | rfl | rfl | rfl <;> simp
            · have hnone : putM T (cell2 a b) = none := by
                cases hq : putM T (cell2 a b) with
                | none => rfl
                | some T5 =>
                  rw [hq] at hgo
                  rcases hgo.1 rfl with h | h
                  · exact absurd h hin
                  · exact absurd h hroom
              rw [hnone] at t5 ⊢
              have htk6 : takenM ((none : Option Tab).getD T) = keys.length := htk
              simp -dsimp [hroom]
              refine call_by (len_spec t5) ?_
              rintro _ h5' ⟨rfl, hh⟩
              obtain rfl := hh.symm
              rw [htk6]
              simp -dsimp [wi]
              refine ⟨(i + 1, T, .slice va keys.length vc), ?_, rfl, ⟨by show i + 1 ≤ 90; omega, keys, R, own, F5, k05, hks5, fun c hc => ⟨(rR c hc).1, by have := (rR c hc).2.1; omega, rR5 c hc⟩, fun c hc => ⟨(ro c hc).1, ro5 c hc⟩, t5, hF5, hTl, hsm, htk, hmem⟩, by show 90 - (i + 1) < 90 - i; omega⟩
              intro p hp
              simp at hp
              rcases hp with rfl | rfl | rfl | rfl | rfl <;> simp
    · by_cases hi : i < ns.length
      case' pos =>
        have e2 : ¬ ((i : Int) < 90) := by omega
        simp -dsimp [hi, e2]
      case' neg => simp -dsimp [hi]
      all_goals
        refine call_by (hcells_spec t3 (by omega) hsm) ?_
        rintro _ h4 ⟨E, own4, hg4, k4, hE, ho⟩
        obtain ⟨xa, xc, hv4⟩ := hg4.val
        have hcl : (cellsM T).length = keys.length := by rw [cells_len, htk]
        rw [hcl] at hv4
        subst hv4
        simp -dsimp
        exact hK _ _ ⟨rfl, k3.trans k4 (fun _ _ h => h)⟩
end Go.Proofs
