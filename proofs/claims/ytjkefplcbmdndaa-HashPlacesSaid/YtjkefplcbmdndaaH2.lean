/-
  The program's table in memory; where a key is found.
-/
import Derived.Test.YtjkefplcbmdndaaH1
namespace Go.Proofs
open Go Go.HC

structure TabC (h : Heap) (T : Tab) (bs : Nat) (sv : Value) (os : Option Nat) (R : Nat → Prop) : Prop where
  str : h[bs]? = some (.cells #[sv, .int .i64 (takenM T)] 62 (0, 0))
  slots : Grow rSlot 68 R h sv T os
  sep : ∀ b, R b → b < h.size ∧ b ≠ bs ∧ os ≠ some b
  o1 : os ≠ some bs
  ok : TabOk T
def tfoot (bs : Nat) (os : Option Nat) (R : Nat → Prop) : Nat → Prop := fun b => b = bs ∨ os = some b ∨ R b
theorem TabC.lt {h : Heap} {T : Tab} {bs : Nat} {sv : Value} {os : Option Nat} {R : Nat → Prop} (s : TabC h T bs sv os R) : ∀ b, tfoot bs os R b → b < h.size := by
  rintro b (rfl | ho | hr)
  · exact lt_of_blk s.str
  · exact s.slots.own_lt b ho
  · exact (s.sep b hr).1
theorem TabC.mono {h h' : Heap} {T : Tab} {bs : Nat} {sv : Value} {os : Option Nat} {R : Nat → Prop} (s : TabC h T bs sv os R) (hs : h.size ≤ h'.size) (hk : ∀ b, tfoot bs os R b → h'[b]? = h[b]?) : TabC h' T bs sv os R where
  str := (hk bs (.inl rfl)).trans s.str
  slots := s.slots.mono (fun b hb => ⟨hb, hk b (.inr (.inr hb))⟩) fun b hb => ⟨fun hR => (s.sep b hR).2.2 hb, hk b (.inr (.inl hb))⟩
  sep := fun b hb => ⟨Nat.lt_of_lt_of_le (s.sep b hb).1 hs, (s.sep b hb).2⟩
  o1 := s.o1
  ok := s.ok
def TabAt (v : Value) (F : Nat → Prop) (h : Heap) (T : Tab) : Prop := ∃ bs sv os R, v = .pointer (some ⟨bs, 0, none⟩) ∧ F = tfoot bs os R ∧ TabC h T bs sv os R
theorem TabC.at {h : Heap} {T : Tab} {bs : Nat} {sv : Value} {os : Option Nat} {R : Nat → Prop} (s : TabC h T bs sv os R) : TabAt (.pointer (some ⟨bs, 0, none⟩)) (tfoot bs os R) h T := ⟨bs, sv, os, R, rfl, rfl, s⟩
theorem TabAt.lt {v : Value} {F : Nat → Prop} {h : Heap} {T : Tab} (s : TabAt v F h T) : ∀ b, F b → b < h.size := by
  obtain ⟨bs, sv, os, R, rfl, rfl, s⟩ := s
  exact s.lt
theorem TabAt.mono {v : Value} {F : Nat → Prop} {h h' : Heap} {T : Tab} (s : TabAt v F h T) (hs : h.size ≤ h'.size) (hk : ∀ b, F b → h'[b]? = h[b]?) : TabAt v F h' T := by
  obtain ⟨bs, sv, os, R, rfl, rfl, s⟩ := s
  exact ⟨bs, sv, os, R, rfl, rfl, s.mono hs hk⟩
theorem TabAt.keep {v : Value} {F S : Nat → Prop} {h h' : Heap} {T : Tab} (s : TabAt v F h T) (k : Keep S h h') (hS : ∀ b, F b → ¬ S b) : TabAt v F h' T := s.mono k.size fun b hb => k.blk b (s.lt b hb) (hS b hb)

set_option maxRecDepth 10000 in
theorem len_spec {v : Value} {F : Nat → Prop} {h : Heap} {T : Tab} (s : TabAt v F h T) : CallH Try.prog 20 #[v] h fun r h' => r = .int .i64 (takenM T) ∧ h' = h := by
  refine callH_by fun K hK => ?_
  obtain ⟨bs, sv, os, R, rfl, rfl, s⟩ := s
  refine enter [.tmp 2] Try.func20 rfl rfl (by kernel_rfl) rfl ?_
  have hs := s.str
  simp -dsimp [hs]
  exact hK _ _ ⟨rfl, rfl⟩

/-- A slot's cells, as they are loaded. -/
theorem slot_cells {R : Nat → Prop} {h : Heap} {cs : List Value} {s : Option CellM} (hr : rSlot.rep R h cs s) : ∃ kv cn sv nv xv, cs = [kv, .int .i64 cn, sv, nv, xv, .bool s.isSome] ∧ SlRep rInt R h kv ((s.map (·.key)).getD []) ∧
    kv.oneCell' = true ∧ sv.oneCell' = true ∧ nv.oneCell' = true ∧ xv.oneCell' = true := by
  cases s with
  | none => exact ⟨_, _, _, _, _, hr, .nil _ _ _, rfl, rfl, rfl, rfl⟩
  | some c =>
    obtain ⟨ds, ⟨kv, sv, nv, xv, rfl, h1, h2, h3, h4⟩, rfl⟩ := hr
    refine ⟨kv, c.count, sv, nv, xv, rfl, h1, ?_, ?_, ?_, ?_⟩
    · obtain ⟨_, _, rfl, _⟩ := h1.val; rfl
    · obtain ⟨_, _, rfl, _⟩ := h2.val; rfl
    · obtain ⟨_, _, rfl, _⟩ := h3.val; rfl
    · obtain ⟨_, _, rfl, _⟩ := h4.val; rfl

set_option maxHeartbeats 40000000 in
set_option maxRecDepth 10000 in
theorem find_spec {v : Value} {F G : Nat → Prop} {h : Heap} {T : Tab} (s : TabAt v F h T) (hT : T.length < 1000000000) {kv : Value} {key : List Int} (hk : SlRep rInt G h kv key) (hG : ∀ b, G b → b < h.size) :
    CallH Try.prog 36 #[v, kv] h fun r h' => r = .int .i64 (match findM T key with | some k => (k : Int) | none => -1) ∧ Keep none_ h h' := by
  refine callH_by fun K hK => ?_
  obtain ⟨bs, sv, os, R, rfl, rfl, s⟩ := s
  obtain ⟨ka, kc, rfl, hkc, hkc'⟩ := hk.val
  refine enter [.tmp 4] Try.func36 rfl rfl (by kernel_rfl) rfl ?_
  have hs := s.str
  have hRl : ∀ b, R b → b < h.size := fun b hb => (s.sep b hb).1
  obtain ⟨sa, sc, rfl⟩ := s.slots.val
  obtain ⟨hh0, hh1⟩ := hashM_bound key
  simp -dsimp
  refine scope 0 _ rfl (σ := Nat) (fun i => [(0, .pointer (some ⟨bs, 0, none⟩)), (1, .slice ka key.length kc), (5, .int .i64 T.length), (9, .int .i64 (probe key T.length i)), (10, .int .i64 i)]) (fun _ => [])
    (fun i h' => Keep none_ h h' ∧ i < T.length ∧ ∀ j, j < i → hitM T key (probe key T.length j) = false) (fun i => T.length - i) (T.length + 1) (by kernel_rfl) (by kernel_rfl) ?first ?pass
  case' first =>
    by_cases h0 : T.length = 0
    · have hT0 : T = [] := List.eq_nil_of_length_eq_zero h0
      subst hT0
      simp -dsimp [hs]
      exact hK _ _ ⟨rfl, .refl _ _⟩
    · have hne : ((T.length : Int) == 0) = false := beq_eq_false_iff_ne.2 (by omega)
      have hrem : ∀ x : Int, intRes .rem .i64 x (T.length : Int) = some (.int .i64 (x.tmod T.length)) := fun x => intRes_rem _ _ _ (by omega)
      simp -dsimp [hs, hne]
      refine loop' (σ := Nat) (fun k => [(0, .pointer (some ⟨bs, 0, none⟩)), (1, .slice ka key.length kc), (5, .int .i64 T.length), (6, .int .i64 (hashM (key.take k))), (19, .slice ka key.length kc), (20, .int .i64 key.length), (21, .int .i64 k)]) (fun _ => []) (fun k h' => h' = h ∧ k ≤ key.length) (fun k => key.length - k) 0 ?_ rfl ⟨rfl, Nat.zero_le _⟩ (by kernel_rfl) ?_
      · intro p hp
        simp at hp
        rcases hp with rfl | rfl | rfl | rfl | rfl | rfl | rfl <;> simp [hashM]
      · rintro k h' g ⟨hhe, hkk⟩
        have hhe' := hhe.symm
        subst hhe'
        by_cases hkl : k < key.length
        · obtain ⟨b1, o1, v1, rfl, _, hr1, hc1⟩ := hk.get1 rfl k hkl
          have hv1 : v1 = .int .i64 key[k] := by simpa [rInt] using hr1
          subst hv1
          have hidx : ∀ (K : Value → Heap → Prop) (h : Heap), indexAddrS Try.prog 22 (.slice (some ⟨b1, o1, none⟩) key.length kc) (.int .i64 (k : Int)) h K = K (.pointer (some ⟨b1, o1 + k, none⟩)) h := by
            intro K h
            rw [indexAddrS_slice _ _ _ _ _ _ (by omega) (by omega) rfl]
            simp [elSz]
          have wk : IntKind.i64.wrap ((k : Int) + 1) = ((k + 1 : Nat) : Int) := by rw [wrap_i64 (by omega) (by omega)]; rfl
          obtain ⟨q0, q1⟩ := hashM_bound (key.take k)
          have hst := hashM_take hkl
          obtain ⟨p0, p1⟩ := tmod_bound (a := key[k]) (n := 1000003) (by decide)
          have w1 : IntKind.i64.wrap (31 * hashM (key.take k)) = 31 * hashM (key.take k) := wrap_i64 (by omega) (by omega)
          have w2 : IntKind.i64.wrap (31 * hashM (key.take k) + (key[k]).tmod 1000003) = 31 * hashM (key.take k) + (key[k]).tmod 1000003 := wrap_i64 (by omega) (by omega)
          have w3 : IntKind.i64.wrap (31 * hashM (key.take k) + (key[k]).tmod 1000003 + 1) = 31 * hashM (key.take k) + (key[k]).tmod 1000003 + 1 := wrap_i64 (by omega) (by omega)
          simp -dsimp [hkl, hidx, hc1, w1, w2, w3, ← hst, wk]
          refine ⟨k + 1, ?_, rfl, ⟨rfl, by omega⟩, by show key.length - (k + 1) < key.length - k; omega⟩
          intro p hp
          simp at hp
          rcases hp with rfl | rfl | rfl | rfl | rfl | rfl | rfl <;> simp
        · have hall : key.take k = key := List.take_of_length_le (by omega)
          obtain ⟨r0, r1⟩ := tmod_bound (a := hashM key) (n := (T.length : Int)) (by omega)
          have w1 : IntKind.i64.wrap ((hashM key).tmod T.length + T.length) = (hashM key).tmod T.length + T.length := wrap_i64 (by omega) (by omega)
          have hpl := placeM_lt key (n := T.length) (by omega)
          have hp0 : ((hashM key).tmod T.length + T.length).tmod T.length = ((probe key T.length 0 : Nat) : Int) := by
            unfold probe
            rw [Nat.add_zero, Nat.mod_eq_of_lt hpl]
            unfold placeM
            rw [Int.toNat_of_nonneg (Int.tmod_nonneg _ (by omega))]
          simp -dsimp [hkl, hall, hrem, w1, hp0, hs]
          have k1 : Keep none_ h h := .refl _ _
          have hi : 0 < T.length := by omega
          have hb : ∀ j, j < 0 → hitM T key (probe key T.length j) = false := fun j hj => by omega
          have s1' := s.mono k1.size fun b hb => k1.blk b (s.lt b hb) (fun h => h)
          have hs1 := s1'.str
          have hrem : ∀ x : Int, intRes .rem .i64 x (T.length : Int) = some (.int .i64 (x.tmod T.length)) := fun x => intRes_rem _ _ _ (by omega)
          have hpl := probe_lt key (n := T.length) (by omega) 0
          have hnx := probe_next key T.length 0
          have hsat : T[probe key T.length 0]? = some T[probe key T.length 0] := List.getElem?_eq_getElem hpl
          generalize hpe : probe key T.length 0 = at_ at hpl hnx hsat ⊢
          obtain ⟨bk, cs, hsa, _, hr, hc⟩ := s1'.slots.elem at_ hpl
          subst hsa
          obtain ⟨wv, cn, sv, nv, xv, rfl, hkey, u1, u2, u3, u4⟩ := slot_cells hr
          have hcells : HC.cellsIn h[bk]? (at_ * 6) 6 = some [wv, .int .i64 cn, sv, nv, xv, .bool T[at_].isSome] := hc
          have hidx : ∀ (K : Value → Heap → Prop) (h : Heap), indexAddrS Try.prog 60 (.slice (some ⟨bk, 0, none⟩) T.length sc) (.int .i64 (at_ : Int)) h K = K (.pointer (some ⟨bk, at_ * 6, none⟩)) h := by
            intro K h
            rw [indexAddrS_slice _ _ _ _ _ _ (by omega) (by omega) rfl]
            simp [elSz]
          have w1 : IntKind.i64.wrap ((0 : Int) + 1) = ((0 + 1 : Nat) : Int) := by rw [wrap_i64 (by omega) (by omega)]; rfl
          have w2 : IntKind.i64.wrap ((at_ : Int) + 1) = (at_ : Int) + 1 := wrap_i64 (by omega) (by omega)
          have w3 : ((at_ : Int) + 1).tmod (T.length : Int) = ((probe key T.length (0 + 1) : Nat) : Int) := by
            rw [← hnx]; exact (Int.ofNat_tmod _ _).symm
          simp -dsimp [hidx, hcells, u1, u2, u3, u4]
          generalize hH : Array.setIfInBounds _ h.size _ = h2
          have hz2 : h2.size = h.size + 1 := by rw [← hH]; simp
          have k12 : Keep none_ h h2 := by rw [← hH]; exact ((Keep.refl none_ h).pushed _).setted _ (fun hh => absurd hh (by omega))
          have k2 := k1.trans k12 (fun _ _ h => h)
          have hfb : h2[h.size]? = some (.cells #[wv, .int .i64 cn, sv, nv, xv, .bool T[at_].isSome] 68 (0, 0)) := by rw [← hH]; exact set_same _ (by simp)
          have hkey2 : SlRep rInt R h2 wv ((T[at_].map (·.key)).getD []) := hkey.mono fun b hb => ⟨hb, k12.blk b (by have := hRl b hb; have := k1.size; omega) (fun h => h)⟩
          have hk2 : SlRep rInt G h2 (.slice ka key.length kc) key := hk.mono fun b hb => ⟨hb, k2.blk b (hG b hb) (fun h => h)⟩
          cases hta : T[at_] with
          | none =>
            have hit : hitM T key (probe key T.length 0) = true := by unfold hitM; rw [hpe, hsat, hta]
            have hfm := find_hit hi hb hit
            rw [hta] at hfb
            simp -dsimp
            refine hK _ _ ⟨?_, k2⟩
            rw [hfm, hpe]
          | some c =>
            rw [hta] at hfb hkey2
            simp -dsimp [hfb]
            refine call_by (equal_spec hkey2 hk2) ?_
            rintro _ h2' ⟨rfl, hh⟩
            obtain rfl := hh.symm
            have hke : ((Option.map (fun x => x.key) (some c)).getD []) = c.key := rfl
            rw [hke]
            have hhit : hitM T key (probe key T.length 0) = decide (c.key = key) := by unfold hitM; rw [hpe, hsat, hta]
            by_cases he : c.key = key
            · have hd : decide (c.key = key) = true := decide_eq_true he
              rw [hd]
              have hfm := find_hit hi hb (hhit.trans hd)
              simp -dsimp
              refine hK _ _ ⟨?_, k2⟩
              rw [hfm, hpe]
            · have hd : decide (c.key = key) = false := decide_eq_false he
              rw [hd]
              have hb' : ∀ j, j < 0 + 1 → hitM T key (probe key T.length j) = false := fun j hj => by
                by_cases hji : j < 0
                · exact hb j hji
                · have : j = 0 := by omega
                  subst this
                  exact hhit.trans hd
              by_cases hin : 0 + 1 < T.length
              · have hin' : (((0 + 1 : Nat) : Int) < (T.length : Int)) := by omega
                have v1 : IntKind.i64.wrap 1 = 1 := by decide
                have v2 : (1 : Int) < (T.length : Int) := by omega
                have v3 : 1 < T.length := by omega
                simp -dsimp [v1, v2, w2, hrem, w3]
                refine ⟨rfl, 0 + 1, ?_, rfl, ⟨k2, hin, hb'⟩, by show T.length - (0 + 1) < T.length + 1; omega⟩
                intro p hp
                simp at hp
                rcases hp with rfl | rfl | rfl | rfl | rfl <;> simp
              · have hin' : ¬ (((0 + 1 : Nat) : Int) < (T.length : Int)) := by omega
                have hfm := find_miss (T := T) (key := key) fun j hj => hb' j (by omega)
                have v1 : IntKind.i64.wrap 1 = 1 := by decide
                have v2 : ¬ (1 : Int) < (T.length : Int) := by omega
                have v3 : ¬ 1 < T.length := by omega
                simp -dsimp [v1, v2]
                refine hK _ _ ⟨?_, k2⟩
                rw [hfm]
  case' pass =>
    rintro i h1 g ⟨k1, hi, hb⟩
    have s1' := s.mono k1.size fun b hb => k1.blk b (s.lt b hb) (fun h => h)
    have hs1 := s1'.str
    have hrem : ∀ x : Int, intRes .rem .i64 x (T.length : Int) = some (.int .i64 (x.tmod T.length)) := fun x => intRes_rem _ _ _ (by omega)
    have hpl := probe_lt key (n := T.length) (by omega) i
    have hnx := probe_next key T.length i
    have hsat : T[probe key T.length i]? = some T[probe key T.length i] := List.getElem?_eq_getElem hpl
    generalize hpe : probe key T.length i = at_ at hpl hnx hsat ⊢
    obtain ⟨bk, cs, hsa, _, hr, hc⟩ := s1'.slots.elem at_ hpl
    subst hsa
    obtain ⟨wv, cn, sv, nv, xv, rfl, hkey, u1, u2, u3, u4⟩ := slot_cells hr
    have hcells : HC.cellsIn h1[bk]? (at_ * 6) 6 = some [wv, .int .i64 cn, sv, nv, xv, .bool T[at_].isSome] := hc
    have hidx : ∀ (K : Value → Heap → Prop) (h : Heap), indexAddrS Try.prog 60 (.slice (some ⟨bk, 0, none⟩) T.length sc) (.int .i64 (at_ : Int)) h K = K (.pointer (some ⟨bk, at_ * 6, none⟩)) h := by
      intro K h
      rw [indexAddrS_slice _ _ _ _ _ _ (by omega) (by omega) rfl]
      simp [elSz]
    have w1 : IntKind.i64.wrap ((i : Int) + 1) = (i : Int) + 1 := wrap_i64 (by omega) (by omega)
    have w2 : IntKind.i64.wrap ((at_ : Int) + 1) = (at_ : Int) + 1 := wrap_i64 (by omega) (by omega)
    have w3 : ((at_ : Int) + 1).tmod (T.length : Int) = ((probe key T.length (i + 1) : Nat) : Int) := by
      rw [← hnx]; exact (Int.ofNat_tmod _ _).symm
    simp -dsimp [hs1, hidx, hcells, u1, u2, u3, u4]
    generalize hH : Array.setIfInBounds _ h1.size _ = h2
    have hz2 : h2.size = h1.size + 1 := by rw [← hH]; simp
    have k12 : Keep none_ h1 h2 := by rw [← hH]; exact ((Keep.refl none_ h1).pushed _).setted _ (fun hh => absurd hh (by omega))
    have k2 := k1.trans k12 (fun _ _ h => h)
    have hfb : h2[h1.size]? = some (.cells #[wv, .int .i64 cn, sv, nv, xv, .bool T[at_].isSome] 68 (0, 0)) := by rw [← hH]; exact set_same _ (by simp)
    have hkey2 : SlRep rInt R h2 wv ((T[at_].map (·.key)).getD []) := hkey.mono fun b hb => ⟨hb, k12.blk b (by have := hRl b hb; have := k1.size; omega) (fun h => h)⟩
    have hk2 : SlRep rInt G h2 (.slice ka key.length kc) key := hk.mono fun b hb => ⟨hb, k2.blk b (hG b hb) (fun h => h)⟩
    cases hta : T[at_] with
    | none =>
      have hit : hitM T key (probe key T.length i) = true := by unfold hitM; rw [hpe, hsat, hta]
      have hfm := find_hit hi hb hit
      rw [hta] at hfb
      simp -dsimp
      refine hK _ _ ⟨?_, k2⟩
      rw [hfm, hpe]
    | some c =>
      rw [hta] at hfb hkey2
      simp -dsimp [hfb]
      refine call_by (equal_spec hkey2 hk2) ?_
      rintro _ h2' ⟨rfl, hh⟩
      obtain rfl := hh.symm
      have hke : ((Option.map (fun x => x.key) (some c)).getD []) = c.key := rfl
      rw [hke]
      have hhit : hitM T key (probe key T.length i) = decide (c.key = key) := by unfold hitM; rw [hpe, hsat, hta]
      by_cases he : c.key = key
      · have hd : decide (c.key = key) = true := decide_eq_true he
        rw [hd]
        have hfm := find_hit hi hb (hhit.trans hd)
        simp -dsimp
        refine hK _ _ ⟨?_, k2⟩
        rw [hfm, hpe]
      · have hd : decide (c.key = key) = false := decide_eq_false he
        rw [hd]
        have hb' : ∀ j, j < i + 1 → hitM T key (probe key T.length j) = false := fun j hj => by
          by_cases hji : j < i
          · exact hb j hji
          · have : j = i := by omega
            subst this
            exact hhit.trans hd
        by_cases hin : i + 1 < T.length
        · have hin' : ((i : Int) + 1 < (T.length : Int)) := by omega
          simp -dsimp [w1, hin', w2, hrem, w3]
          refine ⟨rfl, i + 1, ?_, rfl, ⟨k2, hin, hb'⟩, by show T.length - (i + 1) < T.length - i; omega⟩
          intro p hp
          simp at hp
          rcases hp with rfl | rfl | rfl | rfl | rfl <;> simp
        · have hin' : ¬ ((i : Int) + 1 < (T.length : Int)) := by omega
          have hfm := find_miss (T := T) (key := key) fun j hj => hb' j (by omega)
          simp -dsimp [w1, hin']
          refine hK _ _ ⟨?_, k2⟩
          rw [hfm]
end Go.Proofs
