/-
  StoreOwn: the law's walk.
-/
import Derived.Test.YtcopaleccjpdjaaN3
import Derived.Test.YtcopaleccjpdjaaHC20
namespace Go.Proofs
open Go Go.HC

set_option maxHeartbeats 40000000 in
set_option maxRecDepth 10000 in
theorem storeOwn_spec {G0 : Nat → Prop} {h : Heap} {bv : Value} {b : List UInt8} (hb : SlRep rByte G0 h bv b) (hG0 : ∀ b, G0 b → b < h.size) (by_ : UInt8) :
    CallH Try.prog 5 #[bv, .int .u8 by_.toNat] h fun r h' => r = .bool true ∧ Keep none_ h h' := by
  refine callH_by fun K hK => ?_
  refine enter [.tmp 4] Try.func5 rfl rfl (by kernel_rfl) rfl ?_
  obtain ⟨a0, c0, rfl, hc0, hc0'⟩ := hb.val
  simp -dsimp
  refine call_by (known_spec h) ?_
  rintro _ h1 ⟨rfl, k1⟩
  by_cases hl : 100 < b.length
  · have : (100 : Int) < b.length := by omega
    simp -dsimp [this]
    exact hK _ _ ⟨rfl, k1⟩
  · have hlb : ¬ (100 : Int) < b.length := by omega
    simp -dsimp [hlb]
    refine call_by (new_spec 300 h1) ?_
    rintro r h2 ⟨F2, s2, k2, n2⟩
    obtain ⟨bs, hr⟩ : ∃ bs, r = .pointer (some ⟨bs, 0, none⟩) := by
      obtain ⟨bs, _, _, _, _, _, _, rfl, _⟩ := s2; exact ⟨bs, rfl⟩
    subst hr
    simp -dsimp
    refine call_by (new_spec 300 h2) ?_
    rintro r h3 ⟨F3, o3, k3, n3⟩
    obtain ⟨ob, hr⟩ : ∃ ob, r = .pointer (some ⟨ob, 0, none⟩) := by
      obtain ⟨ob, _, _, _, _, _, _, rfl, _⟩ := o3; exact ⟨ob, rfl⟩
    subst hr
    have k03 := (k1.trans k2 (fun _ _ h => h)).trans k3 (fun _ _ h => h)
    have s3 := s2.keep k3 (fun _ _ h => h)
    have sm0 : (Mod.new 300).Small 1000 := ⟨Nat.zero_le _, Nat.zero_le _, Nat.zero_le _⟩
    have e1 := k1.size
    have e2 := k2.size
    have e3 := k3.size
    have l2 : ∀ b, F2 b → b < h2.size := fun b hb => s2.lt b hb
    have l3 : ∀ b, F3 b → b < h3.size := fun b hb => o3.lt b hb
    have hb3 := hb.mono (F' := G0) (h' := h3) fun b hb => ⟨hb, k03.blk b (hG0 b hb) (fun h => h)⟩
    simp -dsimp
    refine clone_bytes byteT hb3 (fun b hb => by have := hG0 b hb; omega) (by omega) ?_
    intro cv h4 own4 hg4 k4 ho4 e4
    obtain ⟨ca, cc, rfl⟩ := hg4.val
    have l4 := hg4.own_lt
    have s4 := s3.keep k4 (fun _ _ h => h)
    simp -dsimp
    refine call_by (write_spec s4 sm0 (by omega) nA hg4.bytes hg4.own_lt (by omega)) ?_
    rintro _ h5 ⟨rfl, F5, s5, k5, hF5⟩
    have hw1 : (Mod.new 300).write nA b = _ := write_first 300 nA b rfl (by omega)
    rw [hw1] at s5 ⊢
    replace s5 : StAt (.pointer (some ⟨bs, 0, none⟩)) F5 h5 (HC.Mod.mk 300 [(nA, ⟨b, none, false⟩)] [(1, nA)]) := s5
    have sm1 : (HC.Mod.mk 300 [(nA, ⟨b, none, false⟩)] [(1, nA)]).Small 1000 := ⟨by simp; omega, by simp, by simp⟩
    have e5 := k5.size
    simp -dsimp
    refine const_bytes [111, 116, 104, 101, 114] Try.elS30 Try.intK5 rfl rfl (by decide) ?_
    intro h6 k6 hsz6 hb6
    have o6 := o3.mono (h' := h6) (by omega) fun b hb => by
      rw [k6.blk b (by have := l3 b hb; omega) (fun h => h), k5.blk b (by have := l3 b hb; omega) (fun hf => by have := l2 b hf; have := n3 b hb; omega), k4.blk b (l3 b hb) (fun h => h)]
    simp -dsimp
    refine call_by (write_spec o6 sm0 (by omega) nA hb6 (fun b hb => by omega) (by decide)) ?_
    rintro _ h7 ⟨rfl, F7, o7, k7, hF7⟩
    have hw2 : (Mod.new 300).write nA [111, 116, 104, 101, 114] = _ := write_first 300 nA [111, 116, 104, 101, 114] rfl (by decide)
    rw [hw2] at o7 ⊢
    replace o7 : StAt (.pointer (some ⟨ob, 0, none⟩)) F7 h7 (HC.Mod.mk 300 [(nA, ⟨[111, 116, 104, 101, 114], none, false⟩)] [(1, nA)]) := o7
    have sm2 : (HC.Mod.mk 300 [(nA, ⟨[111, 116, 104, 101, 114], none, false⟩)] [(1, nA)]).Small 1000 := ⟨by simp, by simp, by simp⟩
    have e7 := k7.size
    have l5 : ∀ b, F5 b → b < h5.size := fun b hb => s5.lt b hb
    have r5 : ∀ b, F5 b → (h1.size ≤ b ∧ b < h2.size) ∨ h4.size ≤ b := fun b hb => (hF5 b hb).imp (fun h => ⟨n2 b h, l2 b h⟩) id
    have r7 : ∀ b, F7 b → (h2.size ≤ b ∧ b < h3.size) ∨ h6.size ≤ b := fun b hb => (hF7 b hb).imp (fun h => ⟨n3 b h, l3 b h⟩) id
    have r3 : ∀ b, F3 b → h2.size ≤ b ∧ b < h3.size := fun b hb => ⟨n3 b hb, l3 b hb⟩
    have s7 := s5.mono (h' := h7) (by omega) fun b hb => by
      rw [k7.blk b (by have := l5 b hb; omega) (fun hf => by have := r5 b hb; have := r3 b hf; omega), k6.blk b (l5 b hb) (fun h => h)]
    have k07 : Keep none_ h h7 := ⟨by omega, fun b hb _ => by
      rw [k7.blk b (by omega) (fun hf => by have := r3 b hf; omega), k6.blk b (by omega) (fun h => h), k5.blk b (by omega) (fun hf => by have := n2 b hf; omega), k4.blk b (by omega) (fun h => h), k03.blk b hb (fun h => h)]⟩
    have hg7 : Grow rByte 5 none_ h7 (.slice ca b.length cc) b own4 := hg4.mono (fun _ h => h.elim) fun c hc => ⟨fun h => h, by
      have h1 := ho4 c hc
      have h2 := l4 c hc
      rw [k7.blk c (by omega) (fun hf => by have := r3 c hf; omega), k6.blk c (by omega) (fun h => h), k5.blk c (by omega) (fun hf => by have := l2 c hf; omega)]⟩
    simp -dsimp
    refine loop' (σ := Nat × List UInt8) (fun t => [(0, .slice a0 b.length c0), (1, .int .u8 by_.toNat), (5, .pointer (some ⟨bs, 0, none⟩)), (6, .pointer (some ⟨ob, 0, none⟩)), (7, .slice ca b.length cc), (8, .int .i64 t.1)]) (fun _ => [])
      (fun t h8 => t.2.length = b.length ∧ t.1 ≤ b.length ∧ Grow rByte 5 none_ h8 (.slice ca b.length cc) t.2 own4 ∧ Keep (fun c => own4 = some c) h7 h8)
      (fun t => b.length - t.1) (0, b) ?_ rfl ⟨rfl, Nat.zero_le _, hg7, .refl _ _⟩ (by kernel_rfl) ?_
    · intro p hp
      simp at hp
      rcases hp with rfl | rfl | rfl | rfl | rfl | rfl <;> simp
    · rintro ⟨i, xs⟩ h8 g ⟨hxl, hib, hg8, k78⟩
      simp only at hxl hib hg8
      by_cases hi : i < b.length
      · have wi : IntKind.i64.wrap ((i : Int) + 1) = ((i + 1 : Nat) : Int) := by rw [wrap_i64 (by omega) (by omega)]; rfl
        obtain ⟨bk, cc', o, hv, how, hwr, hg9⟩ := hg8.setE (i := i) (x := xs[i] + by_) (news := [.int .u8 (xs[i] + by_).toNat]) (by omega) rfl
        have hv' : ca = some ⟨bk, 0, none⟩ := by simp at hv; exact hv.1
        subst hv'
        obtain ⟨bk', off, v, he, _, hrv, hcell⟩ := hg8.bytes.get1 rfl i (by omega)
        have he' : bk = bk' ∧ 0 = off := by simpa using he
        obtain ⟨rfl, rfl⟩ := he'
        have hv2 : v = .int .u8 xs[i].toNat := by simpa [rByte] using hrv
        subst hv2
        have hidx : ∀ (K : Value → Heap → Prop) (h : Heap), indexAddrS Try.prog 30 (.slice (some ⟨bk, 0, none⟩) b.length cc) (.int .i64 (i : Int)) h K = K (.pointer (some ⟨bk, i, none⟩)) h := by
          intro K h
          rw [indexAddrS_slice _ _ _ _ _ _ (by omega) (by omega) rfl]
          simp [elSz]
        rw [Nat.zero_add] at hcell
        have hwr' : writeIn h8[bk]? i [.int .u8 (IntKind.u8.wrap ((xs[i].toNat : Int) + (by_.toNat : Int)))] = some o := by
          have : i * rByte.sz = i := Nat.mul_one i
          rw [this, u8_add] at hwr
          exact hwr
        simp -dsimp [hi, hidx, hcell, hwr', wi]
        refine ⟨(i + 1, xs.set i (xs[i] + by_)), ?_, rfl, ⟨by simp [hxl], by show i + 1 ≤ b.length; omega, hg9, k78.setted _ (fun _ => how)⟩, by show b.length - (i + 1) < b.length - i; omega⟩
        intro p hp
        simp at hp
        rcases hp with rfl | rfl | rfl | rfl | rfl | rfl <;> simp
      · have e78 := k78.size
        have r4 : ∀ c, own4 = some c → h3.size ≤ c ∧ c < h4.size := fun c hc => ⟨ho4 c hc, l4 c hc⟩
        have l7 : ∀ b, F7 b → b < h7.size := fun b hb => o7.lt b hb
        have s8 := s7.mono (h' := h8) e78 fun c hc => k78.blk c (by have := l5 c hc; omega) (fun e => by have := r4 c e; have := r5 c hc; omega)
        have o8 := o7.mono (h' := h8) e78 fun c hc => k78.blk c (l7 c hc) (fun e => by have := r4 c e; have := r7 c hc; omega)
        have k08 : Keep none_ h h8 := ⟨by omega, fun c hc _ => by rw [k78.blk c (by omega) (fun e => by have := r4 c e; omega), k07.blk c hc (fun h => h)]⟩
        simp -dsimp [hi]
        refine call_by (read_spec s8 (Nat.lt_of_le_of_lt sm1.used (by omega)) nA) ?_
        rintro _ h9 ⟨u9, own9, rfl, hg9, k9, ho9⟩
        have hno : (HC.Mod.mk 300 [(nA, ⟨b, none, false⟩)] [(1, nA)]).nowOf nA = b := by unfold Mod.nowOf Mod.look; simp only [look_one]; rfl
        rw [hno] at hg9
        obtain ⟨a9, c9, rfl⟩ := hg9.val
        have s9 := s8.keep k9 (fun _ _ h => h)
        have o9 := o8.keep k9 (fun _ _ h => h)
        have e9 := k9.size
        simp -dsimp
        refine clone_bytes byteT hg9.bytes hg9.own_lt (by omega) ?_
        intro yv h10 own10 hg10 k10 ho10 e10
        obtain ⟨a10, c10, rfl⟩ := hg10.val
        have hg9' : Grow rByte 5 none_ h10 (.slice a9 b.length c9) b own9 := hg9.bytes_own.mono (fun _ h => h.elim) fun c hc => ⟨fun h => h, k10.blk c (hg9.own_lt c hc) (fun h => h)⟩
        have l9 := hg9.own_lt
        have l10 := hg10.own_lt
        simp -dsimp
        refine loop' (σ := Nat × List UInt8) (fun t => [(0, .slice a0 b.length c0), (1, .int .u8 by_.toNat), (5, .pointer (some ⟨bs, 0, none⟩)), (6, .pointer (some ⟨ob, 0, none⟩)), (9, .slice a9 b.length c9), (11, .slice a10 b.length c10), (12, .int .i64 t.1)]) (fun _ => [])
          (fun t h11 => t.2.length = b.length ∧ t.1 ≤ b.length ∧ Grow rByte 5 none_ h11 (.slice a9 b.length c9) t.2 own9 ∧ Keep (fun c => own9 = some c) h10 h11)
          (fun t => b.length - t.1) (0, b) ?_ rfl ⟨rfl, Nat.zero_le _, hg9', .refl _ _⟩ (by kernel_rfl) ?_
        · intro p hp
          simp at hp
          rcases hp with rfl | rfl | rfl | rfl | rfl | rfl | rfl <;> simp
        · rintro ⟨i, xs⟩ h11 g ⟨hxl, hib, hg11, k11⟩
          simp only at hxl hib hg11
          by_cases hi : i < b.length
          · have wi : IntKind.i64.wrap ((i : Int) + 1) = ((i + 1 : Nat) : Int) := by rw [wrap_i64 (by omega) (by omega)]; rfl
            obtain ⟨bk, cc', o, hv, how, hwr, hg12⟩ := hg11.setE (i := i) (x := xs[i] + by_) (news := [.int .u8 (xs[i] + by_).toNat]) (by omega) rfl
            have hv' : a9 = some ⟨bk, 0, none⟩ := by simp at hv; exact hv.1
            subst hv'
            obtain ⟨bk', off, v, he, _, hrv, hcell⟩ := hg11.bytes.get1 rfl i (by omega)
            have he' : bk = bk' ∧ 0 = off := by simpa using he
            obtain ⟨rfl, rfl⟩ := he'
            have hv2 : v = .int .u8 xs[i].toNat := by simpa [rByte] using hrv
            subst hv2
            have hidx : ∀ (K : Value → Heap → Prop) (h : Heap), indexAddrS Try.prog 30 (.slice (some ⟨bk, 0, none⟩) b.length c9) (.int .i64 (i : Int)) h K = K (.pointer (some ⟨bk, i, none⟩)) h := by
              intro K h
              rw [indexAddrS_slice _ _ _ _ _ _ (by omega) (by omega) rfl]
              simp [elSz]
            rw [Nat.zero_add] at hcell
            have hwr' : writeIn h11[bk]? i [.int .u8 (IntKind.u8.wrap ((xs[i].toNat : Int) + (by_.toNat : Int)))] = some o := by
              have : i * rByte.sz = i := Nat.mul_one i
              rw [this, u8_add] at hwr
              exact hwr
            simp -dsimp [hi, hidx, hcell, hwr', wi]
            refine ⟨(i + 1, xs.set i (xs[i] + by_)), ?_, rfl, ⟨by simp [hxl], by show i + 1 ≤ b.length; omega, hg12, k11.setted _ (fun _ => how)⟩, by show b.length - (i + 1) < b.length - i; omega⟩
            intro p hp
            simp at hp
            rcases hp with rfl | rfl | rfl | rfl | rfl | rfl | rfl <;> simp
          · have e11 := k11.size
            have l8 : ∀ b, F7 b → b < h8.size := fun b hb => o8.lt b hb
            have l8' : ∀ b, F5 b → b < h8.size := fun b hb => s8.lt b hb
            have s10 := s9.keep k10 (fun _ _ h => h)
            have o10 := o9.keep k10 (fun _ _ h => h)
            have s11 := s10.mono (h' := h11) e11 fun c hc => k11.blk c (s10.lt c hc) (fun e => by have := ho9 c e; have := l8' c hc; omega)
            have o11 := o10.mono (h' := h11) e11 fun c hc => k11.blk c (o10.lt c hc) (fun e => by have := ho9 c e; have := l8 c hc; omega)
            have k011 : Keep none_ h h11 := ⟨by omega, fun c hc _ => by rw [k11.blk c (by omega) (fun e => by have := ho9 c e; omega), k10.blk c (by omega) (fun h => h), k9.blk c (by omega) (fun h => h), k08.blk c hc (fun h => h)]⟩
            have hy11 : SlRep rByte (fun c => own10 = some c) h11 (.slice a10 b.length c10) b := hg10.bytes.mono fun c hc => ⟨hc, k11.blk c (l10 c hc) (fun e => by have := ho10 c hc; have := l9 c e; omega)⟩
            simp -dsimp [hi]
            generalize hH12 : h11.push _ = h12
            have k12 : Keep none_ h11 h12 := by rw [← hH12]; exact .push _ _ _
            have hs12 : h12.size = h11.size + 1 := by rw [← hH12]; simp
            have s12 := s11.keep k12 (fun _ _ h => h)
            have hks : SlRep rInt (fun b => b = h11.size) h12 (.slice (some ⟨h11.size, 0, none⟩) 1 1) [1] := by
              rw [← hH12]
              exact ⟨_, 1, _, rfl, Nat.le_refl _, by decide, .inr ⟨h11.size, 0, _, _, _, rfl, rfl, push_new _ _, rfl⟩, ints_map.2 rfl⟩
            have hsl : ∀ p ∈ [(nA, (⟨b, none, false⟩ : FileM))], ∀ x, p.2.sure = some x → x.length < 1000000000 := by
              intro p hp x hx
              rw [List.mem_singleton] at hp
              subst hp
              cases hx
            refine call_by (crash_spec s12 sm1 (by omega) hsl hks (fun b hb => by omega)) ?_
            rintro r h13 ⟨F13, t13, k13, n13⟩
            obtain ⟨tb, hr⟩ : ∃ tb, r = .pointer (some ⟨tb, 0, none⟩) := by
              obtain ⟨tb, _, _, _, _, _, _, rfl, _⟩ := t13; exact ⟨tb, rfl⟩
            subst hr
            rw [crash_one] at t13
            replace t13 : StAt (.pointer (some ⟨tb, 0, none⟩)) F13 h13 (HC.Mod.mk 300 [(nA, ⟨b, some b, true⟩)] []) := t13
            have sm13 : (HC.Mod.mk 300 [(nA, ⟨b, some b, true⟩)] []).Small 1000 := ⟨by simp; omega, by simp, by simp⟩
            have k1113 := k12.trans k13 (fun _ _ h => h)
            have e13 := k1113.size
            have s13 := s11.keep k1113 (fun _ _ h => h)
            have o13 := o11.keep k1113 (fun _ _ h => h)
            simp -dsimp
            refine call_by (write_spec t13 sm13 (by omega) nA (SlRep.nil rByte none_ h13) (fun b hb => hb.elim) (by decide)) ?_
            rintro _ h14 ⟨rfl, F14, t14, k14, hF14⟩
            have e14 := k14.size
            have s14 := s13.mono (h' := h14) e14 fun c hc => k14.blk c (s13.lt c hc) (fun hf => by have := n13 c hf; have := s11.lt c hc; omega)
            have o14 := o13.mono (h' := h14) e14 fun c hc => k14.blk c (o13.lt c hc) (fun hf => by have := n13 c hf; have := o11.lt c hc; omega)
            have k014 : Keep none_ h h14 := ⟨by omega, fun c hc _ => by rw [k14.blk c (by omega) (fun hf => by have := n13 c hf; omega), k1113.blk c (by omega) (fun h => h), k011.blk c hc (fun h => h)]⟩
            have hy14 : SlRep rByte (fun c => own10 = some c) h14 (.slice a10 b.length c10) b := hy11.mono fun c hc => ⟨hc, by
              have := l10 c hc
              rw [k14.blk c (by omega) (fun hf => by have := n13 c hf; omega), k1113.blk c (by omega) (fun h => h)]⟩
            simp -dsimp
            refine call_by (read_spec s14 (Nat.lt_of_le_of_lt sm1.used (by omega)) nA) ?_
            rintro _ h15 ⟨u15, own15, rfl, hg15, k15, ho15⟩
            rw [hno] at hg15
            obtain ⟨a15, c15, rfl⟩ := hg15.val
            have k015 := k014.trans k15 (fun _ _ h => h)
            have hy15 := hy14.mono (F' := fun c => own10 = some c) (h' := h15) fun c hc => ⟨hc, k15.blk c (by have := l10 c hc; omega) (fun h => h)⟩
            have hb15 := hb.mono (F' := G0) (h' := h15) fun b hb => ⟨hb, k015.blk b (hG0 b hb) (fun h => h)⟩
            have o15 := o14.keep k15 (fun _ _ h => h)
            simp -dsimp
            rw [conv_bytes_str Try.elS30 Try.intK5 Try.strT9 hy15]
            simp -dsimp
            rw [conv_bytes_str Try.elS30 Try.intK5 Try.strT9 hb15]
            simp -dsimp
            rw [conv_bytes_str Try.elS30 Try.intK5 Try.strT9 hg15.bytes]
            simp -dsimp
            rw [conv_bytes_str Try.elS30 Try.intK5 Try.strT9 hb15]
            simp -dsimp
            refine call_by (names_spec o15 sm2 (by omega)) ?_
            rintro r h16 ⟨own16, hg16, k16, ho16⟩
            obtain ⟨a16, c16, rfl⟩ := hg16.val
            have hnl : (HC.Mod.mk 300 [(nA, ⟨[111, 116, 104, 101, 114], none, false⟩)] [(1, nA)]).names.length = 1 := rfl
            simp -dsimp [hnl]
            exact hK _ _ ⟨rfl, k015.trans k16 (fun _ _ h => h)⟩
end Go.Proofs
