/-
  StorePublishes: the law's walk.
-/
import Derived.Test.YtcopaleccjpdjaaN3
namespace Go.Proofs
open Go Go.HC

def nmt : Nm := ⟨#[116]⟩
def nmc : Nm := ⟨#[99]⟩
theorem ct : ¬ nmc = nmt := by decide
theorem tc : ¬ nmt = nmc := by decide
theorem write_c (f : FileM) (b : List UInt8) (t : List (Int × Nm)) (hb : f.now.length + b.length ≤ 300) : (HC.Mod.mk 300 [(nmt, f)] t).write nmc b = (0, ⟨300, [(nmc, ⟨b, none, false⟩), (nmt, f)], t ++ [(1, nmc)]⟩) := by
  have hf : (HC.Mod.mk 300 [(nmt, f)] t).fits nmc b = true := by unfold Mod.fits Mod.nowOf Mod.look; simp [lookF, ct]; omega
  have hx : nameOk nmc = true := rfl
  have hlt : nLt nmc nmt := by decide
  unfold Mod.write Mod.wrote Mod.look
  rw [hx, hf]
  simp [putF, lookF, ct, hlt]
theorem pub_one (f : FileM) (t : List (Int × Nm)) : (HC.Mod.mk 300 [(nmt, f)] t).publish nmt nmc = if f.safe = true then (0, HC.Mod.mk 300 [(nmc, f)] (t ++ [(3, nmc)])) else (6, HC.Mod.mk 300 [(nmt, f)] t) := by
  have hx : nameOk nmc = true := rfl
  unfold Mod.publish Mod.look
  rw [hx]
  simp only [look_one]
  cases f.safe <;> simp [lookF, ct, delF, putF]
theorem pub_two (f g : FileM) (t : List (Int × Nm)) : (HC.Mod.mk 300 [(nmc, g), (nmt, f)] t).publish nmt nmc = if f.safe = true then (9, HC.Mod.mk 300 [(nmc, g), (nmt, f)] t) else (6, HC.Mod.mk 300 [(nmc, g), (nmt, f)] t) := by
  have hx : nameOk nmc = true := rfl
  unfold Mod.publish Mod.look
  rw [hx]
  simp only [lookF, tc, if_false, if_true]
  cases f.safe <;> simp

set_option maxHeartbeats 40000000 in
set_option maxRecDepth 10000 in
theorem storePublishes_spec {G0 G1 : Nat → Prop} {h : Heap} {bv kv : Value} {b : List UInt8} {ks : List Int} (hb : SlRep rByte G0 h bv b) (hG0 : ∀ b, G0 b → b < h.size) (sync there : Bool) (hk : SlRep rInt G1 h kv ks) (hG1 : ∀ b, G1 b → b < h.size) :
    CallH Try.prog 11 #[bv, .bool sync, .bool there, kv] h fun r h' => r = .bool true ∧ Keep none_ h h' := by
  refine callH_by fun K hK => ?_
  refine enter [.tmp 8] Try.func11 rfl rfl (by kernel_rfl) rfl ?_
  obtain ⟨a0, c0, rfl, hc0, hc0'⟩ := hb.val
  obtain ⟨a1, c1, rfl, hc1, hc1'⟩ := hk.val
  simp -dsimp
  refine call_by (known_spec h) ?_
  rintro _ h1 ⟨rfl, k1⟩
  by_cases hl : 100 < b.length
  · have : (100 : Int) < b.length := by omega
    simp -dsimp [this]
    exact hK _ _ ⟨rfl, k1⟩
  · have hlb : ¬ (100 : Int) < b.length := by omega
    simp -dsimp [hlb]
    refine call_by (new_spec 300 h1) ?_
    rintro r h2 ⟨F2, s2, k2, n2⟩
    obtain ⟨bs, hr⟩ : ∃ bs, r = .pointer (some ⟨bs, 0, none⟩) := by
      obtain ⟨bs, _, _, _, _, _, _, rfl, _⟩ := s2; exact ⟨bs, rfl⟩
    subst hr
    have k12 := k1.trans k2 (fun _ _ h => h)
    have sm0 : (Mod.new 300).Small 1000 := ⟨Nat.zero_le _, Nat.zero_le _, Nat.zero_le _⟩
    have hb2 := hb.mono (F' := G0) (h' := h2) fun b hb => ⟨hb, k12.blk b (hG0 b hb) (fun h => h)⟩
    have e2 := k12.size
    have hF2 : ∀ b, F2 b → h.size ≤ b := fun b hb => Nat.le_trans k1.size (n2 b hb)
    simp -dsimp
    refine call_by (write_spec s2 sm0 (by omega) nmt hb2 (fun b hb => by have := hG0 b hb; omega) (by omega)) ?_
    rintro _ h3 ⟨rfl, F3, s3, k3, hF3⟩
    have hw1 : (Mod.new 300).write nmt b = _ := write_first 300 nmt b rfl (by omega)
    rw [hw1] at s3 ⊢
    replace s3 : StAt (.pointer (some ⟨bs, 0, none⟩)) F3 h3 (HC.Mod.mk 300 [(nmt, ⟨b, none, false⟩)] [(1, nmt)]) := s3
    have sm1 : (HC.Mod.mk 300 [(nmt, ⟨b, none, false⟩)] [(1, nmt)]).Small 1000 := ⟨by simp; omega, by simp, by simp⟩
    have e3 := k3.size
    have hF3' : ∀ b, F3 b → h.size ≤ b := fun b hb => (hF3 b hb).elim (hF2 b) (fun h => by omega)
    have k03 : Keep none_ h h3 := ⟨by omega, fun b hb _ => by
      rw [k3.blk b (by omega) (fun hf => by have := hF2 b hf; omega), k12.blk b hb (fun h => h)]⟩
    cases sync
    case' false =>
      obtain ⟨h4, rfl⟩ : ∃ h4, h4 = h3 := ⟨_, rfl⟩
      obtain ⟨F4, s4, hF4'⟩ : ∃ F4, StAt (.pointer (some ⟨bs, 0, none⟩)) F4 h4 (HC.Mod.mk 300 [(nmt, ⟨b, none, false⟩)] [(1, nmt)]) ∧ ∀ b, F4 b → h.size ≤ b := ⟨F3, s3, hF3'⟩
      obtain ⟨su, hsu⟩ : ∃ su : Option (List UInt8), su = none := ⟨_, rfl⟩
      obtain ⟨sf, hsf⟩ : ∃ sf, sf = false := ⟨_, rfl⟩
      obtain ⟨tr, htr⟩ : ∃ tr : List (Int × Nm), tr = [(1, nmt)] := ⟨_, rfl⟩
      have htl : tr.length ≤ 10 := by rw [htr]; decide
      have hsw : sf = true → su = some b := by rw [hsf]; intro h; cases h
      have k04 := k03
      simp -dsimp
    case' true =>
      simp -dsimp
      refine call_by (sync_spec s3 sm1 (by omega) nmt) ?_
      rintro _ h4 ⟨rfl, F4, s4, k4, hF4⟩
      rw [sync_one] at s4 ⊢
      replace s4 : StAt (.pointer (some ⟨bs, 0, none⟩)) F4 h4 (HC.Mod.mk 300 [(nmt, ⟨b, some b, true⟩)] [(1, nmt), (2, nmt)]) := s4
      have e4 := k4.size
      have hF4' : ∀ b, F4 b → h.size ≤ b := fun b hb => (hF4 b hb).elim (hF3' b) (fun h => by omega)
      have k04 : Keep none_ h h4 := ⟨by omega, fun b hb _ => by
        rw [k4.blk b (by omega) (fun hf => by have := hF3' b hf; omega), k03.blk b hb (fun h => h)]⟩
      obtain ⟨su, hsu⟩ : ∃ su : Option (List UInt8), su = some b := ⟨_, rfl⟩
      obtain ⟨sf, hsf⟩ : ∃ sf, sf = true := ⟨_, rfl⟩
      obtain ⟨tr, htr⟩ : ∃ tr : List (Int × Nm), tr = [(1, nmt), (2, nmt)] := ⟨_, rfl⟩
      have htl : tr.length ≤ 10 := by rw [htr]; decide
      have hsw : sf = true → su = some b := fun _ => hsu
      simp -dsimp
    all_goals
      have s5 : StAt (.pointer (some ⟨bs, 0, none⟩)) F4 h4 (HC.Mod.mk 300 [(nmt, ⟨b, su, sf⟩)] tr) := by rw [hsu, hsf, htr]; exact s4
      have sm5 : (HC.Mod.mk 300 [(nmt, ⟨b, su, sf⟩)] tr).Small 1000 := ⟨by simp; omega, by simp, by show tr.length ≤ _; omega⟩
      have e4 := k04.size
      cases there with
      | false =>
        simp -dsimp
        refine call_by (publish_spec s5 sm5 (by omega) nmt nmc) ?_
        rintro _ h6 ⟨rfl, F6, s6, k6, hF6⟩
        rw [pub_one] at s6 ⊢
        have e6 := k6.size
        have k06 : Keep none_ h h6 := ⟨by omega, fun b hb _ => by rw [k6.blk b (by omega) (fun hf => by have := hF4' b hf; omega), k04.blk b hb (fun h => h)]⟩
        cases sf with
        | false =>
          try exact absurd hsf (by decide)
          all_goals
            replace s6 : StAt (.pointer (some ⟨bs, 0, none⟩)) F6 h6 (HC.Mod.mk 300 [(nmt, ⟨b, su, false⟩)] tr) := s6
            simp -dsimp
            refine call_by (read_spec s6 (Nat.lt_of_le_of_lt sm5.used (by omega)) nmt) ?_
            rintro _ h7 ⟨u7, own7, rfl, hg7, k7, ho7⟩
            have hlk : ((HC.Mod.mk 300 [(nmt, ⟨b, su, false⟩)] tr).look nmt).isSome = true := by unfold Mod.look; simp only [look_one]; rfl
            rw [hlk]
            simp -dsimp
            refine call_by (read_spec (s6.keep k7 (fun _ _ h => h)) (Nat.lt_of_le_of_lt sm5.used (by omega)) nmc) ?_
            rintro _ h8 ⟨u8, own8, rfl, hg8, k8, ho8⟩
            have hlk : ((HC.Mod.mk 300 [(nmt, ⟨b, su, false⟩)] tr).look nmc).isSome = false := by unfold Mod.look; simp [lookF, ct]
            rw [hlk]
            simp -dsimp
            exact hK _ _ ⟨rfl, (k06.trans k7 (fun _ _ h => h)).trans k8 (fun _ _ h => h)⟩
        | true =>
          try exact absurd hsf (by decide)
          all_goals
            obtain rfl := hsw rfl
            replace s6 : StAt (.pointer (some ⟨bs, 0, none⟩)) F6 h6 (HC.Mod.mk 300 [(nmc, ⟨b, some b, true⟩)] (tr ++ [(3, nmc)])) := s6
            have sm6 : (HC.Mod.mk 300 [(nmc, ⟨b, some b, true⟩)] (tr ++ [(3, nmc)])).Small 1000 := ⟨by simp; omega, by simp, by show (tr ++ _).length ≤ _; simp; omega⟩
            simp -dsimp
            refine call_by (read_spec s6 (Nat.lt_of_le_of_lt sm6.used (by omega)) nmt) ?_
            rintro _ h7 ⟨u7, own7, rfl, hg7, k7, ho7⟩
            have hlk : ((HC.Mod.mk 300 [(nmc, ⟨b, some b, true⟩)] (tr ++ [(3, nmc)])).look nmt).isSome = false := by unfold Mod.look; simp [lookF, tc]
            rw [hlk]
            simp -dsimp
            have s7 := s6.keep k7 (fun _ _ h => h)
            refine call_by (read_spec s7 (Nat.lt_of_le_of_lt sm6.used (by omega)) nmc) ?_
            rintro _ h8 ⟨u8, own8, rfl, hg8, k8, ho8⟩
            have hlk : ((HC.Mod.mk 300 [(nmc, ⟨b, some b, true⟩)] (tr ++ [(3, nmc)])).look nmc).isSome = true := by unfold Mod.look; simp only [look_one]; rfl
            have hno : (HC.Mod.mk 300 [(nmc, ⟨b, some b, true⟩)] (tr ++ [(3, nmc)])).nowOf nmc = b := by unfold Mod.nowOf Mod.look; simp only [look_one]; rfl
            rw [hno] at hg8
            rw [hlk]
            obtain ⟨a8, c8, rfl⟩ := hg8.val
            have s8 := s7.keep k8 (fun _ _ h => h)
            have k08 := (k06.trans k7 (fun _ _ h => h)).trans k8 (fun _ _ h => h)
            have hk8 := hk.mono (F' := G1) (h' := h8) fun b hb => ⟨hb, k08.blk b (hG1 b hb) (fun h => h)⟩
            simp -dsimp
            have hsl : ∀ p ∈ [(nmc, (⟨b, some b, true⟩ : FileM))], ∀ x, p.2.sure = some x → x.length < 1000000000 := by
              intro p hp x hx
              rw [List.mem_singleton] at hp
              subst hp
              cases hx
              omega
            refine call_by (crash_spec s8 sm6 (by omega) hsl hk8 (fun b hb => by have := hG1 b hb; have := k08.size; omega)) ?_
            rintro r h9 ⟨F9, s9, k9, n9⟩
            obtain ⟨ob, hr⟩ : ∃ ob, r = .pointer (some ⟨ob, 0, none⟩) := by
              obtain ⟨ob, _, _, _, _, _, _, rfl, _⟩ := s9; exact ⟨ob, rfl⟩
            subst hr
            rw [crash_one] at s9
            replace s9 : StAt (.pointer (some ⟨ob, 0, none⟩)) F9 h9 (HC.Mod.mk 300 [(nmc, ⟨b, some b, true⟩)] []) := s9
            have sm9 : (HC.Mod.mk 300 [(nmc, ⟨b, some b, true⟩)] []).Small 1000 := ⟨by simp; omega, by simp, by simp⟩
            simp -dsimp
            refine call_by (read_spec s9 (Nat.lt_of_le_of_lt sm9.used (by omega)) nmc) ?_
            rintro _ h10 ⟨u10, own10, rfl, hg10, k10, ho10⟩
            have hlk : ((HC.Mod.mk 300 [(nmc, ⟨b, some b, true⟩)] []).look nmc).isSome = true := by unfold Mod.look; simp only [look_one]; rfl
            have hno : (HC.Mod.mk 300 [(nmc, ⟨b, some b, true⟩)] []).nowOf nmc = b := by unfold Mod.nowOf Mod.look; simp only [look_one]; rfl
            rw [hno] at hg10
            rw [hlk]
            obtain ⟨a10, c10, rfl⟩ := hg10.val
            have k810 := k9.trans k10 (fun _ _ h => h)
            have k010 := k08.trans k810 (fun _ _ h => h)
            have hx10 : SlRep rByte (fun b => own8 = some b) h10 (.slice a8 b.length c8) b := hg8.bytes.mono fun b hb => ⟨hb, k810.blk b (hg8.own_lt b hb) (fun h => h)⟩
            have hb10 := hb.mono (F' := G0) (h' := h10) fun b hb => ⟨hb, k010.blk b (hG0 b hb) (fun h => h)⟩
            simp -dsimp
            rw [conv_bytes_str Try.elS30 Try.intK5 Try.strT9 hx10]
            simp -dsimp
            rw [conv_bytes_str Try.elS30 Try.intK5 Try.strT9 hb10]
            simp -dsimp
            rw [conv_bytes_str Try.elS30 Try.intK5 Try.strT9 hg10.bytes]
            simp -dsimp
            rw [conv_bytes_str Try.elS30 Try.intK5 Try.strT9 hb10]
            simp -dsimp
            exact hK _ _ ⟨rfl, k010⟩
      | true =>
        simp -dsimp
        refine const_bytes [111, 108, 100] Try.elS30 Try.intK5 rfl rfl (by decide) ?_
        intro h5 k5 hsz5 hb5
        have s5' := s5.keep k5 (fun _ _ h => h)
        simp -dsimp
        refine call_by (write_spec s5' sm5 (by omega) nmc hb5 (fun b hb => by omega) (by decide)) ?_
        rintro _ h6 ⟨rfl, F6, s6, k6, hF6⟩
        rw [write_c _ _ _ (by simp; omega)] at s6 ⊢
        replace s6 : StAt (.pointer (some ⟨bs, 0, none⟩)) F6 h6 (HC.Mod.mk 300 [(nmc, ⟨[111, 108, 100], none, false⟩), (nmt, ⟨b, su, sf⟩)] (tr ++ [(1, nmc)])) := s6
        have e6 := k6.size
        have e5 := k5.size
        have k06 : Keep none_ h h6 := ⟨by omega, fun b hb _ => by rw [k6.blk b (by omega) (fun hf => by have := hF4' b hf; omega), k5.blk b (by omega) (fun h => h), k04.blk b hb (fun h => h)]⟩
        have hF6' : ∀ b, F6 b → h.size ≤ b := fun b hb => (hF6 b hb).elim (hF4' b) (fun h => by omega)
        have sm6 : (HC.Mod.mk 300 [(nmc, ⟨[111, 108, 100], none, false⟩), (nmt, ⟨b, su, sf⟩)] (tr ++ [(1, nmc)])).Small 1000 := ⟨by simp; omega, by simp, by show (tr ++ _).length ≤ _; simp; omega⟩
        simp -dsimp
        refine call_by (publish_spec s6 sm6 (by omega) nmt nmc) ?_
        rintro _ h7 ⟨rfl, F7, s7, k7, hF7⟩
        rw [pub_two] at s7 ⊢
        have e7 := k7.size
        have k07 : Keep none_ h h7 := ⟨by omega, fun b hb _ => by rw [k7.blk b (by omega) (fun hf => by have := hF6' b hf; omega), k06.blk b hb (fun h => h)]⟩
        cases sf
        case' false => try exact absurd hsf (by decide)
        case' true => try exact absurd hsf (by decide)
        all_goals
          replace s7 : StAt (.pointer (some ⟨bs, 0, none⟩)) F7 h7 (HC.Mod.mk 300 [(nmc, ⟨[111, 108, 100], none, false⟩), (nmt, ⟨b, su, _⟩)] (tr ++ [(1, nmc)])) := s7
          simp -dsimp
          refine call_by (read_spec s7 (Nat.lt_of_le_of_lt sm6.used (by omega)) nmt) ?_
          rintro _ h8 ⟨u8, own8, rfl, hg8, k8, ho8⟩
          have hlk : ∀ sf, ((HC.Mod.mk 300 [(nmc, ⟨[111, 108, 100], none, false⟩), (nmt, ⟨b, su, sf⟩)] (tr ++ [(1, nmc)])).look nmt).isSome = true := by intro sf; unfold Mod.look; simp [lookF, tc]
          have hlk2 : ∀ sf, ((HC.Mod.mk 300 [(nmc, ⟨[111, 108, 100], none, false⟩), (nmt, ⟨b, su, sf⟩)] (tr ++ [(1, nmc)])).look nmc).isSome = true := by intro sf; unfold Mod.look; simp [lookF]
          rw [hlk]
          simp -dsimp
          refine call_by (read_spec (s7.keep k8 (fun _ _ h => h)) (Nat.lt_of_le_of_lt sm6.used (by omega)) nmc) ?_
          rintro _ h9 ⟨u9, own9, rfl, hg9, k9, ho9⟩
          rw [hlk2]
          simp -dsimp
          exact hK _ _ ⟨rfl, (k07.trans k8 (fun _ _ h => h)).trans k9 (fun _ _ h => h)⟩
end Go.Proofs
