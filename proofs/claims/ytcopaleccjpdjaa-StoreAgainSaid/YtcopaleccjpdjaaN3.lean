/-
  StoreKeeps: the law's walk.
-/
import Derived.Test.YtcopaleccjpdjaaS12
import Derived.Test.YtcopaleccjpdjaaL1
namespace Go.Proofs
open Go Go.HC

def nmf : Nm := ⟨#[102]⟩
/-- What stands behind the law's writes. -/
def keepsF (a b : List UInt8) (had : Bool) : Files := [(nmf, ⟨b, if had = true then some a else none, false⟩)]
theorem write_first (k : Nat) (x : Nm) (a : List UInt8) (hx : nameOk x = true) (ha : a.length ≤ k) : (Mod.new k).write x a = (0, ⟨k, [(x, ⟨a, none, false⟩)], [(1, x)]⟩) := by
  have hf : (Mod.new k).fits x a = true := by unfold Mod.fits Mod.nowOf Mod.look Mod.new; simp; omega
  unfold Mod.write
  rw [hx, hf]
  rfl
theorem look_one (x : Nm) (f : FileM) : lookF x [(x, f)] = some f := by simp [lookF]
theorem sync_one (k : Int) (x : Nm) (f : FileM) (t : List (Int × Nm)) : (HC.Mod.mk k [(x, f)] t).sync x = (0, ⟨k, [(x, ⟨f.now, some f.now, true⟩)], t ++ [(2, x)]⟩) := by
  unfold Mod.sync Mod.look
  simp only [look_one]
  simp [putF]
theorem write_one (k : Nat) (x : Nm) (f : FileM) (b : List UInt8) (t : List (Int × Nm)) (hx : nameOk x = true) (hb : b.length ≤ k) : (HC.Mod.mk k [(x, f)] t).write x b = (0, ⟨k, [(x, ⟨b, f.sure, false⟩)], t ++ [(1, x)]⟩) := by
  have hf : (HC.Mod.mk k [(x, f)] t).fits x b = true := by unfold Mod.fits Mod.nowOf Mod.look; simp only [look_one]; simp; omega
  unfold Mod.write Mod.wrote Mod.look
  rw [hx, hf]
  simp [putF, look_one]

theorem crash_one (k : Int) (x : Nm) (f : FileM) (t : List (Int × Nm)) (ks : List Int) : (HC.Mod.mk k [(x, f)] t).crash ks = ⟨k, (match (if f.safe = true then f.sure else leftF f (ks.headD 0)) with | some b => [(x, ⟨b, some b, true⟩)] | none => []), []⟩ := by
  unfold Mod.crash
  simp only [crashF]
  cases (if f.safe = true then f.sure else leftF f (ks.headD 0)) <;> rfl

set_option maxHeartbeats 40000000 in
set_option maxRecDepth 10000 in
theorem storeKeeps_spec {G0 G1 : Nat → Prop} {h : Heap} {av bv : Value} {a b : List UInt8} (ha : SlRep rByte G0 h av a) (hG0 : ∀ b, G0 b → b < h.size) (hb : SlRep rByte G1 h bv b) (hG1 : ∀ b, G1 b → b < h.size) (had : Bool) (keep : Int) :
    CallH Try.prog 9 #[av, bv, .bool had, .int .i64 keep] h fun r h' => r = .bool true ∧ Keep none_ h h' := by
  refine callH_by fun K hK => ?_
  refine enter [.tmp 8] Try.func9 rfl rfl (by kernel_rfl) rfl ?_
  obtain ⟨a0, c0, rfl, hc0, hc0'⟩ := ha.val
  obtain ⟨a1, c1, rfl, hc1, hc1'⟩ := hb.val
  simp -dsimp
  refine call_by (known_spec h) ?_
  rintro _ h1 ⟨rfl, k1⟩
  by_cases hl : 100 < a.length ∨ 100 < b.length
  · by_cases hl0 : 100 < a.length
    · have : (100 : Int) < a.length := by omega
      simp -dsimp [this]
      exact hK _ _ ⟨rfl, k1⟩
    · have h2 : (100 : Int) < b.length := by omega
      have h1 : ¬ (100 : Int) < a.length := by omega
      simp -dsimp [h1, h2]
      exact hK _ _ ⟨rfl, k1⟩
  · have hla : ¬ (100 : Int) < a.length := by omega
    have hlb : ¬ (100 : Int) < b.length := by omega
    simp -dsimp [hla, hlb]
    refine call_by (new_spec 500 h1) ?_
    rintro r h2 ⟨F2, s2, k2, n2⟩
    obtain ⟨bs, hr⟩ : ∃ bs, r = .pointer (some ⟨bs, 0, none⟩) := by
      obtain ⟨bs, _, _, _, _, _, _, rfl, _⟩ := s2; exact ⟨bs, rfl⟩
    subst hr
    have k12 := k1.trans k2 (fun _ _ h => h)
    have sm0 : (Mod.new 500).Small 1000 := ⟨Nat.zero_le _, Nat.zero_le _, Nat.zero_le _⟩
    have ha2 := ha.mono (F' := G0) (h' := h2) fun b hb => ⟨hb, k12.blk b (hG0 b hb) (fun h => h)⟩
    have hb2 := hb.mono (F' := G1) (h' := h2) fun b hb => ⟨hb, k12.blk b (hG1 b hb) (fun h => h)⟩
    have e2 := k12.size
    have hnok : nameOk nmf = true := rfl
    have hF2 : ∀ b, F2 b → h.size ≤ b := fun b hb => Nat.le_trans k1.size (n2 b hb)
    cases had
    case' false =>
      simp -dsimp
      refine call_by (write_spec s2 sm0 (by omega) nmf hb2 (fun b hb => by have := hG1 b hb; omega) (by omega)) ?_
      rintro _ h3 ⟨rfl, F3, s3, k3, hF3⟩
      have hw1 : (Mod.new 500).write nmf b = _ := write_first 500 nmf b hnok (by omega)
      rw [hw1] at s3 ⊢
      obtain ⟨tr, htr⟩ : ∃ tr : List (Int × Nm), tr = [(1, nmf)] := ⟨_, rfl⟩
      have s6 : StAt (.pointer (some ⟨bs, 0, none⟩)) F3 h3 (HC.Mod.mk 500 [(nmf, ⟨b, none, false⟩)] [(1, nmf)]) := s3
      have htl : tr.length ≤ 10 := by rw [htr]; decide
      obtain ⟨sure, hsure⟩ : ∃ sure : Option (List UInt8), sure = none := ⟨_, rfl⟩
      have hsn : ∀ x, sure = some x → x = a := fun x hx => by rw [hsure] at hx; cases hx
      have hsh : sure.isSome = false := by rw [hsure]; rfl
      rw [← hsure, ← htr] at s6
      have k06 : Keep none_ h h3 := ⟨by have := k3.size; omega, fun b hb _ => by rw [k3.blk b (by omega) (fun hf => by have := hF2 b hf; omega), k12.blk b hb (fun h => h)]⟩
      have hF6 : ∀ b, F3 b → h.size ≤ b := fun b hb => (hF3 b hb).elim (hF2 b) (fun h => by omega)
      simp -dsimp
    case' true =>
      simp -dsimp
      refine call_by (write_spec s2 sm0 (by omega) nmf ha2 (fun b hb => by have := hG0 b hb; omega) (by omega)) ?_
      rintro _ h3 ⟨rfl, F3, s3, k3, hF3⟩
      have hw1 : (Mod.new 500).write nmf a = _ := write_first 500 nmf a hnok (by omega)
      rw [hw1] at s3 ⊢
      replace s3 : StAt (.pointer (some ⟨bs, 0, none⟩)) F3 h3 (HC.Mod.mk 500 [(nmf, ⟨a, none, false⟩)] [(1, nmf)]) := s3
      have sm1 : (HC.Mod.mk 500 [(nmf, ⟨a, none, false⟩)] [(1, nmf)]).Small 1000 := ⟨by simp; omega, by simp, by simp⟩
      simp -dsimp
      refine call_by (sync_spec s3 sm1 (by omega) nmf) ?_
      rintro _ h4 ⟨rfl, F4, s4, k4, hF4⟩
      rw [sync_one] at s4 ⊢
      replace s4 : StAt (.pointer (some ⟨bs, 0, none⟩)) F4 h4 (HC.Mod.mk 500 [(nmf, ⟨a, some a, true⟩)] [(1, nmf), (2, nmf)]) := s4
      have sm2 : (HC.Mod.mk 500 [(nmf, ⟨a, some a, true⟩)] [(1, nmf), (2, nmf)]).Small 1000 := ⟨by simp; omega, by simp, by simp⟩
      have e3 := k3.size
      have e4 := k4.size
      have hF3' : ∀ b, F3 b → h.size ≤ b := fun b hb => (hF3 b hb).elim (hF2 b) (fun h => by omega)
      have hF4' : ∀ b, F4 b → h.size ≤ b := fun b hb => (hF4 b hb).elim (hF3' b) (fun h => by omega)
      have k04 : Keep none_ h h4 := ⟨by omega, fun b hb _ => by
        rw [k4.blk b (by omega) (fun hf => by have := hF3' b hf; omega), k3.blk b (by omega) (fun hf => by have := hF2 b hf; omega), k12.blk b hb (fun h => h)]⟩
      have hb4 := hb.mono (F' := G1) (h' := h4) fun b hb => ⟨hb, k04.blk b (hG1 b hb) (fun h => h)⟩
      simp -dsimp
      refine call_by (write_spec s4 sm2 (by omega) nmf hb4 (fun b hb => by have := hG1 b hb; omega) (by omega)) ?_
      rintro _ h3 ⟨rfl, F3, s6, k6, hF6⟩
      have hw3 : (HC.Mod.mk 500 [(nmf, ⟨a, some a, true⟩)] [(1, nmf), (2, nmf)]).write nmf b = _ := write_one 500 nmf _ b _ hnok (by omega)
      rw [hw3] at s6 ⊢
      obtain ⟨sure, hsure⟩ : ∃ sure : Option (List UInt8), sure = some a := ⟨_, rfl⟩
      have hsn : ∀ x, sure = some x → x = a := fun x hx => by rw [hsure] at hx; cases hx; rfl
      have hsh : sure.isSome = true := by rw [hsure]; rfl
      obtain ⟨tr, htr⟩ : ∃ tr : List (Int × Nm), tr = [(1, nmf), (2, nmf), (1, nmf)] := ⟨_, rfl⟩
      have htl : tr.length ≤ 10 := by rw [htr]; decide
      replace s6 : StAt (.pointer (some ⟨bs, 0, none⟩)) F3 h3 (HC.Mod.mk 500 [(nmf, ⟨b, some a, false⟩)] [(1, nmf), (2, nmf), (1, nmf)]) := s6
      rw [← hsure, ← htr] at s6
      have k06 : Keep none_ h h3 := ⟨by have := k6.size; omega, fun b hb _ => by rw [k6.blk b (by omega) (fun hf => by have := hF4' b hf; omega), k04.blk b hb (fun h => h)]⟩
      have hF6 : ∀ b, F3 b → h.size ≤ b := fun b hb => (hF6 b hb).elim (hF4' b) (fun h => by omega)
      simp -dsimp
    all_goals
      have ha6 := ha.mono (F' := G0) (h' := h3) fun b hb => ⟨hb, k06.blk b (hG0 b hb) (fun h => h)⟩
      have hb6 := hb.mono (F' := G1) (h' := h3) fun b hb => ⟨hb, k06.blk b (hG1 b hb) (fun h => h)⟩
      have sm6 : (HC.Mod.mk 500 [(nmf, ⟨b, sure, false⟩)] tr).Small 1000 := ⟨by simp; omega, by simp, by show tr.length ≤ _; omega⟩
      rw [conv_bytes_str Try.elS30 Try.intK5 Try.strT9 ha6]
      have hlt6 := hb6.len_lt
      by_cases w1 : keep = 1
      case' pos =>
        obtain ⟨keep', hkeep⟩ : ∃ k, k = (1 : Int) := ⟨_, rfl⟩
        subst w1
        simp -dsimp
        rw [conv_bytes_str Try.elS30 Try.intK5 Try.strT9 hb6]
        obtain ⟨isv, hisv⟩ : ∃ isv, isv = true := ⟨_, rfl⟩
        obtain ⟨wl, hwl⟩ : ∃ wl, wl = b := ⟨_, rfl⟩
        have hlf : leftF ⟨b, sure, false⟩ 1 = if isv = true then some wl else none := by rw [hisv, hwl]; rfl
        have hwll : wl.length ≤ 100 := by rw [hwl]; omega
        rw [← hisv, ← hwl]
        simp -dsimp
      case' neg =>
        have b1 : (keep == 1) = false := by simp [w1]
        by_cases w2 : keep = 2
        case' pos =>
          obtain ⟨keep', hkeep⟩ : ∃ k, k = (2 : Int) := ⟨_, rfl⟩
          subst w2
          obtain ⟨m, hm⟩ : ∃ m, b.length / 2 = m := ⟨_, rfl⟩
          have e1 : IntKind.i64.wrap ((b.length : Int) / 2) = (m : Int) := by
            rw [wrap_i64 (by omega) (by omega)]; omega
          have hpc0 := hb6.cut (i := 0) (j := m) (m := c1) (by omega) (by omega) (by omega) (by omega)
          rw [List.drop_zero] at hpc0
          have hpc : SlRep rByte G1 h3 (.slice (piece a1 0 c1 1) m c1) (b.take m) := hpc0
          simp -dsimp [e1]
          rw [sliceS_slice (i := 0) (j := m) (m := c1) Try.elS30 Try.szS5 (.inl ⟨rfl, rfl⟩) (.inr ⟨_, rfl⟩) (.inl ⟨rfl, rfl⟩) (by omega) (by omega) (by omega)]
          simp -dsimp
          rw [conv_bytes_str Try.elS30 Try.intK5 Try.strT9 hpc]
          obtain ⟨isv, hisv⟩ : ∃ isv, isv = true := ⟨_, rfl⟩
          obtain ⟨wl, hwl⟩ : ∃ wl, wl = b.take m := ⟨_, rfl⟩
          have hlf : leftF ⟨b, sure, false⟩ 2 = if isv = true then some wl else none := by rw [hisv, hwl, ← hm]; rfl
          have hwll : wl.length ≤ 100 := by rw [hwl]; simp; omega
          rw [← hisv, ← hwl]
          simp -dsimp
        case' neg =>
          obtain ⟨keep', hkeep⟩ : ∃ k, k = keep := ⟨_, rfl⟩
          have b2 : (keep == 2) = false := by simp [w2]
          obtain ⟨isv, hisv⟩ : ∃ isv, isv = sure.isSome := ⟨_, rfl⟩
          obtain ⟨wl, hwl⟩ : ∃ wl, wl = a := ⟨_, rfl⟩
          have hlf : leftF ⟨b, sure, false⟩ keep = if isv = true then some wl else none := by
            rw [hisv, hwl, hsure]; simp [leftF, w1, w2]
          have hwll : wl.length ≤ 100 := by rw [hwl]; omega
          rw [hsh] at hisv
          simp -dsimp [b1, b2]
          rw [← hisv, ← hwl]
      all_goals
        generalize hH7 : h3.push _ = h7
        rw [← hkeep] at hH7 hlf
        have k37 : Keep none_ h3 h7 := by rw [← hH7]; exact .push _ _ _
        have hsz7 : h7.size = h3.size + 1 := by rw [← hH7]; simp
        have s7 := s6.keep k37 (fun _ _ h => h)
        have hks : SlRep rInt (fun b => b = h3.size) h7 (.slice (some ⟨h3.size, 0, none⟩) 1 1) [keep'] := by
          rw [← hH7]
          exact ⟨_, 1, _, rfl, Nat.le_refl _, by decide, .inr ⟨h3.size, 0, _, _, _, rfl, rfl, push_new _ _, rfl⟩, ints_map.2 rfl⟩
        have hsl : ∀ p ∈ [(nmf, (⟨b, sure, false⟩ : FileM))], ∀ x, p.2.sure = some x → x.length < 1000000000 := by
          intro p hp x hx
          rw [List.mem_singleton] at hp
          subst hp
          have := hsn x hx
          subst this
          omega
        refine call_by (crash_spec s7 sm6 (by omega) hsl hks (fun b hb => by omega)) ?_
        rintro r h8 ⟨F8, s8, k8, n8⟩
        obtain ⟨ob, hr⟩ : ∃ ob, r = .pointer (some ⟨ob, 0, none⟩) := by
          obtain ⟨ob, _, _, _, _, _, _, rfl, _⟩ := s8; exact ⟨ob, rfl⟩
        subst hr
        rw [crash_one] at s8
        have hif : (if (⟨b, sure, false⟩ : FileM).safe = true then (⟨b, sure, false⟩ : FileM).sure else leftF ⟨b, sure, false⟩ ([keep'].headD 0)) = if isv = true then some wl else none := hlf
        rw [hif] at s8
        have k08 : Keep none_ h h8 := (k06.trans k37 (fun _ _ h => h)).trans k8 (fun _ _ h => h)
        cases isv with
        | true =>
          try exact absurd hisv (by decide)
          all_goals
            replace s8 : StAt (.pointer (some ⟨ob, 0, none⟩)) F8 h8 (HC.Mod.mk 500 [(nmf, ⟨wl, some wl, true⟩)] []) := s8
            have sm8 : (HC.Mod.mk 500 [(nmf, ⟨wl, some wl, true⟩)] []).Small 1000 := ⟨by simp; omega, by simp, by simp⟩
            simp -dsimp
            refine call_by (read_spec s8 (Nat.lt_of_le_of_lt sm8.used (by omega)) nmf) ?_
            rintro _ h9 ⟨u9, own9, rfl, hg9, k9, ho9⟩
            have hlk : ((HC.Mod.mk 500 [(nmf, ⟨wl, some wl, true⟩)] []).look nmf).isSome = true := by unfold Mod.look; simp only [look_one]; rfl
            have hno : (HC.Mod.mk 500 [(nmf, ⟨wl, some wl, true⟩)] []).nowOf nmf = wl := by unfold Mod.nowOf Mod.look; simp only [look_one]; rfl
            rw [hno] at hg9
            rw [hlk]
            obtain ⟨a9, c9, rfl⟩ := hg9.val
            simp -dsimp
            rw [conv_bytes_str Try.elS30 Try.intK5 Try.strT9 hg9.bytes]
            simp -dsimp
            exact hK _ _ ⟨rfl, k08.trans k9 (fun _ _ h => h)⟩
        | false =>
          try exact absurd hisv (by decide)
          all_goals
            replace s8 : StAt (.pointer (some ⟨ob, 0, none⟩)) F8 h8 (HC.Mod.mk 500 [] []) := s8
            have sm8 : (HC.Mod.mk 500 [] []).Small 1000 := ⟨by simp, by simp, by simp⟩
            simp -dsimp
            refine call_by (read_spec s8 (Nat.lt_of_le_of_lt sm8.used (by omega)) nmf) ?_
            rintro _ h9 ⟨u9, own9, rfl, hg9, k9, ho9⟩
            have hlk : ((HC.Mod.mk 500 [] []).look nmf).isSome = false := rfl
            rw [hlk]
            simp -dsimp
            refine call_by (names_spec (s8.keep k9 (fun _ _ h => h)) sm8 (by omega)) ?_
            rintro r h10 ⟨own10, hg10, k10, ho10⟩
            obtain ⟨a10, c10, rfl⟩ := hg10.val
            have hnl : (HC.Mod.mk 500 [] []).names.length = 0 := rfl
            simp -dsimp [hnl]
            exact hK _ _ ⟨rfl, (k08.trans k9 (fun _ _ h => h)).trans k10 (fun _ _ h => h)⟩
end Go.Proofs
