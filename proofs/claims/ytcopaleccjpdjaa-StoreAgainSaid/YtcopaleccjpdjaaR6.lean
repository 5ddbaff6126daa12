/-
  The document's store: a file is written.
-/
import Derived.Test.YtcopaleccjpdjaaR5
namespace Go.HC
theorem Grow.elem {α : Type} {R : Rp α} {e : TypeId} {F : Nat → Prop} {h : Heap} {a : Option Addr} {n c : Nat} {xs : List α} {own : Option Nat} (hg : Grow R e F h (.slice a n c) xs own) (k : Nat) (hk : k < xs.length) :
    ∃ bk cs, a = some ⟨bk, 0, none⟩ ∧ own = some bk ∧ R.rep F h cs xs[k] ∧ HC.cellsIn h[bk]? (k * R.sz) R.sz = some cs := by
  rcases hg with ⟨_, rfl, _⟩ | ⟨bk, c', arr, cs, hv, rfl, hb, hf, h1, h2, h3, h4, h5⟩
  · simp at hk
  · cases hv
    refine ⟨bk, _, rfl, rfl, h5.get k hk, ?_⟩
    have hlen := h5.len
    have h6 : k * R.sz + R.sz ≤ xs.length * R.sz := by rw [← Nat.succ_mul]; exact Nat.mul_le_mul_right _ hk
    have h7 : xs.length * R.sz ≤ c * R.sz := Nat.mul_le_mul_right _ h2
    rw [hb, cellsIn_some, if_pos (by omega), ← h4, List.drop_take, List.take_take, Nat.min_eq_left (by omega)]
end Go.HC
namespace Go.Proofs
open Go Go.HC

set_option maxHeartbeats 40000000 in
set_option maxRecDepth 10000 in
theorem rwrite_spec {v : Value} {F G : Nat → Prop} {h : Heap} {M : Mod} (s : RefAt v F h M) {n : Nat} (hn : M.Small n) (hn' : n < 1000000000) (hlo : -9223372030000000000 ≤ M.limit) (hhi : M.limit ≤ 9223372036854775807) (x : Nm) {bv : Value} {b : List UInt8}
    (hb : SlRep rByte G h bv b) (hG : ∀ b, G b → b < h.size) (hbl : b.length < 1000000000) :
    CallH Try.prog 29 #[v, .string x, bv] h fun r h' => r = .int .i64 (M.write x b).1 ∧ ∃ F', RefAt v F' h' (M.write x b).2 ∧ Keep F h h' ∧ ∀ b, F' b → F b ∨ h.size ≤ b := by
  refine callH_by fun K hK => ?_
  have s0 := s
  have hfl := hn.files
  have htl := hn.trace
  have hul := hn.used
  obtain ⟨bs, fv, of, lv, ol, R, rfl, rfl, s⟩ := s
  obtain ⟨ba, bc, rfl, hbc, _⟩ := hb.val
  refine enter [.tmp 6] Try.func29 rfl rfl (by kernel_rfl) rfl ?_
  have hs := s.str
  have hbs := lt_of_blk hs
  have hRl : ∀ b, R b → b < h.size := fun b hb => (s.sep b hb).1
  have hlol := s.tr.own_lt
  have hlof := s.fs.own_lt
  simp -dsimp
  refine call_by (right_spec x h) ?_
  rintro _ h' ⟨rfl, hh⟩
  obtain rfl := hh.symm
  unfold Mod.write at hK
  cases hno : nameOk x with
  | false =>
    rw [hno] at hK
    simp -dsimp
    exact hK _ _ ⟨rfl, _, s0, .refl _ _, fun b hb => .inl hb⟩
  | true =>
    rw [hno] at hK
    simp only [Bool.true_eq_false, if_false] at hK
    simp -dsimp
    refine call_by (find_spec s0 (by omega) x) ?_
    rintro _ h' ⟨rfl, hh⟩
    obtain rfl := hh.symm
    obtain ⟨fa, fc, rfl⟩ := s.fs.val
    have hnl := now_le s.ok x
    simp -dsimp
    generalize hH : Array.setIfInBounds _ h.size _ = h1
    have hz1 : h1.size = h.size + 1 := by rw [← hH]; simp
    have k1 : Keep none_ h h1 := by rw [← hH]; exact ((Keep.refl none_ h).pushed _).setted _ (fun hh => absurd hh (by omega))
    have hf1 : h1[h.size]? = some (.cells #[.string x, .slice none 0 0, .slice none 0 0, .bool false, .bool false] 89 (0, 0)) := by rw [← hH]; exact set_same _ (by simp)
    have s1 := s.mono (h' := h1) (by omega) fun b hb => k1.blk b (s.lt b hb) (fun h => h)
    have hs1 := s1.str
    refine call_by (rused_spec s1.at (by omega) (by omega)) ?_
    rintro _ h1' ⟨rfl, hh⟩
    obtain rfl := hh.symm
    -- the file as it was
    cases hl : M.look x
    case' none =>
      simp -dsimp
      have hno' : M.nowOf x = [] := by unfold Mod.nowOf; rw [hl]; rfl
      obtain ⟨h2, rfl⟩ : ∃ h2, h2 = h1 := ⟨_, rfl⟩
      have k2 := k1
      obtain ⟨f0, hf0⟩ : ∃ f0 : FileM, f0 = ⟨[], none, false⟩ := ⟨_, rfl⟩
      have hf2 : ∃ va vc oa oc ox had, h2[h.size]? = some (.cells #[.string x, .slice va f0.now.length vc, .slice oa ox.length oc, .bool f0.safe, .bool had] 89 (0, 0)) ∧
          SlRep rByte R h2 (.slice va f0.now.length vc) f0.now ∧ SlRep rByte R h2 (.slice oa ox.length oc) ox ∧ f0.sure = if f0.safe = true then some f0.now else if had = true then some ox else none := by
        rw [hf0]; exact ⟨none, 0, none, 0, [], false, hf1, .nil _ _ _, .nil _ _ _, rfl⟩
      have hsure : (M.look x).bind (·.sure) = f0.sure := by rw [hl, hf0]; rfl
      have hnow : M.nowOf x = f0.now := by rw [hno', hf0]
      have hu0 : ((usedF M.files : Nat) : Int) = (usedF M.files : Int) - (f0.now.length : Int) := by rw [hf0]; simp
      rw [hu0]
    case' some g =>
      obtain ⟨hk, hat⟩ := at_pos s.ok.sorted hl
      have hno' : M.nowOf x = g.now := by unfold Mod.nowOf; rw [hl]; rfl
      generalize posF x M.files = k at hk hat ⊢
      obtain ⟨bk, cs, rfl, rfl, hr, hc⟩ := s1.fs.elem k hk
      obtain ⟨wv, ov, ox, had, rfl, r1, r2, r3⟩ := hr
      rw [hat] at r1 r3 hc
      obtain ⟨va, vc, rfl, _, _⟩ := r1.val
      obtain ⟨oa, oc, rfl, _, _⟩ := r2.val
      have hcells : HC.cellsIn h1[bk]? (k * 5) 5 = some [.string x, .slice va g.now.length vc, .slice oa ox.length oc, .bool g.safe, .bool had] := hc
      have hidx : ∀ (K : Value → Heap → Prop) (h : Heap), indexAddrS Try.prog 81 (.slice (some ⟨bk, 0, none⟩) M.files.length fc) (.int .i64 (k : Int)) h K = K (.pointer (some ⟨bk, k * 5, none⟩)) h := by
        intro K h
        rw [indexAddrS_slice _ _ _ _ _ _ (by omega) (by omega) rfl]
        simp [elSz]
      have hset : ∀ o, (h1.setIfInBounds h.size o)[h.size]? = some o := fun o => set_same _ (by omega)
      rw [hno'] at hnl
      have hw : IntKind.i64.wrap ((usedF M.files : Int) - (g.now.length : Int)) = (usedF M.files : Int) - (g.now.length : Int) := wrap_i64 (by omega) (by omega)
      simp -dsimp [hs1, hidx, hcells, hf1, hset, hw]
      generalize hH2 : h1.setIfInBounds h.size _ = h2
      have k2 : Keep none_ h h2 := by rw [← hH2]; exact k1.setted _ (fun hh => absurd hh (by omega))
      obtain ⟨f0, hf0⟩ : ∃ f0 : FileM, f0 = g := ⟨_, rfl⟩
      have hf2 : ∃ va vc oa oc ox had, h2[h.size]? = some (.cells #[.string x, .slice va f0.now.length vc, .slice oa ox.length oc, .bool f0.safe, .bool had] 89 (0, 0)) ∧
          SlRep rByte R h2 (.slice va f0.now.length vc) f0.now ∧ SlRep rByte R h2 (.slice oa ox.length oc) ox ∧ f0.sure = if f0.safe = true then some f0.now else if had = true then some ox else none := by
        have hm : ∀ b, R b → R b ∧ h2[b]? = h1[b]? := fun b hb => ⟨hb, by rw [← hH2]; exact set_other _ (by have := hRl b hb; omega)⟩
        rw [hf0]; exact ⟨va, vc, oa, oc, ox, had, by rw [← hH2]; exact hset _, r1.mono hm, r2.mono hm, r3⟩
      have hsure : (M.look x).bind (·.sure) = f0.sure := by rw [hl, hf0]; rfl
      have hnow : M.nowOf x = f0.now := by rw [hno', hf0]
      rw [← hf0]
    all_goals
      obtain ⟨va, vc, oa, oc, ox, had, hfb, r1, r2, r3⟩ := hf2
      have e2 := k2.size
      have hz2 : h2.size ≥ h.size + 1 := lt_of_blk hfb
      have s2 := s.mono (h' := h2) (by omega) fun b hb => k2.blk b (s.lt b hb) (fun h => h)
      have hs2 := s2.str
      have hnl := now_le s.ok x
      rw [hnow] at hnl
      have hwl : IntKind.i64.wrap (M.limit - ((usedF M.files : Int) - (f0.now.length : Int))) = M.limit - ((usedF M.files : Int) - (f0.now.length : Int)) := wrap_i64 (by omega) (by omega)
      have hfit : M.fits x b = decide ((usedF M.files : Int) - (f0.now.length : Int) + (b.length : Int) ≤ M.limit) := by unfold Mod.fits; rw [hnow]
      by_cases hgt : M.limit - ((usedF M.files : Int) - (f0.now.length : Int)) < (b.length : Int)
      · have hff : M.fits x b = false := by rw [hfit]; exact decide_eq_false (by omega)
        rw [hff] at hK
        simp -dsimp [hs2, hwl, hgt]
        exact hK _ _ ⟨rfl, _, s2.at, k2.none, fun b hb => .inl hb⟩
      · have hff : M.fits x b = true := by rw [hfit]; exact decide_eq_true (by omega)
        rw [hff] at hK
        simp only [Bool.true_eq_false, if_false] at hK
        simp -dsimp [hs2, hwl, hgt, hfb]
        have hset2 : ∀ o, (h2.setIfInBounds h.size o)[h.size]? = some o := fun o => set_same _ (by omega)
        have hset3 : ∀ o o', ((h2.setIfInBounds h.size o).setIfInBounds h.size o')[h.size]? = some o' := fun o o' => set_same _ (by simp; omega)
        cases hsf : f0.safe
        case' true =>
          rw [hsf] at hfb r3
          simp -dsimp [hfb, hset2]
          generalize hH3 : Array.setIfInBounds _ h.size _ = h3
          have k3 : Keep none_ h h3 := by rw [← hH3]; first | exact (k2.setted _ (fun hh => absurd hh (by omega))).setted _ (fun hh => absurd hh (by omega)) | exact k2.setted _ (fun hh => absurd hh (by omega))
          have hz3 : h3.size = h2.size := by rw [← hH3]; simp
          rw [← hz3]
          have hold3 : ∀ b, b < h.size → h3[b]? = h[b]? := fun b hb => k3.blk b hb (fun h => h)
          obtain ⟨had', hhad'⟩ : ∃ had', had' = true := ⟨_, rfl⟩
          obtain ⟨oa', oc', ox', hfb3, r2', r3'⟩ : ∃ oa' oc' ox', h3[h.size]? = some (.cells #[.string x, .slice va f0.now.length vc, .slice oa' ox'.length oc', .bool true, .bool had'] 89 (0, 0)) ∧ SlRep rByte R h3 (.slice oa' ox'.length oc') ox' ∧ f0.sure = if had' = true then some ox' else none :=
            ⟨va, vc, f0.now, by rw [hhad', ← hH3]; first | exact hset3 _ _ | exact hset2 _, r1.mono fun b hb => ⟨hb, by rw [hold3 b (hRl b hb), k2.blk b (hRl b hb) (fun h => h)]⟩, by rw [hhad', r3]; rfl⟩
        case' false =>
          rw [hsf] at hfb r3
          simp -dsimp
          obtain ⟨h3, hH3⟩ : ∃ h3, h3 = h2 := ⟨_, rfl⟩
          rw [← hH3]
          have k3 : Keep none_ h h3 := by rw [hH3]; exact k2
          have hz3 : h3.size = h2.size := by rw [hH3]
          have hold3 : ∀ b, b < h.size → h3[b]? = h[b]? := fun b hb => k3.blk b hb (fun h => h)
          obtain ⟨had', hhad'⟩ : ∃ had', had' = had := ⟨_, rfl⟩
          obtain ⟨oa', oc', ox', hfb3, r2', r3'⟩ : ∃ oa' oc' ox', h3[h.size]? = some (.cells #[.string x, .slice va f0.now.length vc, .slice oa' ox'.length oc', .bool false, .bool had'] 89 (0, 0)) ∧ SlRep rByte R h3 (.slice oa' ox'.length oc') ox' ∧ f0.sure = if had' = true then some ox' else none :=
            ⟨oa, oc, ox, by rw [hhad', hH3]; exact hfb, by rw [hH3]; exact r2, by rw [hhad', r3]; rfl⟩
        all_goals
          have hb3 := hb.mono (F' := G) (h' := h3) fun b hb => ⟨hb, hold3 b (hG b hb)⟩
          refine clone_bytes byteT hb3 (fun b hb => by have := hG b hb; omega) (by omega) ?_
          intro nv h4 own4 hg4 k4 ho4 hz4
          obtain ⟨na, nc, rfl⟩ := hg4.val
          have l4 := hg4.own_lt
          have hfb4 := k4.at hfb3 (fun h => h)
          have hset4 : ∀ o, (h4.setIfInBounds h.size o)[h.size]? = some o := fun o => set_same _ (by omega)
          have hset5 : ∀ o o', ((h4.setIfInBounds h.size o).setIfInBounds h.size o')[h.size]? = some o' := fun o o' => set_same _ (by simp; omega)
          simp -dsimp [hfb4, hset4]
          generalize hH5 : Array.setIfInBounds _ h.size _ = h5
          have k35 : Keep none_ h h5 := by rw [← hH5]; first | exact ((k3.trans k4 (fun _ _ h => h)).setted _ (fun hh => absurd hh (by omega))).setted _ (fun hh => absurd hh (by omega)) | exact (k3.trans k4 (fun _ _ h => h)).setted _ (fun hh => absurd hh (by omega))
          have hz5 : h5.size = h4.size := by rw [← hH5]; simp
          have s5 := s.mono (h' := h5) (by omega) fun b hb => k35.blk b (s.lt b hb) (fun h => h)
          have s6 := s5.widen (G := fun b => own4 = some b) fun b hb => ⟨by have := l4 b hb; omega, fun e => by have := ho4 b hb; omega, fun e => by have := ho4 b hb; have := hlof b e; omega, fun e => by have := ho4 b hb; have := hlol b e; omega⟩
          have hr5 : rFile.rep (fun b => R b ∨ own4 = some b) h5 [.string x, .slice na b.length nc, .slice oa' ox'.length oc', .bool false, .bool had'] (x, ⟨b, f0.sure, false⟩) :=
            ⟨_, _, ox', had', rfl, hg4.bytes.mono fun c hc => ⟨.inr hc, by rw [← hH5]; first | rw [set_other _ (by have := ho4 c hc; omega), set_other _ (by have := ho4 c hc; omega)] | rw [set_other _ (by have := ho4 c hc; omega)]⟩,
              r2'.mono fun c hc => ⟨.inl hc, by rw [k35.blk c (hRl c hc) (fun h => h), hold3 c (hRl c hc)]⟩, r3'⟩
          refine call_by (put_spec s6 hr5 (fun h => by cases h) (by omega)) ?_
          rintro _ h6 ⟨rfl, fv6, of6, s6', k6, ho6⟩
          simp -dsimp
          refine call_by (done_spec s6' 1 x (by show M.trace.length < _; omega)) ?_
          rintro _ h7 ⟨rfl, lv7, ol7, s7, k7, ho7⟩
          have e6 := k6.size
          have e7 := k7.size
          have e35 := k35.size
          simp -dsimp
          have hfin : RefC h7 (M.wrote x b) bs fv6 of6 lv7 ol7 (fun b => R b ∨ own4 = some b) := by
            unfold Mod.wrote; rw [hsure]; exact s7
          refine hK _ _ ⟨rfl, _, hfin.at, ⟨by omega, fun b hb hn => ?_⟩, rfoot_sub (fun b hb => (ho6 b hb).imp id fun h => by omega) (fun b hb => (ho7 b hb).imp id fun h => by omega) (fun b hb => hb.imp id fun h => by have := ho4 b h; omega)⟩
          rw [k7.blk b (by omega) (fun h => h.elim (fun h => hn (.inl h)) (fun h => hn (.inr (.inr (.inl h))))), k6.blk b (by omega) (fun h => h.elim (fun h => hn (.inl h)) (fun h => hn (.inr (.inl h)))), k35.blk b hb (fun h => h)]
end Go.Proofs
