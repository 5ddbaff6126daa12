/-
  hypercubelaw12.ExecGreat returns true for all arguments, and its arguments read behind the call as they read ahead of it; no condition.
-/
import Derived.Test.YtgmjighohmpafaaGreatKBe
import Derived.Test.YtgmjighohmpafaaGreatRows
/-
  ExecGreat: the walk.
-/
namespace Go.Proofs
open Go Go.HC

set_option maxHeartbeats 8000000 in
set_option maxRecDepth 10000 in
theorem execGreat_spec {F1 F2 : Nat → Prop} {h : Heap} {cv nv : Value} {cards ns : List Int} (dims ms set algorithm budget : Int) (hc : SlRep rInt F1 h cv cards) (hF1 : ∀ b, F1 b → b < h.size) (hn : SlRep rInt F2 h nv ns) (hF2 : ∀ b, F2 b → b < h.size) :
    CallH Tryz.prog 9 #[.int .i64 dims, cv, .int .i64 ms, nv, .int .i64 set, .int .i64 algorithm, .int .i64 budget] h fun r h' => r = .bool true ∧ Keep none_ h h' := by
  refine callH_by fun K hK => ?_
  refine enter [.tmp 14] Tryz.func9 rfl rfl (by kernel_rfl) rfl ?_
  replace hc := hc.mono (F' := Old h) (h' := h) fun b hb => ⟨⟨nz, hF1 b hb, fun h => h⟩, rfl⟩
  replace hn := hn.mono (F' := Old h) (h' := h) fun b hb => ⟨⟨nz, hF2 b hb, fun h => h⟩, rfl⟩
  obtain ⟨a0, c0, rfl, _, _⟩ := hc.val
  obtain ⟨a1, c1, rfl, _, _⟩ := hn.val
  simp -dsimp
  refine call_by (known12_spec h) ?_
  rintro _ h0 ⟨rfl, k0⟩
  have t0 := Tr.of k0
  simp -dsimp
  refine call_by (facts1_spec dims ms (hc.mono (t0.ft (Nat.le_refl 0))) (hn.mono (t0.ft (Nat.le_refl 0)))) ?_
  rintro _ h1 ⟨sv, rv, rfl, s1, r1, k1⟩
  have hok := factsM_ok dims cards ms ns
  generalize hfs : (factsM dims cards ms ns).1 = s at *
  generalize hfr : (factsM dims cards ms ns).2 = rows at *
  obtain ⟨sa, sc, rfl, _, _⟩ := s1.val
  obtain ⟨ra, rc, rfl, _, _⟩ := r1.val
  simp -dsimp
  rw [push_set rfl]
  generalize hB : Array.push h1 _ = h2
  have k2 : Keep none_ h1 h2 := by rw [← hB]; exact .push _ _ _
  have u2 : Keep none_ h h2 := (k0.trans k1 fun _ _ h => h).trans k2 fun _ _ h => h
  have hdim := hok.dims
  refine call_by (set2_spec s.ms set ((s1.mono (Ft.free (Nat.zero_le _))).mono ((Tr.of k2).ft (Nat.le_refl 0))) hdim.2) ?_
  rintro _ h3 ⟨rfl, k3⟩
  have hp2 := pow2_pos s.cards.length
  have hwa := withinM_bound (a := set) hp2
  obtain ⟨a, ea⟩ : ∃ a, a = withinM set (2 ^ s.cards.length) := ⟨_, rfl⟩
  rw [← ea] at hwa ⊢
  have u3 := u2.trans k3 fun _ _ h => h
  have hml := hok.ms
  have hlen := hok.len
  have r3 := (r1.mono (Ft.free (Nat.zero_le _))).mono ((Tr.of (k2.trans k3 fun _ _ h => h)).ft (Nat.le_refl 0))
  have hrow : ∀ r ∈ rows, r.key.length < 64 ∧ r.m.length = s.ms.toNat := fun r hr => ⟨by rw [(hok.key r hr).1]; omega, (hok.m r hr).1⟩
  have hrow' : ∀ r ∈ rows, r.key.length < 64 ∧ r.m.length < 1000000000 := fun r hr => ⟨(hrow r hr).1, by rw [(hrow r hr).2]; omega⟩
  have hmt : s.ms.toNat < 1000000000 := by omega
  have hca := (hok.cells hwa.1 hwa.2).2
  have hla : (rows.map (ofM a)).length < 1000000 := by rw [List.length_map]; omega
  simp -dsimp
  have hw : Within a a s.cards.length := Within.self hwa.1 hwa.2
  refine call_by (rfacts_spec (m := s.ms.toNat) a r3 (by omega) hmt hrow) ?_
  rintro fv h4 ⟨f4, k4⟩
  obtain ⟨fa, fc, rfl, _, _⟩ := f4.val
  have hgl := groupC_le (rows.map (ofM a))
  rw [List.length_map] at hgl
  obtain ⟨gn, egn⟩ : ∃ gn, gn = (groupC (rows.map (ofM a))).length := ⟨_, rfl⟩
  rw [← egn] at f4 hgl
  replace u3 := u3.trans k4 fun _ _ h => h
  replace r3 := r3.mono ((Tr.of k4).ft (Nat.le_refl 0))
  simp -dsimp [← egn]
  refine call_by (within12_spec budget 20000 (by decide) (by decide) h4) ?_
  rintro _ h4' ⟨rfl, hh⟩
  subst h4'
  have hbk := withinM_bound (a := budget) (n := 20000) (by omega)
  obtain ⟨k, ek⟩ : ∃ k, k = 300 + withinM budget 20000 := ⟨_, rfl⟩
  have wk : IntKind.i64.wrap (300 + withinM budget 20000) = k := by rw [wrap_i64 (by omega) (by omega), ek]
  simp -dsimp [wk]
  refine call_by (make_spec a r3 (by omega) hrow') ?_
  rintro lv h5 ⟨l5, k5⟩
  obtain ⟨la, lc, rfl, _, _⟩ := l5.val
  replace l5 := l5.mono (Ft.free (Nat.zero_le _))
  simp only [List.length_map] at l5
  have u := u3.trans k5 fun _ _ h => h
  replace r3 := r3.mono ((Tr.of k5).ft (Nat.le_refl 0))
  simp -dsimp
  refine call_by (within12_spec algorithm 2 (by decide) (by decide) h5) ?_
  rintro _ h5' ⟨rfl, hh⟩
  subst h5'
  have hbg := withinM_bound (a := algorithm) (n := 2) (by omega)
  obtain ⟨g, eg⟩ : ∃ g, g = withinM algorithm 2 := ⟨_, rfl⟩
  rw [← eg]
  simp -dsimp
  refine call_by (exec_spec (m := s.ms.toNat) a a k g l5 hla hmt (hok.cells hw.a0 hw.a1).2 (by omega)) ?_
  rintro _ h6 ⟨xa6, xn6, xc6, rfl, n6, k6⟩
  obtain ⟨hi6, he6, hle6, hall6, hpos6⟩ := exec_rows hok hw (k := k) (alg := g) (by omega) (by omega)
  rw [he6] at n6 ⊢
  dsimp only at n6
  have r6 := n6.rep (Nat.zero_le _)
  simp -dsimp
  rw [push_set rfl]
  generalize hB6 : Array.push h6 _ = h6x
  have k6x : Keep none_ h6 h6x := by rw [← hB6]; exact .push _ _ _
  have w6 : h6x[h6.size]? = some (.cells #[.slice xa6 xn6 xc6, .int .i64 (hi6 : Int)] 34 (0, 0)) := by rw [← hB6]; exact push_new _ _
  replace r6 := r6.mono ((Tr.of k6x).ft (Nat.le_refl 0))
  replace r3 := r3.mono ((Tr.of (k6.trans k6x fun _ _ h => h)).ft (Nat.le_refl 0))
  replace u := (u.trans k6 fun _ _ h => h).trans k6x fun _ _ h => h
  refine call_by (make_spec a r3 (by omega) hrow') ?_
  rintro lv h7 ⟨l7, k7⟩
  obtain ⟨la, lc, rfl, _, _⟩ := l7.val
  replace l7 := l7.mono (Ft.free (Nat.zero_le _))
  simp only [List.length_map] at l7
  replace u := u.trans k7 fun _ _ h => h
  replace r6 := r6.mono ((Tr.of k7).ft (Nat.le_refl 0))
  replace w6 := k7.at w6 (fun h => h)
  simp -dsimp
  refine call_by (within12_spec algorithm 2 (by decide) (by decide) h7) ?_
  rintro _ h7' ⟨rfl, hh⟩
  subst h7'
  rw [← eg]
  simp -dsimp
  refine call_by (rexec_spec (m := s.ms.toNat) a a 300 g l7 hla hmt (hok.cells hw.a0 hw.a1).2 (by omega)) ?_
  rintro _ h8 ⟨xa8, xn8, xc8, rfl, r8, k8⟩
  obtain ⟨hi8, he8, hle8, hall8, hpos8⟩ := exec_rows hok hw (k := 300) (alg := g) (by omega) (by omega)
  rw [he8] at r8 ⊢
  simp -dsimp
  rw [push_set rfl]
  generalize hB8 : Array.push h8 _ = h8x
  have k8x : Keep none_ h8 h8x := by rw [← hB8]; exact .push _ _ _
  have w8 : h8x[h8.size]? = some (.cells #[.slice xa8 xn8 xc8, .int .i64 (hi8 : Int)] 38 (0, 0)) := by rw [← hB8]; exact push_new _ _
  replace r8 := r8.mono ((Tr.of k8x).ft (Nat.zero_le _))
  replace r6 := r6.mono ((Tr.of (k8.trans k8x fun _ _ h => h)).ft (Nat.le_refl 0))
  replace w6 := (k8.trans k8x fun _ _ h => h).at w6 (fun h => h)
  replace u := (u.trans k8 fun _ _ h => h).trans k8x fun _ _ h => h
  have hh6 : hi6 = gn := by rw [egn]; exact hall6 (by omega)
  subst hh6
  simp -dsimp [w6, w8]
  refine call_by (rsame_spec r6 r8) ?_
  rintro _ h10 ⟨⟨t10, rfl, ht10⟩, k10⟩
  have ht10 : t10 = true := ht10.2 rfl
  subst ht10
  simp -dsimp
  exact hK _ _ ⟨rfl, u.trans k10 fun _ _ h => h⟩
end Go.Proofs


namespace Go.Proofs.YtgmjighohmpafaaGreat
open Go Go.ChangeShapes Go.WideShapes Go.ChangeAt Go.RowKit Go.HC

theorem own0 : ownKnob Tryz.prog.godebug = none := by kernel_rfl
theorem laid0 : laidOutB Tryz.prog = true := by kernel_rfl
theorem ui : Tryz.prog.underlying 3 = some (.int .i64) := by kernel_rfl
theorem uis : Tryz.prog.underlying 22 = some (.slice 3) := by kernel_rfl
theorem ci : Tryz.prog.cellsOf 3 = 1 := by kernel_rfl
theorem ub : Tryz.prog.underlying 4 = some .bool := by kernel_rfl

set_option maxHeartbeats 8000000 in
set_option maxRecDepth 100000 in
theorem lifted (os : Os) (started : os.Started) (H : Type) (enc : TypeId × Value → H) :
    ReturnsInHanded {} Tryz.checked os 9 .any (Rows.execGreatSpec.pre6 enc Tryz.prog Tryz.f9 Rows.execGreatRow.domain false) (Rows.execGreatSpec.post enc Tryz.prog Tryz.f9 false true false false) := by
  refine returnsInHanded_of_change (C := Tryz.checked) own0 started (by kernel_rfl) Tryz.func9
    (ChangeSpec.witness6 (enc := enc) (C := Tryz.checked) false ⟨#[], #[.int .i64 0, .slice none 0 0, .int .i64 0, .slice none 0 0, .int .i64 0, .int .i64 0, .int .i64 0], []⟩ 8 (by kernel_rfl) (by kernel_rfl) (by kernel_rfl) (by kernel_rfl)) ?_
  intro W base args ds gs before hval0 hW _ _
  have hval : ∀ (j : Nat) t v, Tryz.f9.params[j]? = some t → args[j]? = some v → Value.okWide Tryz.prog W .any base t v := hval0
  have hW' := hW
  obtain ⟨p, q, hA0, hV, rfl, _, _⟩ := hW
  have hA : DataW.TrodAll enc Tryz.prog W 0 (fun _ => true) true Tryz.f9.params.toList args.toList ds p := hA0
  have hps : Tryz.f9.params = #[3, 22, 3, 22, 3, 3, 3] := by kernel_rfl
  rw [hps] at hA hval
  have hA1 := hA
  obtain ⟨v0, vs0, d0, ds0, p0, q0, ha0, hd0, hp0, h0, hr0⟩ := trodAll_cons hA1
  obtain ⟨v1, vs1, d1, ds1, p1, q1, ha1, hd1, hp1, h1, hr1⟩ := trodAll_cons hr0
  obtain ⟨v2, vs2, d2, ds2, p2, q2, ha2, hd2, hp2, h2, hr2⟩ := trodAll_cons hr1
  obtain ⟨v3, vs3, d3, ds3, p3, q3, ha3, hd3, hp3, h3, hr3⟩ := trodAll_cons hr2
  obtain ⟨v4, vs4, d4, ds4, p4, q4, ha4, hd4, hp4, h4, hr4⟩ := trodAll_cons hr3
  obtain ⟨v5, vs5, d5, ds5, p5, q5, ha5, hd5, hp5, h5, hr5⟩ := trodAll_cons hr4
  obtain ⟨v6, vs6, d6, ds6, p6, q6, ha6, hd6, hp6, h6, hr6⟩ := trodAll_cons hr5
  obtain ⟨rfl, rfl, rfl⟩ := trodAll_nil hr6
  subst ha6; subst hd6; subst hp6
  subst ha5; subst hd5; subst hp5
  subst ha4; subst hd4; subst hp4
  subst ha3; subst hd3; subst hp3
  subst ha2; subst hd2; subst hp2
  subst ha1; subst hd1; subst hp1
  subst hd0; subst hp0
  obtain rfl : args = #[v0, v1, v2, v3, v4, v5, v6] := by cases args; simp_all
  obtain ⟨rfl, rfl⟩ := trodVars_none hV
  obtain ⟨a0, rfl, _, _, _⟩ := open_int ui (hval 0 3 v0 rfl rfl) h0
  obtain ⟨a1, x1⟩ := open_intRep uis ui ci (hval 1 22 v1 rfl rfl) h1
  obtain ⟨a2, rfl, _, _, _⟩ := open_int ui (hval 2 3 v2 rfl rfl) h2
  obtain ⟨a3, x3⟩ := open_intRep uis ui ci (hval 3 22 v3 rfl rfl) h3
  obtain ⟨a4, rfl, _, _, _⟩ := open_int ui (hval 4 3 v4 rfl rfl) h4
  obtain ⟨a5, rfl, _, _, _⟩ := open_int ui (hval 5 3 v5 rfl rfl) h5
  obtain ⟨a6, rfl, _, _, _⟩ := open_int ui (hval 6 3 v6 rfl rfl) h6
  clear hA0 hval0
  simp only [List.append_nil] at hW' hA ⊢
  have hlt := fun x hx => hW'.lt x hx
  refine (calls_of (execGreat_spec a0 a2 a4 a5 a6 x1 (fun _ h => h) x3 (fun _ h => h))).mono fun e W' ⟨he, hb⟩ => ?_
  subst he
  refine ⟨_, rfl, _, _, _, _, _, [], hW', trodAll_mk1 (shut_bool ub true), below_trodAll laid0 hb (by kernel_rfl) hA (fun x hx => by simpa using hlt x (by simpa using hx)), rfl, hb.frame _, fun h => by cases h⟩

theorem execgreat_holds : Rows.ExecGreatSaid :=
  OpenClaim.holds_of_wide 9 Tryz.f9 rfl rfl rfl rfl rfl rfl rfl ⟨rfl, rfl, rfl, rfl, rfl⟩ rfl rfl rfl rfl rfl (by kernel_rfl) Tryz.func9 (by kernel_rfl)
    (of_decide_eq_true (by kernel_rfl)) (by unfold Func.isWrapper; first | (rw [if_pos (by decide +kernel)]; kernel_rfl) | (rw [if_neg (by decide +kernel)]; exact ⟨rfl, rfl⟩))
    (fun os started H enc _ => lifted os started H enc)
end Go.Proofs.YtgmjighohmpafaaGreat
