/-
  hypercubelaw12.ExecTotal returns true for all arguments, and its arguments read behind the call as they read ahead of it; no condition.
-/
import Derived.Test.YtgmjighohmpafaaGreatKBe
import Derived.Test.YtgmjighohmpafaaGreatRows
/-
  ExecTotal: the walk.
-/
namespace Go.HC
theorem pick_zero : ∀ (xs : List Int) (i : Nat), pickM 0 i xs = []
  | [], i => by simp [pickM]
  | x :: xs, i => by
    have h : bitM 0 i = false := bit_zero i
    rw [pickM, if_neg (by rw [h]; simp), pick_zero xs (i + 1)]
theorem group_zero {rows : List RowM} (h : ¬ rows.length = 0) (hn : rows.length < 1000000000) : ∃ s n m, groupC (rows.map (ofM 0)) = [⟨[], (rows.length : Int), s, n, m⟩] := by
  have aux : ∀ (l : List RowM) (c : Nat) (s n m : List Int), c + l.length < 1000000000 → ∃ s' n' m', (l.map (ofM 0)).foldl putC [⟨[], (c : Int), s, n, m⟩] = [⟨[], ((c + l.length : Nat) : Int), s', n', m'⟩] := by
    intro l
    induction l with
    | nil => intro c s n m _; exact ⟨s, n, m, by simp⟩
    | cons r l ih =>
      intro c s n m hl
      have hl' : c + 1 + l.length < 1000000000 := by simp at hl; omega
      have w : IntKind.i64.wrap ((c : Int) + 1) = ((c + 1 : Nat) : Int) := by rw [wrap_i64 (by omega) (by omega)]; omega
      have hp : ∀ (d : CellM), d = ofM 0 r → putC [⟨[], (c : Int), s, n, m⟩] d = [⟨[], ((c + 1 : Nat) : Int), List.zipWith (fun x y => IntKind.i64.wrap (x + y)) s r.m, List.zipWith min n r.m, List.zipWith max m r.m⟩] := by
        rintro d rfl
        have hk : (ofM 0 r).key = [] := pick_zero _ _
        have hc : (ofM 0 r).count = 1 := _root_.id rfl
        have hl0 : lessM ([] : List Int) [] = 0 := by decide
        unfold putC
        rw [hk]
        simp only [hl0]
        rw [if_pos trivial]
        unfold joinC
        rw [hc, w]
        rfl
      obtain ⟨s', n', m', e⟩ := ih (c + 1) _ _ _ hl'
      refine ⟨s', n', m', ?_⟩
      rw [List.map_cons, List.foldl_cons, hp _ rfl, e, List.length_cons, show c + 1 + l.length = c + (l.length + 1) by omega]
  cases rows with
  | nil => exact absurd rfl h
  | cons r l =>
    have h1 : ofM 0 r = ⟨[], ((1 : Nat) : Int), r.m, r.m, r.m⟩ := by unfold ofM; rw [pick_zero]; rfl
    obtain ⟨s, n, m, e⟩ := aux l 1 r.m r.m r.m (by simp at hn; omega)
    refine ⟨s, n, m, ?_⟩
    unfold groupC
    rw [List.map_cons, List.foldl_cons, h1]
    show List.foldl putC [_] _ = _
    rw [e, List.length_cons, Nat.add_comm 1]
end Go.HC
namespace Go.Proofs
open Go Go.HC

set_option maxHeartbeats 8000000 in
set_option maxRecDepth 10000 in
theorem execTotal_spec {F1 F2 : Nat → Prop} {h : Heap} {cv nv : Value} {cards ns : List Int} (dims ms set budget algorithm : Int) (hc : SlRep rInt F1 h cv cards) (hF1 : ∀ b, F1 b → b < h.size) (hn : SlRep rInt F2 h nv ns) (hF2 : ∀ b, F2 b → b < h.size) :
    CallH Tryz.prog 10 #[.int .i64 dims, cv, .int .i64 ms, nv, .int .i64 set, .int .i64 budget, .int .i64 algorithm] h fun r h' => r = .bool true ∧ Keep none_ h h' := by
  refine callH_by fun K hK => ?_
  refine enter [.tmp 14] Tryz.func10 rfl rfl (by kernel_rfl) rfl ?_
  replace hc := hc.mono (F' := Old h) (h' := h) fun b hb => ⟨⟨nz, hF1 b hb, fun h => h⟩, rfl⟩
  replace hn := hn.mono (F' := Old h) (h' := h) fun b hb => ⟨⟨nz, hF2 b hb, fun h => h⟩, rfl⟩
  obtain ⟨a0, c0, rfl, _, _⟩ := hc.val
  obtain ⟨a1, c1, rfl, _, _⟩ := hn.val
  simp -dsimp
  refine call_by (known12_spec h) ?_
  rintro _ h0 ⟨rfl, k0⟩
  have t0 := Tr.of k0
  simp -dsimp
  refine call_by (facts1_spec dims ms (hc.mono (t0.ft (Nat.le_refl 0))) (hn.mono (t0.ft (Nat.le_refl 0)))) ?_
  rintro _ h1 ⟨sv, rv, rfl, s1, r1, k1⟩
  have hok := factsM_ok dims cards ms ns
  generalize hfs : (factsM dims cards ms ns).1 = s at *
  generalize hfr : (factsM dims cards ms ns).2 = rows at *
  obtain ⟨sa, sc, rfl, _, _⟩ := s1.val
  obtain ⟨ra, rc, rfl, _, _⟩ := r1.val
  simp -dsimp
  rw [push_set rfl]
  generalize hB : Array.push h1 _ = h2
  have k2 : Keep none_ h1 h2 := by rw [← hB]; exact .push _ _ _
  have u2 : Keep none_ h h2 := (k0.trans k1 fun _ _ h => h).trans k2 fun _ _ h => h
  have hdim := hok.dims
  refine call_by (set2_spec s.ms set ((s1.mono (Ft.free (Nat.zero_le _))).mono ((Tr.of k2).ft (Nat.le_refl 0))) hdim.2) ?_
  rintro _ h3 ⟨rfl, k3⟩
  have hp2 := pow2_pos s.cards.length
  have hwa := withinM_bound (a := set) hp2
  obtain ⟨a, ea⟩ : ∃ a, a = withinM set (2 ^ s.cards.length) := ⟨_, rfl⟩
  rw [← ea] at hwa ⊢
  have u3 := u2.trans k3 fun _ _ h => h
  have hml := hok.ms
  have hlen := hok.len
  have r3 := (r1.mono (Ft.free (Nat.zero_le _))).mono ((Tr.of (k2.trans k3 fun _ _ h => h)).ft (Nat.le_refl 0))
  have hrow : ∀ r ∈ rows, r.key.length < 64 ∧ r.m.length = s.ms.toNat := fun r hr => ⟨by rw [(hok.key r hr).1]; omega, (hok.m r hr).1⟩
  have hrow' : ∀ r ∈ rows, r.key.length < 64 ∧ r.m.length < 1000000000 := fun r hr => ⟨(hrow r hr).1, by rw [(hrow r hr).2]; omega⟩
  have hmt : s.ms.toNat < 1000000000 := by omega
  have hca := (hok.cells hwa.1 hwa.2).2
  have hla : (rows.map (ofM a)).length < 1000000 := by rw [List.length_map]; omega
  simp -dsimp
  have hw : Within a 0 s.cards.length := Within.zero hwa.1 hwa.2
  refine call_by (rfacts_spec (m := s.ms.toNat) a r3 (by omega) hmt hrow) ?_
  rintro fv h4 ⟨f4, k4⟩
  obtain ⟨fa, fc, rfl, _, _⟩ := f4.val
  have hgl := groupC_le (rows.map (ofM a))
  have u := u3.trans k4 fun _ _ h => h
  replace r3 := r3.mono ((Tr.of k4).ft (Nat.le_refl 0))
  simp -dsimp
  refine call_by (within12_spec budget 9 (by decide) (by decide) h4) ?_
  rintro _ h4' ⟨rfl, hh⟩
  subst h4'
  have hbk := withinM_bound (a := budget) (n := 9) (by omega)
  obtain ⟨k, ek⟩ : ∃ k, k = 3 + withinM budget 9 := ⟨_, rfl⟩
  have wk : IntKind.i64.wrap (3 + withinM budget 9) = k := by rw [wrap_i64 (by omega) (by omega), ek]
  simp -dsimp [wk]
  refine call_by (within12_spec algorithm 2 (by decide) (by decide) h4) ?_
  rintro _ h4' ⟨rfl, hh⟩
  subst h4'
  have hbg := withinM_bound (a := algorithm) (n := 2) (by omega)
  obtain ⟨g, eg⟩ : ∃ g, g = withinM algorithm 2 := ⟨_, rfl⟩
  rw [← eg]
  simp -dsimp
  refine call_by (exec_spec (m := s.ms.toNat) a 0 k g f4 (by omega) hmt (group_all (fun _ _ h1 h2 => h1.join h2) (hok.cells hw.a0 hw.a1).2) (by omega)) ?_
  rintro _ h5 ⟨xa5, xn5, xc5, rfl, n5, k5⟩
  obtain ⟨hi5, he5, hle5, hall5, hpos5⟩ := exec_group hok hw (k := k) (alg := g) (by omega) (by omega)
  rw [he5] at n5 ⊢
  dsimp only at n5
  have r5 := n5.rep (Nat.zero_le _)
  simp -dsimp
  rw [push_set rfl]
  generalize hB5 : Array.push h5 _ = h5x
  have k5x : Keep none_ h5 h5x := by rw [← hB5]; exact .push _ _ _
  have w5 : h5x[h5.size]? = some (.cells #[.slice xa5 xn5 xc5, .int .i64 (hi5 : Int)] 34 (0, 0)) := by rw [← hB5]; exact push_new _ _
  replace r5 := r5.mono ((Tr.of k5x).ft (Nat.le_refl 0))
  replace u := (u.trans k5 fun _ _ h => h).trans k5x fun _ _ h => h
  by_cases hz : rows.length = 0
  · obtain rfl := List.length_eq_zero_iff.1 hz
    have hg0 : groupC (([] : List RowM).map (ofM 0)) = [] := _root_.id rfl
    rw [hg0] at r5 hall5
    have hh5 : hi5 = 0 := hall5 (by simp; omega)
    subst hh5
    obtain ⟨_, _, hv, _, _⟩ := r5.val
    cases hv
    simp -dsimp [w5]
    exact hK _ _ ⟨rfl, u⟩
  · obtain ⟨gs, gm, gx, hg1⟩ := group_zero (rows := rows) hz (by omega)
    rw [hg1] at r5 hall5
    have hh5 : hi5 = 1 := hall5 (by simp; omega)
    subst hh5
    obtain ⟨_, _, hv, _, _⟩ := r5.val
    cases hv
    obtain ⟨b5, o5, cs5, rfl, _, hrep5, hx5⟩ := r5.get 0 (by simp)
    obtain ⟨ka, kc, sa', sc', na', nc', xa', xc', rfl, _⟩ := cell_open hrep5
    have hx50 : HC.cellIn h5x[b5]? o5 = some (.slice ka 0 kc) := by
      have := cellsIn_cell (d := 0) hx5 (by decide)
      simpa using this
    have hx51 : HC.cellIn h5x[b5]? (o5 + 1) = some (.int .i64 (rows.length : Int)) := by
      have := cellsIn_cell (d := 1) hx5 (by decide)
      simpa using this
    have hz' : ((rows.length : Int) == 0) = false := beq_eq_false_iff_ne.2 (by omega)
    simp -dsimp [w5, hz', hx50, hx51, idxA_zero (show 0 < 1 by decide)]
    exact hK _ _ ⟨rfl, u⟩
end Go.Proofs


namespace Go.Proofs.YtgmjighohmpafaaGreat
open Go Go.ChangeShapes Go.WideShapes Go.ChangeAt Go.RowKit Go.HC

theorem own0 : ownKnob Tryz.prog.godebug = none := by kernel_rfl
theorem laid0 : laidOutB Tryz.prog = true := by kernel_rfl
theorem ui : Tryz.prog.underlying 3 = some (.int .i64) := by kernel_rfl
theorem uis : Tryz.prog.underlying 22 = some (.slice 3) := by kernel_rfl
theorem ci : Tryz.prog.cellsOf 3 = 1 := by kernel_rfl
theorem ub : Tryz.prog.underlying 4 = some .bool := by kernel_rfl

set_option maxHeartbeats 8000000 in
set_option maxRecDepth 100000 in
theorem lifted (os : Os) (started : os.Started) (H : Type) (enc : TypeId × Value → H) :
    ReturnsInHanded {} Tryz.checked os 10 .any (Rows.execTotalSpec.pre6 enc Tryz.prog Tryz.f10 Rows.execTotalRow.domain false) (Rows.execTotalSpec.post enc Tryz.prog Tryz.f10 false true false false) := by
  refine returnsInHanded_of_change (C := Tryz.checked) own0 started (by kernel_rfl) Tryz.func10
    (ChangeSpec.witness6 (enc := enc) (C := Tryz.checked) false ⟨#[], #[.int .i64 0, .slice none 0 0, .int .i64 0, .slice none 0 0, .int .i64 0, .int .i64 0, .int .i64 0], []⟩ 8 (by kernel_rfl) (by kernel_rfl) (by kernel_rfl) (by kernel_rfl)) ?_
  intro W base args ds gs before hval0 hW _ _
  have hval : ∀ (j : Nat) t v, Tryz.f10.params[j]? = some t → args[j]? = some v → Value.okWide Tryz.prog W .any base t v := hval0
  have hW' := hW
  obtain ⟨p, q, hA0, hV, rfl, _, _⟩ := hW
  have hA : DataW.TrodAll enc Tryz.prog W 0 (fun _ => true) true Tryz.f10.params.toList args.toList ds p := hA0
  have hps : Tryz.f10.params = #[3, 22, 3, 22, 3, 3, 3] := by kernel_rfl
  rw [hps] at hA hval
  have hA1 := hA
  obtain ⟨v0, vs0, d0, ds0, p0, q0, ha0, hd0, hp0, h0, hr0⟩ := trodAll_cons hA1
  obtain ⟨v1, vs1, d1, ds1, p1, q1, ha1, hd1, hp1, h1, hr1⟩ := trodAll_cons hr0
  obtain ⟨v2, vs2, d2, ds2, p2, q2, ha2, hd2, hp2, h2, hr2⟩ := trodAll_cons hr1
  obtain ⟨v3, vs3, d3, ds3, p3, q3, ha3, hd3, hp3, h3, hr3⟩ := trodAll_cons hr2
  obtain ⟨v4, vs4, d4, ds4, p4, q4, ha4, hd4, hp4, h4, hr4⟩ := trodAll_cons hr3
  obtain ⟨v5, vs5, d5, ds5, p5, q5, ha5, hd5, hp5, h5, hr5⟩ := trodAll_cons hr4
  obtain ⟨v6, vs6, d6, ds6, p6, q6, ha6, hd6, hp6, h6, hr6⟩ := trodAll_cons hr5
  obtain ⟨rfl, rfl, rfl⟩ := trodAll_nil hr6
  subst ha6; subst hd6; subst hp6
  subst ha5; subst hd5; subst hp5
  subst ha4; subst hd4; subst hp4
  subst ha3; subst hd3; subst hp3
  subst ha2; subst hd2; subst hp2
  subst ha1; subst hd1; subst hp1
  subst hd0; subst hp0
  obtain rfl : args = #[v0, v1, v2, v3, v4, v5, v6] := by cases args; simp_all
  obtain ⟨rfl, rfl⟩ := trodVars_none hV
  obtain ⟨a0, rfl, _, _, _⟩ := open_int ui (hval 0 3 v0 rfl rfl) h0
  obtain ⟨a1, x1⟩ := open_intRep uis ui ci (hval 1 22 v1 rfl rfl) h1
  obtain ⟨a2, rfl, _, _, _⟩ := open_int ui (hval 2 3 v2 rfl rfl) h2
  obtain ⟨a3, x3⟩ := open_intRep uis ui ci (hval 3 22 v3 rfl rfl) h3
  obtain ⟨a4, rfl, _, _, _⟩ := open_int ui (hval 4 3 v4 rfl rfl) h4
  obtain ⟨a5, rfl, _, _, _⟩ := open_int ui (hval 5 3 v5 rfl rfl) h5
  obtain ⟨a6, rfl, _, _, _⟩ := open_int ui (hval 6 3 v6 rfl rfl) h6
  clear hA0 hval0
  simp only [List.append_nil] at hW' hA ⊢
  have hlt := fun x hx => hW'.lt x hx
  refine (calls_of (execTotal_spec a0 a2 a4 a5 a6 x1 (fun _ h => h) x3 (fun _ h => h))).mono fun e W' ⟨he, hb⟩ => ?_
  subst he
  refine ⟨_, rfl, _, _, _, _, _, [], hW', trodAll_mk1 (shut_bool ub true), below_trodAll laid0 hb (by kernel_rfl) hA (fun x hx => by simpa using hlt x (by simpa using hx)), rfl, hb.frame _, fun h => by cases h⟩

theorem exectotal_holds : Rows.ExecTotalSaid :=
  OpenClaim.holds_of_wide 10 Tryz.f10 rfl rfl rfl rfl rfl rfl rfl ⟨rfl, rfl, rfl, rfl, rfl⟩ rfl rfl rfl rfl rfl (by kernel_rfl) Tryz.func10 (by kernel_rfl)
    (of_decide_eq_true (by kernel_rfl)) (by unfold Func.isWrapper; first | (rw [if_pos (by decide +kernel)]; kernel_rfl) | (rw [if_neg (by decide +kernel)]; exact ⟨rfl, rfl⟩))
    (fun os started H enc _ => lifted os started H enc)
end Go.Proofs.YtgmjighohmpafaaGreat
