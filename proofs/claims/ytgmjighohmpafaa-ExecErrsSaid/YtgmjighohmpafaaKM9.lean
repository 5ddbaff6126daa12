/-
  hypercubelaw12.ExecErrs returns true for all arguments, and its arguments read behind the call as they read ahead of it; no condition.
-/
import Derived.Test.YtgmjighohmpafaaKBd
import Derived.Test.YtgmjighohmpafaaRows
/-
  ExecErrs: the walk.
-/
namespace Go.HC
def cellE : CellM := ⟨[1, 2], 1, [], [], []⟩
def cellE' : CellM := ⟨[2], 1, [], [], []⟩
theorem execE_bad {k alg : Int} (h : alg ≠ 0 ∧ alg ≠ 1) : execM 3 2 k alg [cellE] = ([], 0, 10) := by unfold execM; rw [if_pos h]
theorem execE_low {k alg : Int} (h : alg = 0 ∨ alg = 1) (hk : k < 3) : execM 3 2 k alg [cellE] = ([], 0, 3) := by unfold execM; rw [if_neg (by omega), if_pos hk]
theorem execE_ok {k alg : Int} (h : alg = 0 ∨ alg = 1) (hk : ¬ k < 3) : ∃ hi, execM 3 2 k alg [cellE] = ([cellE'], hi, 0) := by
  have e : groupC ([cellE].map (narrowC 3 2)) = [cellE'] := by kernel_rfl
  exact ⟨_, by unfold execM; rw [if_neg (by omega), if_neg hk, e]⟩
end Go.HC
namespace Go.Proofs
open Go Go.HC

set_option maxHeartbeats 8000000 in
set_option maxRecDepth 10000 in
theorem execErrs_spec (budget algorithm : Int) (hb : budget < 9223372036854775808) {h : Heap} :
    CallH Try.prog 3 #[.int .i64 budget, .int .i64 algorithm] h fun r h' => r = .bool true ∧ Keep none_ h h' := by
  refine callH_by fun K hK => ?_
  refine enter [.tmp 4] Try.func3 rfl rfl (by kernel_rfl) rfl ?_
  simp -dsimp
  refine call_by (known12_spec h) ?_
  rintro _ h0 ⟨rfl, k0⟩
  have hok : ∀ c ∈ [cellE], CellOk 0 (dimsM 3).length c := fun c hc => by
    rw [List.mem_singleton] at hc; subst hc
    exact ⟨⟨by decide, rfl, rfl, rfl⟩, by decide, fun v hv => by simp [cellE] at hv; omega⟩
  obtain ⟨h1, e1⟩ : ∃ h1, h1 = (Array.push h0 (.cells #[.int .i64 1, .int .i64 2] 3)).push (.cells #[.slice (some ⟨h0.size, 0, none⟩) 2 2, .int .i64 1, .slice none 0 0, .slice none 0 0, .slice none 0 0] 31) := ⟨_, rfl⟩
  have k1 : Keep none_ h0 h1 := by rw [e1]; exact ((Keep.refl none_ h0).pushed _).pushed _
  have wi : h1[h0.size]? = some (.cells #[.int .i64 1, .int .i64 2] 3 (0, 0)) := by rw [e1]; exact push_at (push_new _ _)
  have wc : h1[h0.size + 1]? = some (.cells #[.slice (some ⟨h0.size, 0, none⟩) 2 2, .int .i64 1, .slice none 0 0, .slice none 0 0, .slice none 0 0] 31 (0, 0)) := by rw [e1]; exact push_get (by simp)
  have hrow : SlRep rCell (Old h1) h1 (.slice (some ⟨h0.size + 1, 0, none⟩) 1 1) [cellE] := by
    refine ⟨_, 1, [.slice (some ⟨h0.size, 0, none⟩) 2 2, .int .i64 1, .slice none 0 0, .slice none 0 0, .slice none 0 0], rfl, Nat.le_refl _, by decide, .inr ⟨h0.size + 1, 0, _, _, _, rfl, ⟨nz, lt_of_blk wc, fun h => h⟩, wc, rfl⟩, .single ?_⟩
    refine ⟨_, _, _, _, rfl, ?_, .nil _ _ _, .nil _ _ _, .nil _ _ _⟩
    exact ⟨_, 2, [.int .i64 1, .int .i64 2], rfl, Nat.le_refl _, by decide, .inr ⟨h0.size, 0, _, _, _, rfl, ⟨nz, lt_of_blk wi, fun h => h⟩, wi, rfl⟩, ints_map.2 rfl⟩
  have h6 : (algorithm ≠ 0 ∧ algorithm ≠ 1 ∧ budget < 3) ∨ (algorithm ≠ 0 ∧ algorithm ≠ 1 ∧ ¬ budget < 3) ∨ (algorithm = 0 ∧ budget < 3) ∨ (algorithm = 0 ∧ ¬ budget < 3) ∨ (algorithm = 1 ∧ budget < 3) ∨ (algorithm = 1 ∧ ¬ budget < 3) := by omega
  rcases h6 with ⟨q1, q2, q3⟩ | ⟨q1, q2, q3⟩ | ⟨rfl, q3⟩ | ⟨rfl, q3⟩ | ⟨rfl, q3⟩ | ⟨rfl, q3⟩
  · have p1 : (algorithm != 0) = true := by simp [q1]
    have p2 : (algorithm != 1) = true := by simp [q2]
    have p3 : decide (budget < 3) = true := decide_eq_true q3
    simp -dsimp [p1, p2, p3, ← e1]
    refine call_by (exec_spec (m := 0) (l := [cellE]) 3 2 budget algorithm hrow (by simp) (by omega) hok hb) ?_
    rintro _ h2 ⟨xa, xn, xc, rfl, n2, k2⟩
    have he := execE_bad (k := budget) ⟨q1, q2⟩
    rw [he] at n2 ⊢
    have r2 : SlRep rCell (Old h2) h2 _ _ := n2.rep (Nat.zero_le _)
    obtain ⟨_, _, hv, _, _⟩ := r2.val
    cases hv
    simp -dsimp
    rw [push_set rfl]
    generalize hB : Array.push h2 _ = h3
    have k3 : Keep none_ h2 h3 := by rw [← hB]; exact .push _ _ _
    exact hK _ _ ⟨rfl, ((k0.trans k1 fun _ _ h => h).trans k2 fun _ _ h => h).trans k3 fun _ _ h => h⟩
  · have p1 : (algorithm != 0) = true := by simp [q1]
    have p2 : (algorithm != 1) = true := by simp [q2]
    have p3 : decide (budget < 3) = false := decide_eq_false q3
    simp -dsimp [p1, p2, p3, ← e1]
    refine call_by (exec_spec (m := 0) (l := [cellE]) 3 2 budget algorithm hrow (by simp) (by omega) hok hb) ?_
    rintro _ h2 ⟨xa, xn, xc, rfl, n2, k2⟩
    have he := execE_bad (k := budget) ⟨q1, q2⟩
    rw [he] at n2 ⊢
    have r2 : SlRep rCell (Old h2) h2 _ _ := n2.rep (Nat.zero_le _)
    obtain ⟨_, _, hv, _, _⟩ := r2.val
    cases hv
    simp -dsimp
    rw [push_set rfl]
    generalize hB : Array.push h2 _ = h3
    have k3 : Keep none_ h2 h3 := by rw [← hB]; exact .push _ _ _
    exact hK _ _ ⟨rfl, ((k0.trans k1 fun _ _ h => h).trans k2 fun _ _ h => h).trans k3 fun _ _ h => h⟩
  · have p3 : decide (budget < 3) = true := decide_eq_true q3
    simp -dsimp [p3, ← e1]
    refine call_by (exec_spec (m := 0) (l := [cellE]) 3 2 budget (0) hrow (by simp) (by omega) hok hb) ?_
    rintro _ h2 ⟨xa, xn, xc, rfl, n2, k2⟩
    have he := execE_low (k := budget) (alg := 0) (by omega) q3
    rw [he] at n2 ⊢
    have r2 : SlRep rCell (Old h2) h2 _ _ := n2.rep (Nat.zero_le _)
    obtain ⟨_, _, hv, _, _⟩ := r2.val
    cases hv
    simp -dsimp
    rw [push_set rfl]
    generalize hB : Array.push h2 _ = h3
    have k3 : Keep none_ h2 h3 := by rw [← hB]; exact .push _ _ _
    exact hK _ _ ⟨rfl, ((k0.trans k1 fun _ _ h => h).trans k2 fun _ _ h => h).trans k3 fun _ _ h => h⟩
  · have p3 : decide (budget < 3) = false := decide_eq_false q3
    simp -dsimp [p3, ← e1]
    refine call_by (exec_spec (m := 0) (l := [cellE]) 3 2 budget (0) hrow (by simp) (by omega) hok hb) ?_
    rintro _ h2 ⟨xa, xn, xc, rfl, n2, k2⟩
    obtain ⟨hi, he⟩ := execE_ok (k := budget) (alg := 0) (by omega) q3
    rw [he] at n2 ⊢
    have r2 : SlRep rCell (Old h2) h2 _ _ := n2.rep (Nat.zero_le _)
    obtain ⟨_, _, hv, _, _⟩ := r2.val
    cases hv
    obtain ⟨b3, o3, cs3, rfl, hf3, hrep3, hx3⟩ := r2.get 0 (by simp)
    obtain ⟨ka, kc, sa, sc, na', nc', xa', xc', rfl, hkey, _⟩ := cell_open hrep3
    obtain ⟨b4, o4, rfl, hf4, hx4⟩ := hkey.int_at 0 (show 0 < 1 by decide)
    have hx3' : HC.cellIn h2[b3]? o3 = some (.slice (some ⟨b4, o4, none⟩) 1 kc) := cellsIn_cell (d := 0) hx3 (by decide)
    have hx4' : HC.cellIn h2[b4]? o4 = some (.int .i64 2) := by simpa [cellE'] using hx4
    simp -dsimp
    rw [push_set rfl]
    generalize hB : Array.push h2 _ = h3
    have k3 : Keep none_ h2 h3 := by rw [← hB]; exact .push _ _ _
    have w3 : h3[h2.size]? = some (.cells #[.slice (some ⟨b3, o3, none⟩) 1 xc, .int .i64 (hi : Int)] 26 (0, 0)) := by rw [← hB]; exact push_new _ _
    have y3 : HC.cellIn h3[b3]? o3 = _ := (congrArg (HC.cellIn · o3) (k3.blk b3 hf3.2.1 (fun h => h))).trans hx3'
    have y4 : HC.cellIn h3[b4]? o4 = _ := (congrArg (HC.cellIn · o4) (k3.blk b4 hf4.2.1 (fun h => h))).trans hx4'
    simp -dsimp [w3, y3, y4, idxA_zero (show 0 < 1 by decide)]
    exact hK _ _ ⟨rfl, ((k0.trans k1 fun _ _ h => h).trans k2 fun _ _ h => h).trans k3 fun _ _ h => h⟩
  · have p3 : decide (budget < 3) = true := decide_eq_true q3
    simp -dsimp [p3, ← e1]
    refine call_by (exec_spec (m := 0) (l := [cellE]) 3 2 budget (1) hrow (by simp) (by omega) hok hb) ?_
    rintro _ h2 ⟨xa, xn, xc, rfl, n2, k2⟩
    have he := execE_low (k := budget) (alg := 1) (by omega) q3
    rw [he] at n2 ⊢
    have r2 : SlRep rCell (Old h2) h2 _ _ := n2.rep (Nat.zero_le _)
    obtain ⟨_, _, hv, _, _⟩ := r2.val
    cases hv
    simp -dsimp
    rw [push_set rfl]
    generalize hB : Array.push h2 _ = h3
    have k3 : Keep none_ h2 h3 := by rw [← hB]; exact .push _ _ _
    exact hK _ _ ⟨rfl, ((k0.trans k1 fun _ _ h => h).trans k2 fun _ _ h => h).trans k3 fun _ _ h => h⟩
  · have p3 : decide (budget < 3) = false := decide_eq_false q3
    simp -dsimp [p3, ← e1]
    refine call_by (exec_spec (m := 0) (l := [cellE]) 3 2 budget (1) hrow (by simp) (by omega) hok hb) ?_
    rintro _ h2 ⟨xa, xn, xc, rfl, n2, k2⟩
    obtain ⟨hi, he⟩ := execE_ok (k := budget) (alg := 1) (by omega) q3
    rw [he] at n2 ⊢
    have r2 : SlRep rCell (Old h2) h2 _ _ := n2.rep (Nat.zero_le _)
    obtain ⟨_, _, hv, _, _⟩ := r2.val
    cases hv
    obtain ⟨b3, o3, cs3, rfl, hf3, hrep3, hx3⟩ := r2.get 0 (by simp)
    obtain ⟨ka, kc, sa, sc, na', nc', xa', xc', rfl, hkey, _⟩ := cell_open hrep3
    obtain ⟨b4, o4, rfl, hf4, hx4⟩ := hkey.int_at 0 (show 0 < 1 by decide)
    have hx3' : HC.cellIn h2[b3]? o3 = some (.slice (some ⟨b4, o4, none⟩) 1 kc) := cellsIn_cell (d := 0) hx3 (by decide)
    have hx4' : HC.cellIn h2[b4]? o4 = some (.int .i64 2) := by simpa [cellE'] using hx4
    simp -dsimp
    rw [push_set rfl]
    generalize hB : Array.push h2 _ = h3
    have k3 : Keep none_ h2 h3 := by rw [← hB]; exact .push _ _ _
    have w3 : h3[h2.size]? = some (.cells #[.slice (some ⟨b3, o3, none⟩) 1 xc, .int .i64 (hi : Int)] 26 (0, 0)) := by rw [← hB]; exact push_new _ _
    have y3 : HC.cellIn h3[b3]? o3 = _ := (congrArg (HC.cellIn · o3) (k3.blk b3 hf3.2.1 (fun h => h))).trans hx3'
    have y4 : HC.cellIn h3[b4]? o4 = _ := (congrArg (HC.cellIn · o4) (k3.blk b4 hf4.2.1 (fun h => h))).trans hx4'
    simp -dsimp [w3, y3, y4, idxA_zero (show 0 < 1 by decide)]
    exact hK _ _ ⟨rfl, ((k0.trans k1 fun _ _ h => h).trans k2 fun _ _ h => h).trans k3 fun _ _ h => h⟩
end Go.Proofs


namespace Go.Proofs.Ytgmjighohmpafaa
open Go Go.ChangeShapes Go.WideShapes Go.ChangeAt Go.RowKit Go.HC

theorem own0 : ownKnob Try.prog.godebug = none := by kernel_rfl
theorem laid0 : laidOutB Try.prog = true := by kernel_rfl
theorem ui : Try.prog.underlying 3 = some (.int .i64) := by kernel_rfl
theorem ub : Try.prog.underlying 4 = some .bool := by kernel_rfl

set_option maxHeartbeats 8000000 in
set_option maxRecDepth 100000 in
theorem lifted (os : Os) (started : os.Started) (H : Type) (enc : TypeId × Value → H) :
    ReturnsInHanded {} Try.checked os 3 .any (Rows.execErrsSpec.pre6 enc Try.prog Try.f3 Rows.execErrsRow.domain false) (Rows.execErrsSpec.post enc Try.prog Try.f3 false true false false) := by
  refine returnsInHanded_of_change (C := Try.checked) own0 started (by kernel_rfl) Try.func3
    (ChangeSpec.witness6 (enc := enc) (C := Try.checked) false ⟨#[], #[.int .i64 0, .int .i64 0], []⟩ 8 (by kernel_rfl) (by kernel_rfl) (by kernel_rfl) (by kernel_rfl)) ?_
  intro W base args ds gs before hval0 hW _ _
  have hval : ∀ (j : Nat) t v, Try.f3.params[j]? = some t → args[j]? = some v → Value.okWide Try.prog W .any base t v := hval0
  have hW' := hW
  obtain ⟨p, q, hA0, hV, rfl, _, _⟩ := hW
  have hA : DataW.TrodAll enc Try.prog W 0 (fun _ => true) true Try.f3.params.toList args.toList ds p := hA0
  have hps : Try.f3.params = #[3, 3] := by kernel_rfl
  rw [hps] at hA hval
  have hA1 := hA
  obtain ⟨v0, vs0, d0, ds0, p0, q0, ha0, hd0, hp0, h0, hr0⟩ := trodAll_cons hA1
  obtain ⟨v1, vs1, d1, ds1, p1, q1, ha1, hd1, hp1, h1, hr1⟩ := trodAll_cons hr0
  obtain ⟨rfl, rfl, rfl⟩ := trodAll_nil hr1
  subst ha1; subst hd1; subst hp1
  subst hd0; subst hp0
  obtain rfl : args = #[v0, v1] := by cases args; simp_all
  obtain ⟨rfl, rfl⟩ := trodVars_none hV
  obtain ⟨a0, rfl, _, _, y0⟩ := open_int ui (hval 0 3 v0 rfl rfl) h0
  obtain ⟨a1, rfl, _, _, _⟩ := open_int ui (hval 1 3 v1 rfl rfl) h1
  clear hA0 hval0
  simp only [List.append_nil] at hW' hA ⊢
  have hlt := fun x hx => hW'.lt x hx
  refine (calls_of (execErrs_spec a0 a1 (wf_bound y0).2)).mono fun e W' ⟨he, hb⟩ => ?_
  subst he
  refine ⟨_, rfl, _, _, _, _, _, [], hW', trodAll_mk1 (shut_bool ub true), below_trodAll laid0 hb (by kernel_rfl) hA (fun x hx => by simpa using hlt x (by simpa using hx)), rfl, hb.frame _, fun h => by cases h⟩

theorem execerrs_holds : Rows.ExecErrsSaid :=
  OpenClaim.holds_of_wide 3 Try.f3 rfl rfl rfl rfl rfl rfl rfl ⟨rfl, rfl, rfl, rfl, rfl⟩ rfl rfl rfl rfl rfl (by kernel_rfl) Try.func3 (by kernel_rfl)
    (of_decide_eq_true (by kernel_rfl)) (by unfold Func.isWrapper; first | (rw [if_pos (by decide +kernel)]; kernel_rfl) | (rw [if_neg (by decide +kernel)]; exact ⟨rfl, rfl⟩))
    (fun os started H enc _ => lifted os started H enc)
end Go.Proofs.Ytgmjighohmpafaa
