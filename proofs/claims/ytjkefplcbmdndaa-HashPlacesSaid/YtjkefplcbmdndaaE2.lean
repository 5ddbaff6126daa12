/-
  hypercubelaw7.HashPlaces returns true for all arguments, and its arguments read behind the call as they read ahead of it; no condition.
-/
import Derived.Test.YtjkefplcbmdndaaRows
import Derived.Test.YtjkefplcbmdndaaH16
import Derived.Test.YtjkefplcbmdndaaB2
namespace Go.Proofs.Ytjkefplcbmdndaa
open Go Go.ChangeShapes Go.WideShapes Go.ChangeAt Go.RowKit Go.HC

theorem own0 : ownKnob Try.prog.godebug = none := by kernel_rfl
theorem laid0 : laidOutB Try.prog = true := by kernel_rfl
theorem ui : Try.prog.underlying 3 = some (.int .i64) := by kernel_rfl
theorem uis : Try.prog.underlying 22 = some (.slice 3) := by kernel_rfl
theorem ci : Try.prog.cellsOf 3 = 1 := by kernel_rfl
theorem ub : Try.prog.underlying 4 = some .bool := by kernel_rfl

set_option maxRecDepth 100000 in
theorem lifted (os : Os) (started : os.Started) (H : Type) (enc : TypeId × Value → H) :
    ReturnsInHanded {} Try.checked os 9 .any (Rows.hashPlacesSpec.pre6 enc Try.prog Try.f9 Rows.hashPlacesRow.domain false) (Rows.hashPlacesSpec.post enc Try.prog Try.f9 false true false false) := by
  refine returnsInHanded_of_change (C := Try.checked) own0 started (by kernel_rfl) Try.func9
    (ChangeSpec.witness6 (enc := enc) (C := Try.checked) false ⟨#[], #[.slice none 0 0, .int .i64 0], []⟩ 8 (by kernel_rfl) (by kernel_rfl) (by kernel_rfl) (by kernel_rfl)) ?_
  intro W base args ds gs before hval0 hW _ _
  have hval : ∀ (j : Nat) t v, Try.f9.params[j]? = some t → args[j]? = some v → Value.okWide Try.prog W .any base t v := hval0
  have hW' := hW
  obtain ⟨p, q, hA0, hV, rfl, _, _⟩ := hW
  have hA : DataW.TrodAll enc Try.prog W 0 (fun _ => true) true Try.f9.params.toList args.toList ds p := hA0
  have hps : Try.f9.params = #[22, 3] := by kernel_rfl
  rw [hps] at hA hval
  have hA1 := hA
  obtain ⟨v0, vs0, d0, ds0, p0, q0, ha0, hd0, hp0, h0, hr0⟩ := trodAll_cons hA1
  obtain ⟨v1, vs1, d1, ds1, p1, q1, ha1, hd1, hp1, h1, hr1⟩ := trodAll_cons hr0
  obtain ⟨rfl, rfl, rfl⟩ := trodAll_nil hr1
  subst ha1; subst hd1; subst hp1
  subst hd0; subst hp0
  obtain rfl : args = #[v0, v1] := by cases args; simp_all
  obtain ⟨rfl, rfl⟩ := trodVars_none hV
  obtain ⟨a0, x0⟩ := open_intRep uis ui ci (hval 0 22 v0 rfl rfl) h0
  obtain ⟨a1, rfl, _, _, _⟩ := open_int ui (hval 1 3 v1 rfl rfl) h1
  clear hA0 hval0
  simp only [List.append_nil] at hW' hA ⊢
  have hlt := fun x hx => hW'.lt x hx
  refine (calls_of (hashPlaces_spec x0 (fun _ h => h) a1)).mono fun e W' ⟨he, hb⟩ => ?_
  subst he
  refine ⟨_, rfl, _, _, _, _, _, [], hW', trodAll_mk1 (shut_bool ub true), below_trodAll laid0 hb (by kernel_rfl) hA (fun x hx => by simpa using hlt x (by simpa using hx)), rfl, hb.frame _, fun h => by cases h⟩

theorem hashplaces_holds : Rows.HashPlacesSaid :=
  OpenClaim.holds_of_wide 9 Try.f9 rfl rfl rfl rfl rfl rfl rfl ⟨rfl, rfl, rfl, rfl, rfl⟩ rfl rfl rfl rfl rfl (by kernel_rfl) Try.func9 (by kernel_rfl)
    (of_decide_eq_true (by kernel_rfl)) (by unfold Func.isWrapper; first | (rw [if_pos (by decide +kernel)]; kernel_rfl) | (rw [if_neg (by decide +kernel)]; exact ⟨rfl, rfl⟩))
    (fun os started H enc _ => lifted os started H enc)
end Go.Proofs.Ytjkefplcbmdndaa
