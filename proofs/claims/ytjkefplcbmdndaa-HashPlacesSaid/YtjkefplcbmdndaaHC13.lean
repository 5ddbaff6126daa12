/-
  HC, part 13: entering with results that lie in variables; small words for the walk.
-/
import Derived.Test.YtjkefplcbmdndaaHC12
namespace Go.HC
section
variable {P : Program} {n : Nat} {ro : Option Nat} {κ : Kont} {l : L} {b : Base} {h : Heap}

/-- The results, one by one. -/
def resK (P : Program) : List ResultVar → L → Base → Heap → (List Value → Prop) → Prop
  | [], _, _, _, K => K []
  | .tmp t :: rs, l, b, h, K => resK P rs l b h fun vs => K (look l b t :: vs)
  | .cell a T :: rs, l, b, h, K =>
    match look l b a with
    | .pointer (some ad) => (match valAt P T h ad with | some v => resK P rs l b h fun vs => K (v :: vs) | none => False)
    | _ => False
def tupV : List Value → Value
  | [v] => v
  | vs => .tuple vs.toArray
/-- The same, marked. -/
def resS (P : Program) (rs : List ResultVar) (l : L) (b : Base) (h : Heap) (K : List Value → Prop) (_t : Tag K := ⟨⟩) : Prop := resK P rs l b h K
@[simp] theorem resS_nil (K : List Value → Prop) : resS P [] l b h K = K [] := _root_.id rfl
@[simp] theorem resS_tmp (t : Nat) (rs : List ResultVar) (K : List Value → Prop) : resS P (.tmp t :: rs) l b h K = forceV (look l b t) fun v => resS P rs l b h fun vs => K (v :: vs) := _root_.id rfl
def cellS (P : Program) (T : TypeId) (v : Value) (h : Heap) (K : Value → Prop) (_t : Tag K := ⟨⟩) : Prop :=
  match v with
  | .pointer (some ad) => optS (valAt P T h ad) K
  | _ => False
@[congr] theorem cellS_congr {T : TypeId} {v v' : Value} {K : Value → Prop} (hv : v = v') : cellS P T v h K = cellS P T v' h K := by rw [hv]
@[simp] theorem cellS_ptr (T : TypeId) (ad : Addr) (K : Value → Prop) : cellS P T (.pointer (some ad)) h K = optS (valAt P T h ad) K := _root_.id rfl
@[simp] theorem resS_cell (a T : Nat) (rs : List ResultVar) (K : List Value → Prop) : resS P (.cell a T :: rs) l b h K = cellS P T (look l b a) h fun v => resS P rs l b h fun vs => K (v :: vs) := by
  unfold resS cellS
  simp only [resK]
  cases look l b a with
  | pointer ad =>
    cases ad with
    | none => rfl
    | some ad => simp only [optS]; cases valAt P T h ad <;> rfl
  | _ => rfl
@[simp] theorem tupV_one (v : Value) : tupV [v] = v := _root_.id rfl
@[simp] theorem tupV_nil : tupV [] = .tuple #[] := _root_.id rfl
@[simp] theorem tupV_two (v u : Value) (vs : List Value) : tupV (v :: u :: vs) = .tuple (v :: u :: vs).toArray := _root_.id rfl

def endR (P : Program) (rs : List ResultVar) (K : Value → Heap → Prop) : Kont :=
  { nx := fun l b h => takeS b.d h fun h' => resS P rs l b h' fun vs => K (tupV vs) h', rt := fun l b h => takeS b.d h fun h' => resS P rs l b h' fun vs => K (tupV vs) h',
    ex := fun _ _ _ _ => False, gt := fun _ _ _ _ => False }
@[simp] theorem endR_nx (rs : List ResultVar) (K : Value → Heap → Prop) : (endR P rs K).nx l b h = takeS b.d h fun h' => resS P rs l b h' fun vs => K (tupV vs) h' := _root_.id rfl
@[simp] theorem endR_rt (rs : List ResultVar) (K : Value → Heap → Prop) : (endR P rs K).rt l b h = takeS b.d h fun h' => resS P rs l b h' fun vs => K (tupV vs) h' := _root_.id rfl
@[simp] theorem endR_ex (rs : List ResultVar) (K : Value → Heap → Prop) (j : Nat) : (endR P rs K).ex j l b h = False := _root_.id rfl
@[simp] theorem endR_gt (rs : List ResultVar) (K : Value → Heap → Prop) (j : Nat) : (endR P rs K).gt j l b h = False := _root_.id rfl

theorem hp_resOne (r : ResultVar) (K : Value → Heap → Prop) (hk : match r with | .tmp t => K (look l b t) h | .cell a T => (match look l b a with | .pointer (some ad) => (match valAt P T h ad with | some v => K v h | none => False) | _ => False)) :
    hp P (resOne l b r) K h := by
  cases r with
  | tmp t => exact hk
  | cell a T =>
    simp only at hk
    simp only [resOne, hp_bind]
    cases hl : look l b a with
    | pointer ad =>
      cases ad with
      | none => simp [hl] at hk
      | some ad =>
        simp only [hl] at hk
        simp only [asAddr, hp_pure]
        have := loadS_ptr (P := P) (h := h) (K := K) T ad
        unfold loadS Instr.loadAt at this
        simp only [hp_bind, Instr.sureAddr, hp_pure] at this
        rw [this]
        cases hv : valAt P T h ad with
        | none => simp [hv] at hk
        | some v => simpa [hv] using hk
    | _ => simp [hl] at hk
theorem hp_resK : ∀ (rs : List ResultVar) (K : List Value → Prop), resK P rs l b h K → hp P (rs.mapM (resOne l b)) (fun vs h' => h' = h ∧ K vs) h
  | [], K, hk => ⟨rfl, hk⟩
  | .tmp t :: rs, K, hk => by
    rw [List.mapM_cons]
    simp only [hp_bind, resOne, hp_pure]
    exact hp_mono _ (hp_resK rs _ hk) fun vs h' hh => hh
  | .cell a T :: rs, K, hk => by
    rw [List.mapM_cons, hp_bind]
    refine hp_resOne _ _ ?_
    simp only
    simp only [resK] at hk
    cases hl : look l b a with
    | pointer ad =>
      cases ad with
      | none => simp [hl] at hk
      | some ad =>
        simp only [hl] at hk ⊢
        cases hv : valAt P T h ad with
        | none => simp [hv] at hk
        | some v =>
          simp only [hv] at hk ⊢
          rw [hp_bind]
          exact hp_mono _ (hp_resK rs _ hk) fun vs h' hh => hh
    | _ => simp [hl] at hk

variable {f : FuncId} {fn : Func} {c : Code} {args : Array Value} {K : Value → Heap → Prop}
/-- A function is entered; its results, written out, are these. -/
theorem enter (rs : List ResultVar) (hf : P.funcs[f]? = some fn) (hb : fn.body = some c) (hr : fn.results = rs.toArray) (hok : codeOk fn.ntmps c = true) (hn : Nat.ble args.size fn.ntmps = true)
    (hc : cs P fn.ntmps none c (endR P rs K) (argL 0 args.toList) ⟨fun _ => undef, []⟩ h) : CallH P f args h K := by
  have fin : ∀ l b h, resK P rs l b h (fun vs => K (tupV vs) h) → hp P (resL fn l b) K h := by
    intro l b h hk
    unfold resL
    rw [hr]
    rw [Array.mapM_eq_mapM_toList]
    simp only [hp_bind, hp_map]
    refine hp_mono _ (hp_resK rs _ hk) fun vs h' hh => ?_
    obtain ⟨rfl, hh⟩ := hh
    simp only [hp_pure]
    match vs, hh with
    | [], hh => simpa using hh
    | [v], hh => simpa using hh
    | v :: u :: vs, hh => simpa using hh
  refine callH_of hf hb hok (by simpa using hn) (csem_mono c (κ := endR P rs K) ⟨?_, ?_, fun _ _ _ _ h => h, fun _ _ _ _ h => h⟩ hc)
  · exact fun l b h hh => takeAll_mono _ (fun h hk => fin l b h hk) hh
  · exact fun l b h hh => takeAll_mono _ (fun h hk => fin l b h hk) hh

/-- A marked call is met by a contract. -/
theorem call_by {f : FuncId} {args : Array Value} {K K' : Value → Heap → Prop} (hc : CallH P f args h K') (hk : ∀ v h, K' v h → K v h) : call P f args h K := hc.mono hk
end
end Go.HC
