/-
  HC, part 3: rules for a call's body, a loop, a round, a range over a function.
-/
import Derived.Test.YtjkefplcbmdndaaHC2
namespace Go.HC

/-- A program of operations that leaves the world alone. -/
def RO (P : Program) {α : Type} (s : Sem α) : Prop := ∀ w a w', s.run P w = .ok a w' → w' = w
theorem RO.pure (P : Program) {α : Type} (a : α) : RO P (Pure.pure a : Sem α) := fun w x w' h => by simp at h; exact h.2.symm
theorem RO.bind {P : Program} {α β : Type} {s : Sem α} {f : α → Sem β} (h : RO P s) (hf : ∀ a, RO P (f a)) : RO P (s >>= f) := by
  intro w x w' hr
  rw [Sem.run_bind] at hr
  cases hs : s.run P w with
  | halt y u => simp [hs] at hr
  | ok a u =>
    rw [hs] at hr
    simp only [Result.andThen_ok] at hr
    exact (hf a _ _ _ hr).trans (h _ _ _ hs)
theorem RO.load (P : Program) (a : Addr) : RO P (load a) := by
  intro w x w' h
  rw [run_load] at h
  split at h
  · simp at h; exact h.2.symm
  · split at h
    · simp at h; exact h.2.symm
    · simp at h
theorem RO.halt (P : Program) {α : Type} (x : Halt) : RO P (Sem.halt x : Sem α) := fun w a w' h => by simp at h
theorem RO.program (P : Program) : RO P Go.program := fun w x w' h => by simp at h; exact h.2.symm
theorem RO.typeInfo (P : Program) (t : TypeId) : RO P (typeInfo t) :=
  (RO.program P).bind fun p => by cases p.info? t <;> first | exact RO.pure P _ | exact RO.halt P _
theorem RO.underlying (P : Program) (t : TypeId) : RO P (underlying t) :=
  (RO.program P).bind fun p => by cases p.underlying t <;> first | exact RO.pure P _ | exact RO.halt P _
theorem RO.sizeOf (P : Program) (t : TypeId) : RO P (sizeOf t) := (RO.typeInfo P t).bind fun _ => RO.pure P _
theorem RO.isAgg (P : Program) (t : TypeId) : RO P (isAgg t) := (RO.underlying P t).bind fun d => by cases d <;> exact RO.pure P _
theorem RO.loadCellsFrom (P : Program) (a : Addr) : ∀ (n i : Nat) (acc : Array Value), RO P (loadCellsFrom a i n acc)
  | 0, _, _ => RO.pure P _
  | n + 1, i, _ => (RO.load P _).bind fun _ => RO.loadCellsFrom P a n (i + 1) _
theorem RO.loadVar (P : Program) (t : TypeId) (a : Addr) : RO P (loadVar t a) :=
  (RO.isAgg P t).bind fun g => by
    cases g
    · exact RO.load P a
    · exact ((RO.sizeOf P t).bind fun n => (RO.loadCellsFrom P a n 0 _).bind fun _ => RO.pure P _)
theorem RO.runtimePanic_nil (P : Program) {α : Type} : RO P (runtimePanic .nilDeref : Sem α) := (RO.program P).bind fun _ => RO.halt P _
theorem RO.asAddr (P : Program) (v : Value) : RO P (asAddr v) := by
  cases v <;> first | exact RO.halt P _ | skip
  rename_i a
  cases a
  · exact RO.runtimePanic_nil P
  · exact RO.pure P _
theorem RO.mapM {P : Program} {α β : Type} {f : α → Sem β} (hf : ∀ x, RO P (f x)) : ∀ (xs : List α), RO P (xs.mapM f)
  | [] => RO.pure P _
  | x :: xs => by
    rw [List.mapM_cons]
    exact (hf x).bind fun y => (RO.mapM hf xs).bind fun ys => RO.pure P _

def resOne (l : L) (b : Base) : ResultVar → Sem Value
  | .tmp t => pure (look l b t)
  | .cell a t => do loadVar t (← asAddr (look l b a))

def resL (fn : Func) (l : L) (b : Base) : Sem Value := do
  let vs ← fn.results.mapM (resOne l b)
  pure (if h : vs.size = 1 then vs[0] else .tuple vs)

theorem resL_eq {n : Nat} {a : Act} {l : L} {b : Base} (h : IsFr n a l b) (fn : Func) : results fn a.tmps = resL fn l b := by
  unfold results resL
  have : (fun x => match x with
      | ResultVar.tmp t => (pure (a.tmps.getD t undef) : Sem Value)
      | ResultVar.cell c t => do loadVar t (← asAddr (a.tmps.getD c undef))) = resOne l b := by
    funext x
    cases x with
    | tmp t => simp only [resOne, h.slot]
    | cell c t => simp only [resOne, h.slot]
  rw [← this]
  rfl

theorem resL_ro (P : Program) (fn : Func) (l : L) (b : Base) : RO P (resL fn l b) := by
  unfold resL
  refine RO.bind ?_ fun _ => RO.pure P _
  rw [Array.mapM_eq_mapM_toList]
  intro w x w' h
  rw [Sem.run_map] at h
  cases hs : (List.mapM (resOne l b) fn.results.toList).run P w with
  | halt y u => simp [hs] at h
  | ok ys u =>
    rw [hs] at h
    simp only [Result.andThen_ok, Result.ok.injEq] at h
    have := RO.mapM (P := P) (f := resOne l b) (fun r => by
      cases r with
      | tmp t => exact RO.pure P _
      | cell c t => exact (RO.asAddr P _).bind fun ad => RO.loadVar P t ad) _ _ _ _ hs
    rw [← h.2]; exact this

/-- The marks of the function's loops over functions are taken up, the last laid first. -/
def takeAll : List Nat → Heap → (Heap → Prop) → Prop
  | [], h, K => K h
  | r :: rs, h, K => h[r]? = some (.deferred (some [])) ∧ takeAll rs (h.setIfInBounds r (.deferred none)) K

def retS (P : Program) (fn : Func) (K : Value → Heap → Prop) (l : L) (b : Base) (h : Heap) : Prop :=
  takeAll b.d h fun h' => hp P (resL fn l b) K h'

def funK (P : Program) (fn : Func) (K : Value → Heap → Prop) : Kont :=
  { nx := retS P fn K, rt := retS P fn K, ex := fun _ _ _ _ => False, gt := fun _ _ _ _ => False }

def argL : Nat → List Value → L
  | _, [] => []
  | i, v :: vs => (i, v) :: argL (i + 1) vs

theorem look_argL (b : Base) : ∀ (vs : List Value) (i t : Nat), look (argL i vs) b t = if i ≤ t ∧ t < i + vs.length then vs.getD (t - i) undef else b.g t
  | [], i, t => by simp [argL, look]; omega
  | v :: vs, i, t => by
    simp only [argL, look, look_argL b vs]
    by_cases h : i = t
    · subst h; simp
    · rw [if_neg h]
      by_cases h2 : i + 1 ≤ t ∧ t < i + 1 + vs.length
      · rw [if_pos h2, if_pos (by simp; omega)]
        obtain ⟨j, rfl⟩ : ∃ j, t = i + 1 + j := ⟨t - (i + 1), by omega⟩
        rw [show i + 1 + j - (i + 1) = j from by omega, show i + 1 + j - i = j + 1 from by omega]
        simp
      · rw [if_neg h2, if_neg (by simp; omega)]

theorem step_take {P : Program} {fr : Frame} {cs : List Frame} {w : World} {r : Nat} {ds : List Deferred} (hm : fr.mode = .returning) (hd : fr.defers = markOf r :: ds)
    (hr : w.heap[r]? = some (.deferred (some []))) :
    step P (lone fr cs w) = .next (lone { fr with defers := ds } cs { w with heap := w.heap.setIfInBounds r (.deferred none) }) :=
  step_lone_go (by
    simp [stepG, unwind, hm, hd, markOf, Sem.runT_eq, Instr.takeDeferred, getObj, setObj, Sem.run, hr, GStep.bare_after])

theorem steps_take {P : Program} {K : Heap → Prop} {cs : List Frame} : ∀ (d : List Nat) (fr : Frame) (w : World), fr.mode = .returning → fr.defers = d.map markOf → takeAll d w.heap K →
    ∃ w', Same w w' ∧ K w'.heap ∧ Steps P (lone fr cs w) (lone { fr with defers := [] } cs w')
  | [], fr, w, _, hd, h => ⟨w, .refl w, h, by
      have : ({ fr with defers := [] } : Frame) = fr := by cases fr; simp at hd; subst hd; rfl
      rw [this]; exact .refl _ _⟩
  | r :: d, fr, w, hm, hd, h => by
    obtain ⟨w', hs, hk, hst⟩ := steps_take (P := P) (K := K) (cs := cs) d { fr with defers := d.map markOf } { w with heap := w.heap.setIfInBounds r (.deferred none) } hm rfl h.2
    exact ⟨w', ⟨hs.os, hs.tape, hs.output⟩, hk, .head (step_take hm hd h.1) hst⟩

theorem callH_of {P : Program} {f : FuncId} {fn : Func} {c : Code} {args : Array Value} {h : Heap} {K : Value → Heap → Prop}
    (hf : P.funcs[f]? = some fn) (hb : fn.body = some c) (hok : codeOk fn.ntmps c = true) (hn : args.size ≤ fn.ntmps)
    (hc : csem P fn.ntmps none c (funK P fn K) (argL 0 args.toList) ⟨fun _ => undef, []⟩ h) : CallH P f args h K := by
  intro w hw cs
  let b : Frame := { (default : Frame) with fn := f, kind := .normal }
  let a : Act := { tmps := args ++ Array.replicate (fn.ntmps - args.size) undef, defers := [] }
  have henter : Frame.enter P f args .normal = b.atR a [.code c] := by simp [Frame.enter, Frame.atR, hf, hb, b, a]; rfl
  have hfr : IsFr fn.ntmps a (argL 0 args.toList) ⟨fun _ => undef, []⟩ := by
    refine ⟨by simp [a]; omega, fun t => ?_, rfl⟩
    rw [look_argL]
    simp only [a, Array.length_toList, Nat.zero_le, true_and, Nat.zero_add, Nat.sub_zero]
    by_cases ht : t < args.size
    · rw [if_pos ht]
      simp [Array.getElem?_append, ht]
    · rw [if_neg ht]
      simp [Array.getElem?_append, ht, Array.getElem?_replicate]
      split <;> simp
  obtain ⟨e, a', w', l', b', hs, hfr', hk, harr⟩ := csem_sound P _ none c _ _ _ _ hok hc a w hw hfr b [] cs rfl rfl
  rw [← henter] at harr
  have fin : ∀ (todo : List Item), retS P fn K l' b' w'.heap → Steps P (lone (Frame.enter P f args .normal) cs w) (lone { b.atR a' todo with mode := .returning } cs w') →
      ∃ e w'' fr, (∃ v, e = Ending.returned v ∧ Same w w'' ∧ K v w''.heap) ∧ Comes P (lone (Frame.enter P f args .normal) cs w) (lone fr cs w'') e ∧ fr.fn = f ∧ fr.leaving P w'' e := by
    intro todo hr hst
    obtain ⟨w'', hs', hk', hst'⟩ := steps_take (P := P) (cs := cs) b'.d { b.atR a' todo with mode := .returning } w' rfl hfr'.defers hr
    obtain ⟨v, w3, hrun, hs3, hkv⟩ := hp_sound P _ _ _ hk'
    have hw3 : w3 = w'' := resL_ro P fn l' b' _ _ _ hrun
    subst hw3
    refine ⟨.returned v, w3, _, ⟨v, rfl, hs.trans hs', hkv⟩, hst.trans hst', rfl, rfl, rfl, rfl, fn, hf, ?_⟩
    show (results fn a'.tmps).run P w3 = _
    rw [resL_eq hfr']; exact hrun
  cases e with
  | nx => exact fin [] hk (Steps.trans harr (.one (stepR_end rfl)))
  | rt => obtain ⟨todo, hst⟩ := harr; exact fin _ hk (hst.trans (.one (stepR_ret rfl)))
  | ex id => exact hk.elim
  | gt t => exact hk.elim

/-! ### Weakening -/
structure Kont.le (κ κ' : Kont) : Prop where
  nx : ∀ l b h, κ.nx l b h → κ'.nx l b h
  rt : ∀ l b h, κ.rt l b h → κ'.rt l b h
  ex : ∀ j l b h, κ.ex j l b h → κ'.ex j l b h
  gt : ∀ j l b h, κ.gt j l b h → κ'.gt j l b h
theorem Kont.le.at {κ κ' : Kont} (hk : κ.le κ') : ∀ e l b h, κ.at e l b h → κ'.at e l b h := by
  intro e; cases e
  · exact hk.nx
  · exact hk.rt
  · exact hk.ex _
  · exact hk.gt _
theorem gsem_mono {P : Program} {n : Nat} {ro : Option Nat} {c : Code} {κ κ' : Kont} {l : L} {b : Base} {h : Heap} (hk : κ.le κ') (hg : gsem P n ro c κ l b h) : gsem P n ro c κ' l b h := by
  intro a w hw hfr fr k cs hkd hro
  obtain ⟨e, a', w', l', b', hs, hfr', hc, harr⟩ := hg a w hw hfr fr k cs hkd hro
  exact ⟨e, a', w', l', b', hs, hfr', hk.at _ _ _ _ hc, harr⟩
theorem rsem_mono {P : Program} {ops : Array Oper} {K K' : L → Base → Heap → Prop} (hk : ∀ l b h, K l b h → K' l b h) :
    ∀ (lo : List Oper) (l : L) (b : Base) (h : Heap), rsem P ops lo K l b h → rsem P ops lo K' l b h := by
  intro lo
  induction lo with
  | nil => exact fun l b h hr => hk _ _ _ hr
  | cons o lo ih =>
    intro l b h hr
    simp only [rsem] at hr ⊢
    split
    · rename_i hg
      rw [if_pos hg] at hr
      exact hp_mono _ hr fun x h' hx => nextK_mono (fun v h'' => ih _ _ _) x h' hx
    · rename_i hg
      rw [if_neg hg] at hr
      exact ih _ _ _ hr
theorem csem_mono {P : Program} {n : Nat} {ro : Option Nat} (c : Code) : ∀ {κ κ' : Kont} {l : L} {b : Base} {h : Heap}, κ.le κ' → csem P n ro c κ l b h → csem P n ro c κ' l b h := by
  induction c with
  | skip => exact fun hk hc => hk.nx _ _ _ hc
  | label t => exact fun hk hc => hk.nx _ _ _ hc
  | ret => exact fun hk hc => hk.rt _ _ _ hc
  | exit id => exact fun hk hc => hk.ex _ _ _ _ hc
  | goto t => exact fun hk hc => hk.gt _ _ _ _ hc
  | loop c ih => exact fun hk hc => gsem_mono hk hc
  | scope c ih => exact fun hk hc => gsem_mono hk hc
  | rangeFunc f ps x y ih1 ih2 => exact fun hk hc => gsem_mono hk hc
  | refuse s => exact fun _ hc => hc.elim
  | region id ops draw =>
    intro κ κ' l b h hk hc
    cases draw
    · exact rsem_mono hk.nx _ _ _ _ hc
    · exact gsem_mono hk hc
  | seq x y ihx ihy =>
    intro κ κ' l b h hk hc
    exact ihx (κ := { κ with nx := _ }) ⟨fun l b h hh => ihy hk hh, hk.rt, hk.ex, hk.gt⟩ hc
  | cond v x y ihx ihy =>
    intro κ κ' l b h hk hc
    simp only [csem, condS] at hc ⊢
    cases hv : ev l b v with
    | bool t =>
      simp only [hv] at hc ⊢
      cases t
      · rw [if_neg (by simp)] at hc ⊢; exact ihy hk hc
      · rw [if_pos rfl] at hc ⊢; exact ihx hk hc
    | _ => simp [hv] at hc
  | block id c ih =>
    intro κ κ' l b h hk hc
    refine ih (κ := { κ with ex := fun j l b h => if j = id then κ.nx l b h else κ.ex j l b h }) ⟨hk.nx, hk.rt, fun j l b h hh => ?_, hk.gt⟩ hc
    by_cases hj : j = id
    · simp only [if_pos hj] at hh ⊢; exact hk.nx _ _ _ hh
    · simp only [if_neg hj] at hh ⊢; exact hk.ex _ _ _ _ hh

/-! ### A loop -/
def Sub (S : L) (l : L) (b : Base) : Prop := ∀ p ∈ S, look l b p.1 = p.2
theorem Sub.nil (l : L) (b : Base) : Sub [] l b := fun _ h => by cases h
theorem Sub.cons {t : Nat} {v : Value} {S l : L} {b : Base} (h : look l b t = v) (hs : Sub S l b) : Sub ((t, v) :: S) l b := by
  intro p hp
  rcases List.mem_cons.1 hp with rfl | hp
  · exact h
  · exact hs p hp
theorem IsFr.clean {n : Nat} {a : Act} {l : L} {b : Base} (h : IsFr n a l b) {S : L} (hs : Sub S l b) : IsFr n a S ⟨fun t => a.tmps.getD t undef, b.d⟩ := by
  refine ⟨h.size, fun t => ?_, h.defers⟩
  induction S with
  | nil => rfl
  | cons p S ih =>
    obtain ⟨k, v⟩ := p
    simp only [look]
    split
    · rename_i e
      subst e
      rw [h.slot]; exact hs _ (List.mem_cons_self ..)
    · exact ih fun p hp => hs p (List.mem_cons_of_mem _ hp)

theorem loop_rule {P : Program} {n : Nat} {ro : Option Nat} {c : Code} {κ : Kont} {l : L} {b : Base} {h : Heap} {σ : Type}
    (S : σ → L) (D : σ → List Nat) (J : σ → Heap → Prop) (μ : σ → Nat) (s0 : σ) (hS : Sub (S s0) l b) (hD : b.d = D s0) (hJ : J s0 h) (hok : codeOk n c = true)
    (round : ∀ s h g, J s h → csem P n ro c { κ with nx := fun l' b' h' => ∃ s', Sub (S s') l' b' ∧ b'.d = D s' ∧ J s' h' ∧ μ s' < μ s } (S s) ⟨g, D s⟩ h) :
    gsem P n ro (.loop c) κ l b h := by
  intro a w hw hfr fr k cs hkd hro
  have key : ∀ m s (a : Act) (w : World) g, μ s = m → J s w.heap → IsFr n a (S s) ⟨g, D s⟩ →
      ∃ e a' w' l' b', Same w w' ∧ IsFr n a' l' b' ∧ κ.at e l' b' w'.heap ∧ ArrR P (lone (fr.atR a (.code c :: .inLoop c :: k)) cs w) fr k cs e a' w' := by
    intro m
    induction m using Nat.strongRecOn with
    | _ m ih =>
      intro s a w g hm hJ hfr
      obtain ⟨e, a', w', l', b', hs, hfr', hk, harr⟩ := csem_sound P n ro c _ _ _ _ hok (round s w.heap g hJ) a w rfl hfr fr (.inLoop c :: k) cs hkd hro
      cases e with
      | nx =>
        obtain ⟨s', hsub, hd, hJ', hlt⟩ := hk
        have hfr2 := hfr'.clean hsub
        rw [hd] at hfr2
        obtain ⟨e, a'', w'', l'', b'', hs', hfr'', hk', harr'⟩ := ih (μ s') (hm ▸ hlt) s' a' w' _ rfl hJ' hfr2
        exact ⟨e, a'', w'', l'', b'', hs.trans hs', hfr'', hk', .of_steps (Steps.trans harr (.one stepR_inLoop)) harr'⟩
      | rt => exact ⟨.rt, a', w', l', b', hs, hfr', hk, harr⟩
      | ex id => obtain ⟨t, x, st⟩ := harr; exact ⟨.ex id, a', w', l', b', hs, hfr', hk, t, by simpa [exitTo] using x, st⟩
      | gt tt => obtain ⟨t, x, st⟩ := harr; exact ⟨.gt tt, a', w', l', b', hs, hfr', hk, t, by simpa [gotoIn] using x, st⟩
  have hfr2 := hfr.clean hS
  rw [hD] at hfr2
  subst hw
  obtain ⟨e, a', w', l', b', hs, hfr', hk, harr⟩ := key _ s0 a w _ rfl hJ hfr2
  exact ⟨e, a', w', l', b', hs, hfr', hk, .of_steps (.one stepR_loop) harr⟩

/-! ### A round of a loop over a function -/
def beginS (lp : Nat) (h : Heap) (K : Heap → Prop) : Prop :=
  ∃ r : Loop, h[lp]? = some (.loop r) ∧ r.state = .ready ∧ K (h.setIfInBounds lp (.loop { r with state := .busy }))
def endS (lp : Nat) (jump : Option Code) (K : Value → Heap → Prop) (h : Heap) : Prop :=
  ∃ r : Loop, h[lp]? = some (.loop r) ∧ K (.bool jump.isNone) (h.setIfInBounds lp (.loop { r with state := if jump.isNone then .ready else .done, pending := jump }))
def roundK (lp : Nat) (K : Value → Heap → Prop) : Kont :=
  { nx := fun _ _ h => endS lp none K h, rt := fun _ _ h => endS lp (some .ret) K h,
    ex := fun id _ _ h => endS lp (some (.exit id)) K h, gt := fun t _ _ h => endS lp (some (.goto t)) K h }

theorem run_begin {P : Program} {lp : Nat} {w : World} {r : Loop} (hr : w.heap[lp]? = some (.loop r)) (hs : r.state = .ready) :
    (Instr.beginRound lp).run P w = .ok () { w with heap := w.heap.setIfInBounds lp (.loop { r with state := .busy }) } := by
  simp [Instr.beginRound, Instr.getLoop, getObj, setObj, Sem.run, hr, hs]
theorem run_end {P : Program} {lp : Nat} {w : World} {r : Loop} (hr : w.heap[lp]? = some (.loop r)) (jump : Option Code) :
    (Instr.endRound lp jump).run P w = .ok (.bool jump.isNone) { w with heap := w.heap.setIfInBounds lp (.loop { r with state := if jump.isNone then .ready else .done, pending := jump }) } := by
  simp [Instr.endRound, Instr.getLoop, getObj, setObj, Sem.run, hr]

theorem roundH_of {P : Program} {lp : Nat} {f : FuncId} {tmps : Array Value} {assign body : Code} {h : Heap} {K : Value → Heap → Prop} {n : Nat} {l : L} {b : Base}
    (hfr : IsFr n ⟨tmps, []⟩ l b) (hok1 : codeOk n assign = true) (hok2 : codeOk n body = true)
    (hc : csem P n (some lp) assign { nx := fun l b h => beginS lp h fun h' => csem P n (some lp) body (roundK lp K) l b h', rt := fun _ _ _ => False, ex := fun _ _ _ _ => False, gt := fun _ _ _ _ => False } l b h) :
    RoundH P lp f tmps assign body h K := by
  intro w hw c cs
  let fb : Frame := { (default : Frame) with fn := f, kind := .normal, roundOf := some lp }
  have h0 : Frame.round lp f tmps assign body .normal = fb.atR ⟨tmps, []⟩ (.code assign :: .beginRound :: .code body :: []) := rfl
  obtain ⟨e, a', w', l', b', hs, hfr', hk, harr⟩ := csem_sound P n (some lp) assign _ _ _ _ hok1 hc ⟨tmps, []⟩ w hw hfr fb (.beginRound :: .code body :: []) (c :: cs) rfl rfl
  rw [← h0] at harr
  cases e with
  | rt => exact hk.elim
  | ex id => exact hk.elim
  | gt t => exact hk.elim
  | nx =>
    obtain ⟨r, hr, hst, hk⟩ := hk
    have hb := run_begin (P := P) hr hst
    obtain ⟨e, a2, w2, l2, b2, hs2, hfr2, hk2, harr2⟩ := csem_sound P n (some lp) body _ _ _ _ hok2 hk a' { w' with heap := w'.heap.setIfInBounds lp (.loop { r with state := .busy }) } rfl hfr' fb [] (c :: cs) rfl rfl
    have s1 : Steps P (lone (Frame.round lp f tmps assign body .normal) (c :: cs) w) (lone (fb.atR a' [.code body]) (c :: cs) { w' with heap := w'.heap.setIfInBounds lp (.loop { r with state := .busy }) }) :=
      Steps.trans harr (.one (stepR_beginRound rfl hb))
    have hs' : Same w w2 := ⟨hs2.os.trans hs.os, hs2.tape.trans hs.tape, hs2.output.trans hs.output⟩
    cases e with
    | nx =>
      obtain ⟨r2, hr2, hk2⟩ := hk2
      have he := run_end (P := P) hr2 none
      exact ⟨_, { w2 with heap := w2.heap.setIfInBounds lp (.loop { r2 with state := if (none : Option Code).isNone then .ready else .done, pending := none }) }, ⟨hs'.os, hs'.tape, hs'.output⟩, hk2, s1.trans (Steps.trans harr2 (.one (stepR_round_end rfl rfl he)))⟩
    | rt =>
      obtain ⟨r2, hr2, hk2⟩ := hk2
      obtain ⟨t, st⟩ := harr2
      have he := run_end (P := P) hr2 (some .ret)
      exact ⟨_, { w2 with heap := w2.heap.setIfInBounds lp (.loop { r2 with state := if (some .ret : Option Code).isNone then .ready else .done, pending := some .ret }) }, ⟨hs'.os, hs'.tape, hs'.output⟩, hk2, s1.trans (st.trans (.one (stepR_round_ret rfl rfl he)))⟩
    | ex id =>
      obtain ⟨r2, hr2, hk2⟩ := hk2
      obtain ⟨t, x, st⟩ := harr2
      have he := run_end (P := P) hr2 (some (.exit id))
      exact ⟨_, { w2 with heap := w2.heap.setIfInBounds lp (.loop { r2 with state := if (some (.exit id) : Option Code).isNone then .ready else .done, pending := some (.exit id) }) }, ⟨hs'.os, hs'.tape, hs'.output⟩, hk2, s1.trans (st.trans (.one (stepR_round_exit rfl rfl (by simpa [exitTo] using x) he)))⟩
    | gt tt =>
      obtain ⟨r2, hr2, hk2⟩ := hk2
      obtain ⟨t, x, st⟩ := harr2
      have he := run_end (P := P) hr2 (some (.goto tt))
      exact ⟨_, { w2 with heap := w2.heap.setIfInBounds lp (.loop { r2 with state := if (some (.goto tt) : Option Code).isNone then .ready else .done, pending := some (.goto tt) }) }, ⟨hs'.os, hs'.tape, hs'.output⟩, hk2, s1.trans (st.trans (.one (stepR_round_goto rfl rfl (by simpa [gotoIn] using x) he)))⟩

/-! ### The statement 'for .. := range f { .. }' in a function's own frame -/
def endLoopS (lp : Nat) (h : Heap) (K : Option Code → Heap → Prop) : Prop :=
  ∃ r : Loop, h[lp]? = some (.loop r) ∧ r.state ≠ .busy ∧ K r.pending (h.setIfInBounds lp (.loop { r with state := .exhausted }))
def jumpK (κ : Kont) (l : L) (b : Base) : Option Code → Heap → Prop
  | none => κ.nx l b
  | some .ret => κ.rt l b
  | some (.exit id) => κ.ex id l b
  | some (.goto t) => κ.gt t l b
  | _ => fun _ => False
/-- The value that a loop hands to the function that it ranges over. -/
def yv (lp : Nat) : Value := .func (.yield lp) #[] #[]

theorem run_endLoop' {P : Program} {lp : Nat} {w : World} {r : Loop} (hr : w.heap[lp]? = some (.loop r)) (hs : r.state ≠ .busy) :
    (Instr.endLoop lp).run P w = .ok r.pending { w with heap := w.heap.setIfInBounds lp (.loop { r with state := .exhausted }) } := by
  simp [Instr.endLoop, Instr.getLoop, getObj, setObj, Sem.run, hr, hs]

theorem run_enterLoop' {P : Program} {w : World} (fn : FuncId) (tmps : Array Value) (ps : Array Tmp) (x y : Code) :
    (Instr.enterLoop fn tmps ps x y none).run P w = .ok (w.heap.size + 1, [markOf w.heap.size])
      { w with heap := (w.heap.push (.deferred (some []))).push (.loop { state := .ready, pending := none, fn, tmps, params := ps, assign := x, body := y, defers := w.heap.size }) } := by
  simp [Instr.enterLoop, newObj, Sem.run, markOf]

/-- A function of the program with a Go body. -/
def FnOk (P : Program) (f : FuncId) : Prop := ∃ fn, P.funcs[f]? = some fn ∧ (fn.name == "runtime.NumGoroutine") = false ∧ fn.body.isNone = false
theorem run_callFunc {P : Program} {f : FuncId} (hf : FnOk P f) (args : Array Value) (w : World) : (callFunc f args).run P w = .ok (.enter f args) w := by
  obtain ⟨fn, h1, h2, h3⟩ := hf
  unfold callFunc
  simp only [Sem.run_bind, run_program, Result.andThen_ok, h1, h2, h3, Bool.false_eq_true, if_false]
  rfl
theorem hp_callFunc {P : Program} {f : FuncId} (hf : FnOk P f) (args : Array Value) (K : Next → Heap → Prop) (h : Heap) : hp P (callFunc f args) K h = K (.enter f args) h := by
  obtain ⟨fn, h1, h2, h3⟩ := hf
  unfold callFunc
  simp only [hp_bind, hp_program, h1, h2, h3, Bool.false_eq_true, if_false]
  rfl
theorem callV_func {P : Program} {f : FuncId} (hf : FnOk P f) (first caps args : Array Value) (h : Heap) (K : Value → Heap → Prop) :
    callV P (.func (.func f) first caps) args h K = CallH P f (first ++ args ++ caps) h K := by
  unfold callV
  simp only [Deferred.ofValue, hp_bind, hp_pure, invoke, hp_callFunc hf, nextK]

theorem rangeFunc_rule {P : Program} {n : Nat} {g : Operand} {ps : Array Tmp} {x y : Code} {κ : Kont} {l : L} {b : Base} {h : Heap} {f : FuncId} {caps first : Array Value}
    (hg : ev l b g = .func (.func f) first caps) (hfn : FnOk P f)
    (hc : ∀ fnid T, IsFr n ⟨T, b.d.map markOf⟩ l b →
      CallH P f (first ++ #[yv (h.size + 1)] ++ caps) ((h.push (.deferred (some []))).push (.loop { state := .ready, pending := none, fn := fnid, tmps := T, params := ps, assign := x, body := y, defers := h.size }))
        (fun _ h2 => endLoopS (h.size + 1) h2 (jumpK κ l ⟨b.g, h.size :: b.d⟩))) :
    gsem P n none (.rangeFunc g ps x y) κ l b h := by
  intro a w hw hfr fr k cs hkd hro
  subst hw
  have hfrT : IsFr n ⟨a.tmps, b.d.map markOf⟩ l b := ⟨hfr.size, hfr.slot, rfl⟩
  let w1 : World := { w with heap := (w.heap.push (.deferred (some []))).push (.loop { state := .ready, pending := none, fn := fr.fn, tmps := a.tmps, params := ps, assign := x, body := y, defers := w.heap.size }) }
  have he : (Instr.enterLoop fr.fn a.tmps ps x y fr.roundOf).run P w = .ok (w.heap.size + 1, [markOf w.heap.size]) w1 := by
    rw [hro]; exact run_enterLoop' _ _ _ _ _
  have hev : a.eval g = .func (.func f) first caps := by rw [hfr.eval]; exact hg
  have hstep := stepR_rangeFunc (P := P) (g := g) (ps := ps) (assign := x) (body := y) (b := fr) (a := a) (k := k) (cs := cs) (w := w) (w₂ := w1) (w₁' := w1) (f := f) (args := first ++ #[yv (w.heap.size + 1)] ++ caps)
    (d := { target := .fn (.func f) caps, args := first ++ #[yv (w.heap.size + 1)] }) he
    (by simp only [resolve, hev, Deferred.ofValue, List.map_toArray, List.map_cons, List.map_nil]; rfl)
    (run_callFunc hfn _ _)
  obtain ⟨e, w2, fr2, ⟨v, rfl, hs, r, hr, hst, hk⟩, hcomes, _, hleave⟩ := hc fr.fn a.tmps hfrT w1 rfl (fr.atR { a with defers := [markOf w.heap.size] ++ a.defers } (.inRangeFunc (w.heap.size + 1) :: k) :: cs)
  have hs1 : Same w w2 := ⟨hs.os, hs.tape, hs.output⟩
  have st1 : Steps P (lone (fr.atR a (.code (.rangeFunc g ps x y) :: k)) cs w)
      (lone (fr.atR { a with defers := [markOf w.heap.size] ++ a.defers } ((r.pending.map Item.code).toList ++ k)) cs { w2 with heap := w2.heap.setIfInBounds (w.heap.size + 1) (.loop { r with state := .exhausted }) }) := by
    refine .head hstep (Steps.trans hcomes (.head ?_ (.one (stepR_endRangeFunc (run_endLoop' hr hst)))))
    rw [← finish_atR_inRangeFunc _ v]; exact step_leave_returned hleave
  have hfr' : IsFr n { a with defers := [markOf w.heap.size] ++ a.defers } l ⟨b.g, w.heap.size :: b.d⟩ := by
    refine ⟨hfr.size, fun t => ?_, by simp [hfr.defers]⟩
    rw [show ({ a with defers := [markOf w.heap.size] ++ a.defers } : Act).tmps = a.tmps from rfl, hfr.slot]
    clear hc he hstep hfr hfrT hg hev hk
    induction l with
    | nil => rfl
    | cons p l ih => obtain ⟨q, u⟩ := p; simp only [look, ih]
  have hs2 : Same w { w2 with heap := w2.heap.setIfInBounds (w.heap.size + 1) (.loop { r with state := .exhausted }) } := ⟨hs1.os, hs1.tape, hs1.output⟩
  obtain ⟨w3, e3⟩ : ∃ w3 : World, w3 = { w2 with heap := w2.heap.setIfInBounds (w.heap.size + 1) (.loop { r with state := .exhausted }) } := ⟨_, rfl⟩
  have hk3 : jumpK κ l ⟨b.g, w.heap.size :: b.d⟩ r.pending w3.heap := by rw [e3]; exact hk
  rw [← e3] at st1 hs2
  clear hk e3
  cases hp : r.pending with
  | none => rw [hp] at hk3 st1; exact ⟨.nx, _, _, l, _, hs2, hfr', hk3, st1⟩
  | some c =>
    rw [hp] at hk3 st1
    cases c with
    | ret => exact ⟨.rt, _, _, l, _, hs2, hfr', hk3, k, st1⟩
    | exit id => exact ⟨.ex id, _, _, l, _, hs2, hfr', hk3, k, rfl, st1⟩
    | goto t => exact ⟨.gt t, _, _, l, _, hs2, hfr', hk3, k, rfl, st1⟩
    | _ => exact hk3.elim
end Go.HC
