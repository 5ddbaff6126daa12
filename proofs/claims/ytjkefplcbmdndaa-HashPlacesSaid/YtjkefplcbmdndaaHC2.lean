/-
  HC, part 2: frames as association lists; code as a predicate on frames and heaps ('csem'), sound for the machine.
-/
import Derived.Test.YtjkefplcbmdndaaHC1
namespace Go.HC

abbrev L := List (Nat × Value)
/-- What a frame holds beside its list: the slots that are not listed, the blocks of its deferred-call marks. -/
structure Base where
  g : Nat → Value
  d : List Nat

def look : L → Base → Nat → Value
  | [], b, t => b.g t
  | (k, v) :: l, b, t => if k = t then v else look l b t

def ev (l : L) (b : Base) : Operand → Value
  | .tmp t => look l b t
  | .const v => v
  | .global k => .pointer (some ⟨k, 0, none⟩)
  | .func f => .func (.func f) #[] #[]

def markOf (r : Nat) : Deferred := { target := .collected r, args := #[] }

structure IsFr (n : Nat) (a : Act) (l : L) (b : Base) : Prop where
  size : a.tmps.size = n
  slot : ∀ t, a.tmps.getD t undef = look l b t
  defers : a.defers = b.d.map markOf

theorem IsFr.eval {n : Nat} {a : Act} {l : L} {b : Base} (h : IsFr n a l b) : a.eval = ev l b := by
  funext x
  cases x with
  | tmp t => exact h.slot t
  | const v => rfl
  | global k => rfl
  | func f => rfl

def putl (dst : Option Tmp) (v : Value) (l : L) : L :=
  match dst with
  | some d => (d, v) :: l
  | none => l

theorem IsFr.put {n : Nat} {a : Act} {l : L} {b : Base} (h : IsFr n a l b) {dst : Option Tmp} (hd : ∀ d, dst = some d → d < n) (v : Value) :
    IsFr n (a.put dst v) (putl dst v l) b := by
  cases dst with
  | none => exact h
  | some d =>
    have hlt := hd d rfl
    have hs := h.size
    refine ⟨by simp [Act.put, h.size], fun t => ?_, h.defers⟩
    simp only [Act.put, putl, look]
    by_cases e : d = t
    · subst e
      have : d < a.tmps.size := Nat.lt_of_lt_of_eq hlt hs.symm
      simp [this]
    · rw [if_neg e, ← h.slot t]
      simp [Array.getElem?_setIfInBounds_ne e]

def CallH (P : Program) (f : FuncId) (args : Array Value) (h : Heap) (K : Value → Heap → Prop) : Prop :=
  ∀ w : World, w.heap = h → Calls P f args w (fun e w' => ∃ v, e = .returned v ∧ Same w w' ∧ K v w'.heap)

theorem CallH.mono {P : Program} {f : FuncId} {args : Array Value} {h : Heap} {K K' : Value → Heap → Prop} (hc : CallH P f args h K) (hk : ∀ v h, K v h → K' v h) :
    CallH P f args h K' :=
  fun w hw => (hc w hw).mono fun _ _ ⟨v, e, s, k⟩ => ⟨v, e, s, hk _ _ k⟩

def RoundH (P : Program) (lp : Nat) (f : FuncId) (tmps : Array Value) (assign body : Code) (h : Heap) (K : Value → Heap → Prop) : Prop :=
  ∀ w : World, w.heap = h → ∀ (c : Frame) (cs : List Frame), ∃ v w', Same w w' ∧ K v w'.heap ∧
    Steps P (lone (Frame.round lp f tmps assign body .normal) (c :: cs) w) (lone (c.finish v) cs w')

theorem RoundH.mono {P : Program} {lp : Nat} {f : FuncId} {tmps : Array Value} {assign body : Code} {h : Heap} {K K' : Value → Heap → Prop}
    (hc : RoundH P lp f tmps assign body h K) (hk : ∀ v h, K v h → K' v h) : RoundH P lp f tmps assign body h K' :=
  fun w hw c cs => let ⟨v, w', s, k, st⟩ := hc w hw c cs; ⟨v, w', s, hk _ _ k, st⟩

/-- What comes of an operation. -/
def nextK (P : Program) (K : Value → Heap → Prop) : Next → Heap → Prop
  | .value v, h => K v h
  | .skip, h => K undef h
  | .enter f args, h => CallH P f args h K
  | .round lp f tmps assign body, h => RoundH P lp f tmps assign body h K
  | _, _ => False

theorem nextK_mono {P : Program} {K K' : Value → Heap → Prop} (hk : ∀ v h, K v h → K' v h) : ∀ (x : Next) (h : Heap), nextK P K x h → nextK P K' x h := by
  intro x h hx
  cases x <;> first
    | exact hk _ _ hx
    | exact CallH.mono hx hk
    | exact RoundH.mono hx hk
    | exact hx

def osem (P : Program) (o : Oper) (l : L) (b : Base) (h : Heap) (K : Value → Heap → Prop) : Prop :=
  hp P (execOp (ev l b) o) (nextK P K) h

/-- Calling a function value. -/
def callV (P : Program) (f : Value) (args : Array Value) (h : Heap) (K : Value → Heap → Prop) : Prop :=
  hp P (do let d ← Deferred.ofValue f args; invoke d.target d.args) (nextK P K) h

def gval (ops : Array Oper) (l : L) (b : Base) (j : Nat) : Option Bool :=
  match (ops[j]?).bind (·.dst) with
  | some d => (match look l b d with | .bool t => some t | _ => none)
  | none => none

theorem gval_eq {n : Nat} {a : Act} {l : L} {b : Base} (h : IsFr n a l b) (ops : Array Oper) : yielded ops a.tmps = gval ops l b := by
  funext j
  unfold yielded gval
  cases (ops[j]?).bind (·.dst) with
  | none => rfl
  | some d =>
    simp only [Option.bind_some, ← h.slot d]
    cases hd : a.tmps[d]? with
    | none => simp [hd, undef]
    | some v => simp [hd]; cases v <;> rfl

def guardB (o : Oper) (ops : Array Oper) (l : L) (b : Base) : Bool :=
  match o.guard with
  | none => true
  | some (j, want) => gval ops l b j == some want

def rsem (P : Program) (ops : Array Oper) : List Oper → (L → Base → Heap → Prop) → L → Base → Heap → Prop
  | [], K, l, b, h => K l b h
  | o :: rest, K, l, b, h =>
    if guardB o ops l b = true then osem P o l b h (fun v h' => rsem P ops rest K (putl o.dst v l) b h')
    else rsem P ops rest K (putl o.dst undef l) b h

inductive Ex where
  | nx
  | rt
  | ex (id : Nat)
  | gt (t : Nat)

structure Kont where
  nx : L → Base → Heap → Prop
  rt : L → Base → Heap → Prop
  ex : Nat → L → Base → Heap → Prop
  gt : Nat → L → Base → Heap → Prop

def Kont.at (κ : Kont) : Ex → L → Base → Heap → Prop
  | .nx => κ.nx
  | .rt => κ.rt
  | .ex id => κ.ex id
  | .gt t => κ.gt t

def ArrR (P : Program) (m : Machine) (b : Frame) (k : List Item) (cs : List Frame) : Ex → Act → World → Prop
  | .nx, a, w => Steps P m (lone (b.atR a k) cs w)
  | .rt, a, w => ∃ todo, Steps P m (lone (b.atR a (.code .ret :: todo)) cs w)
  | .ex id, a, w => ∃ todo, exitTo id todo = exitTo id k ∧ Steps P m (lone (b.atR a (.code (.exit id) :: todo)) cs w)
  | .gt t, a, w => ∃ todo, gotoIn t todo = gotoIn t k ∧ Steps P m (lone (b.atR a (.code (.goto t) :: todo)) cs w)

theorem ArrR.of_steps {P : Program} {m m₁ : Machine} {b : Frame} {k : List Item} {cs : List Frame} {e : Ex} {a : Act} {w : World}
    (h : Steps P m m₁) (h' : ArrR P m₁ b k cs e a w) : ArrR P m b k cs e a w := by
  cases e with
  | nx => exact h.trans h'
  | rt => obtain ⟨t, s⟩ := h'; exact ⟨t, h.trans s⟩
  | ex id => obtain ⟨t, x, s⟩ := h'; exact ⟨t, x, h.trans s⟩
  | gt l => obtain ⟨t, x, s⟩ := h'; exact ⟨t, x, h.trans s⟩

def gsem (P : Program) (n : Nat) (ro : Option Nat) (c : Code) (κ : Kont) (l : L) (b : Base) (h : Heap) : Prop :=
  ∀ (a : Act) (w : World), w.heap = h → IsFr n a l b → ∀ (fr : Frame) (k : List Item) (cs : List Frame), fr.kind = .normal → fr.roundOf = ro →
    ∃ e a' w' l' b', Same w w' ∧ IsFr n a' l' b' ∧ κ.at e l' b' w'.heap ∧ ArrR P (lone (fr.atR a (.code c :: k)) cs w) fr k cs e a' w'

def condS (v : Value) (A B : Prop) : Prop :=
  match v with
  | .bool t => if t = true then A else B
  | _ => False

def csem (P : Program) (n : Nat) (ro : Option Nat) : Code → Kont → L → Base → Heap → Prop
  | .skip, κ, l, b, h => κ.nx l b h
  | .label _, κ, l, b, h => κ.nx l b h
  | .seq x y, κ, l, b, h => csem P n ro x { κ with nx := fun l b h => csem P n ro y κ l b h } l b h
  | .cond c x y, κ, l, b, h => condS (ev l b c) (csem P n ro x κ l b h) (csem P n ro y κ l b h)
  | .block id c, κ, l, b, h => csem P n ro c { κ with ex := fun j l b h => if j = id then κ.nx l b h else κ.ex j l b h } l b h
  | .region _ ops false, κ, l, b, h => rsem P ops ops.toList κ.nx l b h
  | .region id ops true, κ, l, b, h => gsem P n ro (.region id ops true) κ l b h
  | .ret, κ, l, b, h => κ.rt l b h
  | .exit id, κ, l, b, h => κ.ex id l b h
  | .goto t, κ, l, b, h => κ.gt t l b h
  | .loop c, κ, l, b, h => gsem P n ro (.loop c) κ l b h
  | .scope c, κ, l, b, h => gsem P n ro (.scope c) κ l b h
  | .rangeFunc f ps x y, κ, l, b, h => gsem P n ro (.rangeFunc f ps x y) κ l b h
  | .refuse _, _, _, _, _ => False

def opsOk (n : Nat) (ops : Array Oper) : Bool := ops.toList.all fun o => match o.dst with | some d => Nat.blt d n | none => true

def codeOk (n : Nat) : Code → Bool
  | .seq x y => codeOk n x && codeOk n y
  | .cond _ x y => codeOk n x && codeOk n y
  | .block _ c => codeOk n c
  | .loop c => codeOk n c
  | .scope c => codeOk n c
  | .rangeFunc _ _ x y => codeOk n x && codeOk n y
  | .region _ ops _ => opsOk n ops
  | _ => true

theorem opsOk_spec {n : Nat} {ops : Array Oper} (h : opsOk n ops = true) {i : Nat} {o : Oper} (ho : ops[i]? = some o) : ∀ d, o.dst = some d → d < n := by
  intro d hd
  have h1 := (List.all_eq_true.1 h) o (by simpa using Array.mem_of_getElem? ho)
  simpa [hd] using h1

section
variable {P : Program} {n : Nat} {ro : Option Nat} {a : Act} {l : L} {b : Base} {fr : Frame} {k : List Item} {cs : List Frame} {w : World} {ops : Array Oper}

theorem hp_false {P : Program} {α : Type} {s : Sem α} {w : World} (h : hp P s (fun _ _ => False) w.heap) : False := by
  obtain ⟨_, _, _, _, hf⟩ := hp_sound P s _ w h
  exact hf

/-- One operation, as the machine makes it. -/
theorem step_osem {i : Nat} {rest : List Nat} {o : Oper} {K : Value → Heap → Prop} (ho : ops[i]? = some o) (hfr : IsFr n a l b)
    (hg : guardB o ops l b = true) (h : osem P o l b w.heap K) :
    ∃ v w', Same w w' ∧ K v w'.heap ∧ Steps P (lone (fr.atR a (.inRegion ops (i :: rest) :: k)) cs w) (lone (fr.atR (a.put o.dst v) (.inRegion ops rest :: k)) cs w') := by
  have hw : Region.wanted o (yielded ops a.tmps) = true := by rw [gval_eq hfr]; exact hg
  have hnd : ∀ c, o.op ≠ .defer c := by
    intro c hc
    unfold osem execOp at h
    simp only [hc, hp_bind] at h
    exact hp_false (w := w) (hp_mono _ h fun d h' hh => by simp [nextK] at hh)
  have hstep := stepGR_op (P := P) (b := fr) (k := k) (cs := cs) (w := w) (rest := rest) ho hw
  rw [Oper.semAt_eq _ _ _ hnd, hfr.eval] at hstep
  have hfin : ∀ v, (fr.atR a (.inRegion ops (i :: rest) :: k)).finish v = fr.atR (a.put o.dst v) (.inRegion ops rest :: k) := by
    intro v; rw [Frame.finish_atR, ho]; rfl
  obtain ⟨x, w', hr, hs, hk⟩ := hp_sound P _ _ w h
  cases x with
  | value v =>
    refine ⟨v, w', hs, hk, .one (step_lone_go ?_)⟩
    rw [hstep, ← hfin]; simp [stepG.apply, hr]
  | skip =>
    refine ⟨undef, w', hs, hk, .one (step_lone_go ?_)⟩
    rw [hstep, ← hfin]; simp [stepG.apply, hr]
  | enter f args =>
    obtain ⟨e, w'', fr', ⟨v, he, hs', hk'⟩, hcomes, _, hleave⟩ := hk w' rfl (fr.atR a (.inRegion ops (i :: rest) :: k) :: cs)
    subst he
    refine ⟨v, w'', hs.trans hs', hk', .head (m₁ := lone (Frame.enter P f args .normal) (fr.atR a (.inRegion ops (i :: rest) :: k) :: cs) w') (step_lone_go ?_) (Steps.trans hcomes (.one ?_))⟩
    · rw [hstep]; simp [stepG.apply, hr, Frame.atR]
    · rw [← hfin]; exact step_leave_returned hleave
  | round lp f tmps assign body =>
    obtain ⟨v, w'', hs', hk', hsteps⟩ := hk w' rfl (fr.atR a (.inRegion ops (i :: rest) :: k)) cs
    refine ⟨v, w'', hs.trans hs', hk', .head (m₁ := lone (Frame.round lp f tmps assign body .normal) (fr.atR a (.inRegion ops (i :: rest) :: k) :: cs) w') (step_lone_go ?_) ?_⟩
    · rw [hstep]; simp [stepG.apply, hr, Frame.atR]
    · rw [← hfin]; exact hsteps
  | _ => exact hk.elim

theorem step_skipped {i : Nat} {rest : List Nat} {o : Oper} (ho : ops[i]? = some o) (hfr : IsFr n a l b) (hg : guardB o ops l b ≠ true) :
    Steps P (lone (fr.atR a (.inRegion ops (i :: rest) :: k)) cs w) (lone (fr.atR (a.put o.dst undef) (.inRegion ops rest :: k)) cs w) := by
  have hw : Region.wanted o (yielded ops a.tmps) = false := by
    have : Region.wanted o (yielded ops a.tmps) = guardB o ops l b := by rw [gval_eq hfr]; rfl
    rw [this]; simpa using hg
  have hs := stepR_op_skip (P := P) (b := fr) (a := a) (k := k) (cs := cs) (w := w) (ops := ops) (i := i) (rest := rest) (by simp [ho, hw])
  simp only [ho, Option.bind_some] at hs
  exact .one hs

/-- A run of operations in their order. -/
theorem steps_rsem (hok : opsOk n ops = true) : ∀ (lo : List Oper) (li : List Nat), (lo.map some = li.map (ops[·]?)) → ∀ {K : L → Base → Heap → Prop} {a : Act} {l : L} {w : World}, IsFr n a l b →
    rsem P ops lo K l b w.heap → ∃ a' w' l', Same w w' ∧ IsFr n a' l' b ∧ K l' b w'.heap ∧
      Steps P (lone (fr.atR a (.inRegion ops li :: k)) cs w) (lone (fr.atR a' k) cs w') := by
  intro lo
  induction lo with
  | nil =>
    intro li hl K a l w hfr h
    cases li with
    | nil => exact ⟨a, w, l, .refl w, hfr, h, .one stepR_region_end⟩
    | cons i li => simp at hl
  | cons o lo ih =>
    intro li hl K a l w hfr h
    cases li with
    | nil => simp at hl
    | cons i li =>
      simp only [List.map_cons, List.cons.injEq] at hl
      have ho : ops[i]? = some o := hl.1.symm
      simp only [rsem] at h
      by_cases hg : guardB o ops l b = true
      · rw [if_pos hg] at h
        obtain ⟨v, w', hs, hk, hst⟩ := step_osem (fr := fr) (k := k) (cs := cs) (rest := li) ho hfr hg h
        obtain ⟨a', w'', l', hs', hfr', hk', hst'⟩ := ih li hl.2 (hfr.put (opsOk_spec hok ho) v) hk
        exact ⟨a', w'', l', hs.trans hs', hfr', hk', hst.trans hst'⟩
      · rw [if_neg hg] at h
        obtain ⟨a', w'', l', hs', hfr', hk', hst'⟩ := ih li hl.2 (hfr.put (opsOk_spec hok ho) undef) h
        exact ⟨a', w'', l', hs', hfr', hk', (step_skipped ho hfr hg).trans hst'⟩

theorem range_ops (ops : Array Oper) : ops.toList.map some = (List.range ops.size).map (ops[·]?) := by
  apply List.ext_getElem?
  intro i
  simp only [List.getElem?_map, Array.getElem?_toList]
  by_cases hi : i < ops.size
  · simp [hi]
  · simp [hi]

theorem csem_sound (P : Program) (n : Nat) (ro : Option Nat) (c : Code) : ∀ (κ : Kont) (l : L) (b : Base) (h : Heap), codeOk n c = true → csem P n ro c κ l b h → gsem P n ro c κ l b h := by
  induction c with
  | skip => exact fun κ l b h _ hc a w hw hfr fr k cs _ _ => ⟨.nx, a, w, l, b, .refl w, hfr, hw ▸ hc, .one stepR_skip⟩
  | label t => exact fun κ l b h _ hc a w hw hfr fr k cs _ _ => ⟨.nx, a, w, l, b, .refl w, hfr, hw ▸ hc, .one stepR_label⟩
  | ret => exact fun κ l b h _ hc a w hw hfr fr k cs _ _ => ⟨.rt, a, w, l, b, .refl w, hfr, hw ▸ hc, k, .refl _ _⟩
  | exit id => exact fun κ l b h _ hc a w hw hfr fr k cs _ _ => ⟨.ex id, a, w, l, b, .refl w, hfr, hw ▸ hc, k, rfl, .refl _ _⟩
  | goto t => exact fun κ l b h _ hc a w hw hfr fr k cs _ _ => ⟨.gt t, a, w, l, b, .refl w, hfr, hw ▸ hc, k, rfl, .refl _ _⟩
  | loop c ih => exact fun κ l b h _ hc => hc
  | scope c ih => exact fun κ l b h _ hc => hc
  | rangeFunc f ps x y ih1 ih2 => exact fun κ l b h _ hc => hc
  | refuse s => exact fun κ l b h _ hc => hc.elim
  | region id ops draw =>
    intro κ l b h hok hc
    cases draw with
    | true => exact hc
    | false =>
      intro a w hw hfr fr k cs _ _
      subst hw
      obtain ⟨a', w', l', hs, hfr', hk, hst⟩ := steps_rsem (P := P) (fr := fr) (k := k) (cs := cs) hok ops.toList (List.range ops.size) (range_ops ops) hfr hc
      exact ⟨.nx, a', w', l', b, hs, hfr', hk, .head stepR_region hst⟩
  | seq x y ihx ihy =>
    intro κ l b h hok hc a w hw hfr fr k cs hkd hro
    simp only [codeOk, Bool.and_eq_true] at hok
    obtain ⟨e, a', w', l', b', hs, hfr', hk, harr⟩ := ihx _ l b h hok.1 hc a w hw hfr fr (.code y :: k) cs hkd hro
    have h1 : Steps P (lone (fr.atR a (.code (.seq x y) :: k)) cs w) (lone (fr.atR a (.code x :: .code y :: k)) cs w) := .one stepR_seq
    cases e with
    | nx =>
      obtain ⟨e, a'', w'', l'', b'', hs', hfr'', hk', harr'⟩ := ihy κ l' b' w'.heap hok.2 hk a' w' rfl hfr' fr k cs hkd hro
      exact ⟨e, a'', w'', l'', b'', hs.trans hs', hfr'', hk', .of_steps (h1.trans harr) harr'⟩
    | rt => obtain ⟨t, st⟩ := harr; exact ⟨.rt, a', w', l', b', hs, hfr', hk, t, h1.trans st⟩
    | ex id => obtain ⟨t, x, st⟩ := harr; exact ⟨.ex id, a', w', l', b', hs, hfr', hk, t, by simpa [exitTo] using x, h1.trans st⟩
    | gt tt => obtain ⟨t, x, st⟩ := harr; exact ⟨.gt tt, a', w', l', b', hs, hfr', hk, t, by simpa [gotoIn] using x, h1.trans st⟩
  | cond c x y ihx ihy =>
    intro κ l b h hok hc a w hw hfr fr k cs hkd hro
    simp only [codeOk, Bool.and_eq_true] at hok
    simp only [csem, condS] at hc
    have hev := congrFun hfr.eval c
    cases hv : ev l b c with
    | bool t =>
      simp only [hv] at hc
      rw [hv] at hev
      cases t with
      | true =>
        rw [if_pos rfl] at hc
        obtain ⟨e, a', w', l', b', hs, hfr', hk, harr⟩ := ihx κ l b h hok.1 hc a w hw hfr fr k cs hkd hro
        exact ⟨e, a', w', l', b', hs, hfr', hk, .of_steps (.one (stepR_cond hev)) harr⟩
      | false =>
        rw [if_neg (by simp)] at hc
        obtain ⟨e, a', w', l', b', hs, hfr', hk, harr⟩ := ihy κ l b h hok.2 hc a w hw hfr fr k cs hkd hro
        exact ⟨e, a', w', l', b', hs, hfr', hk, .of_steps (.one (stepR_cond hev)) harr⟩
    | _ => simp [hv] at hc
  | block id c ih =>
    intro κ l b h hok hc a w hw hfr fr k cs hkd hro
    obtain ⟨e, a', w', l', b', hs, hfr', hk, harr⟩ := ih _ l b h hok hc a w hw hfr fr (.inBlock id :: k) cs hkd hro
    have h1 : Steps P (lone (fr.atR a (.code (.block id c) :: k)) cs w) (lone (fr.atR a (.code c :: .inBlock id :: k)) cs w) := .one stepR_block
    cases e with
    | nx => exact ⟨.nx, a', w', l', b', hs, hfr', hk, h1.trans (Steps.trans harr (.one stepR_inBlock))⟩
    | rt => obtain ⟨t, st⟩ := harr; exact ⟨.rt, a', w', l', b', hs, hfr', hk, t, h1.trans st⟩
    | ex j =>
      obtain ⟨t, x, st⟩ := harr
      simp only [Kont.at] at hk
      by_cases hj : j = id
      · rw [if_pos hj] at hk
        refine ⟨.nx, a', w', l', b', hs, hfr', hk, h1.trans (st.trans (.one (stepR_exit ?_)))⟩
        rw [x]; simp [exitTo, hj]
      · rw [if_neg hj] at hk
        have : (id == j) = false := by simp; exact fun e => hj e.symm
        exact ⟨.ex j, a', w', l', b', hs, hfr', hk, t, by simpa [exitTo, this] using x, h1.trans st⟩
    | gt tt => obtain ⟨t, x, st⟩ := harr; exact ⟨.gt tt, a', w', l', b', hs, hfr', hk, t, by simpa [gotoIn] using x, h1.trans st⟩
end
end Go.HC
