/-
  HC, part 16: iterators: what an iterator asks of the function that it is handed; a range over one.
-/
import Derived.Test.YtjkefplcbmdndaaHC15
namespace Go.HC

/-- What an iterator is handed: a function that takes one more datum; J: what holds when these have been taken (D: the blocks that it speaks of), Z: when it has said 'no more'. A: which may come next. -/
structure Yields {α : Type} (P : Program) (y : Value) (val : α → Array Value) (A : List α → α → Prop) (J : List α → (Nat → Prop) → Heap → Prop) (Z : (Nat → Prop) → Heap → Prop) : Prop where
  lt : ∀ {xs D h}, J xs D h → ∀ b, D b → b < h.size
  mono : ∀ {xs D h h'}, J xs D h → h.size ≤ h'.size → (∀ b, D b → h'[b]? = h[b]?) → J xs D h'
  ltZ : ∀ {D h}, Z D h → ∀ b, D b → b < h.size
  monoZ : ∀ {D h h'}, Z D h → h.size ≤ h'.size → (∀ b, D b → h'[b]? = h[b]?) → Z D h'
  step : ∀ {xs x D h}, J xs D h → A xs x → callV P y (val x) h fun v h' =>
    (v = .bool true ∧ ∃ D', J (xs ++ [x]) D' h' ∧ Keep D h h' ∧ ∀ b, D' b → D b ∨ h.size ≤ b) ∨
    (v = .bool false ∧ ∃ D', Z D' h' ∧ Keep D h h' ∧ ∀ b, D' b → D b ∨ h.size ≤ b)

/-- An iterator's contract: Fp: the blocks that it reads, as they are in h0; Done: what has come when it ends. -/
def Iter {α : Type} (P : Program) (f : FuncId) (first caps : Array Value) (val : α → Array Value) (A : List α → α → Prop) (Done : List α → Prop) (Fp : Nat → Prop) (h0 : Heap) : Prop :=
  ∀ (y : Value) (J : List α → (Nat → Prop) → Heap → Prop) (Z : (Nat → Prop) → Heap → Prop) (D : Nat → Prop) (h : Heap), (∃ fn u v, y = .func fn u v) → Yields P y val A J Z → J [] D h → h0.size ≤ h.size → (∀ b, Fp b → b < h0.size ∧ ¬ D b ∧ h[b]? = h0[b]?) →
    CallH P f (first ++ #[y] ++ caps) h fun _ h' => ∃ D', ((∃ xs, Done xs ∧ J xs D' h') ∨ Z D' h') ∧ Keep D h h' ∧ ∀ b, D' b → D b ∨ h.size ≤ b

theorem look_base (l : L) (g : Nat → Value) (d d' : List Nat) (t : Nat) : look l ⟨g, d⟩ t = look l ⟨g, d'⟩ t := by
  induction l with
  | nil => rfl
  | cons p l ih => obtain ⟨q, u⟩ := p; simp only [look, ih]
def putAll : List (Nat × Value) → L → L
  | [], l => l
  | p :: ps, l => putAll ps (p :: l)
@[simp] theorem putAll_nil (l : L) : putAll [] l = l := _root_.id rfl
@[simp] theorem putAll_cons (p : Nat × Value) (ps : List (Nat × Value)) (l : L) : putAll (p :: ps) l = putAll ps (p :: l) := _root_.id rfl
theorem isFr_putAll {n : Nat} {b : Base} : ∀ (ps : List (Nat × Value)) {T : Array Value} {l : L}, IsFr n ⟨T, []⟩ l b → (∀ p ∈ ps, p.1 < n) →
    IsFr n ⟨ps.foldl (fun tmps p => tmps.setIfInBounds p.1 p.2) T, []⟩ (putAll ps l) b
  | [], _, _, h, _ => h
  | p :: ps, T, l, h, hn => by
    have := h.put (dst := some p.1) (fun d hd => by cases hd; exact hn p (List.mem_cons_self ..)) p.2
    exact isFr_putAll ps this fun q hq => hn q (List.mem_cons_of_mem _ hq)

section
variable {P : Program} {n : Nat} {κ : Kont} {l : L} {b : Base} {h : Heap}
theorem callV_yield {lp : Nat} {r : Loop} {args : Array Value} {h : Heap} {K : Value → Heap → Prop} (hr : h[lp]? = some (.loop r)) (hs : args.size = r.params.size)
    (hc : RoundH P lp r.fn ((r.params.zip args).foldl (fun tmps (t, a) => tmps.setIfInBounds t a) r.tmps) r.assign r.body h K) : callV P (yv lp) args h K := by
  unfold callV yv Deferred.ofValue invoke Instr.yield Instr.getLoop
  simp only [hp_bind, hp_pure, hp_getObj, hr, isCells, true_and, Array.empty_append, hs, hp_ite]
  rw [if_neg (by simp)]
  exact hc

/-- How a round's body may end: what must hold of the heap then. h3: the heap when the body began. -/
def roundEnd (Kp : Nat → Prop) (h3 : Heap) (B : Nat → Prop) (I : (Nat → Prop) → Heap → Prop) (h4 : Heap) : Prop :=
  ∃ D', I D' h4 ∧ Keep Kp h3 h4 ∧ ∀ b, D' b → B b

def roundKt (B : Nat → Prop) (h3 : Heap) (I : (Nat → Prop) → Heap → Prop) (Z : Code → (Nat → Prop) → Heap → Prop) : Kont :=
  { nx := fun _ _ h4 => roundEnd B h3 B I h4, rt := fun _ _ h4 => roundEnd B h3 B (Z .ret) h4, ex := fun id _ _ h4 => roundEnd B h3 B (Z (.exit id)) h4, gt := fun t _ _ h4 => roundEnd B h3 B (Z (.goto t)) h4 }
@[simp] theorem roundKt_nx (B : Nat → Prop) (h3 : Heap) (I : (Nat → Prop) → Heap → Prop) (Z : Code → (Nat → Prop) → Heap → Prop) : (roundKt B h3 I Z).nx l b h = roundEnd B h3 B I h := _root_.id rfl
@[simp] theorem roundKt_rt (B : Nat → Prop) (h3 : Heap) (I : (Nat → Prop) → Heap → Prop) (Z : Code → (Nat → Prop) → Heap → Prop) : (roundKt B h3 I Z).rt l b h = roundEnd B h3 B (Z .ret) h := _root_.id rfl
@[simp] theorem roundKt_ex (B : Nat → Prop) (h3 : Heap) (I : (Nat → Prop) → Heap → Prop) (Z : Code → (Nat → Prop) → Heap → Prop) (id : Nat) : (roundKt B h3 I Z).ex id l b h = roundEnd B h3 B (Z (.exit id)) h := _root_.id rfl
@[simp] theorem roundKt_gt (B : Nat → Prop) (h3 : Heap) (I : (Nat → Prop) → Heap → Prop) (Z : Code → (Nat → Prop) → Heap → Prop) (id : Nat) : (roundKt B h3 I Z).gt id l b h = roundEnd B h3 B (Z (.goto id)) h := _root_.id rfl

/-- How the assignment ahead of a round's body may end. -/
def roundAs (P : Program) (n lp : Nat) (y : Code) (D : Nat → Prop) (h1 : Heap) (I : (Nat → Prop) → Heap → Prop) (Z : Code → (Nat → Prop) → Heap → Prop) : Kont :=
  { nx := fun l2 b2 h2 => Keep D h1 h2 ∧ ∀ h3 : Heap, h3.size = h2.size → (∀ b, b ≠ lp → h3[b]? = h2[b]?) → cs P n (some lp) y (roundKt (fun b => D b ∨ h1.size ≤ b) h3 I Z) l2 b2 h3,
    rt := fun _ _ _ => False, ex := fun _ _ _ _ => False, gt := fun _ _ _ _ => False }
@[simp] theorem roundAs_nx (lp : Nat) (y : Code) (D : Nat → Prop) (h1 : Heap) (I : (Nat → Prop) → Heap → Prop) (Z : Code → (Nat → Prop) → Heap → Prop) : (roundAs P n lp y D h1 I Z).nx l b h =
    (Keep D h1 h ∧ ∀ h3 : Heap, h3.size = h.size → (∀ b, b ≠ lp → h3[b]? = h[b]?) → cs P n (some lp) y (roundKt (fun b => D b ∨ h1.size ≤ b) h3 I Z) l b h3) := _root_.id rfl

/-- 'for x := range f { .. }', f an iterator with a contract. I: what holds between two rounds; Z: what holds when the loop is left by a jump. -/
theorem range_iter {α : Type} {g : Operand} {ps : Array Tmp} {x y : Code} {f : FuncId} {caps first : Array Value} {val : α → Array Value} {A : List α → α → Prop} {Done : List α → Prop} {Fp : Nat → Prop}
    (hg : ev l b g = .func (.func f) first caps) (hfn : FnOk P f) (hit : Iter P f first caps val A Done Fp h)
    (I : List α → (Nat → Prop) → Heap → Prop) (Z : Code → (Nat → Prop) → Heap → Prop)
    (hlt : ∀ {xs D h}, I xs D h → ∀ b, D b → b < h.size) (hmono : ∀ {xs D h h'}, I xs D h → h.size ≤ h'.size → (∀ b, D b → h'[b]? = h[b]?) → I xs D h')
    (hltZ : ∀ {c D h}, Z c D h → ∀ b, D b → b < h.size) (hmonoZ : ∀ {c D h h'}, Z c D h → h.size ≤ h'.size → (∀ b, D b → h'[b]? = h[b]?) → Z c D h')
    (D0 : Nat → Prop) (hI0 : I [] D0 h) (hFp : ∀ b, Fp b → b < h.size ∧ ¬ D0 b)
    (hok1 : codeOk n x = true) (hok2 : codeOk n y = true) (hps : ∀ v, (val v).size = ps.size) (hpn : ∀ p ∈ ps.toList, p < n)
    (round : ∀ lp xs v D h1, I xs D h1 → A xs v → h.size ≤ lp → lp < h1.size → ¬ D lp → ¬ D h.size →
      cs P n (some lp) x (roundAs P n lp y D h1 (I (xs ++ [v])) Z) (putAll (ps.toList.zip (val v).toList) l) ⟨b.g, []⟩ h1)
    (fin : ∀ xs D h', Done xs → I xs D h' → h'[h.size]? = some (.deferred (some [])) → Keep D0 h h' → (∀ b, D b → D0 b ∨ h.size + 2 ≤ b) → κ.nx l ⟨b.g, h.size :: b.d⟩ h')
    (out : ∀ c D h', Z c D h' → h'[h.size]? = some (.deferred (some [])) → Keep D0 h h' → (∀ b, D b → D0 b ∨ h.size + 2 ≤ b) → jumpK κ l ⟨b.g, h.size :: b.d⟩ (some c) h') :
    gs P n none (.rangeFunc g ps x y) κ l b h := by
  refine rangeFunc_rule hg hfn ?_
  intro fnid T hfr
  generalize hH : (h.push (.deferred (some []))).push (.loop { state := .ready, pending := none, fn := fnid, tmps := T, params := ps, assign := x, body := y, defers := h.size }) = H
  let rec0 : Loop := { state := .ready, pending := none, fn := fnid, tmps := T, params := ps, assign := x, body := y, defers := h.size }
  have hHs : H.size = h.size + 2 := by rw [← hH]; simp
  have hHl : H[h.size + 1]? = some (.loop rec0) := by
    rw [← hH]
    have : (h.push (.deferred (some []))).size = h.size + 1 := by simp
    rw [← this]
    exact push_new _ _
  have hHd : H[h.size]? = some (.deferred (some [])) := by
    rw [← hH, Array.getElem?_push, if_neg (by simp)]
    simp
  have hHo : ∀ b, b < h.size → H[b]? = h[b]? := by
    intro b hb
    rw [← hH, Array.getElem?_push, if_neg (by simp; omega), Array.getElem?_push, if_neg (by omega)]
  let J : List α → (Nat → Prop) → Heap → Prop := fun xs D h1 => h1[h.size + 1]? = some (.loop rec0) ∧ h1[h.size]? = some (.deferred (some [])) ∧ ∃ D', I xs D' h1 ∧ D = (fun b => D' b ∨ b = h.size ∨ b = h.size + 1) ∧ ¬ D' h.size ∧ ¬ D' (h.size + 1) ∧ h.size + 2 ≤ h1.size
  let ZZ : (Nat → Prop) → Heap → Prop := fun D h1 => h1[h.size]? = some (.deferred (some [])) ∧ ∃ c D', h1[h.size + 1]? = some (.loop { rec0 with state := .done, pending := some c }) ∧ Z c D' h1 ∧ D = (fun b => D' b ∨ b = h.size ∨ b = h.size + 1) ∧ ¬ D' h.size ∧ ¬ D' (h.size + 1) ∧ h.size + 2 ≤ h1.size
  have hy : Yields P (yv (h.size + 1)) val A J ZZ := by
    refine ⟨?_, ?_, ?_, ?_, ?_⟩
    · rintro xs D h1 ⟨h2, h3, D', hI, rfl, h4, h5, h6⟩ b hb
      rcases hb with hb | rfl | rfl
      · exact hlt hI b hb
      · omega
      · omega
    · rintro xs D h1 h1' ⟨h2, h3, D', hI, rfl, h4, h5, h6⟩ hsz hk
      exact ⟨(hk _ (.inr (.inr rfl))).trans h2, (hk _ (.inr (.inl rfl))).trans h3, D', hmono hI hsz (fun b hb => hk b (.inl hb)), rfl, h4, h5, Nat.le_trans h6 hsz⟩
    · rintro D h1 ⟨h3, c, D', h2, hI, rfl, h4, h5, h6⟩ b hb
      rcases hb with hb | rfl | rfl
      · exact hltZ hI b hb
      · omega
      · omega
    · rintro D h1 h1' ⟨h3, c, D', h2, hI, rfl, h4, h5, h6⟩ hsz hk
      exact ⟨(hk _ (.inr (.inl rfl))).trans h3, c, D', (hk _ (.inr (.inr rfl))).trans h2, hmonoZ hI hsz (fun b hb => hk b (.inl hb)), rfl, h4, h5, Nat.le_trans h6 hsz⟩
    · rintro xs v D h1 ⟨h2, h3, D', hI, rfl, h4, h5, h6⟩ hA
      refine callV_yield h2 (hps v) ?_
      have hfr1 : IsFr n ⟨T, []⟩ l ⟨b.g, []⟩ := ⟨hfr.size, fun t => (hfr.slot t).trans (look_base l b.g b.d [] t), rfl⟩
      have hfr2 := isFr_putAll (ps.toList.zip (val v).toList) hfr1 (fun p hp => hpn _ (List.of_mem_zip hp).1)
      have hfold : (ps.zip (val v)).foldl (fun tmps (t, a) => tmps.setIfInBounds t a) T = (ps.toList.zip (val v).toList).foldl (fun tmps p => tmps.setIfInBounds p.1 p.2) T := by
        rw [← Array.foldl_toList, Array.toList_zip]
      refine roundH_of (hfold ▸ hfr2) hok1 hok2 ?_
      refine csem_mono (κ := roundAs P n (h.size + 1) y D' h1 (I (xs ++ [v])) Z) x ⟨?_, fun _ _ _ h => h, fun _ _ _ _ h => h, fun _ _ _ _ h => h⟩ (round (h.size + 1) xs v D' h1 hI hA (by omega) (by omega) h5 h4)
      rintro l2 b2 h2' ⟨hk2, hbody⟩
      have hlp2 : h2'[h.size + 1]? = some (.loop rec0) := (hk2.blk _ (by omega) h5).trans h2
      have hsz2 := hk2.size
      refine ⟨rec0, hlp2, rfl, ?_⟩
      generalize hH3 : h2'.setIfInBounds (h.size + 1) (.loop { rec0 with state := .busy }) = h3'
      have hs3 : h3'.size = h2'.size := by rw [← hH3]; simp
      have hl3 : h3'[h.size + 1]? = some (.loop { rec0 with state := .busy }) := by rw [← hH3]; exact set_same _ (by omega)
      have ho3 : ∀ b, b ≠ h.size + 1 → h3'[b]? = h2'[b]? := by intro b hb; rw [← hH3]; exact set_other _ (fun e => hb e.symm)
      have fin1 : ∀ (jump : Option Code) (Q : (Nat → Prop) → Heap → Prop) (h4' : Heap), (∀ {D h}, Q D h → ∀ b, D b → b < h.size) → (∀ {D h h'}, Q D h → h.size ≤ h'.size → (∀ b, D b → h'[b]? = h[b]?) → Q D h') →
          roundEnd (fun b => D' b ∨ h1.size ≤ b) h3' (fun b => D' b ∨ h1.size ≤ b) Q h4' →
          ∃ r : Loop, h4'[h.size + 1]? = some (.loop r) ∧ ∀ h5', h5' = h4'.setIfInBounds (h.size + 1) (.loop { r with state := if jump.isNone then .ready else .done, pending := jump }) →
            h5'[h.size + 1]? = some (.loop { rec0 with state := if jump.isNone then .ready else .done, pending := jump }) ∧ h5'[h.size]? = some (.deferred (some [])) ∧ h.size + 2 ≤ h5'.size ∧
              Keep (fun b => D' b ∨ b = h.size ∨ b = h.size + 1) h1 h5' ∧ ∃ D'', Q D'' h5' ∧ ¬ D'' h.size ∧ ¬ D'' (h.size + 1) ∧ ∀ b, D'' b → D' b ∨ h1.size ≤ b := by
        rintro jump Q h4' hql hqm ⟨D'', hQ, hk4, hB⟩
        have n1 : ¬ D'' h.size := fun hh => (hB _ hh).elim h4 (fun h => by omega)
        have n2 : ¬ D'' (h.size + 1) := fun hh => (hB _ hh).elim h5 (fun h => by omega)
        have hl4 : h4'[h.size + 1]? = some (.loop { rec0 with state := .busy }) := (hk4.blk _ (by omega) (fun hh => hh.elim h5 (fun h => by omega))).trans hl3
        have hd4 : h4'[h.size]? = some (.deferred (some [])) :=
          (hk4.blk _ (by omega) (fun hh => hh.elim h4 (fun h => by omega))).trans ((ho3 _ (by omega)).trans ((hk2.blk _ (by omega) h4).trans h3))
        have hs4 := hk4.size
        refine ⟨_, hl4, ?_⟩
        rintro h5' rfl
        refine ⟨set_same _ (by omega), (set_other _ (by omega)).trans hd4, by simp; omega, ⟨by simp; omega, ?_⟩, D'', hqm hQ (by simp) (fun b hb => set_other _ (fun e => n2 (e ▸ hb))), n1, n2, hB⟩
        intro b hb hn
        simp only [not_or] at hn
        rw [set_other _ (fun e => hn.2.2 e.symm), hk4.blk b (by omega) (fun hh => hh.elim hn.1 (fun h => by omega)), ho3 b hn.2.2, hk2.blk b hb hn.1]
      refine csem_mono (κ := roundKt (fun b => D' b ∨ h1.size ≤ b) h3' (I (xs ++ [v])) Z) y ⟨?_, ?_, ?_, ?_⟩ (hbody h3' hs3 ho3)
      · intro l4 b4 h4' he
        obtain ⟨r, hr, hh⟩ := fin1 none _ h4' (fun {D h} hq => hlt hq) (fun {D h h'} hq => hmono hq) he
        obtain ⟨e1, e2, e3, e4, D'', e5, e6, e7, e8⟩ := hh _ rfl
        refine ⟨r, hr, .inl ⟨rfl, _, ⟨e1, e2, D'', e5, rfl, e6, e7, e3⟩, e4, ?_⟩⟩
        rintro b (hb | rfl | rfl)
        · exact (e8 b hb).imp .inl id
        · exact .inl (.inr (.inl rfl))
        · exact .inl (.inr (.inr rfl))
      all_goals
        first
        | (intro l4 b4 h4' he
           obtain ⟨r, hr, hh⟩ := fin1 (some .ret) _ h4' (fun {D h} hq => hltZ hq) (fun {D h h'} hq => hmonoZ hq) he
           obtain ⟨e1, e2, e3, e4, D'', e5, e6, e7, e8⟩ := hh _ rfl
           refine ⟨r, hr, .inr ⟨rfl, _, ⟨e2, .ret, D'', e1, e5, rfl, e6, e7, e3⟩, e4, ?_⟩⟩
           rintro b (hb | rfl | rfl)
           · exact (e8 b hb).imp .inl id
           · exact .inl (.inr (.inl rfl))
           · exact .inl (.inr (.inr rfl)))
        | (intro id l4 b4 h4' he
           obtain ⟨r, hr, hh⟩ := fin1 (some (.exit id)) _ h4' (fun {D h} hq => hltZ hq) (fun {D h h'} hq => hmonoZ hq) he
           obtain ⟨e1, e2, e3, e4, D'', e5, e6, e7, e8⟩ := hh _ rfl
           refine ⟨r, hr, .inr ⟨rfl, _, ⟨e2, .exit id, D'', e1, e5, rfl, e6, e7, e3⟩, e4, ?_⟩⟩
           rintro b (hb | rfl | rfl)
           · exact (e8 b hb).imp .inl fun h => h
           · exact .inl (.inr (.inl rfl))
           · exact .inl (.inr (.inr rfl)))
        | (intro id l4 b4 h4' he
           obtain ⟨r, hr, hh⟩ := fin1 (some (.goto id)) _ h4' (fun {D h} hq => hltZ hq) (fun {D h h'} hq => hmonoZ hq) he
           obtain ⟨e1, e2, e3, e4, D'', e5, e6, e7, e8⟩ := hh _ rfl
           refine ⟨r, hr, .inr ⟨rfl, _, ⟨e2, .goto id, D'', e1, e5, rfl, e6, e7, e3⟩, e4, ?_⟩⟩
           rintro b (hb | rfl | rfl)
           · exact (e8 b hb).imp .inl fun h => h
           · exact .inl (.inr (.inl rfl))
           · exact .inl (.inr (.inr rfl)))
  have hIH : I [] D0 H := hmono hI0 (by omega) (fun b hb => hHo b (hlt hI0 b hb))
  have hd1 : ¬ D0 h.size := fun hh => by have := hlt hI0 _ hh; omega
  have hd2 : ¬ D0 (h.size + 1) := fun hh => by have := hlt hI0 _ hh; omega
  refine (hit (yv (h.size + 1)) J ZZ _ H ⟨_, _, _, rfl⟩ hy ⟨hHl, hHd, D0, hIH, rfl, hd1, hd2, by omega⟩ (by omega) ?_).mono ?_
  · intro b hb
    obtain ⟨h1, h2⟩ := hFp b hb
    exact ⟨h1, fun hh => hh.elim h2 (fun h => by omega), hHo b h1⟩
  · rintro v h' ⟨D', hend, hk, hB⟩
    have hs' := hk.size
    rcases hend with ⟨xs, hdone, h2, h3, D'', hI, rfl, h4, h5, h6⟩ | ⟨h3, c, D'', h2, hI, rfl, h4, h5, h6⟩
    · refine ⟨rec0, h2, by simp [rec0], ?_⟩
      have hk2 : Keep D0 h (h'.setIfInBounds (h.size + 1) (.loop { rec0 with state := .exhausted })) := by
        refine ⟨by simp; omega, fun b hb hn => ?_⟩
        rw [set_other _ (by omega), hk.blk b (by omega) (fun hh => hh.elim hn (fun h => by omega)), hHo b hb]
      exact fin xs D'' _ hdone (hmono hI (by simp) (fun b hb => set_other _ (fun e => h5 (e ▸ hb)))) ((set_other _ (by omega)).trans h3) hk2
        (fun b hb => by
          rcases hB b (.inl hb) with (h | h | h) | h
          · exact .inl h
          · subst h; exact absurd hb h4
          · subst h; exact absurd hb h5
          · exact .inr (by omega))
    · refine ⟨_, h2, by simp, ?_⟩
      have hk2 : Keep D0 h (h'.setIfInBounds (h.size + 1) (.loop { rec0 with state := .exhausted, pending := some c })) := by
        refine ⟨by simp; omega, fun b hb hn => ?_⟩
        rw [set_other _ (by omega), hk.blk b (by omega) (fun hh => hh.elim hn (fun h => by omega)), hHo b hb]
      exact out c D'' _ (hmonoZ hI (by simp) (fun b hb => set_other _ (fun e => h5 (e ▸ hb)))) ((set_other _ (by omega)).trans h3) hk2
        (fun b hb => by
          rcases hB b (.inl hb) with (h | h | h) | h
          · exact .inl h
          · subst h; exact absurd hb h4
          · subst h; exact absurd hb h5
          · exact .inr (by omega))
end
theorem Grow.val {α : Type} {R : Rp α} {e : TypeId} {F : Nat → Prop} {h : Heap} {v : Value} {xs : List α} {own : Option Nat} (hg : Grow R e F h v xs own) : ∃ a c, v = .slice a xs.length c := by
  rcases hg with ⟨rfl, rfl, _⟩ | ⟨bk, c, arr, cs, rfl, _⟩
  · exact ⟨_, _, rfl⟩
  · exact ⟨_, _, rfl⟩
theorem Grow.push {α : Type} {R : Rp α} {e : TypeId} {F : Nat → Prop} {h : Heap} {v : Value} {xs : List α} {own : Option Nat} (hg : Grow R e F h v xs own) (hF : ∀ b, F b → b < h.size) (o : Obj) : Grow R e F (h.push o) v xs own := by
  refine hg.mono (fun b hb => ⟨hb, push_old _ (hF b hb)⟩) fun b hb => ⟨?_, push_old _ (hg.own_lt b hb)⟩
  rcases hg with ⟨_, _, rfl⟩ | ⟨bk, c, arr, cs, _, rfl, _, hn, _⟩
  · cases hb
  · cases hb; exact hn
end Go.HC
