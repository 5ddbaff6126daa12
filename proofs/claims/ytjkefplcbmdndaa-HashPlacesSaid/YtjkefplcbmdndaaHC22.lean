/-
  HC, part 22: a scope in which the run jumps back to one label.
-/
import Derived.Test.YtjkefplcbmdndaaHC21
namespace Go.HC
/-- A jump back to label t, nearer the end. -/
def JumpK {σ : Type} (S : σ → L) (D : σ → List Nat) (J : σ → Heap → Prop) (μ : σ → Nat) (t m : Nat) (t' : Nat) (l : L) (b : Base) (h : Heap) : Prop :=
  t' = t ∧ ∃ s', Sub (S s') l b ∧ b.d = D s' ∧ J s' h ∧ μ s' < m
section
variable {P : Program} {n : Nat} {ro : Option Nat} {c : Code} {κ : Kont} {l : L} {b : Base} {h : Heap}
theorem stepR_scope {b : Frame} {a : Act} {k : List Item} {cs : List Frame} {w : World} {c : Code} : step P (lone (b.atR a (.code (.scope c) :: k)) cs w) = .next (lone (b.atR a (.code c :: .inScope c :: k)) cs w) :=
  step_lone_go (by simp [stepG, stepG.exec, Frame.atR])
theorem stepR_inScope {b : Frame} {a : Act} {k : List Item} {cs : List Frame} {w : World} {c : Code} : step P (lone (b.atR a (.inScope c :: k)) cs w) = .next (lone (b.atR a k) cs w) :=
  step_lone_go (by simp [stepG, stepG.exec, Frame.atR])
theorem scope_rule {σ : Type} (t : Nat) (rest : Code) (hf : findLabel c t = some rest) (S : σ → L) (D : σ → List Nat) (J : σ → Heap → Prop) (μ : σ → Nat) (m0 : Nat) (hok : codeOk n c = true) (hok2 : codeOk n rest = true)
    (first : csem P n ro c { κ with gt := JumpK S D J μ t m0 } l b h)
    (pass : ∀ s h g, J s h → csem P n ro rest { κ with gt := JumpK S D J μ t (μ s) } (S s) ⟨g, D s⟩ h) : gsem P n ro (.scope c) κ l b h := by
  intro a w hw hfr fr k cs hkd hro
  have hg : ∀ k, gotoIn t (.inScope c :: k) = some (.code rest :: .inScope c :: k) := by intro k; simp [gotoIn, hf]
  have key : ∀ m s (a : Act) (w : World) g, μ s = m → J s w.heap → IsFr n a (S s) ⟨g, D s⟩ →
      ∃ e a' w' l' b', Same w w' ∧ IsFr n a' l' b' ∧ κ.at e l' b' w'.heap ∧ ArrR P (lone (fr.atR a (.code rest :: .inScope c :: k)) cs w) fr k cs e a' w' := by
    intro m
    induction m using Nat.strongRecOn with
    | _ m ih =>
      intro s a w g hm hJ hfr
      obtain ⟨e, a', w', l', b', hs, hfr', hk, harr⟩ := csem_sound P n ro rest _ _ _ _ hok2 (pass s w.heap g hJ) a w rfl hfr fr (.inScope c :: k) cs hkd hro
      cases e with
      | nx => exact ⟨.nx, a', w', l', b', hs, hfr', hk, Steps.trans harr (.one stepR_inScope)⟩
      | rt => exact ⟨.rt, a', w', l', b', hs, hfr', hk, harr⟩
      | ex id => obtain ⟨td, x, st⟩ := harr; exact ⟨.ex id, a', w', l', b', hs, hfr', hk, td, by simpa [exitTo] using x, st⟩
      | gt tt =>
        obtain ⟨rfl, s', hsub, hd, hJ', hlt⟩ := hk
        obtain ⟨td, x, st⟩ := harr
        have hfr2 := hfr'.clean hsub
        rw [hd] at hfr2
        obtain ⟨e, a'', w'', l'', b'', hs', hfr'', hk', harr'⟩ := ih (μ s') (hm ▸ hlt) s' a' w' _ rfl hJ' hfr2
        exact ⟨e, a'', w'', l'', b'', hs.trans hs', hfr'', hk', .of_steps (st.trans (.one (stepR_goto (x.trans (hg k))))) harr'⟩
  obtain ⟨e, a', w', l', b', hs, hfr', hk, harr⟩ := csem_sound P n ro c _ _ _ _ hok first a w hw hfr fr (.inScope c :: k) cs hkd hro
  have h1 : Steps P (lone (fr.atR a (.code (.scope c) :: k)) cs w) (lone (fr.atR a (.code c :: .inScope c :: k)) cs w) := .one stepR_scope
  cases e with
  | nx => exact ⟨.nx, a', w', l', b', hs, hfr', hk, h1.trans (Steps.trans harr (.one stepR_inScope))⟩
  | rt => obtain ⟨td, st⟩ := harr; exact ⟨.rt, a', w', l', b', hs, hfr', hk, td, h1.trans st⟩
  | ex id => obtain ⟨td, x, st⟩ := harr; exact ⟨.ex id, a', w', l', b', hs, hfr', hk, td, by simpa [exitTo] using x, h1.trans st⟩
  | gt tt =>
    obtain ⟨rfl, s', hsub, hd, hJ', _⟩ := hk
    obtain ⟨td, x, st⟩ := harr
    have hfr2 := hfr'.clean hsub
    rw [hd] at hfr2
    obtain ⟨e, a'', w'', l'', b'', hs', hfr'', hk', harr'⟩ := key _ s' a' w' _ rfl hJ' hfr2
    exact ⟨e, a'', w'', l'', b'', hs.trans hs', hfr'', hk', .of_steps (h1.trans (st.trans (.one (stepR_goto (x.trans (hg k)))))) harr'⟩
/-- The same, for simp. -/
theorem scope {σ : Type} (t : Nat) (rest : Code) (hf : findLabel c t = some rest) (S : σ → L) (D : σ → List Nat) (J : σ → Heap → Prop) (μ : σ → Nat) (m0 : Nat) (hok : codeOk n c = true) (hok2 : codeOk n rest = true)
    (first : cs P n ro c { κ with gt := JumpK S D J μ t m0 } l b h)
    (pass : ∀ s h g, J s h → cs P n ro rest { κ with gt := JumpK S D J μ t (μ s) } (S s) ⟨g, D s⟩ h) : gs P n ro (.scope c) κ l b h := scope_rule t rest hf S D J μ m0 hok hok2 first pass
end
/-- A contract is proved with its end out of sight. -/
theorem callH_by {P : Program} {f : FuncId} {args : Array Value} {h : Heap} {Q : Value → Heap → Prop} (hc : ∀ K : Value → Heap → Prop, (∀ v h, Q v h → K v h) → CallH P f args h K) : CallH P f args h Q := hc Q fun _ _ h => h
/-- A round of a loop has ended well: some state that is nearer the end. -/
def LoopK {σ : Type} (S : σ → L) (D : σ → List Nat) (J : σ → Heap → Prop) (μ : σ → Nat) (s : σ) (l : L) (b : Base) (h : Heap) : Prop := ∃ s', Sub (S s') l b ∧ b.d = D s' ∧ J s' h ∧ μ s' < μ s
theorem loop' {P : Program} {n : Nat} {ro : Option Nat} {c : Code} {κ : Kont} {l : L} {b : Base} {h : Heap} {σ : Type} (S : σ → L) (D : σ → List Nat) (J : σ → Heap → Prop) (μ : σ → Nat) (s0 : σ) (hS : Sub (S s0) l b) (hD : b.d = D s0) (hJ : J s0 h) (hok : codeOk n c = true)
    (round : ∀ s h g, J s h → cs P n ro c { κ with nx := LoopK S D J μ s } (S s) ⟨g, D s⟩ h) : gs P n ro (.loop c) κ l b h := loop S D J μ s0 hS hD hJ hok round
theorem Grow.elem {α : Type} {R : Rp α} {e : TypeId} {F : Nat → Prop} {h : Heap} {a : Option Addr} {n c : Nat} {xs : List α} {own : Option Nat} (hg : Grow R e F h (.slice a n c) xs own) (k : Nat) (hk : k < xs.length) :
    ∃ bk cs, a = some ⟨bk, 0, none⟩ ∧ own = some bk ∧ R.rep F h cs xs[k] ∧ HC.cellsIn h[bk]? (k * R.sz) R.sz = some cs := by
  rcases hg with ⟨_, rfl, _⟩ | ⟨bk, c', arr, cs, hv, rfl, hb, hf, h1, h2, h3, h4, h5⟩
  · simp at hk
  · cases hv
    refine ⟨bk, _, rfl, rfl, h5.get k hk, ?_⟩
    have hlen := h5.len
    have h6 : k * R.sz + R.sz ≤ xs.length * R.sz := by rw [← Nat.succ_mul]; exact Nat.mul_le_mul_right _ hk
    have h7 : xs.length * R.sz ≤ c * R.sz := Nat.mul_le_mul_right _ h2
    rw [hb, cellsIn_some, if_pos (by omega), ← h4, List.drop_take, List.take_take, Nat.min_eq_left (by omega)]
theorem cellsIn_cell {o : Option Obj} {i n d : Nat} {cs : List Value} (h : cellsIn o i n = some cs) (hd : d < n) : cellIn o (i + d) = cs[d]? := by
  cases o with
  | none => simp [cellsIn] at h
  | some o =>
    cases o with
    | cells c e fz =>
      rw [cellsIn_some] at h
      split at h
      · simp only [Option.some.injEq] at h
        rw [cellIn_some, ← h, List.getElem?_take, if_pos hd, List.getElem?_drop]
        simp
      · cases h
    | _ => simp [cellsIn] at h
end Go.HC
