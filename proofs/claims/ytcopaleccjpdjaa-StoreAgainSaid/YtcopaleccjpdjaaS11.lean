/-
  What a crash leaves of the program's store.
-/
import Derived.Test.YtcopaleccjpdjaaS10
namespace Go.HC
/-- A round of a loop has ended well: some state that is nearer the end. -/
def LoopK {σ : Type} (S : σ → L) (D : σ → List Nat) (J : σ → Heap → Prop) (μ : σ → Nat) (s : σ) (l : L) (b : Base) (h : Heap) : Prop := ∃ s', Sub (S s') l b ∧ b.d = D s' ∧ J s' h ∧ μ s' < μ s
theorem loop' {P : Program} {n : Nat} {ro : Option Nat} {c : Code} {κ : Kont} {l : L} {b : Base} {h : Heap} {σ : Type} (S : σ → L) (D : σ → List Nat) (J : σ → Heap → Prop) (μ : σ → Nat) (s0 : σ) (hS : Sub (S s0) l b) (hD : b.d = D s0) (hJ : J s0 h) (hok : codeOk n c = true)
    (round : ∀ s h g, J s h → cs P n ro c { κ with nx := LoopK S D J μ s } (S s) ⟨g, D s⟩ h) : gs P n ro (.loop c) κ l b h := loop S D J μ s0 hS hD hJ hok round
end Go.HC
namespace Go.Proofs
open Go Go.HC

theorem putF_end {x : Nm} {f : FileM} : ∀ {l : Files}, (∀ q ∈ l, nLt q.1 x) → putF x f l = l ++ [(x, f)]
  | [], _ => rfl
  | p :: l, h => by
    have hp := h p (List.mem_cons_self ..)
    rw [putF, if_neg (fun e => nLt_irrefl x (by rwa [e] at hp ⊢)), if_neg (nLt_asymm hp), putF_end fun q hq => h q (List.mem_cons_of_mem _ hq)]
    rfl
/-- Where a crash stands: what is gone over, what is left to go over, what is in the new store. -/
structure CrashAt (M : Mod) (ks : List Int) (done rest out : Files) (ks' : List Int) : Prop where
  all : M.files = done ++ rest
  sum : crashF ks M.files = out ++ crashF ks' rest
  lt : ∀ q ∈ out, ∀ p ∈ rest, nLt q.1 p.1
/-- One more file. -/
theorem CrashAt.step {M : Mod} {ks : List Int} {done rest out : Files} {ks' : List Int} {p : Nm × FileM} (hs : SortedF M.files) (c : CrashAt M ks done (p :: rest) out ks') :
    CrashAt M ks (done ++ [p]) rest (match (if p.2.safe = true then p.2.sure else leftF p.2 (ks'.headD 0)) with | some b => out ++ [(p.1, ⟨b, some b, true⟩)] | none => out) (if p.2.safe = true then ks' else ks'.tail) := by
  obtain ⟨h1, h2, h3⟩ := c
  have hs2 : SortedF (p :: rest) := by
    rw [h1] at hs
    exact (List.pairwise_append.1 hs).2.1
  have hs3 := (List.pairwise_cons.1 hs2).1
  refine ⟨by rw [h1]; simp, ?_, ?_⟩
  · rw [h2, crashF]
    generalize (if p.2.safe = true then p.2.sure else leftF p.2 (ks'.headD 0)) = o
    cases o <;> simp
  · split
    · intro q hq r hr
      rcases List.mem_append.1 hq with hq | hq
      · exact h3 q hq r (List.mem_cons_of_mem _ hr)
      · simp only [List.mem_singleton] at hq
        subst hq
        exact hs3 r hr
    · exact fun q hq r hr => h3 q hq r (List.mem_cons_of_mem _ hr)
theorem now_mem {M : Mod} {p : Nm × FileM} (hs : SortedF M.files) (hp : p ∈ M.files) : p.2.now.length ≤ usedF M.files := by
  have := used_put (x := p.1) (f := noFile) hs
  rw [lookF_mem hs hp] at this
  simp [noFile] at this
  omega
theorem left_len {M : Mod} {n : Nat} (hs : SortedF M.files) (hu : usedF M.files ≤ n) (hn : n < 1000000000) (hsu : ∀ p ∈ M.files, ∀ b, p.2.sure = some b → b.length < 1000000000) {p : Nm × FileM} (hp : p ∈ M.files) {how : Int} {lx : List UInt8}
    (h : (if p.2.safe = true then p.2.sure else leftF p.2 how) = some lx) : lx.length < 1000000000 := by
  have hnow := now_mem hs hp
  split at h
  · exact hsu p hp lx h
  · unfold leftF at h
    split at h
    · simp only [Option.some.injEq] at h
      subst h; omega
    · split at h
      · simp only [Option.some.injEq] at h
        subst h
        simp; omega
      · exact hsu p hp lx h
end Go.Proofs
