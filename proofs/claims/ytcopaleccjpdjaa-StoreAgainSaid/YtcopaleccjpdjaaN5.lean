/-
  StoreSure: the law's walk.
-/
import Derived.Test.YtcopaleccjpdjaaN3
namespace Go.HC
theorem crashF_safe {q : Nm × FileM} (hq : q.2.safe = true) (hs : q.2.sure = some q.2.now) : ∀ {l : Files} {ks : List Int}, q ∈ l → (q.1, (⟨q.2.now, some q.2.now, true⟩ : FileM)) ∈ crashF ks l
  | [], _, h => by cases h
  | p :: l, ks, h => by
    rw [crashF]
    rcases List.mem_cons.1 h with rfl | h
    · simp only [hq, if_true, hs]
      exact List.mem_cons_self ..
    · split
      · exact List.mem_cons_of_mem _ (crashF_safe hq hs h)
      · exact crashF_safe hq hs h
theorem crashF_le : ∀ {l : Files} {ks : List Int}, (crashF ks l).length ≤ l.length
  | [], _ => by simp [crashF]
  | p :: l, ks => by
    rw [crashF]
    split
    · simp only [List.length_cons]; exact Nat.succ_le_succ crashF_le
    · exact Nat.le_succ_of_le crashF_le
theorem crashF_ge : ∀ {l : Files} {ks : List Int}, (∀ p ∈ l, p.2.safe = true → p.2.sure = some p.2.now) → (l.filter (·.2.safe)).length ≤ (crashF ks l).length
  | [], _, _ => by simp
  | p :: l, ks, h => by
    have ih := fun ks => crashF_ge (l := l) (ks := ks) fun q hq => h q (List.mem_cons_of_mem _ hq)
    rw [crashF]
    cases hp : p.2.safe with
    | true =>
      rw [List.filter_cons_of_pos (by simpa using hp)]
      simp only [if_true, h p (List.mem_cons_self ..) hp, List.length_cons]
      exact Nat.succ_le_succ (ih _)
    | false =>
      rw [List.filter_cons_of_neg (by simp [hp])]
      split
      · simp only [List.length_cons]; exact Nat.le_succ_of_le (ih _)
      · exact ih _
theorem used_crash : ∀ {l : Files} {ks : List Int}, (∀ p ∈ l, ∀ b, p.2.sure = some b → b.length ≤ p.2.now.length) → usedF (crashF ks l) ≤ usedF l
  | [], _, _ => by simp [crashF]
  | p :: l, ks, h => by
    have ih := fun ks => used_crash (l := l) (ks := ks) fun q hq => h q (List.mem_cons_of_mem _ hq)
    rw [crashF]
    split
    · rename_i b hb
      have : b.length ≤ p.2.now.length := by
        split at hb
        · exact h p (List.mem_cons_self ..) b hb
        · unfold leftF at hb
          split at hb
          · cases hb; exact Nat.le_refl _
          · split at hb
            · cases hb; simp; omega
            · exact h p (List.mem_cons_self ..) b hb
      have := ih (if p.2.safe = true then ks else ks.tail)
      simp only [usedF_cons]; omega
    · have := ih (if p.2.safe = true then ks else ks.tail)
      simp only [usedF_cons]; omega
theorem putF_last {x : Nm} {f g : FileM} : ∀ {l : Files}, (∀ q ∈ l, nLt q.1 x) → putF x f (l ++ [(x, g)]) = l ++ [(x, f)]
  | [], _ => by simp [putF]
  | p :: l, h => by
    have hp := h p (List.mem_cons_self ..)
    rw [List.cons_append, putF, if_neg (fun e => nLt_irrefl x (by rwa [← e] at hp)), if_neg (nLt_asymm hp), putF_last fun q hq => h q (List.mem_cons_of_mem _ hq)]
    rfl
theorem used_append : ∀ {l m : Files}, usedF (l ++ m) = usedF l + usedF m
  | [], m => by simp
  | p :: l, m => by rw [List.cons_append, usedF_cons, used_append, usedF_cons]; omega
end Go.HC
namespace Go.Proofs
open Go Go.HC

def nmS (j : Nat) : Nm := strOf [UInt8.ofNat (97 + j)]
theorem nmS_lt : ∀ i, i < 12 → ∀ j, j < i → nLt (nmS j) (nmS i) := by decide
def sureN (l : Files) : List Nm := (l.filter (·.2.safe)).map (·.1)
/-- What the law's loop holds. -/
structure SureAt (M : Mod) (i : Nat) : Prop where
  lim : M.limit = 1000
  len : M.files.length = i
  used : usedF M.files ≤ 60 * i
  tr : M.trace.length ≤ 2 * i
  nm : ∀ p ∈ M.files, ∃ j, j < i ∧ p.1 = nmS j
  now : ∀ p ∈ M.files, p.2.now.length ≤ 60
  sure : ∀ p ∈ M.files, p.2.sure = if p.2.safe = true then some p.2.now else none
theorem SureAt.small {M : Mod} {i : Nat} (s : SureAt M i) (hi : i ≤ 12) : M.Small 1000 := ⟨by have := s.used; omega, by have := s.len; omega, by have := s.tr; omega⟩
theorem SureAt.lt {M : Mod} {i : Nat} (s : SureAt M i) (hi : i < 12) : ∀ p ∈ M.files, nLt p.1 (nmS i) := by
  intro p hp
  obtain ⟨j, hj, e⟩ := s.nm p hp
  rw [e]
  exact nmS_lt i hi j hj
def sureMod (M : Mod) (i : Nat) (b : List UInt8) : Mod := ⟨1000, M.files ++ [(nmS i, ⟨b, none, false⟩)], M.trace ++ [(1, nmS i)]⟩
def sureMod2 (M : Mod) (i : Nat) (b : List UInt8) : Mod := ⟨1000, M.files ++ [(nmS i, ⟨b, some b, true⟩)], M.trace ++ [(1, nmS i)] ++ [(2, nmS i)]⟩
theorem look_end {x : Nm} {f : FileM} : ∀ {l : Files}, (∀ q ∈ l, nLt q.1 x) → lookF x (l ++ [(x, f)]) = some f
  | [], _ => by simp [lookF]
  | p :: l, h => by
    have hp := h p (List.mem_cons_self ..)
    rw [List.cons_append, lookF, if_neg (fun e => nLt_irrefl x (by rwa [← e] at hp)), look_end fun q hq => h q (List.mem_cons_of_mem _ hq)]
theorem look_out {x : Nm} : ∀ {l : Files}, (∀ q ∈ l, nLt q.1 x) → lookF x l = none
  | [], _ => rfl
  | p :: l, h => by
    have hp := h p (List.mem_cons_self ..)
    rw [lookF, if_neg (fun e => nLt_irrefl x (by rwa [← e] at hp)), look_out fun q hq => h q (List.mem_cons_of_mem _ hq)]
theorem SureAt.write {M : Mod} {i : Nat} (s : SureAt M i) (hi : i < 12) {b : List UInt8} (hb : b.length ≤ 60) : M.write (nmS i) b = (0, sureMod M i b) ∧ SureAt (sureMod M i b) (i + 1) := by
  have hlt := s.lt hi
  have hu := s.used
  have hno : nameOk (nmS i) = true := rfl
  have hlk : M.look (nmS i) = none := look_out hlt
  have hf : M.fits (nmS i) b = true := by
    unfold Mod.fits Mod.nowOf
    rw [hlk, s.lim]
    simp; omega
  refine ⟨?_, rfl, ?_, ?_, ?_, ?_, ?_, ?_⟩
  · unfold Mod.write Mod.wrote sureMod
    rw [hno, hf, hlk, putF_end hlt, s.lim]
    rfl
  · show (M.files ++ _).length = _
    simp [s.len]
  · show usedF (M.files ++ _) ≤ _
    rw [used_append]; simp; omega
  · show (M.trace ++ _).length ≤ _
    have := s.tr
    simp; omega
  · intro p hp
    rcases List.mem_append.1 hp with hp | hp
    · obtain ⟨j, hj, e⟩ := s.nm p hp; exact ⟨j, by omega, e⟩
    · rw [List.mem_singleton] at hp; subst hp; exact ⟨i, by omega, rfl⟩
  · intro p hp
    rcases List.mem_append.1 hp with hp | hp
    · exact s.now p hp
    · rw [List.mem_singleton] at hp; subst hp; exact hb
  · intro p hp
    rcases List.mem_append.1 hp with hp | hp
    · exact s.sure p hp
    · rw [List.mem_singleton] at hp; subst hp; rfl
theorem SureAt.sync {M : Mod} {i : Nat} (s : SureAt M i) (hi : i < 12) {b : List UInt8} (hb : b.length ≤ 60) : (sureMod M i b).sync (nmS i) = (0, sureMod2 M i b) ∧ SureAt (sureMod2 M i b) (i + 1) := by
  have hlt := s.lt hi
  have hu := s.used
  have hlk : (sureMod M i b).look (nmS i) = some ⟨b, none, false⟩ := look_end hlt
  refine ⟨?_, rfl, ?_, ?_, ?_, ?_, ?_, ?_⟩
  · unfold Mod.sync
    rw [hlk]
    simp only [sureMod, sureMod2]
    rw [putF_last hlt]
  · show (M.files ++ _).length = _
    simp [s.len]
  · show usedF (M.files ++ _) ≤ _
    rw [used_append]; simp; omega
  · show (M.trace ++ _ ++ _).length ≤ _
    have := s.tr
    simp; omega
  · intro p hp
    rcases List.mem_append.1 hp with hp | hp
    · obtain ⟨j, hj, e⟩ := s.nm p hp; exact ⟨j, by omega, e⟩
    · rw [List.mem_singleton] at hp; subst hp; exact ⟨i, by omega, rfl⟩
  · intro p hp
    rcases List.mem_append.1 hp with hp | hp
    · exact s.now p hp
    · rw [List.mem_singleton] at hp; subst hp; exact hb
  · intro p hp
    rcases List.mem_append.1 hp with hp | hp
    · exact s.sure p hp
    · rw [List.mem_singleton] at hp; subst hp; rfl
theorem sureN_1 (M : Mod) (i : Nat) (b : List UInt8) : sureN (sureMod M i b).files = sureN M.files := by
  simp [sureN, sureMod]
theorem sureN_2 (M : Mod) (i : Nat) (b : List UInt8) : sureN (sureMod2 M i b).files = sureN M.files ++ [nmS i] := by
  simp [sureN, sureMod2]
end Go.Proofs
