/-
  The store, plainly: files in the order of their names, what is done to them, and what a crash leaves. No program is in sight.
-/
import Derived.Test.YtcopaleccjpdjaaHC
import Derived.Sort.Walk0
namespace Go.HC

abbrev Nm := ByteArray
def nLt (x y : Nm) : Prop := x.data.toList < y.data.toList
instance (x y : Nm) : Decidable (nLt x y) := inferInstanceAs (Decidable (x.data.toList < y.data.toList))
theorem sLt_eq (x y : Nm) : sLt x y = decide (nLt x y) := by
  unfold sLt nLt
  rw [Go.Proofs.bytesLess_eq]
  exact decide_eq_decide.2 Iff.rfl
theorem Nm.ext' {x y : Nm} (h : x.data.toList = y.data.toList) : x = y := by
  cases x; cases y; simp at h; rw [h]
theorem nLt_irrefl (x : Nm) : ¬ nLt x x := List.lt_irrefl _
theorem nLt_trans {x y z : Nm} (h1 : nLt x y) (h2 : nLt y z) : nLt x z := List.lt_trans h1 h2
theorem nLt_asymm {x y : Nm} (h1 : nLt x y) : ¬ nLt y x := fun h2 => nLt_irrefl x (nLt_trans h1 h2)
theorem nLt_total {x y : Nm} (h1 : ¬ nLt x y) (h2 : x ≠ y) : nLt y x := by
  unfold nLt at *
  rcases List.le_total x.data.toList y.data.toList with h | h
  · by_cases e : y.data.toList < x.data.toList
    · exact e
    · exact absurd (Nm.ext' (List.le_antisymm h (List.not_lt.1 h1))) h2
  · by_cases e : y.data.toList < x.data.toList
    · exact e
    · exact absurd (Nm.ext' (List.le_antisymm (List.not_lt.1 e) h)) h2

structure FileM where
  now : List UInt8
  sure : Option (List UInt8)
  safe : Bool
def FileM.Ok (f : FileM) : Prop := f.safe = true → f.sure = some f.now
abbrev Files := List (Nm × FileM)
def lookF (x : Nm) : Files → Option FileM
  | [] => none
  | p :: l => if x = p.1 then some p.2 else lookF x l
def putF (x : Nm) (f : FileM) : Files → Files
  | [] => [(x, f)]
  | p :: l => if x = p.1 then (x, f) :: l else if nLt x p.1 then (x, f) :: p :: l else p :: putF x f l
def delF (x : Nm) : Files → Files
  | [] => []
  | p :: l => if x = p.1 then l else p :: delF x l
def SortedF (l : Files) : Prop := l.Pairwise fun p q => nLt p.1 q.1
def usedF : Files → Nat
  | [] => 0
  | p :: l => p.2.now.length + usedF l
@[simp] theorem lookF_nil (x : Nm) : lookF x [] = none := rfl
@[simp] theorem usedF_nil : usedF [] = 0 := rfl
@[simp] theorem usedF_cons (p : Nm × FileM) (l : Files) : usedF (p :: l) = p.2.now.length + usedF l := rfl
theorem lookF_put {x y : Nm} {f : FileM} : ∀ {l : Files}, lookF y (putF x f l) = if y = x then some f else lookF y l
  | [] => rfl
  | p :: l => by
    rw [putF]
    split
    · rename_i hx
      simp only [lookF]
      by_cases hy : y = x
      · rw [if_pos hy, if_pos hy]
      · rw [if_neg hy, if_neg hy, if_neg (fun h => hy (h.trans hx.symm))]
    · split
      · rfl
      · rename_i hx _
        simp only [lookF, lookF_put]
        by_cases hy : y = p.1
        · rw [if_pos hy, if_pos hy, if_neg (fun h => hx (h.symm.trans hy))]
        · rw [if_neg hy, if_neg hy]
theorem lookF_lt {x : Nm} : ∀ {l : Files}, (∀ q ∈ l, nLt x q.1) → lookF x l = none
  | [], _ => rfl
  | p :: l, h => by
    rw [lookF, if_neg (fun e : x = p.1 => nLt_irrefl p.1 (by have := h p (List.mem_cons_self ..); rwa [e] at this))]
    exact lookF_lt fun q hq => h q (List.mem_cons_of_mem _ hq)
theorem lookF_del {x y : Nm} : ∀ {l : Files}, SortedF l → lookF y (delF x l) = if y = x then none else lookF y l
  | [], _ => by simp [delF]
  | p :: l, hs => by
    obtain ⟨h1, h2⟩ := List.pairwise_cons.1 hs
    rw [delF]
    split
    · rename_i hx
      simp only [lookF]
      by_cases hy : y = x
      · rw [if_pos hy, hy, hx]; exact lookF_lt h1
      · rw [if_neg hy, if_neg (fun h => hy (h.trans hx.symm))]
    · rename_i hx
      simp only [lookF, lookF_del h2]
      by_cases hy : y = p.1
      · rw [if_pos hy, if_pos hy, if_neg (fun h => hx (h.symm.trans hy))]
      · rw [if_neg hy, if_neg hy]
theorem mem_putF {x : Nm} {f : FileM} {q : Nm × FileM} : ∀ {l : Files}, q ∈ putF x f l → q = (x, f) ∨ q ∈ l
  | [], h => by simpa [putF] using h
  | p :: l, h => by
    rw [putF] at h
    split at h
    · rcases List.mem_cons.1 h with h | h
      · exact .inl h
      · exact .inr (List.mem_cons_of_mem _ h)
    · split at h
      · rcases List.mem_cons.1 h with h | h
        · exact .inl h
        · exact .inr h
      · rcases List.mem_cons.1 h with h | h
        · exact .inr (h ▸ List.mem_cons_self ..)
        · exact (mem_putF h).imp id (List.mem_cons_of_mem _)
theorem delF_sub (x : Nm) : ∀ (l : Files), (delF x l).Sublist l
  | [] => .slnil
  | p :: l => by
    rw [delF]
    split
    · exact List.sublist_cons_self ..
    · exact (delF_sub x l).cons_cons _
theorem SortedF.del {l : Files} (h : SortedF l) (x : Nm) : SortedF (delF x l) := h.sublist (delF_sub x l)
theorem SortedF.put {x : Nm} {f : FileM} : ∀ {l : Files}, SortedF l → SortedF (putF x f l)
  | [], _ => by simp [putF, SortedF]
  | p :: l, hs => by
    obtain ⟨h1, h2⟩ := List.pairwise_cons.1 hs
    rw [putF]
    split
    · rename_i hx
      exact List.pairwise_cons.2 ⟨fun q hq => by rw [hx]; exact h1 q hq, h2⟩
    · split
      · rename_i hlt
        refine List.pairwise_cons.2 ⟨fun q hq => ?_, hs⟩
        rcases List.mem_cons.1 hq with rfl | hq
        · exact hlt
        · exact nLt_trans hlt (h1 q hq)
      · rename_i hx hlt
        refine List.pairwise_cons.2 ⟨fun q hq => ?_, SortedF.put h2⟩
        rcases mem_putF hq with rfl | hq
        · exact nLt_total hlt hx
        · exact h1 q hq
theorem used_put {x : Nm} {f : FileM} : ∀ {l : Files}, SortedF l → usedF (putF x f l) + ((lookF x l).map (·.now.length)).getD 0 = usedF l + f.now.length
  | [], _ => by simp [putF]
  | p :: l, hs => by
    obtain ⟨h1, h2⟩ := List.pairwise_cons.1 hs
    rw [putF]
    split
    · rename_i hx
      rw [lookF, if_pos hx]
      simp only [usedF_cons, Option.map_some, Option.getD_some]
      omega
    · split
      · rename_i hx hlt
        rw [lookF, if_neg hx, lookF_lt fun q hq => nLt_trans hlt (h1 q hq)]
        simp only [usedF_cons, Option.map_none, Option.getD_none]
        omega
      · rename_i hx hlt
        rw [lookF, if_neg hx]
        have := used_put (x := x) (f := f) h2
        simp only [usedF_cons]
        omega
theorem used_del {x : Nm} : ∀ {l : Files}, usedF (delF x l) + ((lookF x l).map (·.now.length)).getD 0 = usedF l
  | [] => by simp [delF]
  | p :: l => by
    rw [delF, lookF]
    split
    · simp; omega
    · have := used_del (x := x) (l := l)
      simp only [usedF_cons]
      omega
theorem mem_lookF {x : Nm} {f : FileM} : ∀ {l : Files}, lookF x l = some f → (x, f) ∈ l
  | [], h => by cases h
  | p :: l, h => by
    rw [lookF] at h
    split at h
    · rename_i hx
      simp only [Option.some.injEq] at h
      subst h; subst hx
      exact List.mem_cons_self ..
    · exact List.mem_cons_of_mem _ (mem_lookF h)
theorem lookF_mem {x : Nm} {f : FileM} : ∀ {l : Files}, SortedF l → (x, f) ∈ l → lookF x l = some f
  | [], _, h => by cases h
  | p :: l, hs, h => by
    obtain ⟨h1, h2⟩ := List.pairwise_cons.1 hs
    rw [lookF]
    rcases List.mem_cons.1 h with rfl | h
    · simp
    · rw [if_neg (fun e => nLt_irrefl x (by have := h1 _ h; simp only at this; rw [← e] at this; exact this))]
      exact lookF_mem h2 h
theorem keys_nodup {l : Files} (hs : SortedF l) : (l.map (·.1)).Nodup := by
  rw [List.nodup_iff_pairwise_ne, List.pairwise_map]
  refine List.Pairwise.imp ?_ hs
  intro p q h e
  exact nLt_irrefl q.1 (by rwa [e] at h)
theorem length_put {x : Nm} {f : FileM} : ∀ {l : Files}, (putF x f l).length ≤ l.length + 1
  | [] => by simp [putF]
  | p :: l => by
    rw [putF]
    split
    · simp
    · split
      · simp
      · have := length_put (x := x) (f := f) (l := l)
        simp; omega
theorem length_le_put {x : Nm} {f : FileM} : ∀ {l : Files}, l.length ≤ (putF x f l).length
  | [] => by simp
  | p :: l => by
    rw [putF]
    split
    · simp
    · split
      · simp
      · have := length_le_put (x := x) (f := f) (l := l)
        simp; omega

structure Mod where
  limit : Int
  files : Files
  trace : List (Int × Nm)
structure Mod.Ok (M : Mod) : Prop where
  sorted : SortedF M.files
  files : ∀ p ∈ M.files, p.2.Ok
/-- A bound on all that is there. -/
structure Mod.Small (M : Mod) (n : Nat) : Prop where
  used : usedF M.files ≤ n
  files : M.files.length ≤ n
  trace : M.trace.length ≤ n
def nameOk (x : Nm) : Bool := decide (1 ≤ x.size) && decide (x.size ≤ 20)
def Mod.new (k : Int) : Mod := ⟨k, [], []⟩
def Mod.look (M : Mod) (x : Nm) : Option FileM := lookF x M.files
def Mod.nowOf (M : Mod) (x : Nm) : List UInt8 := ((M.look x).map (·.now)).getD []
def Mod.fits (M : Mod) (x : Nm) (b : List UInt8) : Bool := decide ((usedF M.files : Int) - (M.nowOf x).length + b.length ≤ M.limit)
def Mod.wrote (M : Mod) (x : Nm) (b : List UInt8) : Mod := ⟨M.limit, putF x ⟨b, (M.look x).bind (·.sure), false⟩ M.files, M.trace ++ [(1, x)]⟩
def Mod.write (M : Mod) (x : Nm) (b : List UInt8) : Int × Mod :=
  if nameOk x = false then (1, M) else if M.fits x b = false then (4, M) else (0, M.wrote x b)
def Mod.sync (M : Mod) (x : Nm) : Int × Mod :=
  match M.look x with
  | none => (5, M)
  | some f => (0, ⟨M.limit, putF x ⟨f.now, some f.now, true⟩ M.files, M.trace ++ [(2, x)]⟩)
def Mod.publish (M : Mod) (x y : Nm) : Int × Mod :=
  if nameOk y = false then (1, M) else
  match M.look x with
  | none => (5, M)
  | some f => if f.safe = false then (6, M) else if (M.look y).isSome = true then (9, M) else (0, ⟨M.limit, putF y f (delF x M.files), M.trace ++ [(3, y)]⟩)
def Mod.remove (M : Mod) (x : Nm) : Int × Mod :=
  match M.look x with
  | none => (5, M)
  | some _ => (0, ⟨M.limit, delF x M.files, M.trace ++ [(4, x)]⟩)
def Mod.names (M : Mod) : List Nm := M.files.map (·.1)
/-- What a crash leaves of a file of which this is said. -/
def leftF (f : FileM) (how : Int) : Option (List UInt8) := if how = 1 then some f.now else if how = 2 then some (f.now.take (f.now.length / 2)) else f.sure
def crashF : List Int → Files → Files
  | _, [] => []
  | ks, p :: l =>
    match (if p.2.safe = true then p.2.sure else leftF p.2 (ks.headD 0)) with
    | some b => (p.1, ⟨b, some b, true⟩) :: crashF (if p.2.safe = true then ks else ks.tail) l
    | none => crashF (if p.2.safe = true then ks else ks.tail) l
def Mod.crash (M : Mod) (ks : List Int) : Mod := ⟨M.limit, crashF ks M.files, []⟩

theorem Mod.Ok.new (k : Int) : (Mod.new k).Ok := ⟨by simp [SortedF, Mod.new], by simp [Mod.new]⟩
theorem Mod.Ok.look {M : Mod} (h : M.Ok) {x : Nm} {f : FileM} (hf : M.look x = some f) : f.Ok := h.files _ (mem_lookF hf)
theorem Mod.Ok.put {M : Mod} (h : M.Ok) {x : Nm} {f : FileM} (hf : f.Ok) (k : Int) (t : List (Int × Nm)) : Mod.Ok ⟨k, putF x f M.files, t⟩ :=
  ⟨h.sorted.put, fun p hp => by
    rcases mem_putF hp with rfl | hp
    · exact hf
    · exact h.files p hp⟩
theorem Mod.Ok.del {M : Mod} (h : M.Ok) (x : Nm) (k : Int) (t : List (Int × Nm)) : Mod.Ok ⟨k, delF x M.files, t⟩ :=
  ⟨h.sorted.del x, fun p hp => h.files p ((delF_sub x M.files).subset hp)⟩
theorem Mod.Ok.wrote {M : Mod} (h : M.Ok) (x : Nm) (b : List UInt8) : (M.wrote x b).Ok := h.put (fun h => by cases h) _ _
theorem Mod.Ok.write {M : Mod} (h : M.Ok) (x : Nm) (b : List UInt8) : (M.write x b).2.Ok := by
  unfold Mod.write
  split
  · exact h
  · split
    · exact h
    · exact h.wrote x b
theorem Mod.Ok.sync {M : Mod} (h : M.Ok) (x : Nm) : (M.sync x).2.Ok := by
  unfold Mod.sync
  split
  · exact h
  · exact h.put (fun _ => rfl) _ _
theorem Mod.Ok.publish {M : Mod} (h : M.Ok) (x y : Nm) : (M.publish x y).2.Ok := by
  unfold Mod.publish
  split
  · exact h
  · split
    · exact h
    · rename_i f hf
      split
      · exact h
      · split
        · exact h
        · exact (h.del x M.limit M.trace).put (h.look hf) _ _
theorem Mod.Ok.remove {M : Mod} (h : M.Ok) (x : Nm) : (M.remove x).2.Ok := by
  unfold Mod.remove
  split
  · exact h
  · exact h.del x _ _
theorem crashF_mem {q : Nm × FileM} : ∀ {l : Files} {ks : List Int}, q ∈ crashF ks l → q.2.safe = true ∧ q.2.sure = some q.2.now ∧ ∃ p ∈ l, p.1 = q.1
  | [], _, h => by cases h
  | p :: l, ks, h => by
    rw [crashF] at h
    split at h
    · rcases List.mem_cons.1 h with rfl | h
      · exact ⟨rfl, rfl, p, List.mem_cons_self .., rfl⟩
      · obtain ⟨h1, h2, r, h3, h4⟩ := crashF_mem h
        exact ⟨h1, h2, r, List.mem_cons_of_mem _ h3, h4⟩
    · obtain ⟨h1, h2, r, h3, h4⟩ := crashF_mem h
      exact ⟨h1, h2, r, List.mem_cons_of_mem _ h3, h4⟩
theorem SortedF.crash : ∀ {l : Files} {ks : List Int}, SortedF l → SortedF (crashF ks l)
  | [], _, _ => by simp [crashF, SortedF]
  | p :: l, ks, hs => by
    obtain ⟨h1, h2⟩ := List.pairwise_cons.1 hs
    rw [crashF]
    split
    · refine List.pairwise_cons.2 ⟨fun q hq => ?_, SortedF.crash h2⟩
      obtain ⟨_, _, r, h3, h4⟩ := crashF_mem hq
      simp only
      rw [← h4]; exact h1 r h3
    · exact SortedF.crash h2
theorem Mod.Ok.crash {M : Mod} (h : M.Ok) (ks : List Int) : (M.crash ks).Ok := ⟨h.sorted.crash, fun _ hp => fun _ => (crashF_mem hp).2.1⟩
end Go.HC
