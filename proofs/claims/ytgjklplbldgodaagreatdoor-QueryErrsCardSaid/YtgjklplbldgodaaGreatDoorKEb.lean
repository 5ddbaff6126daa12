/-
  The store, plainly: files in the order of their names, what is done to them, and what a crash leaves. No program is in sight.
-/
import Derived.Test.YtgjklplbldgodaaGreatDoorKEa
import Derived.Sort.Walk0
import Derived.Test.YtgjklplbldgodaaGreatDoorProg
import Derived.KernelRfl
import Derived.Shelf.SortM.Plain
import Derived.Shelf.SortM.SortNone
import Derived.Ground.SlgmProg

namespace Go.HC

abbrev Nm := ByteArray
def nLt (x y : Nm) : Prop := x.data.toList < y.data.toList
instance (x y : Nm) : Decidable (nLt x y) := inferInstanceAs (Decidable (x.data.toList < y.data.toList))
theorem sLt_eq (x y : Nm) : sLt x y = decide (nLt x y) := by
  unfold sLt nLt
  rw [Go.Proofs.bytesLess_eq]
  exact decide_eq_decide.2 Iff.rfl
theorem Nm.ext' {x y : Nm} (h : x.data.toList = y.data.toList) : x = y := by
  cases x; cases y; simp at h; rw [h]
theorem nLt_irrefl (x : Nm) : ¬ nLt x x := List.lt_irrefl _
theorem nLt_trans {x y z : Nm} (h1 : nLt x y) (h2 : nLt y z) : nLt x z := List.lt_trans h1 h2
theorem nLt_asymm {x y : Nm} (h1 : nLt x y) : ¬ nLt y x := fun h2 => nLt_irrefl x (nLt_trans h1 h2)
theorem nLt_total {x y : Nm} (h1 : ¬ nLt x y) (h2 : x ≠ y) : nLt y x := by
  unfold nLt at *
  rcases List.le_total x.data.toList y.data.toList with h | h
  · by_cases e : y.data.toList < x.data.toList
    · exact e
    · exact absurd (Nm.ext' (List.le_antisymm h (List.not_lt.1 h1))) h2
  · by_cases e : y.data.toList < x.data.toList
    · exact e
    · exact absurd (Nm.ext' (List.le_antisymm (List.not_lt.1 e) h)) h2

structure FileM where
  now : List UInt8
  sure : Option (List UInt8)
  safe : Bool
def FileM.Ok (f : FileM) : Prop := f.safe = true → f.sure = some f.now
abbrev Files := List (Nm × FileM)
def lookF (x : Nm) : Files → Option FileM
  | [] => none
  | p :: l => if x = p.1 then some p.2 else lookF x l
def putF (x : Nm) (f : FileM) : Files → Files
  | [] => [(x, f)]
  | p :: l => if x = p.1 then (x, f) :: l else if nLt x p.1 then (x, f) :: p :: l else p :: putF x f l
def delF (x : Nm) : Files → Files
  | [] => []
  | p :: l => if x = p.1 then l else p :: delF x l
def SortedF (l : Files) : Prop := l.Pairwise fun p q => nLt p.1 q.1
def usedF : Files → Nat
  | [] => 0
  | p :: l => p.2.now.length + usedF l
@[simp] theorem lookF_nil (x : Nm) : lookF x [] = none := rfl
@[simp] theorem usedF_nil : usedF [] = 0 := rfl
@[simp] theorem usedF_cons (p : Nm × FileM) (l : Files) : usedF (p :: l) = p.2.now.length + usedF l := rfl
theorem lookF_put {x y : Nm} {f : FileM} : ∀ {l : Files}, lookF y (putF x f l) = if y = x then some f else lookF y l
  | [] => rfl
  | p :: l => by
    rw [putF]
    split
    · rename_i hx
      simp only [lookF]
      by_cases hy : y = x
      · rw [if_pos hy, if_pos hy]
      · rw [if_neg hy, if_neg hy, if_neg (fun h => hy (h.trans hx.symm))]
    · split
      · rfl
      · rename_i hx _
        simp only [lookF, lookF_put]
        by_cases hy : y = p.1
        · rw [if_pos hy, if_pos hy, if_neg (fun h => hx (h.symm.trans hy))]
        · rw [if_neg hy, if_neg hy]
theorem lookF_lt {x : Nm} : ∀ {l : Files}, (∀ q ∈ l, nLt x q.1) → lookF x l = none
  | [], _ => rfl
  | p :: l, h => by
    rw [lookF, if_neg (fun e : x = p.1 => nLt_irrefl p.1 (by have := h p (List.mem_cons_self ..); rwa [e] at this))]
    exact lookF_lt fun q hq => h q (List.mem_cons_of_mem _ hq)
theorem lookF_del {x y : Nm} : ∀ {l : Files}, SortedF l → lookF y (delF x l) = if y = x then none else lookF y l
  | [], _ => by simp [delF]
  | p :: l, hs => by
    obtain ⟨h1, h2⟩ := List.pairwise_cons.1 hs
    rw [delF]
    split
    · rename_i hx
      simp only [lookF]
      by_cases hy : y = x
      · rw [if_pos hy, hy, hx]; exact lookF_lt h1
      · rw [if_neg hy, if_neg (fun h => hy (h.trans hx.symm))]
    · rename_i hx
      simp only [lookF, lookF_del h2]
      by_cases hy : y = p.1
      · rw [if_pos hy, if_pos hy, if_neg (fun h => hx (h.symm.trans hy))]
      · rw [if_neg hy, if_neg hy]
theorem mem_putF {x : Nm} {f : FileM} {q : Nm × FileM} : ∀ {l : Files}, q ∈ putF x f l → q = (x, f) ∨ q ∈ l
  | [], h => by simpa [putF] using h
  | p :: l, h => by
    rw [putF] at h
    split at h
    · rcases List.mem_cons.1 h with h | h
      · exact .inl h
      · exact .inr (List.mem_cons_of_mem _ h)
    · split at h
      · rcases List.mem_cons.1 h with h | h
        · exact .inl h
        · exact .inr h
      · rcases List.mem_cons.1 h with h | h
        · exact .inr (h ▸ List.mem_cons_self ..)
        · exact (mem_putF h).imp id (List.mem_cons_of_mem _)
theorem delF_sub (x : Nm) : ∀ (l : Files), (delF x l).Sublist l
  | [] => .slnil
  | p :: l => by
    rw [delF]
    split
    · exact List.sublist_cons_self ..
    · exact (delF_sub x l).cons_cons _
theorem SortedF.del {l : Files} (h : SortedF l) (x : Nm) : SortedF (delF x l) := h.sublist (delF_sub x l)
theorem SortedF.put {x : Nm} {f : FileM} : ∀ {l : Files}, SortedF l → SortedF (putF x f l)
  | [], _ => by simp [putF, SortedF]
  | p :: l, hs => by
    obtain ⟨h1, h2⟩ := List.pairwise_cons.1 hs
    rw [putF]
    split
    · rename_i hx
      exact List.pairwise_cons.2 ⟨fun q hq => by rw [hx]; exact h1 q hq, h2⟩
    · split
      · rename_i hlt
        refine List.pairwise_cons.2 ⟨fun q hq => ?_, hs⟩
        rcases List.mem_cons.1 hq with rfl | hq
        · exact hlt
        · exact nLt_trans hlt (h1 q hq)
      · rename_i hx hlt
        refine List.pairwise_cons.2 ⟨fun q hq => ?_, SortedF.put h2⟩
        rcases mem_putF hq with rfl | hq
        · exact nLt_total hlt hx
        · exact h1 q hq
theorem used_put {x : Nm} {f : FileM} : ∀ {l : Files}, SortedF l → usedF (putF x f l) + ((lookF x l).map (·.now.length)).getD 0 = usedF l + f.now.length
  | [], _ => by simp [putF]
  | p :: l, hs => by
    obtain ⟨h1, h2⟩ := List.pairwise_cons.1 hs
    rw [putF]
    split
    · rename_i hx
      rw [lookF, if_pos hx]
      simp only [usedF_cons, Option.map_some, Option.getD_some]
      omega
    · split
      · rename_i hx hlt
        rw [lookF, if_neg hx, lookF_lt fun q hq => nLt_trans hlt (h1 q hq)]
        simp only [usedF_cons, Option.map_none, Option.getD_none]
        omega
      · rename_i hx hlt
        rw [lookF, if_neg hx]
        have := used_put (x := x) (f := f) h2
        simp only [usedF_cons]
        omega
theorem mem_lookF {x : Nm} {f : FileM} : ∀ {l : Files}, lookF x l = some f → (x, f) ∈ l
  | [], h => by cases h
  | p :: l, h => by
    rw [lookF] at h
    split at h
    · rename_i hx
      simp only [Option.some.injEq] at h
      subst h; subst hx
      exact List.mem_cons_self ..
    · exact List.mem_cons_of_mem _ (mem_lookF h)
theorem lookF_mem {x : Nm} {f : FileM} : ∀ {l : Files}, SortedF l → (x, f) ∈ l → lookF x l = some f
  | [], _, h => by cases h
  | p :: l, hs, h => by
    obtain ⟨h1, h2⟩ := List.pairwise_cons.1 hs
    rw [lookF]
    rcases List.mem_cons.1 h with rfl | h
    · simp
    · rw [if_neg (fun e => nLt_irrefl x (by have := h1 _ h; simp only at this; rw [← e] at this; exact this))]
      exact lookF_mem h2 h
theorem keys_nodup {l : Files} (hs : SortedF l) : (l.map (·.1)).Nodup := by
  rw [List.nodup_iff_pairwise_ne, List.pairwise_map]
  refine List.Pairwise.imp ?_ hs
  intro p q h e
  exact nLt_irrefl q.1 (by rwa [e] at h)
theorem length_put {x : Nm} {f : FileM} : ∀ {l : Files}, (putF x f l).length ≤ l.length + 1
  | [] => by simp [putF]
  | p :: l => by
    rw [putF]
    split
    · simp
    · split
      · simp
      · have := length_put (x := x) (f := f) (l := l)
        simp; omega
structure Mod where
  limit : Int
  files : Files
  trace : List (Int × Nm)
structure Mod.Ok (M : Mod) : Prop where
  sorted : SortedF M.files
  files : ∀ p ∈ M.files, p.2.Ok
/-- A bound on all that is there. -/
structure Mod.Small (M : Mod) (n : Nat) : Prop where
  used : usedF M.files ≤ n
  files : M.files.length ≤ n
  trace : M.trace.length ≤ n
def nameOk (x : Nm) : Bool := decide (1 ≤ x.size) && decide (x.size ≤ 20)
def Mod.new (k : Int) : Mod := ⟨k, [], []⟩
def Mod.look (M : Mod) (x : Nm) : Option FileM := lookF x M.files
def Mod.nowOf (M : Mod) (x : Nm) : List UInt8 := ((M.look x).map (·.now)).getD []
def Mod.fits (M : Mod) (x : Nm) (b : List UInt8) : Bool := decide ((usedF M.files : Int) - (M.nowOf x).length + b.length ≤ M.limit)
def Mod.wrote (M : Mod) (x : Nm) (b : List UInt8) : Mod := ⟨M.limit, putF x ⟨b, (M.look x).bind (·.sure), false⟩ M.files, M.trace ++ [(1, x)]⟩
def Mod.write (M : Mod) (x : Nm) (b : List UInt8) : Int × Mod :=
  if nameOk x = false then (1, M) else if M.fits x b = false then (4, M) else (0, M.wrote x b)
def Mod.sync (M : Mod) (x : Nm) : Int × Mod :=
  match M.look x with
  | none => (5, M)
  | some f => (0, ⟨M.limit, putF x ⟨f.now, some f.now, true⟩ M.files, M.trace ++ [(2, x)]⟩)
def Mod.remove (M : Mod) (x : Nm) : Int × Mod :=
  match M.look x with
  | none => (5, M)
  | some _ => (0, ⟨M.limit, delF x M.files, M.trace ++ [(4, x)]⟩)
def Mod.names (M : Mod) : List Nm := M.files.map (·.1)
/-- What a crash leaves of a file of which this is said. -/
def leftF (f : FileM) (how : Int) : Option (List UInt8) := if how = 1 then some f.now else if how = 2 then some (f.now.take (f.now.length / 2)) else f.sure
def crashF : List Int → Files → Files
  | _, [] => []
  | ks, p :: l =>
    match (if p.2.safe = true then p.2.sure else leftF p.2 (ks.headD 0)) with
    | some b => (p.1, ⟨b, some b, true⟩) :: crashF (if p.2.safe = true then ks else ks.tail) l
    | none => crashF (if p.2.safe = true then ks else ks.tail) l
def Mod.crash (M : Mod) (ks : List Int) : Mod := ⟨M.limit, crashF ks M.files, []⟩

theorem Mod.Ok.new (k : Int) : (Mod.new k).Ok := ⟨by simp [SortedF, Mod.new], by simp [Mod.new]⟩
theorem Mod.Ok.look {M : Mod} (h : M.Ok) {x : Nm} {f : FileM} (hf : M.look x = some f) : f.Ok := h.files _ (mem_lookF hf)
theorem Mod.Ok.put {M : Mod} (h : M.Ok) {x : Nm} {f : FileM} (hf : f.Ok) (k : Int) (t : List (Int × Nm)) : Mod.Ok ⟨k, putF x f M.files, t⟩ :=
  ⟨h.sorted.put, fun p hp => by
    rcases mem_putF hp with rfl | hp
    · exact hf
    · exact h.files p hp⟩
theorem Mod.Ok.del {M : Mod} (h : M.Ok) (x : Nm) (k : Int) (t : List (Int × Nm)) : Mod.Ok ⟨k, delF x M.files, t⟩ :=
  ⟨h.sorted.del x, fun p hp => h.files p ((delF_sub x M.files).subset hp)⟩
theorem Mod.Ok.wrote {M : Mod} (h : M.Ok) (x : Nm) (b : List UInt8) : (M.wrote x b).Ok := h.put (fun h => by cases h) _ _
theorem Mod.Ok.write {M : Mod} (h : M.Ok) (x : Nm) (b : List UInt8) : (M.write x b).2.Ok := by
  unfold Mod.write
  split
  · exact h
  · split
    · exact h
    · exact h.wrote x b
theorem Mod.Ok.sync {M : Mod} (h : M.Ok) (x : Nm) : (M.sync x).2.Ok := by
  unfold Mod.sync
  split
  · exact h
  · exact h.put (fun _ => rfl) _ _
theorem Mod.Ok.remove {M : Mod} (h : M.Ok) (x : Nm) : (M.remove x).2.Ok := by
  unfold Mod.remove
  split
  · exact h
  · exact h.del x _ _
theorem crashF_mem {q : Nm × FileM} : ∀ {l : Files} {ks : List Int}, q ∈ crashF ks l → q.2.safe = true ∧ q.2.sure = some q.2.now ∧ ∃ p ∈ l, p.1 = q.1
  | [], _, h => by cases h
  | p :: l, ks, h => by
    rw [crashF] at h
    split at h
    · rcases List.mem_cons.1 h with rfl | h
      · exact ⟨rfl, rfl, p, List.mem_cons_self .., rfl⟩
      · obtain ⟨h1, h2, r, h3, h4⟩ := crashF_mem h
        exact ⟨h1, h2, r, List.mem_cons_of_mem _ h3, h4⟩
    · obtain ⟨h1, h2, r, h3, h4⟩ := crashF_mem h
      exact ⟨h1, h2, r, List.mem_cons_of_mem _ h3, h4⟩
theorem SortedF.crash : ∀ {l : Files} {ks : List Int}, SortedF l → SortedF (crashF ks l)
  | [], _, _ => by simp [crashF, SortedF]
  | p :: l, ks, hs => by
    obtain ⟨h1, h2⟩ := List.pairwise_cons.1 hs
    rw [crashF]
    split
    · refine List.pairwise_cons.2 ⟨fun q hq => ?_, SortedF.crash h2⟩
      obtain ⟨_, _, r, h3, h4⟩ := crashF_mem hq
      simp only
      rw [← h4]; exact h1 r h3
    · exact SortedF.crash h2
theorem Mod.Ok.crash {M : Mod} (h : M.Ok) (ks : List Int) : (M.crash ks).Ok := ⟨h.sorted.crash, fun _ hp => fun _ => (crashF_mem hp).2.1⟩
end Go.HC

/- The facts on the types and functions of this seat, printed by a program of this session (wip/tools/facts.py) off the translation; each is proved by the kernel. -/
namespace Go.Proofs
open Go Go.HC
@[simp] theorem Tryz.aggS3 : aggS Tryz.prog 3 = some false := by kernel_rfl
@[simp] theorem Tryz.szS3 : szS Tryz.prog 3 = some 1 := by kernel_rfl
@[simp] theorem Tryz.byS3 : byS Tryz.prog 3 = some 8 := by kernel_rfl
@[simp] theorem Tryz.zS3 : zS Tryz.prog 3 = some (.int .i64 0) := by kernel_rfl
@[simp] theorem Tryz.intK3 : intK Tryz.prog 3 = some .i64 := by kernel_rfl
@[simp] theorem Tryz.aggS4 : aggS Tryz.prog 4 = some false := by kernel_rfl
@[simp] theorem Tryz.szS4 : szS Tryz.prog 4 = some 1 := by kernel_rfl
@[simp] theorem Tryz.zS4 : zS Tryz.prog 4 = some (.bool false) := by kernel_rfl
@[simp] theorem Tryz.aggS5 : aggS Tryz.prog 5 = some false := by kernel_rfl
@[simp] theorem Tryz.szS5 : szS Tryz.prog 5 = some 1 := by kernel_rfl
@[simp] theorem Tryz.byS5 : byS Tryz.prog 5 = some 1 := by kernel_rfl
@[simp] theorem Tryz.zS5 : zS Tryz.prog 5 = some (.int .u8 0) := by kernel_rfl
@[simp] theorem Tryz.intK5 : intK Tryz.prog 5 = some .u8 := by kernel_rfl
@[simp] theorem Tryz.aggS9 : aggS Tryz.prog 9 = some false := by kernel_rfl
@[simp] theorem Tryz.szS9 : szS Tryz.prog 9 = some 1 := by kernel_rfl
@[simp] theorem Tryz.byS9 : byS Tryz.prog 9 = some 16 := by kernel_rfl
@[simp] theorem Tryz.zS9 : zS Tryz.prog 9 = some (.string ⟨#[]⟩) := by kernel_rfl
@[simp] theorem Tryz.strT9 : strT Tryz.prog 9 = true := by kernel_rfl
@[simp] theorem Tryz.aggS22 : aggS Tryz.prog 22 = some false := by kernel_rfl
@[simp] theorem Tryz.szS22 : szS Tryz.prog 22 = some 1 := by kernel_rfl
@[simp] theorem Tryz.elS22 : elS Tryz.prog 22 = some 3 := by kernel_rfl
@[simp] theorem Tryz.nilKind22 : nilKind Tryz.prog 22 = 1 := by kernel_rfl
@[simp] theorem Tryz.aggS24 : aggS Tryz.prog 24 = some true := by kernel_rfl
@[simp] theorem Tryz.szS24 : szS Tryz.prog 24 = some 6 := by kernel_rfl
@[simp] theorem Tryz.fldS24_0 : fldS Tryz.prog 24 0 = some (0, 1, false) := by kernel_rfl
@[simp] theorem Tryz.fldS24_1 : fldS Tryz.prog 24 1 = some (1, 1, false) := by kernel_rfl
@[simp] theorem Tryz.fldS24_2 : fldS Tryz.prog 24 2 = some (2, 1, false) := by kernel_rfl
@[simp] theorem Tryz.fldS24_3 : fldS Tryz.prog 24 3 = some (3, 1, false) := by kernel_rfl
@[simp] theorem Tryz.fldS24_4 : fldS Tryz.prog 24 4 = some (4, 1, false) := by kernel_rfl
@[simp] theorem Tryz.fldS24_5 : fldS Tryz.prog 24 5 = some (5, 1, false) := by kernel_rfl
@[simp] theorem Tryz.aggS25 : aggS Tryz.prog 25 = some false := by kernel_rfl
@[simp] theorem Tryz.szS25 : szS Tryz.prog 25 = some 1 := by kernel_rfl
@[simp] theorem Tryz.elS25 : elS Tryz.prog 25 = some 57 := by kernel_rfl
@[simp] theorem Tryz.aggS27 : aggS Tryz.prog 27 = some true := by kernel_rfl
@[simp] theorem Tryz.szS27 : szS Tryz.prog 27 = some 2 := by kernel_rfl
@[simp] theorem Tryz.zS27 : zS Tryz.prog 27 = some (.agg #[.int .i64 0, .slice none 0 0]) := by kernel_rfl
@[simp] theorem Tryz.strOk27 : structOk Tryz.prog 27 = true := by kernel_rfl
@[simp] theorem Tryz.fldS27_0 : fldS Tryz.prog 27 0 = some (0, 1, false) := by kernel_rfl
@[simp] theorem Tryz.fldS27_1 : fldS Tryz.prog 27 1 = some (1, 1, false) := by kernel_rfl
@[simp] theorem Tryz.aggS30 : aggS Tryz.prog 30 = some true := by kernel_rfl
@[simp] theorem Tryz.szS30 : szS Tryz.prog 30 = some 2 := by kernel_rfl
@[simp] theorem Tryz.zS30 : zS Tryz.prog 30 = some (.agg #[.slice none 0 0, .int .i64 0]) := by kernel_rfl
@[simp] theorem Tryz.strOk30 : structOk Tryz.prog 30 = true := by kernel_rfl
@[simp] theorem Tryz.fldS30_0 : fldS Tryz.prog 30 0 = some (0, 1, false) := by kernel_rfl
@[simp] theorem Tryz.fldS30_1 : fldS Tryz.prog 30 1 = some (1, 1, false) := by kernel_rfl
@[simp] theorem Tryz.elS31 : elS Tryz.prog 31 = some 62 := by kernel_rfl
@[simp] theorem Tryz.nilKind31 : nilKind Tryz.prog 31 = 1 := by kernel_rfl
@[simp] theorem Tryz.aggS33 : aggS Tryz.prog 33 = some true := by kernel_rfl
@[simp] theorem Tryz.szS33 : szS Tryz.prog 33 = some 2 := by kernel_rfl
@[simp] theorem Tryz.zS33 : zS Tryz.prog 33 = some (.agg #[.int .i64 0, .int .i64 0]) := by kernel_rfl
@[simp] theorem Tryz.strOk33 : structOk Tryz.prog 33 = true := by kernel_rfl
@[simp] theorem Tryz.fldS33_0 : fldS Tryz.prog 33 0 = some (0, 1, false) := by kernel_rfl
@[simp] theorem Tryz.fldS33_1 : fldS Tryz.prog 33 1 = some (1, 1, false) := by kernel_rfl
@[simp] theorem Tryz.aggS36 : aggS Tryz.prog 36 = some false := by kernel_rfl
@[simp] theorem Tryz.szS36 : szS Tryz.prog 36 = some 1 := by kernel_rfl
@[simp] theorem Tryz.nilKind36 : nilKind Tryz.prog 36 = 2 := by kernel_rfl
@[simp] theorem Tryz.elS42 : elS Tryz.prog 42 = some 27 := by kernel_rfl
@[simp] theorem Tryz.aggS43 : aggS Tryz.prog 43 = some false := by kernel_rfl
@[simp] theorem Tryz.szS43 : szS Tryz.prog 43 = some 1 := by kernel_rfl
@[simp] theorem Tryz.zS43 : zS Tryz.prog 43 = some (.slice none 0 0) := by kernel_rfl
@[simp] theorem Tryz.elS43 : elS Tryz.prog 43 = some 65 := by kernel_rfl
@[simp] theorem Tryz.nilKind43 : nilKind Tryz.prog 43 = 1 := by kernel_rfl
@[simp] theorem Tryz.intK54 : intK Tryz.prog 54 = some .u64 := by kernel_rfl
@[simp] theorem Tryz.aggS57 : aggS Tryz.prog 57 = some true := by kernel_rfl
@[simp] theorem Tryz.szS57 : szS Tryz.prog 57 = some 3 := by kernel_rfl
@[simp] theorem Tryz.zS57 : zS Tryz.prog 57 = some (.agg #[.int .i64 0, .int .i64 0, .int .i64 0]) := by kernel_rfl
@[simp] theorem Tryz.strOk57 : structOk Tryz.prog 57 = true := by kernel_rfl
@[simp] theorem Tryz.fldS57_0 : fldS Tryz.prog 57 0 = some (0, 1, false) := by kernel_rfl
@[simp] theorem Tryz.fldS57_1 : fldS Tryz.prog 57 1 = some (1, 1, false) := by kernel_rfl
@[simp] theorem Tryz.fldS57_2 : fldS Tryz.prog 57 2 = some (2, 1, false) := by kernel_rfl
@[simp] theorem Tryz.aggS62 : aggS Tryz.prog 62 = some true := by kernel_rfl
@[simp] theorem Tryz.szS62 : szS Tryz.prog 62 = some 2 := by kernel_rfl
@[simp] theorem Tryz.byS62 : byS Tryz.prog 62 = some 48 := by kernel_rfl
@[simp] theorem Tryz.zS62 : zS Tryz.prog 62 = some (.agg #[.slice none 0 0, .slice none 0 0]) := by kernel_rfl
@[simp] theorem Tryz.strOk62 : structOk Tryz.prog 62 = true := by kernel_rfl
@[simp] theorem Tryz.fldS62_0 : fldS Tryz.prog 62 0 = some (0, 1, false) := by kernel_rfl
@[simp] theorem Tryz.fldS62_1 : fldS Tryz.prog 62 1 = some (1, 1, false) := by kernel_rfl
@[simp] theorem Tryz.aggS65 : aggS Tryz.prog 65 = some true := by kernel_rfl
@[simp] theorem Tryz.szS65 : szS Tryz.prog 65 = some 5 := by kernel_rfl
@[simp] theorem Tryz.byS65 : byS Tryz.prog 65 = some 104 := by kernel_rfl
@[simp] theorem Tryz.zS65 : zS Tryz.prog 65 = some (.agg #[.slice none 0 0, .int .i64 0, .slice none 0 0, .slice none 0 0, .slice none 0 0]) := by kernel_rfl
@[simp] theorem Tryz.strOk65 : structOk Tryz.prog 65 = true := by kernel_rfl
@[simp] theorem Tryz.fldS65_0 : fldS Tryz.prog 65 0 = some (0, 1, false) := by kernel_rfl
@[simp] theorem Tryz.fldS65_1 : fldS Tryz.prog 65 1 = some (1, 1, false) := by kernel_rfl
@[simp] theorem Tryz.fldS65_2 : fldS Tryz.prog 65 2 = some (2, 1, false) := by kernel_rfl
@[simp] theorem Tryz.fldS65_3 : fldS Tryz.prog 65 3 = some (3, 1, false) := by kernel_rfl
@[simp] theorem Tryz.fldS65_4 : fldS Tryz.prog 65 4 = some (4, 1, false) := by kernel_rfl
@[simp] theorem Tryz.aggS66 : aggS Tryz.prog 66 = some false := by kernel_rfl
@[simp] theorem Tryz.szS66 : szS Tryz.prog 66 = some 1 := by kernel_rfl
@[simp] theorem Tryz.zS66 : zS Tryz.prog 66 = some (.slice none 0 0) := by kernel_rfl
@[simp] theorem Tryz.elS66 : elS Tryz.prog 66 = some 5 := by kernel_rfl
@[simp] theorem Tryz.nilKind66 : nilKind Tryz.prog 66 = 1 := by kernel_rfl
@[simp] theorem Tryz.aggS80 : aggS Tryz.prog 80 = some false := by kernel_rfl
@[simp] theorem Tryz.szS80 : szS Tryz.prog 80 = some 1 := by kernel_rfl
@[simp] theorem Tryz.elS80 : elS Tryz.prog 80 = some 9 := by kernel_rfl
@[simp] theorem Tryz.nilKind80 : nilKind Tryz.prog 80 = 1 := by kernel_rfl
@[simp] theorem Tryz.aggS96 : aggS Tryz.prog 96 = some false := by kernel_rfl
@[simp] theorem Tryz.szS96 : szS Tryz.prog 96 = some 1 := by kernel_rfl
@[simp] theorem Tryz.aggS108 : aggS Tryz.prog 108 = some true := by kernel_rfl
@[simp] theorem Tryz.szS108 : szS Tryz.prog 108 = some 2 := by kernel_rfl
@[simp] theorem Tryz.zS108 : zS Tryz.prog 108 = some (.agg #[.slice none 0 0, .bool false]) := by kernel_rfl
@[simp] theorem Tryz.strOk108 : structOk Tryz.prog 108 = true := by kernel_rfl
@[simp] theorem Tryz.fldS108_0 : fldS Tryz.prog 108 0 = some (0, 1, false) := by kernel_rfl
@[simp] theorem Tryz.fldS108_1 : fldS Tryz.prog 108 1 = some (1, 1, false) := by kernel_rfl
@[simp] theorem Tryz.szS110 : szS Tryz.prog 110 = some 4 := by kernel_rfl
@[simp] theorem Tryz.zS110 : zS Tryz.prog 110 = some (.agg #[.slice none 0 0, .slice none 0 0, .bool false, .bool false]) := by kernel_rfl
@[simp] theorem Tryz.strOk110 : structOk Tryz.prog 110 = true := by kernel_rfl
@[simp] theorem Tryz.fldS110_0 : fldS Tryz.prog 110 0 = some (0, 1, false) := by kernel_rfl
@[simp] theorem Tryz.fldS110_1 : fldS Tryz.prog 110 1 = some (1, 2, true) := by kernel_rfl
@[simp] theorem Tryz.fldS110_2 : fldS Tryz.prog 110 2 = some (3, 1, false) := by kernel_rfl
@[simp] theorem Tryz.aggS112 : aggS Tryz.prog 112 = some false := by kernel_rfl
@[simp] theorem Tryz.szS112 : szS Tryz.prog 112 = some 1 := by kernel_rfl
@[simp] theorem Tryz.mapS112 : mapS Tryz.prog 112 = some (9, 110) := by kernel_rfl
@[simp] theorem Tryz.aggS113 : aggS Tryz.prog 113 = some false := by kernel_rfl
@[simp] theorem Tryz.szS113 : szS Tryz.prog 113 = some 1 := by kernel_rfl
@[simp] theorem Tryz.elS113 : elS Tryz.prog 113 = some 164 := by kernel_rfl
@[simp] theorem Tryz.zS115 : zS Tryz.prog 115 = some (.agg #[.int .i64 0, .map none, .slice none 0 0]) := by kernel_rfl
@[simp] theorem Tryz.strOk115 : structOk Tryz.prog 115 = true := by kernel_rfl
@[simp] theorem Tryz.fldS115_0 : fldS Tryz.prog 115 0 = some (0, 1, false) := by kernel_rfl
@[simp] theorem Tryz.fldS115_1 : fldS Tryz.prog 115 1 = some (1, 1, false) := by kernel_rfl
@[simp] theorem Tryz.fldS115_2 : fldS Tryz.prog 115 2 = some (2, 1, false) := by kernel_rfl
@[simp] theorem Tryz.aggS119 : aggS Tryz.prog 119 = some true := by kernel_rfl
@[simp] theorem Tryz.szS119 : szS Tryz.prog 119 = some 5 := by kernel_rfl
@[simp] theorem Tryz.byS119 : byS Tryz.prog 119 = some 72 := by kernel_rfl
@[simp] theorem Tryz.zS119 : zS Tryz.prog 119 = some (.agg #[.string ⟨#[]⟩, .slice none 0 0, .slice none 0 0, .bool false, .bool false]) := by kernel_rfl
@[simp] theorem Tryz.strOk119 : structOk Tryz.prog 119 = true := by kernel_rfl
@[simp] theorem Tryz.fldS119_0 : fldS Tryz.prog 119 0 = some (0, 1, false) := by kernel_rfl
@[simp] theorem Tryz.fldS119_1 : fldS Tryz.prog 119 1 = some (1, 1, false) := by kernel_rfl
@[simp] theorem Tryz.fldS119_2 : fldS Tryz.prog 119 2 = some (2, 1, false) := by kernel_rfl
@[simp] theorem Tryz.fldS119_3 : fldS Tryz.prog 119 3 = some (3, 1, false) := by kernel_rfl
@[simp] theorem Tryz.fldS119_4 : fldS Tryz.prog 119 4 = some (4, 1, false) := by kernel_rfl
@[simp] theorem Tryz.aggS120 : aggS Tryz.prog 120 = some false := by kernel_rfl
@[simp] theorem Tryz.szS120 : szS Tryz.prog 120 = some 1 := by kernel_rfl
@[simp] theorem Tryz.elS120 : elS Tryz.prog 120 = some 119 := by kernel_rfl
@[simp] theorem Tryz.aggS121 : aggS Tryz.prog 121 = some false := by kernel_rfl
@[simp] theorem Tryz.szS121 : szS Tryz.prog 121 = some 1 := by kernel_rfl
@[simp] theorem Tryz.elS121 : elS Tryz.prog 121 = some 165 := by kernel_rfl
@[simp] theorem Tryz.zS123 : zS Tryz.prog 123 = some (.agg #[.int .i64 0, .slice none 0 0, .slice none 0 0]) := by kernel_rfl
@[simp] theorem Tryz.strOk123 : structOk Tryz.prog 123 = true := by kernel_rfl
@[simp] theorem Tryz.fldS123_0 : fldS Tryz.prog 123 0 = some (0, 1, false) := by kernel_rfl
@[simp] theorem Tryz.fldS123_1 : fldS Tryz.prog 123 1 = some (1, 1, false) := by kernel_rfl
@[simp] theorem Tryz.fldS123_2 : fldS Tryz.prog 123 2 = some (2, 1, false) := by kernel_rfl
@[simp] theorem Tryz.aggS150 : aggS Tryz.prog 150 = some false := by kernel_rfl
@[simp] theorem Tryz.szS150 : szS Tryz.prog 150 = some 1 := by kernel_rfl
@[simp] theorem Tryz.aggS156 : aggS Tryz.prog 156 = some false := by kernel_rfl
@[simp] theorem Tryz.szS156 : szS Tryz.prog 156 = some 1 := by kernel_rfl
@[simp] theorem Tryz.szS158 : szS Tryz.prog 158 = some 2 := by kernel_rfl
@[simp] theorem Tryz.zS158 : zS Tryz.prog 158 = some (.agg #[.slice none 0 0, .nilFunc]) := by kernel_rfl
@[simp] theorem Tryz.strOk158 : structOk Tryz.prog 158 = true := by kernel_rfl
@[simp] theorem Tryz.fldS158_0 : fldS Tryz.prog 158 0 = some (0, 1, false) := by kernel_rfl
@[simp] theorem Tryz.fldS158_1 : fldS Tryz.prog 158 1 = some (1, 1, false) := by kernel_rfl
@[simp] theorem Tryz.szS164 : szS Tryz.prog 164 = some 2 := by kernel_rfl
@[simp] theorem Tryz.byS164 : byS Tryz.prog 164 = some 24 := by kernel_rfl
@[simp] theorem Tryz.zS164 : zS Tryz.prog 164 = some (.agg #[.int .i64 0, .string ⟨#[]⟩]) := by kernel_rfl
@[simp] theorem Tryz.strOk164 : structOk Tryz.prog 164 = true := by kernel_rfl
@[simp] theorem Tryz.fldS164_0 : fldS Tryz.prog 164 0 = some (0, 1, false) := by kernel_rfl
@[simp] theorem Tryz.fldS164_1 : fldS Tryz.prog 164 1 = some (1, 1, false) := by kernel_rfl
@[simp] theorem Tryz.szS165 : szS Tryz.prog 165 = some 2 := by kernel_rfl
@[simp] theorem Tryz.byS165 : byS Tryz.prog 165 = some 24 := by kernel_rfl
@[simp] theorem Tryz.zS165 : zS Tryz.prog 165 = some (.agg #[.int .i64 0, .string ⟨#[]⟩]) := by kernel_rfl
@[simp] theorem Tryz.strOk165 : structOk Tryz.prog 165 = true := by kernel_rfl
@[simp] theorem Tryz.fldS165_0 : fldS Tryz.prog 165 0 = some (0, 1, false) := by kernel_rfl
@[simp] theorem Tryz.fldS165_1 : fldS Tryz.prog 165 1 = some (1, 1, false) := by kernel_rfl
@[simp] theorem Tryz.zS169 : zS Tryz.prog 169 = some (.agg #[.slice none 0 0, .bool false]) := by kernel_rfl
@[simp] theorem Tryz.strOk169 : structOk Tryz.prog 169 = true := by kernel_rfl
@[simp] theorem Tryz.fldS169_0 : fldS Tryz.prog 169 0 = some (0, 1, false) := by kernel_rfl
@[simp] theorem Tryz.fldS169_1 : fldS Tryz.prog 169 1 = some (1, 1, false) := by kernel_rfl
@[simp] theorem Tryz.intK201 : intK Tryz.prog 201 = some .u64 := by kernel_rfl
@[simp] theorem Tryz.zS202 : zS Tryz.prog 202 = some (.agg #[.int .i64 0, .int .i64 0, .int .i64 0]) := by kernel_rfl
@[simp] theorem Tryz.arrS202 : arrS Tryz.prog 202 = some (3, 1) := by kernel_rfl
@[simp] theorem Tryz.ok12 : FnOk Tryz.prog 12 := ⟨Tryz.f12, Tryz.func12, by kernel_rfl, by kernel_rfl⟩
@[simp] theorem Tryz.ok13 : FnOk Tryz.prog 13 := ⟨Tryz.f13, Tryz.func13, by kernel_rfl, by kernel_rfl⟩
@[simp] theorem Tryz.ok14 : FnOk Tryz.prog 14 := ⟨Tryz.f14, Tryz.func14, by kernel_rfl, by kernel_rfl⟩
@[simp] theorem Tryz.ok15 : FnOk Tryz.prog 15 := ⟨Tryz.f15, Tryz.func15, by kernel_rfl, by kernel_rfl⟩
@[simp] theorem Tryz.ok17 : FnOk Tryz.prog 17 := ⟨Tryz.f17, Tryz.func17, by kernel_rfl, by kernel_rfl⟩
@[simp] theorem Tryz.ok18 : FnOk Tryz.prog 18 := ⟨Tryz.f18, Tryz.func18, by kernel_rfl, by kernel_rfl⟩
@[simp] theorem Tryz.ok20 : FnOk Tryz.prog 20 := ⟨Tryz.f20, Tryz.func20, by kernel_rfl, by kernel_rfl⟩
@[simp] theorem Tryz.ok24 : FnOk Tryz.prog 24 := ⟨Tryz.f24, Tryz.func24, by kernel_rfl, by kernel_rfl⟩
@[simp] theorem Tryz.ok25 : FnOk Tryz.prog 25 := ⟨Tryz.f25, Tryz.func25, by kernel_rfl, by kernel_rfl⟩
@[simp] theorem Tryz.ok32 : FnOk Tryz.prog 32 := ⟨Tryz.f32, Tryz.func32, by kernel_rfl, by kernel_rfl⟩
@[simp] theorem Tryz.ok33 : FnOk Tryz.prog 33 := ⟨Tryz.f33, Tryz.func33, by kernel_rfl, by kernel_rfl⟩
@[simp] theorem Tryz.ok34 : FnOk Tryz.prog 34 := ⟨Tryz.f34, Tryz.func34, by kernel_rfl, by kernel_rfl⟩
@[simp] theorem Tryz.ok35 : FnOk Tryz.prog 35 := ⟨Tryz.f35, Tryz.func35, by kernel_rfl, by kernel_rfl⟩
@[simp] theorem Tryz.ok36 : FnOk Tryz.prog 36 := ⟨Tryz.f36, Tryz.func36, by kernel_rfl, by kernel_rfl⟩
@[simp] theorem Tryz.ok37 : FnOk Tryz.prog 37 := ⟨Tryz.f37, Tryz.func37, by kernel_rfl, by kernel_rfl⟩
@[simp] theorem Tryz.ok38 : FnOk Tryz.prog 38 := ⟨Tryz.f38, Tryz.func38, by kernel_rfl, by kernel_rfl⟩
@[simp] theorem Tryz.ok39 : FnOk Tryz.prog 39 := ⟨Tryz.f39, Tryz.func39, by kernel_rfl, by kernel_rfl⟩
@[simp] theorem Tryz.ok40 : FnOk Tryz.prog 40 := ⟨Tryz.f40, Tryz.func40, by kernel_rfl, by kernel_rfl⟩
@[simp] theorem Tryz.ok41 : FnOk Tryz.prog 41 := ⟨Tryz.f41, Tryz.func41, by kernel_rfl, by kernel_rfl⟩
@[simp] theorem Tryz.ok42 : FnOk Tryz.prog 42 := ⟨Tryz.f42, Tryz.func42, by kernel_rfl, by kernel_rfl⟩
@[simp] theorem Tryz.ok43 : FnOk Tryz.prog 43 := ⟨Tryz.f43, Tryz.func43, by kernel_rfl, by kernel_rfl⟩
@[simp] theorem Tryz.ok44 : FnOk Tryz.prog 44 := ⟨Tryz.f44, Tryz.func44, by kernel_rfl, by kernel_rfl⟩
@[simp] theorem Tryz.ok45 : FnOk Tryz.prog 45 := ⟨Tryz.f45, Tryz.func45, by kernel_rfl, by kernel_rfl⟩
@[simp] theorem Tryz.ok46 : FnOk Tryz.prog 46 := ⟨Tryz.f46, Tryz.func46, by kernel_rfl, by kernel_rfl⟩
@[simp] theorem Tryz.ok47 : FnOk Tryz.prog 47 := ⟨Tryz.f47, Tryz.func47, by kernel_rfl, by kernel_rfl⟩
@[simp] theorem Tryz.ok48 : FnOk Tryz.prog 48 := ⟨Tryz.f48, Tryz.func48, by kernel_rfl, by kernel_rfl⟩
@[simp] theorem Tryz.ok53 : FnOk Tryz.prog 53 := ⟨Tryz.f53, Tryz.func53, by kernel_rfl, by kernel_rfl⟩
@[simp] theorem Tryz.ok56 : FnOk Tryz.prog 56 := ⟨Tryz.f56, Tryz.func56, by kernel_rfl, by kernel_rfl⟩
@[simp] theorem Tryz.ok57 : FnOk Tryz.prog 57 := ⟨Tryz.f57, Tryz.func57, by kernel_rfl, by kernel_rfl⟩
@[simp] theorem Tryz.ok58 : FnOk Tryz.prog 58 := ⟨Tryz.f58, Tryz.func58, by kernel_rfl, by kernel_rfl⟩
@[simp] theorem Tryz.ok62 : FnOk Tryz.prog 62 := ⟨Tryz.f62, Tryz.func62, by kernel_rfl, by kernel_rfl⟩
@[simp] theorem Tryz.ok63 : FnOk Tryz.prog 63 := ⟨Tryz.f63, Tryz.func63, by kernel_rfl, by kernel_rfl⟩
@[simp] theorem Tryz.ok65 : FnOk Tryz.prog 65 := ⟨Tryz.f65, Tryz.func65, by kernel_rfl, by kernel_rfl⟩
@[simp] theorem Tryz.ok66 : FnOk Tryz.prog 66 := ⟨Tryz.f66, Tryz.func66, by kernel_rfl, by kernel_rfl⟩
@[simp] theorem Tryz.ok67 : FnOk Tryz.prog 67 := ⟨Tryz.f67, Tryz.func67, by kernel_rfl, by kernel_rfl⟩
@[simp] theorem Tryz.ok68 : FnOk Tryz.prog 68 := ⟨Tryz.f68, Tryz.func68, by kernel_rfl, by kernel_rfl⟩
@[simp] theorem Tryz.ok69 : FnOk Tryz.prog 69 := ⟨Tryz.f69, Tryz.func69, by kernel_rfl, by kernel_rfl⟩
@[simp] theorem Tryz.ok70 : FnOk Tryz.prog 70 := ⟨Tryz.f70, Tryz.func70, by kernel_rfl, by kernel_rfl⟩
@[simp] theorem Tryz.ok71 : FnOk Tryz.prog 71 := ⟨Tryz.f71, Tryz.func71, by kernel_rfl, by kernel_rfl⟩
@[simp] theorem Tryz.ok72 : FnOk Tryz.prog 72 := ⟨Tryz.f72, Tryz.func72, by kernel_rfl, by kernel_rfl⟩
@[simp] theorem Tryz.ok73 : FnOk Tryz.prog 73 := ⟨Tryz.f73, Tryz.func73, by kernel_rfl, by kernel_rfl⟩
@[simp] theorem Tryz.ok74 : FnOk Tryz.prog 74 := ⟨Tryz.f74, Tryz.func74, by kernel_rfl, by kernel_rfl⟩
@[simp] theorem Tryz.ok75 : FnOk Tryz.prog 75 := ⟨Tryz.f75, Tryz.func75, by kernel_rfl, by kernel_rfl⟩
@[simp] theorem Tryz.ok76 : FnOk Tryz.prog 76 := ⟨Tryz.f76, Tryz.func76, by kernel_rfl, by kernel_rfl⟩
@[simp] theorem Tryz.ok77 : FnOk Tryz.prog 77 := ⟨Tryz.f77, Tryz.func77, by kernel_rfl, by kernel_rfl⟩
@[simp] theorem Tryz.ok78 : FnOk Tryz.prog 78 := ⟨Tryz.f78, Tryz.func78, by kernel_rfl, by kernel_rfl⟩
@[simp] theorem Tryz.ok79 : FnOk Tryz.prog 79 := ⟨Tryz.f79, Tryz.func79, by kernel_rfl, by kernel_rfl⟩
@[simp] theorem Tryz.ok80 : FnOk Tryz.prog 80 := ⟨Tryz.f80, Tryz.func80, by kernel_rfl, by kernel_rfl⟩
@[simp] theorem Tryz.ok81 : FnOk Tryz.prog 81 := ⟨Tryz.f81, Tryz.func81, by kernel_rfl, by kernel_rfl⟩
@[simp] theorem Tryz.ok82 : FnOk Tryz.prog 82 := ⟨Tryz.f82, Tryz.func82, by kernel_rfl, by kernel_rfl⟩
@[simp] theorem Tryz.ok83 : FnOk Tryz.prog 83 := ⟨Tryz.f83, Tryz.func83, by kernel_rfl, by kernel_rfl⟩
@[simp] theorem Tryz.ok84 : FnOk Tryz.prog 84 := ⟨Tryz.f84, Tryz.func84, by kernel_rfl, by kernel_rfl⟩
@[simp] theorem Tryz.ok85 : FnOk Tryz.prog 85 := ⟨Tryz.f85, Tryz.func85, by kernel_rfl, by kernel_rfl⟩
@[simp] theorem Tryz.ok86 : FnOk Tryz.prog 86 := ⟨Tryz.f86, Tryz.func86, by kernel_rfl, by kernel_rfl⟩
@[simp] theorem Tryz.ok87 : FnOk Tryz.prog 87 := ⟨Tryz.f87, Tryz.func87, by kernel_rfl, by kernel_rfl⟩
@[simp] theorem Tryz.ok88 : FnOk Tryz.prog 88 := ⟨Tryz.f88, Tryz.func88, by kernel_rfl, by kernel_rfl⟩
@[simp] theorem Tryz.ok89 : FnOk Tryz.prog 89 := ⟨Tryz.f89, Tryz.func89, by kernel_rfl, by kernel_rfl⟩
@[simp] theorem Tryz.ok90 : FnOk Tryz.prog 90 := ⟨Tryz.f90, Tryz.func90, by kernel_rfl, by kernel_rfl⟩
@[simp] theorem Tryz.ok91 : FnOk Tryz.prog 91 := ⟨Tryz.f91, Tryz.func91, by kernel_rfl, by kernel_rfl⟩
@[simp] theorem Tryz.ok92 : FnOk Tryz.prog 92 := ⟨Tryz.f92, Tryz.func92, by kernel_rfl, by kernel_rfl⟩
@[simp] theorem Tryz.ok93 : FnOk Tryz.prog 93 := ⟨Tryz.f93, Tryz.func93, by kernel_rfl, by kernel_rfl⟩
@[simp] theorem Tryz.ok94 : FnOk Tryz.prog 94 := ⟨Tryz.f94, Tryz.func94, by kernel_rfl, by kernel_rfl⟩
@[simp] theorem Tryz.ok95 : FnOk Tryz.prog 95 := ⟨Tryz.f95, Tryz.func95, by kernel_rfl, by kernel_rfl⟩
@[simp] theorem Tryz.ok96 : FnOk Tryz.prog 96 := ⟨Tryz.f96, Tryz.func96, by kernel_rfl, by kernel_rfl⟩
@[simp] theorem Tryz.ok97 : FnOk Tryz.prog 97 := ⟨Tryz.f97, Tryz.func97, by kernel_rfl, by kernel_rfl⟩
@[simp] theorem Tryz.ok99 : FnOk Tryz.prog 99 := ⟨Tryz.f99, Tryz.func99, by kernel_rfl, by kernel_rfl⟩
@[simp] theorem Tryz.ok100 : FnOk Tryz.prog 100 := ⟨Tryz.f100, Tryz.func100, by kernel_rfl, by kernel_rfl⟩
@[simp] theorem Tryz.ok102 : FnOk Tryz.prog 102 := ⟨Tryz.f102, Tryz.func102, by kernel_rfl, by kernel_rfl⟩
@[simp] theorem Tryz.ok104 : FnOk Tryz.prog 104 := ⟨Tryz.f104, Tryz.func104, by kernel_rfl, by kernel_rfl⟩
@[simp] theorem Tryz.ok105 : FnOk Tryz.prog 105 := ⟨Tryz.f105, Tryz.func105, by kernel_rfl, by kernel_rfl⟩
@[simp] theorem Tryz.ok106 : FnOk Tryz.prog 106 := ⟨Tryz.f106, Tryz.func106, by kernel_rfl, by kernel_rfl⟩
@[simp] theorem Tryz.ok107 : FnOk Tryz.prog 107 := ⟨Tryz.f107, Tryz.func107, by kernel_rfl, by kernel_rfl⟩
@[simp] theorem Tryz.ok108 : FnOk Tryz.prog 108 := ⟨Tryz.f108, Tryz.func108, by kernel_rfl, by kernel_rfl⟩
@[simp] theorem Tryz.ok109 : FnOk Tryz.prog 109 := ⟨Tryz.f109, Tryz.func109, by kernel_rfl, by kernel_rfl⟩
@[simp] theorem Tryz.ok110 : FnOk Tryz.prog 110 := ⟨Tryz.f110, Tryz.func110, by kernel_rfl, by kernel_rfl⟩
@[simp] theorem Tryz.ok111 : FnOk Tryz.prog 111 := ⟨Tryz.f111, Tryz.func111, by kernel_rfl, by kernel_rfl⟩
@[simp] theorem Tryz.ok112 : FnOk Tryz.prog 112 := ⟨Tryz.f112, Tryz.func112, by kernel_rfl, by kernel_rfl⟩
@[simp] theorem Tryz.ok113 : FnOk Tryz.prog 113 := ⟨Tryz.f113, Tryz.func113, by kernel_rfl, by kernel_rfl⟩
@[simp] theorem Tryz.ok114 : FnOk Tryz.prog 114 := ⟨Tryz.f114, Tryz.func114, by kernel_rfl, by kernel_rfl⟩
@[simp] theorem Tryz.ok115 : FnOk Tryz.prog 115 := ⟨Tryz.f115, Tryz.func115, by kernel_rfl, by kernel_rfl⟩
@[simp] theorem Tryz.ok116 : FnOk Tryz.prog 116 := ⟨Tryz.f116, Tryz.func116, by kernel_rfl, by kernel_rfl⟩
@[simp] theorem Tryz.ok117 : FnOk Tryz.prog 117 := ⟨Tryz.f117, Tryz.func117, by kernel_rfl, by kernel_rfl⟩
@[simp] theorem Tryz.ok118 : FnOk Tryz.prog 118 := ⟨Tryz.f118, Tryz.func118, by kernel_rfl, by kernel_rfl⟩
@[simp] theorem Tryz.ok119 : FnOk Tryz.prog 119 := ⟨Tryz.f119, Tryz.func119, by kernel_rfl, by kernel_rfl⟩
@[simp] theorem Tryz.ok120 : FnOk Tryz.prog 120 := ⟨Tryz.f120, Tryz.func120, by kernel_rfl, by kernel_rfl⟩
@[simp] theorem Tryz.ok123 : FnOk Tryz.prog 123 := ⟨Tryz.f123, Tryz.func123, by kernel_rfl, by kernel_rfl⟩
@[simp] theorem Tryz.ok124 : FnOk Tryz.prog 124 := ⟨Tryz.f124, Tryz.func124, by kernel_rfl, by kernel_rfl⟩
@[simp] theorem Tryz.ok125 : FnOk Tryz.prog 125 := ⟨Tryz.f125, Tryz.func125, by kernel_rfl, by kernel_rfl⟩
@[simp] theorem Tryz.ok126 : FnOk Tryz.prog 126 := ⟨Tryz.f126, Tryz.func126, by kernel_rfl, by kernel_rfl⟩
@[simp] theorem Tryz.ok127 : FnOk Tryz.prog 127 := ⟨Tryz.f127, Tryz.func127, by kernel_rfl, by kernel_rfl⟩
@[simp] theorem Tryz.ok128 : FnOk Tryz.prog 128 := ⟨Tryz.f128, Tryz.func128, by kernel_rfl, by kernel_rfl⟩
@[simp] theorem Tryz.ok129 : FnOk Tryz.prog 129 := ⟨Tryz.f129, Tryz.func129, by kernel_rfl, by kernel_rfl⟩
@[simp] theorem Tryz.ok130 : FnOk Tryz.prog 130 := ⟨Tryz.f130, Tryz.func130, by kernel_rfl, by kernel_rfl⟩
@[simp] theorem Tryz.ok131 : FnOk Tryz.prog 131 := ⟨Tryz.f131, Tryz.func131, by kernel_rfl, by kernel_rfl⟩
@[simp] theorem Tryz.ok132 : FnOk Tryz.prog 132 := ⟨Tryz.f132, Tryz.func132, by kernel_rfl, by kernel_rfl⟩
@[simp] theorem Tryz.ok133 : FnOk Tryz.prog 133 := ⟨Tryz.f133, Tryz.func133, by kernel_rfl, by kernel_rfl⟩
@[simp] theorem Tryz.ok134 : FnOk Tryz.prog 134 := ⟨Tryz.f134, Tryz.func134, by kernel_rfl, by kernel_rfl⟩
@[simp] theorem Tryz.ok135 : FnOk Tryz.prog 135 := ⟨Tryz.f135, Tryz.func135, by kernel_rfl, by kernel_rfl⟩
@[simp] theorem Tryz.ok137 : FnOk Tryz.prog 137 := ⟨Tryz.f137, Tryz.func137, by kernel_rfl, by kernel_rfl⟩
@[simp] theorem Tryz.ok139 : FnOk Tryz.prog 139 := ⟨Tryz.f139, Tryz.func139, by kernel_rfl, by kernel_rfl⟩
@[simp] theorem Tryz.ok140 : FnOk Tryz.prog 140 := ⟨Tryz.f140, Tryz.func140, by kernel_rfl, by kernel_rfl⟩
@[simp] theorem Tryz.ok141 : FnOk Tryz.prog 141 := ⟨Tryz.f141, Tryz.func141, by kernel_rfl, by kernel_rfl⟩
@[simp] theorem Tryz.ok142 : FnOk Tryz.prog 142 := ⟨Tryz.f142, Tryz.func142, by kernel_rfl, by kernel_rfl⟩
@[simp] theorem Tryz.ok143 : FnOk Tryz.prog 143 := ⟨Tryz.f143, Tryz.func143, by kernel_rfl, by kernel_rfl⟩
@[simp] theorem Tryz.ok155 : FnOk Tryz.prog 155 := ⟨Tryz.f155, Tryz.func155, by kernel_rfl, by kernel_rfl⟩
@[simp] theorem Tryz.ok157 : FnOk Tryz.prog 157 := ⟨Tryz.f157, Tryz.func157, by kernel_rfl, by kernel_rfl⟩
@[simp] theorem Tryz.ok169 : FnOk Tryz.prog 169 := ⟨Tryz.f169, Tryz.func169, by kernel_rfl, by kernel_rfl⟩
@[simp] theorem Tryz.ok170 : FnOk Tryz.prog 170 := ⟨Tryz.f170, Tryz.func170, by kernel_rfl, by kernel_rfl⟩
@[simp] theorem Tryz.ok171 : FnOk Tryz.prog 171 := ⟨Tryz.f171, Tryz.func171, by kernel_rfl, by kernel_rfl⟩
@[simp] theorem Tryz.ok178 : FnOk Tryz.prog 178 := ⟨Tryz.f178, Tryz.func178, by kernel_rfl, by kernel_rfl⟩
@[simp] theorem Tryz.ok184 : FnOk Tryz.prog 184 := ⟨Tryz.f184, Tryz.func184, by kernel_rfl, by kernel_rfl⟩
@[simp] theorem Tryz.ok187 : FnOk Tryz.prog 187 := ⟨Tryz.f187, Tryz.func187, by kernel_rfl, by kernel_rfl⟩
end Go.Proofs

/-
  The program's store in memory: what it looks like, and the contracts of the small functions on it.
-/
namespace Go.Proofs
open Go Go.HC

def rOp : Rp (Int × Nm) := rInt.prod rStr
/-- A file's value. -/
def FileRep (R : Nat → Prop) (h : Heap) (v : Value) (f : FileM) : Prop :=
  ∃ nv sv sx si, v = .agg #[nv, sv, .bool si, .bool f.safe] ∧ SlRep rByte R h nv f.now ∧ SlRep rByte R h sv sx ∧ f.sure = if si = true then some sx else none
def FilesRep (R : Nat → Prop) (h : Heap) (es : Ents Nm) (fs : Files) : Prop :=
  ∀ x, (getE x es = none ∧ lookF x fs = none) ∨ ∃ v f, getE x es = some v ∧ lookF x fs = some f ∧ FileRep R h v f

structure StC (h : Heap) (M : Mod) (bs bm : Nat) (es : Ents Nm) (clock : Nat) (tv : Value) (own : Option Nat) (R : Nat → Prop) : Prop where
  str : h[bs]? = some (.cells #[.int .i64 M.limit, .map (some bm), tv] 115 (0, 0))
  map : h[bm]? = some (.map (entsOf kStr es) clock)
  ents : EntsOk es clock
  files : FilesRep R h es M.files
  tr : Grow rOp 164 none_ h tv M.trace own
  sep : ∀ b, R b → b < h.size ∧ b ≠ bs ∧ b ≠ bm ∧ own ≠ some b
  o1 : own ≠ some bs
  o2 : own ≠ some bm
  ne : bs ≠ bm
  ok : M.Ok

theorem FileRep.mono {R R' : Nat → Prop} {h h' : Heap} {v : Value} {f : FileM} (hf : FileRep R h v f) (hm : ∀ b, R b → R' b ∧ h'[b]? = h[b]?) : FileRep R' h' v f := by
  obtain ⟨nv, sv, sx, si, rfl, h1, h2, h3⟩ := hf
  exact ⟨nv, sv, sx, si, rfl, h1.mono hm, h2.mono hm, h3⟩
theorem FilesRep.mono {R R' : Nat → Prop} {h h' : Heap} {es : Ents Nm} {fs : Files} (hf : FilesRep R h es fs) (hm : ∀ b, R b → R' b ∧ h'[b]? = h[b]?) : FilesRep R' h' es fs := by
  intro x
  rcases hf x with h1 | ⟨v, f, h1, h2, h3⟩
  · exact .inl h1
  · exact .inr ⟨v, f, h1, h2, h3.mono hm⟩

/-- The blocks of a store. -/
def foot (bs bm : Nat) (own : Option Nat) (R : Nat → Prop) : Nat → Prop := fun b => b = bs ∨ b = bm ∨ own = some b ∨ R b
theorem StC.lt {h : Heap} {M : Mod} {bs bm : Nat} {es : Ents Nm} {clock : Nat} {tv : Value} {own : Option Nat} {R : Nat → Prop} (s : StC h M bs bm es clock tv own R) : ∀ b, foot bs bm own R b → b < h.size := by
  rintro b (rfl | rfl | ho | hr)
  · exact lt_of_blk s.str
  · exact lt_of_blk s.map
  · exact s.tr.own_lt b ho
  · exact (s.sep b hr).1
theorem StC.mono {h h' : Heap} {M : Mod} {bs bm : Nat} {es : Ents Nm} {clock : Nat} {tv : Value} {own : Option Nat} {R : Nat → Prop} (s : StC h M bs bm es clock tv own R) (hs : h.size ≤ h'.size)
    (hk : ∀ b, foot bs bm own R b → h'[b]? = h[b]?) : StC h' M bs bm es clock tv own R where
  str := (hk _ (.inl rfl)).trans s.str
  map := (hk _ (.inr (.inl rfl))).trans s.map
  ents := s.ents
  files := s.files.mono fun b hb => ⟨hb, hk b (.inr (.inr (.inr hb)))⟩
  tr := s.tr.mono (fun _ h => h.elim) fun b hb => ⟨fun h => h.elim, hk b (.inr (.inr (.inl hb)))⟩
  sep := fun b hb => ⟨Nat.lt_of_lt_of_le (s.sep b hb).1 hs, (s.sep b hb).2⟩
  o1 := s.o1
  o2 := s.o2
  ne := s.ne
  ok := s.ok

theorem opT : ElemT Tryz.prog 113 164 rOp 24 := ⟨Tryz.elS113, Tryz.szS164, Tryz.byS164, _, Tryz.zS164, rfl⟩

set_option maxRecDepth 10000 in
theorem did_spec {h : Heap} {M : Mod} {bs bm : Nat} {es : Ents Nm} {clock : Nat} {tv : Value} {own : Option Nat} {R : Nat → Prop} (s : StC h M bs bm es clock tv own R) (k : Int) (x : Nm) (hn : M.trace.length < 1099511627776) :
    CallH Tryz.prog 63 #[.pointer (some ⟨bs, 0, none⟩), .int .i64 k, .string x] h fun r h' => r = .int .i64 0 ∧ ∃ tv' own',
      StC h' ⟨M.limit, M.files, M.trace ++ [(k, x)]⟩ bs bm es clock tv' own' R ∧ Keep (foot bs bm own R) h h' ∧ ∀ b, foot bs bm own' R b → foot bs bm own R b ∨ h.size ≤ b := by
  refine enter [.tmp 6] Tryz.func63 rfl rfl (by kernel_rfl) rfl ?_
  have hs := s.str
  simp -dsimp [hs]
  refine append_grow (F2 := fun b => b = h.size) opT (s.tr.push (fun _ h => h.elim) _) (fun _ h => h.elim) (ys := [(k, x)]) rfl
    (.inr ⟨h.size, 0, _, _, _, rfl, rfl, push_new _ _, rfl⟩) (.single ⟨[.int .i64 k], [.string x], rfl, rfl, rfl⟩) (by simp; omega) (by simp; omega) ?_
  intro tv' h' own' hg hk ho
  have hs1 := hk.at (push_at (o := .cells #[Value.int IntKind.i64 k, Value.string x] 164) hs) s.o1
  have hbs := lt_of_blk hs1
  obtain ⟨a, c, rfl⟩ := hg.val
  simp -dsimp [hs1]
  have hps : (h.push (.cells #[Value.int IntKind.i64 k, Value.string x] 164)).size = h.size + 1 := by simp
  rw [hps] at ho
  have hsz : h.size + 1 ≤ h'.size := hps ▸ hk.size
  have hold : ∀ b, b < h.size → own ≠ some b → b ≠ bs → (h'.setIfInBounds bs (.cells #[.int .i64 M.limit, .map (some bm), .slice a (M.trace.length + 1) c] 115))[b]? = h[b]? := by
    intro b hb h1 h2
    rw [set_other _ (fun e => h2 e.symm), hk.blk b (by omega) h1, push_old _ hb]
  have hlen : (M.trace ++ [(k, x)]).length = M.trace.length + 1 := by simp
  rw [hlen] at hg
  have ho1 : own' ≠ some bs := fun e => (ho _ e).elim s.o1 (fun h => by have := lt_of_blk hs; omega)
  have ho2 : own' ≠ some bm := fun e => (ho _ e).elim s.o2 (fun h => by have := lt_of_blk s.map; omega)
  refine ⟨_, own', ⟨set_same _ hbs, (hold _ (lt_of_blk s.map) s.o2 s.ne.symm).trans s.map, s.ents, s.files.mono fun b hb => ⟨hb, hold b (s.sep b hb).1 (s.sep b hb).2.2.2 (s.sep b hb).2.1⟩,
    hg.mono (fun _ h => h.elim) (fun b hb => ⟨fun h => h.elim, set_other _ (fun e => ho1 (e ▸ hb))⟩), ?_, ho1, ho2, s.ne, ⟨s.ok.sorted, s.ok.files⟩⟩, ⟨by simp; omega, ?_⟩, ?_⟩
  · intro b hb
    obtain ⟨h1, h2, h3, h4⟩ := s.sep b hb
    exact ⟨by simp; omega, h2, h3, fun e => (ho _ e).elim h4 (fun h => by omega)⟩
  · intro b hb hn
    simp only [foot, not_or] at hn
    exact hold b hb hn.2.2.1 hn.1
  · rintro b (hb | hb | hb | hb)
    · exact .inl (.inl hb)
    · exact .inl (.inr (.inl hb))
    · exact (ho _ hb).imp (fun h => .inr (.inr (.inl h))) (fun h => by omega)
    · exact .inl (.inr (.inr (.inr hb)))

theorem byteT : ElemT Tryz.prog 66 5 rByte 1 := ⟨Tryz.elS66, Tryz.szS5, Tryz.byS5, _, Tryz.zS5, rfl⟩
set_option maxRecDepth 10000 in
theorem clone_byte {F : Nat → Prop} {h : Heap} {v : Value} {xs : List UInt8} (hv : SlRep rByte F h v xs) (hF : ∀ b, F b → b < h.size) (hn : xs.length < 1099511627776) :
    CallH Tryz.prog 102 #[v] h fun r h' => ∃ own, Grow rByte 5 F h' r xs own ∧ Keep none_ h h' ∧ ∀ b, own = some b → h.size ≤ b := by
  refine enter [.tmp 2] Tryz.func102 rfl rfl (by kernel_rfl) rfl ?_
  obtain ⟨a, c, cs, rfl, h1, h2, h3, h4⟩ := hv
  cases a with
  | none =>
    simp -dsimp
    have : xs = [] := by
      rcases h3 with h0 | ⟨_, _, _, _, _, hx, _⟩
      · have hl := h4.len
        rw [h0] at hl
        rcases Nat.mul_eq_zero.1 hl.symm with h | h
        · exact List.eq_nil_of_length_eq_zero h
        · exact absurd h (Nat.ne_of_gt rByte.pos)
      · cases hx
    subst this
    exact ⟨none, .nil _ _ _ _, .refl _ _, fun b hb => by cases hb⟩
  | some a =>
    simp -dsimp
    refine append_grow (F2 := F) byteT (Grow.empty rByte 5 hF) (fun b hb => by have := hF b hb; simp; omega) rfl (h3.mono fun b hb => ⟨hb, push_old _ (hF b hb)⟩) (h4.mono fun b hb => ⟨hb, push_old _ (hF b hb)⟩) (by simp; omega) (by simp; omega) ?_
    intro v' h' own' hg hk ho
    obtain ⟨a', c', rfl⟩ := hg.val
    simp -dsimp
    have hps : (h.push (.cells #[] 5)).size = h.size + 1 := by simp
    rw [hps] at ho
    refine ⟨own', by simpa using hg, ⟨?_, ?_⟩, ?_⟩
    · have := hk.size; omega
    · intro b hb _
      rw [hk.blk b (by omega) (by simp; omega), push_old _ hb]
    · intro b hb
      rcases ho b hb with h | h
      · simp at h; omega
      · omega

theorem strT : ElemT Tryz.prog 80 9 rStr 16 := ⟨Tryz.elS80, Tryz.szS9, Tryz.byS9, _, Tryz.zS9, rfl⟩
set_option maxRecDepth 10000 in
theorem clone_str {F : Nat → Prop} {h : Heap} {v : Value} {xs : List Nm} (hv : SlRep rStr F h v xs) (hF : ∀ b, F b → b < h.size) (hn : xs.length < 1099511627776) :
    CallH Tryz.prog 71 #[v] h fun r h' => ∃ own, Grow rStr 9 F h' r xs own ∧ Keep none_ h h' ∧ ∀ b, own = some b → h.size ≤ b := by
  refine enter [.tmp 2] Tryz.func71 rfl rfl (by kernel_rfl) rfl ?_
  obtain ⟨a, c, cs, rfl, h1, h2, h3, h4⟩ := hv
  cases a with
  | none =>
    simp -dsimp
    have : xs = [] := by
      rcases h3 with h0 | ⟨_, _, _, _, _, hx, _⟩
      · have hl := h4.len
        rw [h0] at hl
        rcases Nat.mul_eq_zero.1 hl.symm with h | h
        · exact List.eq_nil_of_length_eq_zero h
        · exact absurd h (Nat.ne_of_gt rStr.pos)
      · cases hx
    subst this
    exact ⟨none, .nil _ _ _ _, .refl _ _, fun b hb => by cases hb⟩
  | some a =>
    simp -dsimp
    refine append_grow (F2 := F) strT (Grow.empty rStr 9 hF) (fun b hb => by have := hF b hb; simp; omega) rfl (h3.mono fun b hb => ⟨hb, push_old _ (hF b hb)⟩) (h4.mono fun b hb => ⟨hb, push_old _ (hF b hb)⟩) (by simp; omega) (by simp; omega) ?_
    intro v' h' own' hg hk ho
    obtain ⟨a', c', rfl⟩ := hg.val
    simp -dsimp
    have hps : (h.push (.cells #[] 9)).size = h.size + 1 := by simp
    rw [hps] at ho
    refine ⟨own', by simpa using hg, ⟨?_, ?_⟩, ?_⟩
    · have := hk.size; omega
    · intro b hb _
      rw [hk.blk b (by omega) (by simp; omega), push_old _ hb]
    · intro b hb
      rcases ho b hb with h | h
      · simp at h; omega
      · omega

end Go.Proofs

/-
  The contracts of the program's store: names, own bytes, a new store, what is used, what is read, what is done.
-/
namespace Go.Proofs
open Go Go.HC

theorem name_spec (x : Nm) (h : Heap) : CallH Tryz.prog 104 #[.string x] h fun r h' => r = .bool (nameOk x) ∧ h' = h := by
  refine enter [.tmp 2] Tryz.func104 rfl rfl (by kernel_rfl) rfl ?_
  simp -dsimp
  by_cases h1 : 1 ≤ x.size
  · have : (1 : Int) ≤ x.size := by omega
    simp -dsimp [this]
    simp [nameOk, h1]
    omega
  · have : ¬ (1 : Int) ≤ x.size := by omega
    simp -dsimp [this]
    simp [nameOk, h1]

set_option maxRecDepth 10000 in
theorem own_spec {F : Nat → Prop} {h : Heap} {v : Value} {xs : List UInt8} (hv : SlRep rByte F h v xs) (hF : ∀ b, F b → b < h.size) (hn : xs.length < 1099511627776) :
    CallH Tryz.prog 57 #[v] h fun r h' => ∃ own, Grow rByte 5 F h' r xs own ∧ Keep none_ h h' ∧ ∀ b, own = some b → h.size ≤ b := by
  refine enter [.tmp 2] Tryz.func57 rfl rfl (by kernel_rfl) rfl ?_
  obtain ⟨a, c, rfl, h1, h2⟩ := hv.val
  simp -dsimp
  rw [sliceS_slice (i := 0) (j := xs.length) (m := xs.length) Tryz.elS66 Tryz.szS5 (.inr ⟨_, rfl, by simp⟩) (.inr ⟨_, rfl⟩) (.inl ⟨rfl, rfl⟩) (by omega) (by omega) h1]
  have hp := hv.cut (i := 0) (j := xs.length) (m := xs.length) (by omega) (by omega) (by omega) h1
  rw [List.drop_zero, Nat.sub_zero, List.take_length] at hp
  simp -dsimp
  refine call_by (clone_byte hp hF hn) ?_
  rintro r h' ⟨own, hg, hk⟩
  obtain ⟨a', c', rfl⟩ := hg.val
  simp -dsimp
  exact ⟨own, hg, hk⟩

/-- A store at work: its value, its blocks, what it is. -/
def StAt (v : Value) (F : Nat → Prop) (h : Heap) (M : Mod) : Prop :=
  ∃ bs bm es clock tv own R, v = .pointer (some ⟨bs, 0, none⟩) ∧ F = foot bs bm own R ∧ StC h M bs bm es clock tv own R
theorem StAt.lt {v : Value} {F : Nat → Prop} {h : Heap} {M : Mod} (s : StAt v F h M) : ∀ b, F b → b < h.size := by
  obtain ⟨bs, bm, es, clock, tv, own, R, rfl, rfl, s⟩ := s
  exact s.lt
theorem StAt.mono {v : Value} {F : Nat → Prop} {h h' : Heap} {M : Mod} (s : StAt v F h M) (hs : h.size ≤ h'.size) (hk : ∀ b, F b → h'[b]? = h[b]?) : StAt v F h' M := by
  obtain ⟨bs, bm, es, clock, tv, own, R, rfl, rfl, s⟩ := s
  exact ⟨bs, bm, es, clock, tv, own, R, rfl, rfl, s.mono hs hk⟩
theorem StAt.ok {v : Value} {F : Nat → Prop} {h : Heap} {M : Mod} (s : StAt v F h M) : M.Ok := by
  obtain ⟨bs, bm, es, clock, tv, own, R, rfl, rfl, s⟩ := s
  exact s.ok
theorem StAt.keep {v : Value} {F S : Nat → Prop} {h h' : Heap} {M : Mod} (s : StAt v F h M) (hk : Keep S h h') (hd : ∀ b, F b → ¬ S b) : StAt v F h' M :=
  s.mono hk.size fun b hb => hk.blk b (s.lt b hb) (hd b hb)

set_option maxRecDepth 10000 in
theorem new_spec (k : Int) (h : Heap) : CallH Tryz.prog 36 #[.int .i64 k] h fun r h' => ∃ F, StAt r F h' (Mod.new k) ∧ Keep none_ h h' ∧ ∀ b, F b → h.size ≤ b := by
  refine enter [.tmp 2] Tryz.func36 rfl rfl (by kernel_rfl) rfl ?_
  simp -dsimp [boxS_eq]
  refine ⟨foot (h.size + 1) h.size none none_, ⟨h.size + 1, h.size, [], 0, _, none, none_, rfl, rfl, ?_, push_at (push_new _ _), .nil _, fun x => .inl ⟨rfl, rfl⟩, .nil _ _ _ _, fun b hb => hb.elim, by simp, by simp, by omega, .new k⟩, ?_, ?_⟩
  · have : (h.push (.map #[] 0)).size = h.size + 1 := by simp
    rw [← this]
    exact push_new _ _
  · exact (Keep.push none_ h _).trans (.push none_ _ _) (fun _ _ h => h)
  · rintro b (rfl | rfl | hb | hb)
    · omega
    · omega
    · cases hb
    · exact hb.elim

/-- How long the file of this name is. -/
def lenF (fs : Files) (x : Nm) : Nat := ((lookF x fs).map (·.now.length)).getD 0
theorem files_perm {R : Nat → Prop} {h : Heap} {es : Ents Nm} {clock : Nat} {fs : Files} (he : EntsOk es clock) (hf : FilesRep R h es fs) (hs : SortedF fs) : (es.map (·.1)).Perm (fs.map (·.1)) := by
  refine (List.perm_ext_iff_of_nodup he.keys (keys_nodup hs)).2 fun x => ?_
  constructor
  · intro hx
    obtain ⟨e, he1, rfl⟩ := List.mem_map.1 hx
    rcases hf e.1 with ⟨h1, _⟩ | ⟨v, f, _, h2, _⟩
    · exact absurd hx (getE_none h1)
    · exact List.mem_map_of_mem (f := (·.1)) (mem_lookF h2)
  · intro hx
    obtain ⟨p, hp, rfl⟩ := List.mem_map.1 hx
    rcases hf p.1 with ⟨_, h2⟩ | ⟨v, f, h1, _, _⟩
    · rw [lookF_mem hs hp] at h2; cases h2
    · obtain ⟨c, hc⟩ := getE_some h1
      exact List.mem_map_of_mem (f := (·.1)) hc
theorem lenF_cons {x : Nm} {p : Nm × FileM} {l : Files} (hx : x ≠ p.1) : lenF (p :: l) x = lenF l x := by
  unfold lenF; rw [lookF, if_neg hx]
theorem sum_lenF : ∀ {fs : Files}, SortedF fs → ((fs.map (·.1)).map (lenF fs)).sum = usedF fs
  | [], _ => rfl
  | p :: l, hs => by
    obtain ⟨h1, h2⟩ := List.pairwise_cons.1 hs
    have h3 : ((l.map (·.1)).map (lenF (p :: l))) = ((l.map (·.1)).map (lenF l)) := by
      apply List.map_congr_left
      intro x hx
      obtain ⟨q, hq, rfl⟩ := List.mem_map.1 hx
      exact lenF_cons fun e => nLt_irrefl p.1 (by have := h1 q hq; rwa [e] at this)
    have h4 : lenF (p :: l) p.1 = p.2.now.length := by simp [lenF, lookF]
    rw [List.map_cons, List.map_cons, List.sum_cons, h3, sum_lenF h2, h4]
    rfl
def sumE (fs : Files) (es : Ents Nm) : Nat := ((es.map (·.1)).map (lenF fs)).sum
theorem perm_sum {l l' : List Nat} (h : l.Perm l') : l.sum = l'.sum := by
  induction h with
  | nil => rfl
  | cons x _ ih => simp [ih]
  | swap x y l => simp; omega
  | trans _ _ h1 h2 => exact h1.trans h2
theorem sumE_perm {fs : Files} {es es' : Ents Nm} (h : es.Perm es') : sumE fs es = sumE fs es' := perm_sum ((h.map _).map _)
theorem sumE_append (fs : Files) (es es' : Ents Nm) : sumE fs (es ++ es') = sumE fs es + sumE fs es' := by simp [sumE]
theorem sumE_one (fs : Files) (e : Nm × Value × Nat) : sumE fs [e] = lenF fs e.1 := by simp [sumE]

set_option maxRecDepth 10000 in
theorem used_spec {v : Value} {F : Nat → Prop} {h : Heap} {M : Mod} (s : StAt v F h M) (hn : usedF M.files < 1099511627776) :
    CallH Tryz.prog 105 #[v] h fun r h' => r = .int .i64 (usedF M.files) ∧ Keep none_ h h' := by
  obtain ⟨bs, bm, es, clock, tv, own, R, rfl, rfl, s⟩ := s
  have htot : sumE M.files es = usedF M.files := (perm_sum ((files_perm s.ents s.files s.ok.sorted).map _)).trans (sum_lenF s.ok.sorted)
  refine enter [.tmp 2] Tryz.func105 rfl rfl (by kernel_rfl) rfl ?_
  have hs := s.str
  simp -dsimp [hs]
  rw [range_map (kt := 9) (et := 110) (by simp) s.map]
  simp -dsimp
  refine loop (σ := Ents Nm × Ents Nm) (fun t => [(3, .int .i64 (sumE M.files t.1)), (10, .pointer (some ⟨h.size, 0, none⟩))]) (fun _ => [])
    (fun t h1 => es.Perm (t.1 ++ t.2) ∧ h1[h.size]? = some (.mapIter (some bm) clock (seenOf t.1) clock) ∧ Keep none_ h h1) (fun t => t.2.length) ([], es) ?_ rfl ⟨by simp, push_new _ _, .push _ _ _⟩ (by kernel_rfl) ?_
  · intro p hp
    simp at hp
    rcases hp with rfl | rfl <;> simp [sumE]
  · rintro ⟨done, rest⟩ h1 g ⟨hperm, hit, hk⟩
    have hm : h1[bm]? = some (.map (entsOf kStr es) clock) := hk.at s.map (by simp [none_])
    simp -dsimp
    refine next_map s.ents hit hm hperm ?_ ?_
    · intro hr
      simp -dsimp
      refine ⟨?_, hk⟩
      subst hr
      rw [← htot, sumE_perm hperm]
      simp
    · intro e rest' hr
      simp -dsimp
      have he : e ∈ es := hperm.mem_iff.2 (List.mem_append_right _ (hr.mem_iff.2 (List.mem_cons_self ..)))
      have hlt : h.size < h1.size := lt_of_blk hit
      have hm2 : (h1.setIfInBounds h.size (.mapIter (some bm) clock (seenOf (done ++ [e])) clock))[bm]? = some (.map (entsOf kStr es) clock) := by
        rw [set_other _ (by have := lt_of_blk s.map; omega)]; exact hm
      rw [entry_map s.ents (set_same _ hlt) hm2 he]
      have hg := getE_mem s.ents.keys he
      rcases s.files e.1 with ⟨q1, _⟩ | ⟨u, f, q1, q2, q3⟩
      · rw [q1] at hg; cases hg
      rw [hg] at q1
      cases q1
      obtain ⟨nv, sv, sx, si, q4, q5, q6, q7⟩ := q3
      obtain ⟨a1, c1, rfl, _, _⟩ := q5.val
      obtain ⟨a2, c2, rfl, _, _⟩ := q6.val
      have hlen : lenF M.files e.1 = f.now.length := by simp [lenF, q2]
      have hle : sumE M.files (done ++ [e]) ≤ usedF M.files := by
        rw [← htot, sumE_perm (hperm.trans (List.Perm.append_left done hr)), sumE_append, sumE_append, show e :: rest' = [e] ++ rest' from rfl, sumE_append]
        omega
      rw [sumE_append, sumE_one, hlen] at hle
      have hw : IntKind.i64.wrap ((sumE M.files done : Int) + f.now.length) = (sumE M.files (done ++ [e]) : Nat) := by
        rw [wrap_i64 (by omega) (by omega), sumE_append, sumE_one, hlen]; rfl
      simp -dsimp [q4, hw]
      refine ⟨done ++ [e], ?_, rest', ⟨?_, ?_, ?_⟩, ?_⟩
      · intro p hp
        simp at hp
        rcases hp with rfl | rfl <;> simp
      · exact (hperm.trans (List.Perm.append_left done hr)).trans (by simp)
      · rw [set_other _ (by omega), push_old _ (by simpa using hlt), set_same _ hlt]
      · exact ((hk.setted _ (fun hh => absurd hh (by omega))).pushed _).setted _ (fun hh => absurd hh (by have := hk.size; omega))
      · have := hr.length_eq
        simp at this
        omega

def noFile : FileM := ⟨[], none, false⟩
theorem nowOf_eq (M : Mod) (x : Nm) : M.nowOf x = ((lookF x M.files).getD noFile).now := by
  unfold Mod.nowOf Mod.look
  cases lookF x M.files <;> rfl
theorem now_le {M : Mod} (hok : M.Ok) (x : Nm) : (M.nowOf x).length ≤ usedF M.files := by
  have := used_put (x := x) (f := noFile) hok.sorted
  unfold Mod.nowOf Mod.look
  cases hl : lookF x M.files with
  | none => simp
  | some f => rw [hl] at this; simp at this; simp [noFile] at this ⊢; omega
/-- What a file's value shows when it is looked up. -/
theorem FilesRep.zero {R : Nat → Prop} {h : Heap} : ∀ {es : Ents Nm} {fs : Files}, FilesRep R h es fs → ∀ x, FileRep R h ((getE x es).getD (.agg #[.slice none 0 0, .slice none 0 0, .bool false, .bool false])) ((lookF x fs).getD noFile) ∧ (getE x es).isSome = (lookF x fs).isSome := by
  intro es fs hf x
  rcases hf x with ⟨h1, h2⟩ | ⟨v, f, h1, h2, h3⟩
  · rw [h1, h2]; exact ⟨⟨_, _, [], false, rfl, .nil _ _ _, .nil _ _ _, rfl⟩, rfl⟩
  · rw [h1, h2]; exact ⟨h3, rfl⟩

set_option maxRecDepth 10000 in
theorem read_spec {v : Value} {F : Nat → Prop} {h : Heap} {M : Mod} (s : StAt v F h M) (hn : usedF M.files < 1099511627776) (x : Nm) :
    CallH Tryz.prog 25 #[v, .string x] h fun r h' => ∃ u own, r = .tuple #[u, .bool (M.look x).isSome] ∧ Grow rByte 5 F h' u (M.nowOf x) own ∧ Keep none_ h h' ∧ ∀ b, own = some b → h.size ≤ b := by
  obtain ⟨bs, bm, es, clock, tv, own, R, rfl, rfl, s⟩ := s
  refine enter [.tmp 4, .tmp 5] Tryz.func25 rfl rfl (by kernel_rfl) rfl ?_
  have hs := s.str
  simp -dsimp [hs]
  rw [lookup_str (kt := 9) (et := 110) (by simp) (by kernel_rfl) Tryz.zS110 s.map]
  obtain ⟨q1, q2⟩ := s.files.zero x
  rw [q2]
  generalize (getE x es).getD _ = fv at q1 ⊢
  obtain ⟨nv, sv, sx, si, rfl, q5, q6, q7⟩ := q1
  obtain ⟨a1, c1, rfl, _, _⟩ := q5.val
  obtain ⟨a2, c2, rfl, _, _⟩ := q6.val
  simp -dsimp
  rw [← nowOf_eq] at q5 ⊢
  generalize hH : (h.push _).setIfInBounds h.size _ = h1
  have k1 : Keep none_ h h1 := by rw [← hH]; exact ((Keep.refl none_ h).pushed _).setted _ (fun hh => absurd hh (by omega))
  refine call_by (own_spec (F := R) (q5.mono fun b hb => ⟨hb, k1.blk b (s.sep b hb).1 (by simp [none_])⟩) (fun b hb => Nat.lt_of_lt_of_le (s.sep b hb).1 k1.size) (by have := now_le s.ok x; omega)) ?_
  rintro r h2 ⟨own2, hg, hk2, ho2⟩
  obtain ⟨a', c', rfl⟩ := hg.val
  simp -dsimp
  have k2 := k1.trans hk2 (fun _ _ h => h)
  refine ⟨_, ⟨rfl, rfl⟩, own2, ?_, k2, fun b hb => Nat.le_trans k1.size (ho2 b hb)⟩
  rcases hg with hn | ⟨bk, c, arr, cs, e1, e2, e3, e4, e5, e6, e7, e8, e9⟩
  · exact .inl hn
  · exact .inr ⟨bk, c, arr, cs, e1, e2, e3, fun b => by have := ho2 bk e2; have := s.lt _ b; have := k1.size; omega, e5, e6, e7, e8, bytes_map.2 (bytes_map.1 e9)⟩
end Go.Proofs

/-
  The contracts of what is done to the program's store: a file is written, made sure, published, removed.
-/
namespace Go.Proofs
open Go Go.HC

/-- A file is put. -/
theorem StC.put {h h' : Heap} {M : Mod} {bs bm : Nat} {es : Ents Nm} {clock : Nat} {tv : Value} {own : Option Nat} {R R' : Nat → Prop} (s : StC h M bs bm es clock tv own R) {x : Nm} {v : Value} {f : FileM}
    (hb : h'[bm]? = some (.map (entsOf kStr (putE x v clock es)) (clockE x es clock))) (hk : Keep (fun b => b = bm) h h') (hf : FileRep R' h' v f) (hR : ∀ b, R b → R' b) (hR' : ∀ b, R' b → R b ∨ h.size ≤ b ∧ b < h'.size) (hok : f.Ok) :
    StC h' ⟨M.limit, putF x f M.files, M.trace⟩ bs bm (putE x v clock es) (clockE x es clock) tv own R' where
  str := (hk.blk _ (lt_of_blk s.str) s.ne).trans s.str
  map := hb
  ents := s.ents.put x v
  files := by
    intro y
    rw [getE_put, lookF_put]
    by_cases hy : y = x
    · rw [if_pos hy, if_pos hy]; exact .inr ⟨v, f, rfl, rfl, hf⟩
    · rw [if_neg hy, if_neg hy]
      rcases s.files y with h1 | ⟨u, g, h1, h2, h3⟩
      · exact .inl h1
      · exact .inr ⟨u, g, h1, h2, h3.mono fun b hb => ⟨hR b hb, hk.blk b (s.sep b hb).1 (s.sep b hb).2.2.1⟩⟩
  tr := s.tr.mono (fun _ h => h.elim) fun b hb => ⟨fun h => h.elim, hk.blk b (s.tr.own_lt b hb) (fun e => s.o2 (e ▸ hb))⟩
  sep := by
    intro b hb
    rcases hR' b hb with h1 | ⟨h1, h2⟩
    · exact ⟨Nat.lt_of_lt_of_le (s.sep b h1).1 hk.size, (s.sep b h1).2⟩
    · exact ⟨h2, fun e => by have := lt_of_blk s.str; omega, fun e => by have := lt_of_blk s.map; omega, fun e => by have := s.tr.own_lt b e; omega⟩
  o1 := s.o1
  o2 := s.o2
  ne := s.ne
  ok := s.ok.put hok _ _
theorem StC.del {h h' : Heap} {M : Mod} {bs bm : Nat} {es : Ents Nm} {clock : Nat} {tv : Value} {own : Option Nat} {R : Nat → Prop} (s : StC h M bs bm es clock tv own R) {x : Nm}
    (hb : h'[bm]? = some (.map (entsOf kStr (delE x es)) clock)) (hk : Keep (fun b => b = bm) h h') :
    StC h' ⟨M.limit, delF x M.files, M.trace⟩ bs bm (delE x es) clock tv own R where
  str := (hk.blk _ (lt_of_blk s.str) s.ne).trans s.str
  map := hb
  ents := s.ents.del x
  files := by
    intro y
    rw [getE_del s.ents.keys, lookF_del s.ok.sorted]
    by_cases hy : y = x
    · rw [if_pos hy, if_pos hy]; exact .inl ⟨rfl, rfl⟩
    · rw [if_neg hy, if_neg hy]
      rcases s.files y with h1 | ⟨u, g, h1, h2, h3⟩
      · exact .inl h1
      · exact .inr ⟨u, g, h1, h2, h3.mono fun b hb => ⟨hb, hk.blk b (s.sep b hb).1 (s.sep b hb).2.2.1⟩⟩
  tr := s.tr.mono (fun _ h => h.elim) fun b hb => ⟨fun h => h.elim, hk.blk b (s.tr.own_lt b hb) (fun e => s.o2 (e ▸ hb))⟩
  sep := fun b h1 => ⟨Nat.lt_of_lt_of_le (s.sep b h1).1 hk.size, (s.sep b h1).2⟩
  o1 := s.o1
  o2 := s.o2
  ne := s.ne
  ok := s.ok.del x _ _
theorem sure_eq (M : Mod) (x : Nm) : (M.look x).bind (·.sure) = ((lookF x M.files).getD noFile).sure := by
  unfold Mod.look
  cases lookF x M.files <;> rfl
/-- Behind 'did': the store's end. -/
theorem StC.fin {h : Heap} {M : Mod} {bs bm : Nat} {es : Ents Nm} {clock : Nat} {tv : Value} {own : Option Nat} {R : Nat → Prop} (s : StC h M bs bm es clock tv own R) : StAt (.pointer (some ⟨bs, 0, none⟩)) (foot bs bm own R) h M :=
  ⟨bs, bm, es, clock, tv, own, R, rfl, rfl, s⟩

set_option maxRecDepth 10000 in
theorem write_spec {v : Value} {F G : Nat → Prop} {h : Heap} {M : Mod} (s : StAt v F h M) {n : Nat} (hn : M.Small n) (hn' : n < 1000000000) (x : Nm) {bv : Value} {b : List UInt8}
    (hb : SlRep rByte G h bv b) (hG : ∀ b, G b → b < h.size) (hbl : b.length < 1000000000) :
    CallH Tryz.prog 66 #[v, .string x, bv] h fun r h' => r = .int .i64 (M.write x b).1 ∧ ∃ F', StAt v F' h' (M.write x b).2 ∧ Keep F h h' ∧ ∀ b, F' b → F b ∨ h.size ≤ b := by
  obtain ⟨bs, bm, es, clock, tv, own, R, rfl, rfl, s⟩ := s
  refine enter [.tmp 6] Tryz.func66 rfl rfl (by kernel_rfl) rfl ?_
  have hs := s.str
  obtain ⟨a0, c0, rfl, hc0, _⟩ := hb.val
  simp -dsimp
  refine call_by (name_spec x h) ?_
  rintro _ h0 ⟨rfl, hh⟩
  obtain rfl := hh.symm
  cases hnm : nameOk x with
  | false =>
    have hw : M.write x b = (1, M) := by simp [Mod.write, hnm]
    rw [hw]
    simp -dsimp
    exact ⟨_, ⟨bs, bm, es, clock, tv, own, R, rfl, rfl, s⟩, .refl _ _, fun b hb => .inl hb⟩
  | true =>
  simp -dsimp [hs]
  rw [lookup_str (kt := 9) (et := 110) (by simp) (by kernel_rfl) Tryz.zS110 s.map]
  obtain ⟨q1, q2⟩ := s.files.zero x
  generalize (getE x es).getD _ = fv at q1 ⊢
  obtain ⟨nv, sv, sx, si, rfl, q5, q6, q7⟩ := q1
  obtain ⟨a1, c1, rfl, _, _⟩ := q5.val
  obtain ⟨a2, c2, rfl, _, _⟩ := q6.val
  simp -dsimp
  generalize hH : (Array.push _ _).setIfInBounds _ _ = h1
  have k1 : Keep none_ h h1 := by rw [← hH]; exact ((Keep.refl none_ h).pushed _).setted _ (fun hh => absurd hh (by omega))
  have hf1 : h1[h.size]? = some (.cells #[.slice a1 ((lookF x M.files).getD noFile).now.length c1, .slice a2 sx.length c2, .bool si, .bool ((lookF x M.files).getD noFile).safe] 110 (0, 0)) := by
    rw [← hH]; exact set_same _ (by simp)
  have s1 := s.mono k1.size fun b hb => k1.blk b (s.lt b hb) (by simp [none_])
  have hs1 := s1.str
  refine drawn_by [⟨0, true, []⟩, ⟨2, true, []⟩, ⟨3, true, []⟩, ⟨4, true, []⟩, ⟨6, true, []⟩, ⟨7, true, []⟩, ⟨9, true, []⟩, ⟨10, true, []⟩, ⟨11, true, []⟩, ⟨12, true, []⟩, ⟨1, false, [2, 3, 4, 6, 7, 9, 10, 11, 12]⟩, ⟨5, true, []⟩, ⟨8, true, []⟩, ⟨13, true, []⟩] (by kernel_rfl) (by kernel_rfl) ?_
  simp -dsimp [hs1, hf1]
  refine call_by (used_spec ⟨bs, bm, es, clock, tv, own, R, rfl, rfl, s1⟩ (by have := hn.used; omega)) ?_
  rintro _ h2 ⟨rfl, k2⟩
  have k12 := k1.trans k2 (fun _ _ h => h)
  have s2 := s1.mono k2.size fun b hb => k2.blk b (s1.lt b hb) (by simp [none_])
  have hs2 := s2.str
  have hf2 := k2.at hf1 (by simp [none_])
  simp -dsimp [again_cons, hs2, hf2]
  have hnow := now_le s.ok x
  have hu := hn.used
  have hw : IntKind.i64.wrap (IntKind.i64.wrap ((usedF M.files : Int) - ((lookF x M.files).getD noFile).now.length) + b.length) = (usedF M.files : Int) - (M.nowOf x).length + b.length := by
    have h1 : IntKind.i64.wrap ((usedF M.files : Int) - (M.nowOf x).length) = (usedF M.files : Int) - (M.nowOf x).length := wrap_i64 (by omega) (by omega)
    rw [← nowOf_eq, h1, wrap_i64 (by omega) (by omega)]
  have hfit : decide (M.limit < (usedF M.files : Int) - (M.nowOf x).length + b.length) = !M.fits x b := by
    unfold Mod.fits
    rw [← decide_not, decide_eq_decide]; omega
  rw [hw, hfit]
  cases hft : M.fits x b with
  | false =>
    have hw : M.write x b = (4, M) := by simp [Mod.write, hnm, hft]
    rw [hw]
    simp -dsimp
    exact ⟨_, ⟨bs, bm, es, clock, tv, own, R, rfl, rfl, s2⟩, k12.none, fun b hb => .inl hb⟩
  | true =>
  have hw : M.write x b = (0, M.wrote x b) := by simp [Mod.write, hnm, hft]
  rw [hw]
  simp -dsimp
  refine drawn_by [⟨0, true, []⟩, ⟨1, true, []⟩, ⟨2, true, []⟩, ⟨3, true, []⟩, ⟨4, true, []⟩, ⟨5, true, []⟩, ⟨7, true, []⟩, ⟨8, true, []⟩, ⟨6, false, [0, 1, 2, 3, 4, 7, 8]⟩, ⟨9, false, [0, 1, 2, 3, 4]⟩, ⟨10, false, []⟩] (by kernel_rfl) (by kernel_rfl) ?_
  simp -dsimp [hs2, hf2]
  refine call_by (own_spec (F := G) (hb.mono fun b hb => ⟨hb, k12.blk b (hG b hb) (by simp [none_])⟩) (fun b hb => Nat.lt_of_lt_of_le (hG b hb) k12.size) (by omega)) ?_
  rintro r h3 ⟨own3, hg3, k3, ho3⟩
  obtain ⟨a3, c3, rfl⟩ := hg3.val
  have hs3 := k3.at hs2 (by simp [none_])
  have hf3 := k3.at hf2 (by simp [none_])
  have s3 := s2.mono k3.size fun b hb => k3.blk b (s2.lt b hb) (by simp [none_])
  simp -dsimp [again_cons, hs3, hf3]
  rw [update_str (kt := 9) (et := 110) (by simp) (by kernel_rfl) s3.map]
  generalize hH4 : h3.setIfInBounds bm _ = h4
  have hbm : bm < h3.size := lt_of_blk s3.map
  have k4 : Keep (fun b => b = bm) h3 h4 := by rw [← hH4]; exact .set h3 _ (fun _ => rfl)
  have k04 : Keep (fun b => b = bm) h h4 := (k12.none.trans k3.none (fun _ _ h => h)).trans k4 (fun _ _ h => h)
  have hb4 : h4[bm]? = some (.map (entsOf kStr (putE x (.agg #[.slice a3 b.length c3, .slice a2 sx.length c2, .bool si, .bool false]) clock es)) (clockE x es clock)) := by
    rw [← hH4]; exact set_same _ hbm
  have s4 := s.put (R' := fun b => R b ∨ own3 = some b) (f := ⟨b, (M.look x).bind (·.sure), false⟩) hb4 k04 ⟨_, _, sx, si, rfl, ?_, ?_, ?_⟩ (fun b hb => .inl hb) ?_ (fun h => by cases h)
  · have hs4 := s4.str
    simp -dsimp
    refine call_by (did_spec s4 1 x (by have := hn.trace; simp only; omega)) ?_
    rintro _ h5 ⟨rfl, tv5, own5, s5, k5, ho5⟩
    simp -dsimp
    refine ⟨_, s5.fin, ?_, ?_⟩
    · exact (k04.weaken (fun b _ hb => .inr (.inl hb))).trans k5 (fun b hb hf => by
        rcases hf with h1 | h1 | h1 | h1 | h1
        · exact .inl h1
        · exact .inr (.inl h1)
        · exact .inr (.inr (.inl h1))
        · exact .inr (.inr (.inr h1))
        · have := ho3 b h1; have := k12.size; omega)
    · intro b hb
      rcases ho5 b hb with (h1 | h1 | h1 | h1 | h1) | h1
      · exact .inl (.inl h1)
      · exact .inl (.inr (.inl h1))
      · exact .inl (.inr (.inr (.inl h1)))
      · exact .inl (.inr (.inr (.inr h1)))
      · have := ho3 b h1; have := k12.size; exact .inr (by omega)
      · have := k04.size; exact .inr (by omega)
  · refine hg3.bytes.mono fun b hb => ⟨.inr hb, ?_⟩
    have := ho3 b hb
    refine k4.blk b (hg3.own_lt b hb) ?_
    have := lt_of_blk s2.map
    omega
  · exact q6.mono fun b hb => ⟨.inl hb, k04.blk b (s.sep b hb).1 (s.sep b hb).2.2.1⟩
  · rw [sure_eq]; exact q7
  · rintro b (hb | hb)
    · exact .inl hb
    · have := ho3 b hb
      have := k12.size
      have := hg3.own_lt b hb
      have := k4.size
      exact .inr ⟨by omega, by omega⟩
end Go.Proofs

/-
  The contracts of what is done to the program's store: a file is made sure, published, removed; what was done is told.
-/
namespace Go.Proofs
open Go Go.HC

set_option maxRecDepth 10000 in
theorem sync_spec {v : Value} {F : Nat → Prop} {h : Heap} {M : Mod} (s : StAt v F h M) {n : Nat} (hn : M.Small n) (hn' : n < 1000000000) (x : Nm) :
    CallH Tryz.prog 67 #[v, .string x] h fun r h' => r = .int .i64 (M.sync x).1 ∧ ∃ F', StAt v F' h' (M.sync x).2 ∧ Keep F h h' ∧ ∀ b, F' b → F b ∨ h.size ≤ b := by
  obtain ⟨bs, bm, es, clock, tv, own, R, rfl, rfl, s⟩ := s
  refine enter [.tmp 4] Tryz.func67 rfl rfl (by kernel_rfl) rfl ?_
  have hs := s.str
  simp -dsimp [hs]
  rw [lookup_str (kt := 9) (et := 110) (by simp) (by kernel_rfl) Tryz.zS110 s.map]
  obtain ⟨q1, q2⟩ := s.files.zero x
  rw [q2]
  generalize (getE x es).getD _ = fv at q1 ⊢
  obtain ⟨nv, sv, sx, si, rfl, q5, q6, q7⟩ := q1
  obtain ⟨a1, c1, rfl, _, _⟩ := q5.val
  obtain ⟨a2, c2, rfl, _, _⟩ := q6.val
  simp -dsimp
  generalize hH : (Array.push _ _).setIfInBounds _ _ = h1
  have k1 : Keep none_ h h1 := by rw [← hH]; exact ((Keep.refl none_ h).pushed _).setted _ (fun hh => absurd hh (by omega))
  have s1 := s.mono k1.size fun b hb => k1.blk b (s.lt b hb) (by simp [none_])
  have hf1 : h1[h.size]? = some (.cells #[.slice a1 ((lookF x M.files).getD noFile).now.length c1, .slice a2 sx.length c2, .bool si, .bool ((lookF x M.files).getD noFile).safe] 110 (0, 0)) := by
    rw [← hH]; exact set_same _ (by simp)
  have hs1 := s1.str
  cases hl : lookF x M.files with
  | none =>
    have hw : M.sync x = (5, M) := by simp [Mod.sync, Mod.look, hl]
    rw [hw]
    simp -dsimp
    exact ⟨_, s1.fin, k1.none, fun b hb => .inl hb⟩
  | some f =>
  have hw : M.sync x = (0, ⟨M.limit, putF x ⟨f.now, some f.now, true⟩ M.files, M.trace ++ [(2, x)]⟩) := by simp [Mod.sync, Mod.look, hl]
  rw [hw]
  rw [hl] at hf1 q5
  simp only [Option.getD_some] at hf1 q5
  simp -dsimp
  refine drawn_by [⟨0, true, []⟩, ⟨1, true, []⟩, ⟨2, true, []⟩, ⟨3, true, []⟩, ⟨4, true, []⟩, ⟨5, true, []⟩, ⟨6, true, []⟩, ⟨7, true, []⟩, ⟨8, true, []⟩, ⟨9, false, [0, 1, 2, 3, 4, 5, 6]⟩, ⟨10, false, [0, 1, 2, 3, 4]⟩, ⟨11, false, []⟩] (by kernel_rfl) (by kernel_rfl) ?_
  simp -dsimp [hs1, hf1, again_cons]
  rw [update_str (kt := 9) (et := 110) (by simp) (by kernel_rfl) s1.map]
  generalize hH4 : h1.setIfInBounds bm _ = h4
  have hbm : bm < h1.size := lt_of_blk s1.map
  have k4 : Keep (fun b => b = bm) h1 h4 := by rw [← hH4]; exact .set h1 _ (fun _ => rfl)
  have k04 : Keep (fun b => b = bm) h h4 := k1.none.trans k4 (fun _ _ h => h)
  have hb4 : h4[bm]? = some (.map (entsOf kStr (putE x (.agg #[.slice a1 f.now.length c1, .slice a1 f.now.length c1, .bool true, .bool true]) clock es)) (clockE x es clock)) := by
    rw [← hH4]; exact set_same _ hbm
  have q5' := q5.mono (F' := R) (h' := h4) fun b hb => ⟨hb, k04.blk b (s.sep b hb).1 (s.sep b hb).2.2.1⟩
  have s4 := s.put (R' := R) (f := ⟨f.now, some f.now, true⟩) hb4 k04 ⟨_, _, f.now, true, rfl, q5', q5', rfl⟩ (fun b hb => hb) (fun b hb => .inl hb) (fun _ => rfl)
  have hs4 := s4.str
  simp -dsimp
  refine call_by (did_spec s4 2 x (by have := hn.trace; simp only; omega)) ?_
  rintro _ h5 ⟨rfl, tv5, own5, s5, k5, ho5⟩
  simp -dsimp
  refine ⟨_, s5.fin, (k04.weaken (fun b _ hb => .inr (.inl hb))).trans k5 (fun b hb hf => hf), fun b hb => (ho5 b hb).imp id fun h => by have := k04.size; omega⟩

end Go.Proofs

/-
  The contract of the program's store: a file is published.
-/
namespace Go.Proofs
open Go Go.HC

end Go.Proofs

/-
  The names of the program's store: the map's keys, collected, sorted.
-/
namespace Go.Proofs
open Go Go.HC

theorem callS_by {P : Program} {y : Value} {args : Array Value} {h : Heap} {K K' : Value → Heap → Prop} (hc : callV P y args h K') (hk : ∀ v h, K' v h → K v h) : callS P y args h K :=
  hp_mono _ hc fun x h hx => nextK_mono hk x h hx

/-- What the keys' iterator gives: each key once. -/
def keyA (es : Ents Nm) (xs : List Nm) (x : Nm) : Prop := ∃ rest, (es.map (·.1)).Perm (xs ++ x :: rest)

set_option maxRecDepth 10000 in
theorem keys_iter {h0 : Heap} {bx bm : Nat} {es : Ents Nm} {clock : Nat} {fz : Nat × Nat} (hbx : h0[bx]? = some (.cells #[.map (some bm)] 112 fz)) (hm : h0[bm]? = some (.map (entsOf kStr es) clock)) (hok : EntsOk es clock) :
    Iter Tryz.prog 108 #[] #[.pointer (some ⟨bx, 0, none⟩)] (fun x : Nm => #[.string x]) (keyA es) (fun xs => (es.map (·.1)).Perm xs) (fun b => b = bx ∨ b = bm) h0 := by
  intro y J Z D h ⟨yf, yu, yv', hyf⟩ hy hJ hsz hFp
  subst hyf
  have hbx' : h[bx]? = some (.cells #[.map (some bm)] 112 fz) := (hFp bx (.inl rfl)).2.2.trans hbx
  have hm' : h[bm]? = some (.map (entsOf kStr es) clock) := (hFp bm (.inr rfl)).2.2.trans hm
  have hDbm := (hFp bm (.inr rfl)).2.1
  refine enter [] Tryz.func108 rfl rfl (by kernel_rfl) rfl ?_
  simp -dsimp [hbx']
  rw [range_map (kt := 9) (et := 110) (by simp) hm']
  simp -dsimp
  refine loop (σ := Ents Nm × Ents Nm) (fun t => [(0, .func yf yu yv'), (5, .pointer (some ⟨h.size, 0, none⟩))]) (fun _ => [])
    (fun t h1 => es.Perm (t.1 ++ t.2) ∧ h1[h.size]? = some (.mapIter (some bm) clock (seenOf t.1) clock) ∧ ∃ D', J (t.1.map (·.1)) D' h1 ∧ Keep D h h1 ∧ (∀ b, D' b → D b ∨ h.size ≤ b) ∧ ¬ D' h.size) (fun t => t.2.length) ([], es) ?_ rfl
    ⟨by simp, push_new _ _, D, hy.mono hJ (by simp) (fun b hb => push_old _ (hy.lt hJ b hb)), .push _ _ _, fun b hb => .inl hb, fun hd => by have := hy.lt hJ _ hd; omega⟩ (by kernel_rfl) ?_
  · intro p hp
    simp at hp
    rcases hp with rfl | rfl <;> simp
  · rintro ⟨done, rest⟩ h1 g ⟨hperm, hit, D', hJ1, hk, hD', hnit⟩
    have hsz1 := hk.size
    have hbm : bm < h.size := lt_of_blk hm'
    have hm1 : h1[bm]? = some (.map (entsOf kStr es) clock) := hk.at hm' hDbm
    simp -dsimp
    refine next_map hok hit hm1 hperm ?_ ?_
    · intro hr
      simp -dsimp
      subst hr
      exact ⟨D', .inl ⟨done.map (·.1), by simpa using hperm.map (·.1), hJ1⟩, hk, hD'⟩
    · intro e rest' hr
      have he : e ∈ es := hperm.mem_iff.2 (List.mem_append_right _ (hr.mem_iff.2 (List.mem_cons_self ..)))
      have hlt : h.size < h1.size := lt_of_blk hit
      simp -dsimp
      generalize hH : h1.setIfInBounds h.size _ = h2
      have hs2 : h2.size = h1.size := by rw [← hH]; simp
      have ho2 : ∀ b, b ≠ h.size → h2[b]? = h1[b]? := fun b hb => by rw [← hH]; exact set_other _ (fun e => hb e.symm)
      have hi2 : h2[h.size]? = some (.mapIter (some bm) clock (seenOf (done ++ [e])) clock) := by rw [← hH]; exact set_same _ hlt
      have hm2 : h2[bm]? = some (.map (entsOf kStr es) clock) := by rw [ho2 _ (by omega)]; exact hm1
      have hJ2 : J (done.map (·.1)) D' h2 := hy.mono hJ1 (by omega) fun b hb => ho2 b (fun e => hnit (e ▸ hb))
      have hk2 : Keep D h h2 := by rw [← hH]; exact hk.setted _ (fun hh => absurd hh (by omega))
      rw [entry_map hok hi2 hm2 he]
      simp -dsimp
      refine callS_by (hy.step (x := e.1) hJ2 ⟨rest'.map (·.1), ?_⟩) ?_
      · have := (hperm.trans (List.Perm.append_left done hr)).map (·.1)
        simpa using this
      · rintro v h3 (⟨rfl, D3, hJ3, hk3, hD3⟩ | ⟨rfl, D3, hZ3, hk3, hD3⟩)
        · have hk03 : Keep D h h3 := hk2.trans hk3 (fun b hb hd => (hD' b hd).elim id (fun h => by omega))
          simp -dsimp
          refine ⟨?_, done ++ [e], rest', ⟨?_, ?_, D3, ?_, hk03, ?_, ?_⟩, ?_⟩
          · intro p hp
            simp at hp
            rcases hp with rfl | rfl <;> simp
          · exact (hperm.trans (List.Perm.append_left done hr)).trans (by simp)
          · exact hk3.at hi2 hnit
          · simpa using hJ3
          · exact fun b hb => (hD3 b hb).elim (hD' b) (fun h => .inr (by omega))
          · exact fun hd => (hD3 _ hd).elim hnit (fun h => by omega)
          · have := hr.length_eq
            simp at this
            omega
        · have hk03 : Keep D h h3 := hk2.trans hk3 (fun b hb hd => (hD' b hd).elim id (fun h => by omega))
          simp -dsimp
          exact ⟨D3, .inr hZ3, hk03, fun b hb => (hD3 b hb).elim (hD' b) (fun h => .inr (by omega))⟩
end Go.Proofs

/-
  The library's sort of strings at this program's numbers, laid for the kit's contract; printed by a program of this session (wip/tools/lay.py).
-/
namespace Go.Proofs
open Go.RowKit Go.Sort Go.Shelf
def Tryz.sortA_ren : Go.Shelf.Ren := ⟨fun | 6 => 107 | 8 => 122 | 9 => 138 | 19 => 153 | 20 => 154 | 21 => 160 | 22 => 161 | 23 => 162 | 24 => 163 | 25 => 164 | 26 => 165 | 27 => 166 | 28 => 167 | 29 => 168 | 36 => 180 | 31 => 174 | 32 => 175 | 37 => 181 | 38 => 182 | 39 => 183 | 41 => 192 | n => n, fun | 27 => 80 | 29 => 9 | 3 => 3 | 32 => 54 | 26 => 80 | 0 => 0 | 44 => 199 | 46 => 201 | 4 => 4 | 36 => 193 | 35 => 192 | 41 => 49 | 5 => 5 | 9 => 9 | 53 => 213 | 57 => 217 | 63 => 223 | 64 => 224 | n => n, fun n => n⟩
theorem Tryz.sortA : SlLaysM.n6 Tryz.prog Tryz.sortA_ren where
  mixed := by kernel_rfl
  f6 := ⟨ "slices.Sort[[]string,string]", by decide, Tryz.func107.trans (congrArg some (by kernel_rfl))⟩
  f8 := Tryz.func122.trans (congrArg some (by kernel_rfl))
  f9 := ⟨ "slices.pdqsortOrdered[string]", by decide, Tryz.func138.trans (congrArg some (by kernel_rfl))⟩
  f19 := Tryz.func153.trans (congrArg some (by kernel_rfl))
  f20 := Tryz.func154.trans (congrArg some (by kernel_rfl))
  f21 := ⟨ "slices.insertionSortOrdered[string]", by decide, Tryz.func160.trans (congrArg some (by kernel_rfl))⟩
  f22 := ⟨ "slices.heapSortOrdered[string]", by decide, Tryz.func161.trans (congrArg some (by kernel_rfl))⟩
  f23 := ⟨ "slices.breakPatternsOrdered[string]", by decide, Tryz.func162.trans (congrArg some (by kernel_rfl))⟩
  f24 := ⟨ "slices.choosePivotOrdered[string]", by decide, Tryz.func163.trans (congrArg some (by kernel_rfl))⟩
  f25 := ⟨ "slices.reverseRangeOrdered[string]", by decide, Tryz.func164.trans (congrArg some (by kernel_rfl))⟩
  f26 := ⟨ "slices.partialInsertionSortOrdered[string]", by decide, Tryz.func165.trans (congrArg some (by kernel_rfl))⟩
  f27 := ⟨ "cmp.Less[string]", by decide, Tryz.func166.trans (congrArg some (by kernel_rfl))⟩
  f28 := ⟨ "slices.partitionEqualOrdered[string]", by decide, Tryz.func167.trans (congrArg some (by kernel_rfl))⟩
  f29 := ⟨ "slices.partitionOrdered[string]", by decide, Tryz.func168.trans (congrArg some (by kernel_rfl))⟩
  f31 := Tryz.func174.trans (congrArg some (by kernel_rfl))
  f32 := Tryz.func175.trans (congrArg some (by kernel_rfl))
  f36 := ⟨ "slices.siftDownOrdered[string]", by decide, Tryz.func180.trans (congrArg some (by kernel_rfl))⟩
  f37 := ⟨ "slices.medianAdjacentOrdered[string]", by decide, Tryz.func181.trans (congrArg some (by kernel_rfl))⟩
  f38 := ⟨ "slices.medianOrdered[string]", by decide, Tryz.func182.trans (congrArg some (by kernel_rfl))⟩
  f39 := ⟨ "cmp.isNaN[string]", by decide, Tryz.func183.trans (congrArg some (by kernel_rfl))⟩
  f41 := ⟨ "slices.order2Ordered[string]", by decide, Tryz.func192.trans (congrArg some (by kernel_rfl))⟩
  t0 := Tryz.underlying0
  a0 := Tryz.isAgg0
  z0 := Tryz.sizeOf0
  v0 := Tryz.zeroValue0
  t3 := Tryz.underlying3
  a3 := Tryz.isAgg3
  z3 := Tryz.sizeOf3
  v3 := Tryz.zeroValue3
  t4 := Tryz.underlying4
  a4 := Tryz.isAgg4
  z4 := Tryz.sizeOf4
  v4 := Tryz.zeroValue4
  t5 := Tryz.underlying5
  a5 := Tryz.isAgg5
  z5 := Tryz.sizeOf5
  v5 := Tryz.zeroValue5
  t9 := Tryz.underlying9
  a9 := Tryz.isAgg9
  z9 := Tryz.sizeOf9
  v9 := Tryz.zeroValue9
  t26 := Tryz.underlying80
  a26 := Tryz.isAgg80
  z26 := Tryz.sizeOf80
  v26 := Tryz.zeroValue80
  t27 := Tryz.underlying80
  a27 := Tryz.isAgg80
  z27 := Tryz.sizeOf80
  v27 := Tryz.zeroValue80
  t29 := Tryz.underlying9
  a29 := Tryz.isAgg9
  z29 := Tryz.sizeOf9
  v29 := Tryz.zeroValue9
  t32 := Tryz.underlying54
  a32 := Tryz.isAgg54
  z32 := Tryz.sizeOf54
  v32 := Tryz.zeroValue54
  t35 := Tryz.underlying192
  a35 := Tryz.isAgg192
  z35 := Tryz.sizeOf192
  v35 := Tryz.zeroValue192
  t36 := Tryz.underlying193
  a36 := Tryz.isAgg193
  z36 := Tryz.sizeOf193
  v36 := Tryz.zeroValue193
  t41 := Tryz.underlying49
  a41 := Tryz.isAgg49
  z41 := Tryz.sizeOf49
  v41 := Tryz.zeroValue49
  t44 := Tryz.underlying199
  a44 := Tryz.isAgg199
  z44 := Tryz.sizeOf199
  v44 := Tryz.zeroValue199
  t46 := Tryz.underlying201
  a46 := Tryz.isAgg201
  z46 := Tryz.sizeOf201
  v46 := Tryz.zeroValue201
  t53 := Tryz.underlying213
  a53 := Tryz.isAgg213
  z53 := Tryz.sizeOf213
  v53 := Tryz.zeroValue213
  t57 := Tryz.underlying217
  a57 := Tryz.isAgg217
  z57 := Tryz.sizeOf217
  v57 := Tryz.zeroValue217
  t63 := Tryz.underlying223
  a63 := Tryz.isAgg223
  z63 := Tryz.sizeOf223
  v63 := Tryz.zeroValue223
  t64 := Tryz.underlying224
  a64 := Tryz.isAgg224
  z64 := Tryz.sizeOf224
  v64 := Tryz.zeroValue224
end Go.Proofs

/-
  The sort of strings of the library at this program: the kit's contract, laid.
-/
namespace Go.Proofs
open Go.RowKit Go.Sort Go.Shelf

theorem Tryz.sort_str (blk off cap : Nat) (ss : List (List UInt8)) (w : World) (hH : Holds encStr w blk off ss.toArray) (hblk : blk < w.heap.size) (hsz : ss.length < 4611686018427387904) :
    Calls Tryz.prog 107 #[.slice (some ⟨blk, off, none⟩) ss.length cap] w fun e w' =>
      e = .returned (.tuple #[]) ∧ ∃ n os, w' = grow (putRow encStr (Sort.ahead w n) blk off (ss.mergeSort fun x y => decide (x ≤ y)).toArray) os := AnyM.slices_Sort_string Tryz.sortA blk off cap ss w hH hblk hsz
theorem Tryz.sort_str_none (p : Option Addr) (cap : Nat) (w : World) :
    Calls Tryz.prog 107 #[.slice p 0 cap] w fun e w' => e = .returned (.tuple #[]) ∧ w' = w := AnyM.slices_Sort_string_none Tryz.sortA p cap w
end Go.Proofs
namespace Go.Proofs
open Go Go.HC

/-- Names in their order. -/
def sortN (xs : List Nm) : List Nm := ((xs.map fun x => x.data.toList).mergeSort fun x y => decide (x ≤ y)).map fun l => ⟨l.toArray⟩
theorem sortN_perm (xs : List Nm) : (sortN xs).Perm xs := by
  have h := (List.mergeSort_perm (xs.map fun x => x.data.toList) fun x y => decide (x ≤ y)).map fun l => (⟨l.toArray⟩ : Nm)
  refine h.trans (List.Perm.of_eq ?_)
  rw [List.map_map]
  conv => rhs; rw [← List.map_id xs]
  apply List.map_congr_left
  intro x _
  simp
theorem sortN_length (xs : List Nm) : (sortN xs).length = xs.length := (sortN_perm xs).length_eq
theorem sortN_sorted (xs : List Nm) : (sortN xs).Pairwise fun x y => ¬ nLt y x := by
  unfold sortN
  rw [List.pairwise_map]
  have h := List.pairwise_mergeSort (le := fun x y : List UInt8 => decide (x ≤ y)) (fun a b c h1 h2 => by simp only [decide_eq_true_eq] at *; exact List.le_trans h1 h2)
    (fun a b => by simp only [Bool.or_eq_true, decide_eq_true_eq]; exact List.le_total a b) (xs.map fun x => x.data.toList)
  refine h.imp ?_
  intro a b hab
  simp only [decide_eq_true_eq] at hab
  unfold nLt
  simp only
  exact List.not_lt.2 hab
theorem sorted_names {xs ys : List Nm} (hp : xs.Perm ys) (hs : ys.Pairwise nLt) : sortN xs = ys := by
  refine ((sortN_perm xs).trans hp).eq_of_pairwise (le := fun x y => ¬ nLt y x) ?_ (sortN_sorted xs) (hs.imp fun h => nLt_asymm h)
  intro a b _ _ h1 h2
  refine Classical.byContradiction fun h3 => ?_
  exact h1 (nLt_total h2 h3)

theorem sort_spec {h : Heap} {v : Value} {xs : List Nm} {own : Option Nat} (hg : Grow rStr 9 none_ h v xs own) (hn : xs.length < 1099511627776) :
    CallH Tryz.prog 107 #[v] h fun r h' => r = .tuple #[] ∧ Grow rStr 9 none_ h' v (sortN xs) own ∧ Keep (fun b => own = some b) h h' := by
  rcases hg with ⟨rfl, rfl, rfl⟩ | ⟨bk, c, arr, cs, rfl, rfl, h1, h2, h3, h4, h5, h6, h7⟩
  · intro w hw
    refine (Tryz.sort_str_none none 0 w).mono ?_
    rintro e w' ⟨rfl, rfl⟩
    exact ⟨_, rfl, .refl _, rfl, hw ▸ .inl ⟨rfl, by simp [sortN], rfl⟩, hw ▸ .refl _ _⟩
  · intro w hw
    subst hw
    have hcs := strs_map.1 h7
    have h3' : arr.size = c := by simpa [rStr] using h3
    have h6' : arr.toList.take xs.length = xs.map Value.string := by
      rw [← hcs, ← h6]; simp [rStr]
    have hget : ∀ j (hj : j < xs.length), arr[j]? = some (.string xs[j]) := by
      intro j hj
      have := congrArg (·[j]?) h6'
      simp only [List.getElem?_take, hj, if_true, List.getElem?_map, List.getElem?_eq_getElem hj, Option.map_some] at this
      simpa using this
    have hlen : ((xs.map fun x => x.data.toList)).length = xs.length := by simp
    have hc := Tryz.sort_str bk 0 c (xs.map fun x => x.data.toList) w (by
      intro j hj
      have hj' : j < xs.length := by simpa using hj
      constructor
      · show cellH w.heap _ = _
        unfold cellH
        simp only [h1, Nat.zero_add, Option.isSome_none, Bool.false_eq_true, if_false]
        rw [hget j hj']
        rw [getElem!_pos _ j hj]
        simp
      · show frozenH w.heap _ = _
        unfold frozenH
        simp [h1]) (lt_of_blk h1) (by simp; omega)
    rw [hlen] at hc
    refine hc.mono ?_
    rintro e w' ⟨rfl, n, os, rfl⟩
    have hbk := lt_of_blk h1
    generalize hd : ((xs.map fun x => x.data.toList).mergeSort fun x y => decide (x ≤ y)) = d
    have hdl : d.length = xs.length := by rw [← hd]; simp
    have hH : (Sort.grow (Sort.putRow encStr (Sort.ahead w n) bk 0 d.toArray) os).heap = (w.heap.modify bk (Sort.onCells (Sort.putCells encStr 0 d.toArray))) ++ os := rfl
    refine ⟨_, rfl, ⟨rfl, rfl, rfl, by simp [Sort.putRow, Sort.mapBlock, Sort.grow]⟩, rfl, ?_, ?_⟩
    · refine .inr ⟨bk, c, Sort.putCells encStr 0 d.toArray arr, d.map encStr, by rw [sortN_length], rfl, ?_, h2, ?_, by rw [sortN_length]; exact h4, h5, ?_, ?_⟩
      · rw [hH, Array.getElem?_append_left (by simpa using hbk), Array.getElem?_modify, if_pos rfl, h1]
        rfl
      · simp [Sort.putCells, h3]
      · rw [sortN_length]
        apply List.ext_getElem?
        intro i
        simp only [List.getElem?_take, Sort.putCells]
        by_cases hi : i < xs.length
        · have : i < arr.size := by omega
          simp [rStr, hi, this, hdl]
        · simp [rStr, hi, hdl]
      · refine strs_map.2 ?_
        unfold sortN
        rw [hd, List.map_map]
        rfl
    · refine ⟨by rw [hH]; simp, fun b hb hne => ?_⟩
      rw [hH, Array.getElem?_append_left (by simpa using hb), Array.getElem?_modify, if_neg (fun e => hne (by rw [e]))]
end Go.Proofs

/-
  The names of the program's store: collected, sorted, told.
-/
namespace Go.Proofs
open Go Go.HC

set_option maxRecDepth 10000 in
theorem appendSeq_spec {f : FuncId} {caps : Array Value} {A : List Nm → Nm → Prop} {Done : List Nm → Prop} {Fp : Nat → Prop} {h : Heap} (hfn : FnOk Tryz.prog f)
    (hit : Iter Tryz.prog f #[] caps (fun x : Nm => #[.string x]) A Done Fp h) (hA : ∀ xs x, A xs x → xs.length < 1000000000) (hFp : ∀ b, Fp b → b < h.size) :
    CallH Tryz.prog 137 #[.slice none 0 0, .func (.func f) #[] caps] h fun r h' => ∃ xs own, Done xs ∧ Grow rStr 9 none_ h' r xs own ∧ Keep none_ h h' ∧ ∀ b, own = some b → h.size ≤ b := by
  refine enter [.tmp 4] Tryz.func137 rfl rfl (by kernel_rfl) rfl ?_
  simp -dsimp [boxS_eq]
  generalize hH : h.push _ = h1
  have k1 : Keep none_ h h1 := by rw [← hH]; exact .push _ _ _
  have hs1 : h1.size = h.size + 1 := by rw [← hH]; simp
  have hb1 : h1[h.size]? = some (.cells #[.slice none 0 0] 80 (0, 0)) := by rw [← hH]; exact push_new _ _
  have hit1 : Iter Tryz.prog f #[] caps (fun x : Nm => #[.string x]) A Done Fp h1 := by
    intro y J Z D h2 hyv hy hJ hsz hF
    refine hit y J Z D h2 hyv hy hJ (by omega) fun b hb => ?_
    obtain ⟨_, g2, g3⟩ := hF b hb
    exact ⟨hFp b hb, g2, g3.trans (k1.blk b (hFp b hb) (fun h => h))⟩
  refine range_iter (val := fun x : Nm => #[.string x]) (A := A) (Done := Done) (Fp := Fp) (f := f) (first := #[]) (caps := caps) (by simp) hfn hit1
    (fun xs D h2 => ∃ own v, h2[h.size]? = some (.cells #[v] 80 (0, 0)) ∧ Grow rStr 9 none_ h2 v xs own ∧ own ≠ some h.size ∧ D = fun b => b = h.size ∨ own = some b) (fun _ _ _ => False)
    ?_ ?_ (fun h => h.elim) (fun h => h.elim) (fun b => b = h.size) ⟨none, _, hb1, .nil _ _ _ _, by simp, by funext b; simp⟩ (fun b hb => ⟨by have := hFp b hb; omega, by have := hFp b hb; omega⟩)
    (by kernel_rfl) (by kernel_rfl) (fun _ => rfl) (by intro p hp; simp at hp; subst hp; decide) ?_ ?_ (fun _ _ _ h => h.elim)
  · rintro xs D h2 ⟨own, v, e1, e2, e3, rfl⟩ b (rfl | hb)
    · exact lt_of_blk e1
    · exact e2.own_lt b hb
  · rintro xs D h2 h3 ⟨own, v, e1, e2, e3, rfl⟩ hsz hk
    exact ⟨own, v, (hk _ (.inl rfl)).trans e1, e2.mono (fun _ h => h.elim) (fun b hb => ⟨fun h => h, hk b (.inr hb)⟩), e3, rfl⟩
  · rintro lp xs x D h2 ⟨own, v, e1, e2, e3, rfl⟩ hAx hlp1 hlp2 hnlp hnd
    simp -dsimp
    refine ⟨.refl _ _, fun h3 hs3 ho3 => ?_⟩
    have hne : h.size ≠ lp := by omega
    have e1' := (ho3 _ hne).trans e1
    have hnol : own ≠ some lp := fun e => hnlp (.inr e)
    have e2' : Grow rStr 9 none_ h3 v xs own := e2.mono (fun _ h => h.elim) fun b hb => ⟨fun h => h, ho3 b (fun e => hnol (e ▸ hb))⟩
    have hlen := hA xs x hAx
    obtain ⟨a, c, rfl⟩ := e2.val
    simp -dsimp [e1']
    refine append_grow (F2 := fun b => b = h3.size) strT (e2'.push (fun _ h => h.elim) _) (fun _ h => h.elim) (ys := [x]) rfl
      (.inr ⟨h3.size, 0, _, _, _, rfl, rfl, push_new _ _, rfl⟩) (.single rfl) (by simp; omega) (by simp; omega) ?_
    intro tv' h4 own' hg hk ho
    have hps : (h3.push (.cells #[.string x] 9)).size = h3.size + 1 := by simp
    rw [hps] at ho
    have hsz4 := hk.size
    rw [hps] at hsz4
    have hb3 : h.size < h3.size := lt_of_blk e1'
    have hold : ∀ b, b < h3.size → own ≠ some b → h4[b]? = h3[b]? := fun b hb hn => by
      rw [hk.blk b (by omega) hn, push_old _ hb]
    have e1'' := (hold _ hb3 e3).trans e1'
    obtain ⟨a', c', rfl⟩ := hg.val
    simp -dsimp [e1'']
    have hlen' : (xs ++ [x]).length = xs.length + 1 := by simp
    rw [hlen'] at hg
    have ho' : own' ≠ some h.size := fun e => (ho _ e).elim e3 (fun h => by omega)
    refine ⟨_, ⟨own', _, set_same _ (by omega), hg.mono (fun _ h => h.elim) (fun b hb => ⟨fun h => h, set_other _ (fun e => ho' (e ▸ hb))⟩), ho', rfl⟩, ⟨by simp; omega, ?_⟩, ?_⟩
    · intro b hb hn
      simp only [not_or] at hn
      rw [set_other _ (fun e => hn.1.1 e.symm), hold b hb hn.1.2]
    · rintro b (rfl | hb)
      · exact .inl (.inl rfl)
      · exact (ho b hb).imp .inr (fun h => by omega)
  · rintro xs D h2 hdone ⟨own, v, e1, e2, e3, rfl⟩ hdf hk hD
    obtain ⟨a, c, rfl⟩ := e2.val
    simp -dsimp [e1]
    rw [takeS_cons hdf]
    simp -dsimp
    have hne : h1.size ≠ h.size := by omega
    have hno : own ≠ some h1.size := fun e => (hD _ (.inr e)).elim (fun h => by omega) (fun h => by omega)
    have hk2 : Keep none_ h (h2.setIfInBounds h1.size (.deferred none)) := by
      refine ⟨by have := hk.size; simp; omega, fun b hb _ => ?_⟩
      rw [set_other _ (by omega), hk.blk b (by omega) (by omega), k1.blk b hb (fun h => h)]
    refine ⟨xs, hdone, own, e2.mono (fun _ h => h.elim) (fun b hb => ⟨fun h => h, set_other _ (fun e => hno (e ▸ hb))⟩), hk2, fun b hb => ?_⟩
    rcases hD b (.inr hb) with h | h
    · omega
    · omega
end Go.Proofs

/-
  The names of the program's store, told in their order.
-/
namespace Go.Proofs
open Go Go.HC

set_option maxRecDepth 10000 in
theorem collect_spec {f : FuncId} {caps : Array Value} {A : List Nm → Nm → Prop} {Done : List Nm → Prop} {Fp : Nat → Prop} {h : Heap} (hfn : FnOk Tryz.prog f)
    (hit : Iter Tryz.prog f #[] caps (fun x : Nm => #[.string x]) A Done Fp h) (hA : ∀ xs x, A xs x → xs.length < 1000000000) (hFp : ∀ b, Fp b → b < h.size) :
    CallH Tryz.prog 106 #[.func (.func f) #[] caps] h fun r h' => ∃ xs own, Done xs ∧ Grow rStr 9 none_ h' r xs own ∧ Keep none_ h h' ∧ ∀ b, own = some b → h.size ≤ b := by
  refine enter [.tmp 2] Tryz.func106 rfl rfl (by kernel_rfl) rfl ?_
  simp -dsimp
  refine call_by (appendSeq_spec hfn hit hA hFp) ?_
  rintro r h' ⟨xs, own, h1, h2, h3, h4⟩
  obtain ⟨a, c, rfl⟩ := h2.val
  simp -dsimp
  exact ⟨xs, h1, own, h2, h3, h4⟩

set_option maxRecDepth 10000 in
theorem sorted_spec {f : FuncId} {caps : Array Value} {A : List Nm → Nm → Prop} {Done : List Nm → Prop} {Fp : Nat → Prop} {h : Heap} (hfn : FnOk Tryz.prog f)
    (hit : Iter Tryz.prog f #[] caps (fun x : Nm => #[.string x]) A Done Fp h) (hA : ∀ xs x, A xs x → xs.length < 1000000000) (hD : ∀ xs, Done xs → xs.length < 1000000000) (hFp : ∀ b, Fp b → b < h.size) :
    CallH Tryz.prog 72 #[.func (.func f) #[] caps] h fun r h' => ∃ xs own, Done xs ∧ Grow rStr 9 none_ h' r (sortN xs) own ∧ Keep none_ h h' ∧ ∀ b, own = some b → h.size ≤ b := by
  refine enter [.tmp 2] Tryz.func72 rfl rfl (by kernel_rfl) rfl ?_
  simp -dsimp
  refine call_by (collect_spec hfn hit hA hFp) ?_
  rintro r h' ⟨xs, own, h1, h2, h3, h4⟩
  have h2' := h2
  obtain ⟨a, c, rfl⟩ := h2.val
  simp -dsimp
  refine call_by (sort_spec h2' (by have := hD xs h1; omega)) ?_
  rintro r2 h5 ⟨rfl, h6, h7⟩
  simp -dsimp
  refine ⟨xs, h1, own, h6, h3.trans h7 (fun b hb hh => ?_), h4⟩
  have := h4 b hh
  omega

set_option maxRecDepth 10000 in
theorem names_spec {v : Value} {F : Nat → Prop} {h : Heap} {M : Mod} (s : StAt v F h M) {n : Nat} (hn : M.Small n) (hn' : n < 1000000000) :
    CallH Tryz.prog 34 #[v] h fun r h' => ∃ own, Grow rStr 9 none_ h' r M.names own ∧ Keep none_ h h' ∧ ∀ b, own = some b → h.size ≤ b := by
  obtain ⟨bs, bm, es, clock, tv, own, R, rfl, rfl, s⟩ := s
  have hperm := files_perm s.ents s.files s.ok.sorted
  have hel : es.length < 1000000000 := by
    have := hperm.length_eq
    have := hn.files
    simp at *
    omega
  refine enter [.tmp 2] Tryz.func34 rfl rfl (by kernel_rfl) rfl ?_
  have hs := s.str
  simp -dsimp [hs]
  have hkeys : CallH Tryz.prog 73 #[.map (some bm)] h fun r h' => r = .func (.func 108) #[] #[.pointer (some ⟨h.size, 0, none⟩)] ∧ h' = h.push (.cells #[.map (some bm)] 112) := by
    refine enter [.tmp 2] Tryz.func73 rfl rfl (by kernel_rfl) rfl ?_
    simp -dsimp [boxS_eq]
  refine call_by hkeys ?_
  rintro _ _ ⟨rfl, rfl⟩
  simp -dsimp
  have hbm := lt_of_blk s.map
  refine call_by (sorted_spec (A := keyA es) (Done := fun xs => (es.map (·.1)).Perm xs) (Fp := fun b => b = h.size ∨ b = bm) (by simp) (keys_iter (push_new _ _) (push_at s.map) s.ents) ?_ ?_ ?_) ?_
  · rintro xs x ⟨rest, hr⟩
    have := hr.length_eq
    simp at this
    omega
  · intro xs hx
    have := hx.length_eq
    simp at this
    omega
  · rintro b (rfl | rfl)
    · simp
    · simp; omega
  · rintro r h2 ⟨xs, own2, hd, hg, hk, ho⟩
    have hnm : sortN xs = M.names := sorted_names (hd.symm.trans hperm) (by
      unfold Mod.names
      rw [List.pairwise_map]; exact s.ok.sorted)
    rw [hnm] at hg
    obtain ⟨a, c, rfl⟩ := hg.val
    simp -dsimp
    refine call_by (clone_str hg.rep (fun b hb => hb.elim (fun h => h.elim) (hg.own_lt b)) (by have := hn.files; simp [Mod.names]; omega)) ?_
    rintro r h3 ⟨own3, hg3, hk3, ho3⟩
    have hg3' := hg3
    obtain ⟨a', c', rfl⟩ := hg3.val
    simp -dsimp
    have hsz := hk.size
    simp at hsz
    refine ⟨own3, ?_, ?_, fun b hb => by have := ho3 b hb; omega⟩
    · rcases hg3' with hn | ⟨bk, c, arr, cs, e1, e2, e3, e4, e5, e6, e7, e8, e9⟩
      · exact .inl hn
      · exact .inr ⟨bk, c, arr, cs, e1, e2, e3, fun h => h, e5, e6, e7, e8, strs_map.2 (strs_map.1 e9)⟩
    · exact ((Keep.push none_ h _).trans hk (fun _ _ h => h)).trans hk3 (fun _ _ h => h)
end Go.Proofs

/-
  What a crash leaves of the program's store: of one file.
-/
namespace Go.Proofs
open Go Go.HC

/-- A contract is proved with its end out of sight. -/
theorem callH_by {P : Program} {f : FuncId} {args : Array Value} {h : Heap} {Q : Value → Heap → Prop} (hc : ∀ K : Value → Heap → Prop, (∀ v h, Q v h → K v h) → CallH P f args h K) : CallH P f args h Q := hc Q fun _ _ h => h
end Go.Proofs

/-
  HC, part 19: a store into an element of a slice that has a block of its own.
-/
namespace Go.HC
section
variable {α : Type} {R : Rp α} {F : Nat → Prop} {h : Heap}
theorem Elems.setF {d : Nat} {news : List Value} {x : α} (hd : d + news.length ≤ R.sz) : ∀ {xs : List α} {cs : List Value} (i : Nat) (hi : i < xs.length), Elems R F h cs xs →
    (∀ cs, R.rep F h cs xs[i] → R.rep F h (cs.take d ++ news ++ cs.drop (d + news.length)) x) →
    Elems R F h (cs.take (i * R.sz + d) ++ news ++ cs.drop (i * R.sz + d + news.length)) (xs.set i x)
  | [], _, i, hi, _, _ => by simp at hi
  | y :: xs, cs, 0, _, ⟨c1, c2, e, h1, h2⟩, hr => by
    subst e
    have hl := R.len h1
    refine ⟨_, c2, ?_, hr c1 h1, h2⟩
    rw [Nat.zero_mul, Nat.zero_add, List.take_append_of_le_length (by omega), List.drop_append_of_le_length (by omega)]
    simp
  | y :: xs, cs, i + 1, hi, ⟨c1, c2, e, h1, h2⟩, hr => by
    subst e
    have hl := R.len h1
    have ih := Elems.setF hd i (by simpa using hi) h2 (by simpa using hr)
    refine ⟨c1, _, ?_, h1, ih⟩
    have e1 : (i + 1) * R.sz + d = c1.length + (i * R.sz + d) := by rw [hl, Nat.succ_mul]; omega
    rw [e1, List.take_length_add_append, Nat.add_assoc, List.drop_length_add_append]
    simp
/-- A part of an element is written. -/
theorem Grow.setF {e : TypeId} {v : Value} {xs : List α} {own : Option Nat} {d : Nat} {news : List Value} {x : α} {i : Nat} (hg : Grow R e F h v xs own) (hi : i < xs.length) (hd : d + news.length ≤ R.sz) (hone : news.all Value.oneCell' = true)
    (hr : ∀ cs, R.rep F h cs xs[i] → R.rep F h (cs.take d ++ news ++ cs.drop (d + news.length)) x) :
    ∃ bk c o, v = .slice (some ⟨bk, 0, none⟩) xs.length c ∧ own = some bk ∧ writeIn h[bk]? (i * R.sz + d) news = some o ∧ Grow R e F (h.setIfInBounds bk o) v (xs.set i x) own := by
  rcases hg with ⟨_, rfl, _⟩ | ⟨bk, c, arr, cs, rfl, rfl, hb, hf, h1, h2, h3, h4, h5⟩
  · simp at hi
  · have hin : i * R.sz + d + news.length ≤ xs.length * R.sz := by
      have : (i + 1) * R.sz ≤ xs.length * R.sz := Nat.mul_le_mul_right _ hi
      rw [Nat.succ_mul] at this
      omega
    have hsz : i * R.sz + d + news.length ≤ arr.size := by
      have : xs.length * R.sz ≤ c * R.sz := Nat.mul_le_mul_right _ h2
      omega
    have hfr : frozenIn (0, 0) (i * R.sz + d) news.length = false := by
      unfold frozenIn; simp
    have hlt := lt_of_blk hb
    refine ⟨bk, c, .cells (writeC arr (i * R.sz + d) news) e (0, 0), rfl, rfl, ?_, ?_⟩
    · rw [hb]
      show (if _ then _ else _) = _
      rw [if_pos (by rw [hone, hfr]; simpa using hsz)]
    · refine .inr ⟨bk, c, _, _, by rw [List.length_set], rfl, set_same _ hlt, hf, by rw [size_writeC, h1], by rw [List.length_set]; exact h2, h3, rfl, ?_⟩
      have hcl := h5.len
      have := (h5.setF (x := x) hd i hi hr)
      rw [toList_writeC _ _ _ hsz, List.length_set]
      have e1 : ((arr.toList.take (i * R.sz + d) ++ news ++ arr.toList.drop (i * R.sz + d + news.length)).take (xs.length * R.sz)) = cs.take (i * R.sz + d) ++ news ++ cs.drop (i * R.sz + d + news.length) := by
        have hl1 : (arr.toList.take (i * R.sz + d) ++ news).length = i * R.sz + d + news.length := by
          rw [List.length_append, List.length_take]; simp; omega
        rw [List.take_append, List.take_of_length_le (by rw [hl1]; exact hin), hl1, ← h4, List.take_take, Nat.min_eq_left (by omega), List.drop_take]
      rw [e1]
      exact this.mono fun b hFb => ⟨hFb, set_other _ (fun (e : bk = b) => hf (e ▸ hFb))⟩
/-- An element is written. -/
theorem Grow.setE {e : TypeId} {v : Value} {xs : List α} {own : Option Nat} {news : List Value} {x : α} {i : Nat} (hg : Grow R e F h v xs own) (hi : i < xs.length) (hr : R.rep F h news x) :
    ∃ bk c o, v = .slice (some ⟨bk, 0, none⟩) xs.length c ∧ own = some bk ∧ writeIn h[bk]? (i * R.sz) news = some o ∧ Grow R e F (h.setIfInBounds bk o) v (xs.set i x) own := by
  have hl := R.len hr
  have := hg.setF (d := 0) (news := news) (x := x) hi (by omega) (R.one hr) (fun cs hc => by
    rw [List.take_zero, List.nil_append, List.drop_of_length_le (by rw [R.len hc]; omega), List.append_nil]; exact hr)
  simpa using this
end
/-- A block that nobody has set fast. -/
def Thaw (h : Heap) (b : Nat) : Prop := ∀ (c : Array Value) (e : TypeId) (fz : Nat × Nat), h[b]? = some (.cells c e fz) → fz = (0, 0)
/-- From n on; what is new is not set fast. -/
def Nw (n : Nat) (h : Heap) (b : Nat) : Prop := n ≤ b ∧ (0 < n → Thaw h b)
theorem nz {h : Heap} {b : Nat} : Nw 0 h b := ⟨Nat.zero_le _, fun h => absurd h (Nat.lt_irrefl _)⟩
theorem Thaw.at {h h' : Heap} {b : Nat} (t : Thaw h b) (e : h'[b]? = h[b]?) : Thaw h' b := fun c el fz hb => t c el fz (by rw [← e]; exact hb)
theorem Thaw.is {h : Heap} {b : Nat} {c : Array Value} {e : TypeId} (hb : h[b]? = some (.cells c e (0, 0))) : Thaw h b := fun c' e' fz hb' => by
  rw [hb] at hb'; cases hb'; rfl
theorem Nw.less {n n' : Nat} {h : Heap} {b : Nat} (x : Nw n h b) (hn : n' ≤ n) : Nw n' h b := ⟨Nat.le_trans hn x.1, fun h0 => x.2 (Nat.lt_of_lt_of_le h0 hn)⟩
theorem Nw.at {n n' : Nat} {h h' : Heap} {b : Nat} (x : Nw n h b) (hn : n' ≤ n) (e : h'[b]? = h[b]?) : Nw n' h' b := ⟨Nat.le_trans hn x.1, fun h0 => (x.2 (Nat.lt_of_lt_of_le h0 hn)).at e⟩
theorem Nw.is {n : Nat} {h : Heap} {b : Nat} {c : Array Value} {e : TypeId} (hn : n ≤ b) (hb : h[b]? = some (.cells c e (0, 0))) : Nw n h b := ⟨hn, fun _ => .is hb⟩
theorem Grow.notF {α : Type} {R : Rp α} {h : Heap} {e : TypeId} {F : Nat → Prop} {v : Value} {xs : List α} {own : Option Nat} (g : Grow R e F h v xs own) : ∀ b, own = some b → ¬ F b := by
  intro b hb
  rcases g with ⟨_, _, rfl⟩ | ⟨bk, c, arr, cs, _, rfl, _, h1, _⟩
  · cases hb
  · cases hb; exact h1
theorem Grow.thaw {α : Type} {R : Rp α} {h : Heap} {e : TypeId} {F : Nat → Prop} {v : Value} {xs : List α} {own : Option Nat} (g : Grow R e F h v xs own) : ∀ b, own = some b → Thaw h b := by
  intro b hb
  rcases g with ⟨_, _, rfl⟩ | ⟨bk, c, arr, cs, _, rfl, h1, _⟩
  · cases hb
  · cases hb; exact .is h1
end Go.HC

/-
  HC, part 20: a slice is copied ('append([]T{}, b...)').
-/
namespace Go.HC
section
variable {P : Program} {h : Heap} {K : Value → Heap → Prop} {ty : TypeId} {α : Type} {R : Rp α} {F F2 : Nat → Prop}
theorem clone_cells {T e by_ : Nat} {cs : Array Bool} {xs : List α} {a : Option Addr} {n c2 : Nat} {news : List Value} (hT : ElemT P T e R by_) (hF : ∀ b, F b → b < h.size) (hF2 : ∀ b, F2 b → b < h.size)
    (hn : n = xs.length) (hrn : Cells F2 h a news) (hel : Elems R F h news xs) (hbig : xs.length * by_ ≤ 140737488355328) (h63 : xs.length < 9223372036854775808)
    (hk : ∀ v' h' own', Grow R e F h' v' xs own' → Keep none_ h h' → (∀ b, own' = some b → h.size ≤ b) → h.size ≤ h'.size → K v' h') :
    builtinS P .append #[T, T] ty cs #[.slice (some ⟨h.size, 0, none⟩) 0 0, .slice a n c2] (h.push (.cells #[] e)) K := by
  refine append_grow (F2 := F2) hT (Grow.empty R e hF) (fun b hb => by have := hF b hb; simp; omega) hn (hrn.mono fun b hb => ⟨hb, push_old _ (hF2 b hb)⟩) (hel.mono fun b hb => ⟨hb, push_old _ (hF b hb)⟩) (by simpa using hbig) (by simpa using h63) ?_
  intro v' h' own' hg hk' ho
  have hps : (h.push (.cells #[] e)).size = h.size + 1 := by simp
  rw [hps] at ho
  have hs := hk'.size
  rw [hps] at hs
  refine hk v' h' own' (by simpa using hg) ⟨by omega, fun b hb _ => ?_⟩ (fun b hb => (ho b hb).elim (fun e => by cases e; exact Nat.le_refl _) (fun h => by omega)) (by omega)
  rw [hk'.blk b (by omega) (fun e => by cases e; omega), push_old _ hb]
theorem clone_bytes {T e : Nat} {cs : Array Bool} {xs : List UInt8} {a : Option Addr} {n c2 : Nat} (hT : ElemT P T e rByte 1) (hv : SlRep rByte F2 h (.slice a n c2) xs) (hF2 : ∀ b, F2 b → b < h.size) (hbig : xs.length ≤ 140737488355328)
    (hk : ∀ v' h' own', Grow rByte e none_ h' v' xs own' → Keep none_ h h' → (∀ b, own' = some b → h.size ≤ b) → h.size ≤ h'.size → K v' h') :
    builtinS P .append #[T, T] ty cs #[.slice (some ⟨h.size, 0, none⟩) 0 0, .slice a n c2] (h.push (.cells #[] e)) K := by
  obtain ⟨a', c', news, hv', h1, h2, h3, h4⟩ := hv
  cases hv'
  exact clone_cells (F := none_) hT (fun _ h => h.elim) hF2 rfl h3 (bytes_map.2 (bytes_map.1 h4)) (by omega) (by omega) hk
end
end Go.HC

/-
  HC, part 21: a drawn region in which several operations that change the memory stand in no order: a tree of orders.
-/
namespace Go.HC
/-- Orders: one that is written out; or two trees: of those in which i stands ahead of j, and of those in which j stands ahead of i. -/
inductive DT
  | leaf (ds : List Di)
  | node (i j : Nat) (a b : DT)
section
variable {P : Program}
def leafOk (ops : Array Oper) (ds : List Di) : Bool :=
  Region.noSelect ops && pairB ops ds && (ds.map (·.i)).isPerm (List.range ops.size) && ds.all fun d => !d.mv || (match ops[d.i]? with | some o => valOp o.op | none => false)
def treeOk (ops : Array Oper) : DT → Bool
  | .leaf ds => leafOk ops ds
  | .node i j a b => decide (i ≠ j) && decide (i < ops.size) && decide (j < ops.size) && treeOk (addE ops i j) a && treeOk (addE ops j i) b
def treeS (P : Program) (ops : Array Oper) (K : L → Base → Heap → Prop) (l : L) (b : Base) (h : Heap) : DT → Prop
  | .leaf ds => dsem P ops ds [] K l b h
  | .node _ _ x y => treeS P ops K l b h x ∧ treeS P ops K l b h y
theorem treeS_add {ops : Array Oper} {K : L → Base → Heap → Prop} {l : L} {b : Base} {h : Heap} {i j : Nat} : ∀ (t : DT), treeS P ops K l b h t → treeS P (addE ops i j) K l b h t
  | .leaf ds, hd => addE_dsem (i := i) (j := j) ds hd
  | .node _ _ x y, ⟨h1, h2⟩ => ⟨treeS_add x h1, treeS_add y h2⟩
theorem tree_arun {n : Nat} {κ : L → Base → Heap → Prop} {l : L} {b : Base} {h : Heap} {a : Act} {σ : List Nat} (hnd : σ.Nodup) (hfr : IsFr n a l b) : ∀ (t : DT) {ops : Array Oper}, opsOk n ops = true → treeOk ops t = true → σ.Perm (List.range ops.size) → Lin ops [] σ →
    treeS P ops κ l b h t → arun P ops σ (fun a' h' => ∃ l', IsFr n a' l' b ∧ κ l' b h') a h
  | .leaf ds, ops, hok, ht, hp, hlin, hd => by
    unfold treeOk leafOk at ht
    rw [Bool.and_eq_true, Bool.and_eq_true, Bool.and_eq_true] at ht
    obtain ⟨⟨⟨hsel, hpair⟩, hperm⟩, hval⟩ := ht
    have hperm := List.isPerm_iff.1 hperm
    have hcr := crun_of_dsem (P := P) hok ds (pa := []) hval (by simp) hfr hd
    refine arun_of_crun hsel _ ds [] [] a _ (hp.trans hperm.symm) hnd (fun d hd => ?_) (fun y hy => by cases hy) hlin (fun d _ => by simp) hpair hcr
    have : d.i ∈ List.range ops.size := hperm.subset (List.mem_map.2 ⟨d, hd, rfl⟩)
    simp at this
    simp [this]
  | .node i j x y, ops, hok, ht, hp, hlin, hd => by
    unfold treeOk at ht
    rw [Bool.and_eq_true, Bool.and_eq_true, Bool.and_eq_true, Bool.and_eq_true] at ht
    obtain ⟨⟨⟨⟨hij, hi⟩, hj⟩, h1⟩, h2⟩ := ht
    have hij := of_decide_eq_true hij
    have hi := of_decide_eq_true hi
    have hj := of_decide_eq_true hj
    rcases two_orders hnd (hp.symm.subset (by simpa using hi)) (hp.symm.subset (by simpa using hj)) hij with ho | ho
    · exact addE_arun (i := i) (j := j) _ (tree_arun hnd hfr x (addE_opsOk hok) h1 (by rw [addE_size]; exact hp) (addE_lin hlin ho) (treeS_add x hd.1))
    · exact addE_arun (i := j) (j := i) _ (tree_arun hnd hfr y (addE_opsOk hok) h2 (by rw [addE_size]; exact hp) (addE_lin hlin ho) (treeS_add y hd.2))
def drawOkT (ops : Array Oper) (t : DT) : Bool := (!Region.departs ops || (upM .text ops && upM .gc ops)) && upB ops && treeOk ops t
theorem draw_ruleT {n : Nat} {ro : Option Nat} {id : Nat} {κ : Kont} {l : L} {b : Base} {h : Heap} {ops : Array Oper} (t : DT) (hd : drawOkT ops t = true) (hok : opsOk n ops = true)
    (hc : treeS P ops κ.nx l b h t) : gsem P n ro (.region id ops true) κ l b h := by
  intro a w hw hfr fr k cs hkd hro
  subst hw
  unfold drawOkT at hd
  rw [Bool.and_eq_true, Bool.and_eq_true] at hd
  obtain ⟨⟨hdep, hup⟩, ht⟩ := hd
  let tp := w.tape w.drawn (.order fr.fn id)
  obtain ⟨hp1, hlin⟩ := sched_all (mixed := P.follows .mixedOrders) hdep hup tp
  have har := tree_arun (P := P) (κ := κ.nx) (hp1.symm.nodup List.nodup_range) hfr t hok ht hp1 hlin hc
  obtain ⟨a', w', hs, ⟨l', hfr', hk⟩, hst⟩ := steps_arun (P := P) (d := b.d) (fr := fr) (k := k) (cs := cs) hok _ (w := { w with drawn := w.drawn + 1 }) hfr.size hfr.defers har
  exact ⟨.nx, a', w', l', b, ⟨hs.os, hs.tape, hs.output, (by first | exact hs.drawn | exact Nat.le_trans (Nat.le_succ _) hs.drawn)⟩, hfr', hk, .head stepR_region_draw hst⟩
/-- A tree of orders, for simp. -/
def treeW (P : Program) (ops : List Oper) (K : L → Base → Heap → Prop) (l : L) (b : Base) (h : Heap) : DT → Prop
  | .leaf ds => dw P ops ds [] K l b h
  | .node _ _ x y => treeW P ops K l b h x ∧ treeW P ops K l b h y
theorem treeW_leaf {ops : List Oper} {K : L → Base → Heap → Prop} {l : L} {b : Base} {h : Heap} {ds : List Di} : treeW P ops K l b h (.leaf ds) = dw P ops ds [] K l b h := _root_.id rfl
theorem treeS_of {ops : List Oper} {K : L → Base → Heap → Prop} {l : L} {b : Base} {h : Heap} : ∀ (t : DT), treeW P ops K l b h t → treeS P ops.toArray K l b h t
  | .leaf ds, hd => dsem_of_dwF ds (by simp) hd
  | .node _ _ x y, ⟨h1, h2⟩ => ⟨treeS_of x h1, treeS_of y h2⟩
theorem drawn_byT {n : Nat} {ro : Option Nat} {id : Nat} {κ : Kont} {l : L} {b : Base} {h : Heap} {ops : List Oper} (t : DT) (hd : drawOkT ops.toArray t = true) (hok : opsOk n ops.toArray = true)
    (hc : treeW P ops κ.nx l b h t) : gs P n ro (.region id ops.toArray true) κ l b h := draw_ruleT t hd hok (treeS_of t hc)
end
end Go.HC
namespace Go.HC
theorem cut_cells {α : Type} {R : Rp α} {F G : Nat → Prop} {h : Heap} {a : Option Addr} {cs : List Value} {xs : List α} {i j c : Nat} (hc : Cells G h a cs) (he : Elems R F h cs xs) (h1 : i ≤ j) (h2 : j ≤ xs.length) (h3 : xs.length ≤ c) :
    Cells G h (piece a i c R.sz) ((cs.drop (i * R.sz)).take ((j - i) * R.sz)) ∧ Elems R F h ((cs.drop (i * R.sz)).take ((j - i) * R.sz)) ((xs.drop i).take (j - i)) := by
  refine ⟨?_, (he.drop i).take (j - i)⟩
  by_cases hij : i = j
  · left; subst hij; simp
  · rcases hc with h0 | ⟨bk, off, arr, e, fz, rfl, q1, q2, q3⟩
    · left; rw [h0]; simp
    · have hp : piece (some ⟨bk, off, none⟩) i c R.sz = some ⟨bk, off + i * R.sz, none⟩ := by
        unfold HC.piece
        rw [if_neg (by omega), offs_mk]
      rw [hp]
      refine Cells.take _ (Cells.drop (i * R.sz) (.inr ⟨bk, off, arr, e, fz, rfl, q1, q2, q3⟩) ?_)
      rw [he.len]
      exact Nat.mul_le_mul_right _ (by omega)
end Go.HC

/-
  HC, part 22: a scope in which the run jumps back to one label.
-/
namespace Go.HC
/-- A jump back to label t, nearer the end. -/
def JumpK {σ : Type} (S : σ → L) (D : σ → List Nat) (J : σ → Heap → Prop) (μ : σ → Nat) (t m : Nat) (t' : Nat) (l : L) (b : Base) (h : Heap) : Prop :=
  t' = t ∧ ∃ s', Sub (S s') l b ∧ b.d = D s' ∧ J s' h ∧ μ s' < m
section
variable {P : Program} {n : Nat} {ro : Option Nat} {c : Code} {κ : Kont} {l : L} {b : Base} {h : Heap}
theorem stepR_scope {b : Frame} {a : Act} {k : List Item} {cs : List Frame} {w : World} {c : Code} : step P (lone (b.atR a (.code (.scope c) :: k)) cs w) = .next (lone (b.atR a (.code c :: .inScope c :: k)) cs w) :=
  step_lone_go (by simp [stepG, stepG.exec, Frame.atR])
theorem stepR_inScope {b : Frame} {a : Act} {k : List Item} {cs : List Frame} {w : World} {c : Code} : step P (lone (b.atR a (.inScope c :: k)) cs w) = .next (lone (b.atR a k) cs w) :=
  step_lone_go (by simp [stepG, stepG.exec, Frame.atR])
theorem scope_rule {σ : Type} (t : Nat) (rest : Code) (hf : findLabel c t = some rest) (S : σ → L) (D : σ → List Nat) (J : σ → Heap → Prop) (μ : σ → Nat) (m0 : Nat) (hok : codeOk n c = true) (hok2 : codeOk n rest = true)
    (first : csem P n ro c { κ with gt := JumpK S D J μ t m0 } l b h)
    (pass : ∀ s h g, J s h → csem P n ro rest { κ with gt := JumpK S D J μ t (μ s) } (S s) ⟨g, D s⟩ h) : gsem P n ro (.scope c) κ l b h := by
  intro a w hw hfr fr k cs hkd hro
  have hg : ∀ k, gotoIn t (.inScope c :: k) = some (.code rest :: .inScope c :: k) := by intro k; simp [gotoIn, hf]
  have key : ∀ m s (a : Act) (w : World) g, μ s = m → J s w.heap → IsFr n a (S s) ⟨g, D s⟩ →
      ∃ e a' w' l' b', Same w w' ∧ IsFr n a' l' b' ∧ κ.at e l' b' w'.heap ∧ ArrR P (lone (fr.atR a (.code rest :: .inScope c :: k)) cs w) fr k cs e a' w' := by
    intro m
    induction m using Nat.strongRecOn with
    | _ m ih =>
      intro s a w g hm hJ hfr
      obtain ⟨e, a', w', l', b', hs, hfr', hk, harr⟩ := csem_sound P n ro rest _ _ _ _ hok2 (pass s w.heap g hJ) a w rfl hfr fr (.inScope c :: k) cs hkd hro
      cases e with
      | nx => exact ⟨.nx, a', w', l', b', hs, hfr', hk, Steps.trans harr (.one stepR_inScope)⟩
      | rt => exact ⟨.rt, a', w', l', b', hs, hfr', hk, harr⟩
      | ex id => obtain ⟨td, x, st⟩ := harr; exact ⟨.ex id, a', w', l', b', hs, hfr', hk, td, by simpa [exitTo] using x, st⟩
      | gt tt =>
        obtain ⟨rfl, s', hsub, hd, hJ', hlt⟩ := hk
        obtain ⟨td, x, st⟩ := harr
        have hfr2 := hfr'.clean hsub
        rw [hd] at hfr2
        obtain ⟨e, a'', w'', l'', b'', hs', hfr'', hk', harr'⟩ := ih (μ s') (hm ▸ hlt) s' a' w' _ rfl hJ' hfr2
        exact ⟨e, a'', w'', l'', b'', hs.trans hs', hfr'', hk', .of_steps (st.trans (.one (stepR_goto (x.trans (hg k))))) harr'⟩
  obtain ⟨e, a', w', l', b', hs, hfr', hk, harr⟩ := csem_sound P n ro c _ _ _ _ hok first a w hw hfr fr (.inScope c :: k) cs hkd hro
  have h1 : Steps P (lone (fr.atR a (.code (.scope c) :: k)) cs w) (lone (fr.atR a (.code c :: .inScope c :: k)) cs w) := .one stepR_scope
  cases e with
  | nx => exact ⟨.nx, a', w', l', b', hs, hfr', hk, h1.trans (Steps.trans harr (.one stepR_inScope))⟩
  | rt => obtain ⟨td, st⟩ := harr; exact ⟨.rt, a', w', l', b', hs, hfr', hk, td, h1.trans st⟩
  | ex id => obtain ⟨td, x, st⟩ := harr; exact ⟨.ex id, a', w', l', b', hs, hfr', hk, td, by simpa [exitTo] using x, h1.trans st⟩
  | gt tt =>
    obtain ⟨rfl, s', hsub, hd, hJ', _⟩ := hk
    obtain ⟨td, x, st⟩ := harr
    have hfr2 := hfr'.clean hsub
    rw [hd] at hfr2
    obtain ⟨e, a'', w'', l'', b'', hs', hfr'', hk', harr'⟩ := key _ s' a' w' _ rfl hJ' hfr2
    exact ⟨e, a'', w'', l'', b'', hs.trans hs', hfr'', hk', .of_steps (h1.trans (st.trans (.one (stepR_goto (x.trans (hg k)))))) harr'⟩
/-- The same, for simp. -/
theorem scope {σ : Type} (t : Nat) (rest : Code) (hf : findLabel c t = some rest) (S : σ → L) (D : σ → List Nat) (J : σ → Heap → Prop) (μ : σ → Nat) (m0 : Nat) (hok : codeOk n c = true) (hok2 : codeOk n rest = true)
    (first : cs P n ro c { κ with gt := JumpK S D J μ t m0 } l b h)
    (pass : ∀ s h g, J s h → cs P n ro rest { κ with gt := JumpK S D J μ t (μ s) } (S s) ⟨g, D s⟩ h) : gs P n ro (.scope c) κ l b h := scope_rule t rest hf S D J μ m0 hok hok2 first pass
end
/-- A contract is proved with its end out of sight. -/
theorem callH_by {P : Program} {f : FuncId} {args : Array Value} {h : Heap} {Q : Value → Heap → Prop} (hc : ∀ K : Value → Heap → Prop, (∀ v h, Q v h → K v h) → CallH P f args h K) : CallH P f args h Q := hc Q fun _ _ h => h
/-- A round of a loop has ended well: some state that is nearer the end. -/
def LoopK {σ : Type} (S : σ → L) (D : σ → List Nat) (J : σ → Heap → Prop) (μ : σ → Nat) (s : σ) (l : L) (b : Base) (h : Heap) : Prop := ∃ s', Sub (S s') l b ∧ b.d = D s' ∧ J s' h ∧ μ s' < μ s
theorem loop' {P : Program} {n : Nat} {ro : Option Nat} {c : Code} {κ : Kont} {l : L} {b : Base} {h : Heap} {σ : Type} (S : σ → L) (D : σ → List Nat) (J : σ → Heap → Prop) (μ : σ → Nat) (s0 : σ) (hS : Sub (S s0) l b) (hD : b.d = D s0) (hJ : J s0 h) (hok : codeOk n c = true)
    (round : ∀ s h g, J s h → cs P n ro c { κ with nx := LoopK S D J μ s } (S s) ⟨g, D s⟩ h) : gs P n ro (.loop c) κ l b h := loop S D J μ s0 hS hD hJ hok round
theorem Grow.elem {α : Type} {R : Rp α} {e : TypeId} {F : Nat → Prop} {h : Heap} {a : Option Addr} {n c : Nat} {xs : List α} {own : Option Nat} (hg : Grow R e F h (.slice a n c) xs own) (k : Nat) (hk : k < xs.length) :
    ∃ bk cs, a = some ⟨bk, 0, none⟩ ∧ own = some bk ∧ R.rep F h cs xs[k] ∧ HC.cellsIn h[bk]? (k * R.sz) R.sz = some cs := by
  rcases hg with ⟨_, rfl, _⟩ | ⟨bk, c', arr, cs, hv, rfl, hb, hf, h1, h2, h3, h4, h5⟩
  · simp at hk
  · cases hv
    refine ⟨bk, _, rfl, rfl, h5.get k hk, ?_⟩
    have hlen := h5.len
    have h6 : k * R.sz + R.sz ≤ xs.length * R.sz := by rw [← Nat.succ_mul]; exact Nat.mul_le_mul_right _ hk
    have h7 : xs.length * R.sz ≤ c * R.sz := Nat.mul_le_mul_right _ h2
    rw [hb, cellsIn_some, if_pos (by omega), ← h4, List.drop_take, List.take_take, Nat.min_eq_left (by omega)]
theorem cellsIn_cell {o : Option Obj} {i n d : Nat} {cs : List Value} (h : cellsIn o i n = some cs) (hd : d < n) : cellIn o (i + d) = cs[d]? := by
  cases o with
  | none => simp [cellsIn] at h
  | some o =>
    cases o with
    | cells c e fz =>
      rw [cellsIn_some] at h
      split at h
      · simp only [Option.some.injEq] at h
        rw [cellIn_some, ← h, List.getElem?_take, if_pos hd, List.getElem?_drop]
        simp
      · cases h
    | _ => simp [cellsIn] at h
end Go.HC

/-
  What a crash leaves of the program's store.
-/
namespace Go.Proofs
open Go Go.HC

/-- Where a crash stands: what is gone over, what is left to go over, what is in the new store. -/
structure CrashAt (M : Mod) (ks : List Int) (done rest out : Files) (ks' : List Int) : Prop where
  all : M.files = done ++ rest
  sum : crashF ks M.files = out ++ crashF ks' rest
  lt : ∀ q ∈ out, ∀ p ∈ rest, nLt q.1 p.1
/-- One more file. -/
theorem CrashAt.step {M : Mod} {ks : List Int} {done rest out : Files} {ks' : List Int} {p : Nm × FileM} (hs : SortedF M.files) (c : CrashAt M ks done (p :: rest) out ks') :
    CrashAt M ks (done ++ [p]) rest (match (if p.2.safe = true then p.2.sure else leftF p.2 (ks'.headD 0)) with | some b => out ++ [(p.1, ⟨b, some b, true⟩)] | none => out) (if p.2.safe = true then ks' else ks'.tail) := by
  obtain ⟨h1, h2, h3⟩ := c
  have hs2 : SortedF (p :: rest) := by
    rw [h1] at hs
    exact (List.pairwise_append.1 hs).2.1
  have hs3 := (List.pairwise_cons.1 hs2).1
  refine ⟨by rw [h1]; simp, ?_, ?_⟩
  · rw [h2, crashF]
    generalize (if p.2.safe = true then p.2.sure else leftF p.2 (ks'.headD 0)) = o
    cases o <;> simp
  · split
    · intro q hq r hr
      rcases List.mem_append.1 hq with hq | hq
      · exact h3 q hq r (List.mem_cons_of_mem _ hr)
      · simp only [List.mem_singleton] at hq
        subst hq
        exact hs3 r hr
    · exact fun q hq r hr => h3 q hq r (List.mem_cons_of_mem _ hr)
end Go.Proofs

/-
  The contract of the program's store: a crash.
-/
namespace Go.Proofs
open Go Go.HC

end Go.Proofs

/-
  The law's small functions: the chapter's example, numbers within a bound.
-/
namespace Go.Proofs
open Go Go.HC

end Go.Proofs

/-
  StoreKeeps: the law's walk.
-/
namespace Go.Proofs
open Go Go.HC

end Go.Proofs

/-
  The document's store in memory: a row of files in the order of their names.
-/
namespace Go.HC
/-- Where a name stands, or would stand. -/
def posF (x : Nm) : Files → Nat
  | [] => 0
  | p :: l => if nLt p.1 x then posF x l + 1 else 0
theorem posF_le (x : Nm) : ∀ (l : Files), posF x l ≤ l.length
  | [] => Nat.le_refl _
  | p :: l => by
    rw [posF]
    split
    · simp; exact posF_le x l
    · exact Nat.zero_le _
theorem look_pos {x : Nm} : ∀ {l : Files}, SortedF l → lookF x l = match l[posF x l]? with | some p => if p.1 = x then some p.2 else none | none => none
  | [], _ => rfl
  | p :: l, hs => by
    obtain ⟨h1, h2⟩ := List.pairwise_cons.1 hs
    rw [lookF, posF]
    by_cases hlt : nLt p.1 x
    · rw [if_neg (fun e => nLt_irrefl x (by rwa [← e] at hlt)), if_pos hlt, look_pos h2]
      simp
    · rw [if_neg hlt]
      by_cases he : x = p.1
      · subst he; simp
      · rw [if_neg he, lookF_lt fun q hq => nLt_trans (nLt_total hlt (fun e => he e.symm)) (h1 q hq)]
        simp [Ne.symm he]
theorem put_new {x : Nm} {f : FileM} : ∀ {l : Files}, SortedF l → lookF x l = none → putF x f l = l.take (posF x l) ++ [(x, f)] ++ l.drop (posF x l)
  | [], _, _ => rfl
  | p :: l, hs, hl => by
    obtain ⟨h1, h2⟩ := List.pairwise_cons.1 hs
    rw [lookF] at hl
    by_cases he : x = p.1
    · rw [if_pos he] at hl; cases hl
    · rw [if_neg he] at hl
      rw [putF, if_neg he, posF]
      by_cases hlt : nLt p.1 x
      · rw [if_neg (nLt_asymm hlt), if_pos hlt, put_new h2 hl]
        simp
      · rw [if_pos (nLt_total hlt (fun e => he e.symm)), if_neg hlt]
        simp
theorem put_old {x : Nm} {f g : FileM} : ∀ {l : Files}, SortedF l → lookF x l = some g → putF x f l = l.set (posF x l) (x, f)
  | [], _, h => by cases h
  | p :: l, hs, hl => by
    obtain ⟨h1, h2⟩ := List.pairwise_cons.1 hs
    rw [lookF] at hl
    by_cases he : x = p.1
    · rw [putF, if_pos he, posF, if_neg (by rw [he]; exact nLt_irrefl _)]; simp
    · rw [if_neg he] at hl
      have hm := mem_lookF hl
      have hlt : nLt p.1 x := h1 _ hm
      rw [putF, if_neg he, if_neg (nLt_asymm hlt), posF, if_pos hlt, put_old h2 hl]
      simp
theorem del_pos {x : Nm} {g : FileM} : ∀ {l : Files}, SortedF l → lookF x l = some g → delF x l = l.take (posF x l) ++ l.drop (posF x l + 1)
  | [], _, h => by cases h
  | p :: l, hs, hl => by
    obtain ⟨h1, h2⟩ := List.pairwise_cons.1 hs
    rw [lookF] at hl
    by_cases he : x = p.1
    · rw [delF, if_pos he, posF, if_neg (by rw [he]; exact nLt_irrefl _)]; simp
    · rw [if_neg he] at hl
      have hm := mem_lookF hl
      have hlt : nLt p.1 x := h1 _ hm
      rw [delF, if_neg he, posF, if_pos hlt, del_pos h2 hl]
      simp
theorem at_pos {x : Nm} {g : FileM} : ∀ {l : Files}, SortedF l → lookF x l = some g → ∃ h : posF x l < l.length, l[posF x l] = (x, g)
  | l, hs, hl => by
    have := look_pos (x := x) hs
    rw [hl] at this
    cases hp : l[posF x l]? with
    | none => rw [hp] at this; cases this
    | some p =>
      rw [hp] at this
      obtain ⟨h1, h2⟩ := List.getElem?_eq_some_iff.1 hp
      refine ⟨h1, ?_⟩
      rw [h2]
      simp only at this
      split at this
      · rename_i he
        cases this
        rw [← he]
      · cases this
theorem posF_drop {x : Nm} : ∀ {l : Files} {k : Nat}, k ≤ posF x l → posF x l = k + posF x (l.drop k)
  | l, 0, _ => by simp
  | [], k + 1, h => by simp [posF] at h
  | p :: l, k + 1, h => by
    rw [posF] at h ⊢
    split
    · rename_i hlt
      rw [if_pos hlt] at h
      rw [posF_drop (l := l) (k := k) (by omega)]
      simp; omega
    · rename_i hlt
      rw [if_neg hlt] at h; omega
end Go.HC
namespace Go.Proofs
open Go Go.HC

def rFile : Rp (Nm × FileM) where
  sz := 5
  pos := by decide
  rep F h cs p := ∃ bv ov ox had, cs = [.string p.1, bv, ov, .bool p.2.safe, .bool had] ∧ SlRep rByte F h bv p.2.now ∧ SlRep rByte F h ov ox ∧ p.2.sure = if p.2.safe = true then some p.2.now else if had = true then some ox else none
  len := by rintro F h cs p ⟨bv, ov, ox, had, rfl, _⟩; rfl
  one := by
    rintro F h cs p ⟨bv, ov, ox, had, rfl, h1, h2, _⟩
    obtain ⟨_, _, rfl, _⟩ := h1.val
    obtain ⟨_, _, rfl, _⟩ := h2.val
    rfl
  mono := by
    rintro F F' h h' cs p ⟨bv, ov, ox, had, rfl, h1, h2, h3⟩ hm
    exact ⟨bv, ov, ox, had, rfl, h1.mono hm, h2.mono hm, h3⟩
theorem fileT : ElemT Tryz.prog 120 119 rFile 72 := ⟨Tryz.elS120, Tryz.szS119, Tryz.byS119, _, Tryz.zS119, rfl⟩
theorem ropT : ElemT Tryz.prog 121 165 rOp 24 := ⟨Tryz.elS121, Tryz.szS165, Tryz.byS165, _, Tryz.zS165, rfl⟩

structure RefC (h : Heap) (M : Mod) (bs : Nat) (fv : Value) (of : Option Nat) (lv : Value) (ol : Option Nat) (R : Nat → Prop) : Prop where
  str : h[bs]? = some (.cells #[.int .i64 M.limit, fv, lv] 123 (0, 0))
  fs : Grow rFile 119 R h fv M.files of
  tr : Grow rOp 165 none_ h lv M.trace ol
  sep : ∀ b, R b → b < h.size ∧ b ≠ bs ∧ of ≠ some b ∧ ol ≠ some b
  o1 : of ≠ some bs
  o2 : ol ≠ some bs
  o3 : ∀ b, of = some b → ol ≠ some b
  ok : M.Ok
def rfoot (bs : Nat) (of ol : Option Nat) (R : Nat → Prop) : Nat → Prop := fun b => b = bs ∨ of = some b ∨ ol = some b ∨ R b
theorem RefC.lt {h : Heap} {M : Mod} {bs : Nat} {fv : Value} {of : Option Nat} {lv : Value} {ol : Option Nat} {R : Nat → Prop} (s : RefC h M bs fv of lv ol R) : ∀ b, rfoot bs of ol R b → b < h.size := by
  rintro b (rfl | ho | ho | hr)
  · exact lt_of_blk s.str
  · exact s.fs.own_lt b ho
  · exact s.tr.own_lt b ho
  · exact (s.sep b hr).1
theorem RefC.mono {h h' : Heap} {M : Mod} {bs : Nat} {fv : Value} {of : Option Nat} {lv : Value} {ol : Option Nat} {R : Nat → Prop} (s : RefC h M bs fv of lv ol R) (hs : h.size ≤ h'.size) (hk : ∀ b, rfoot bs of ol R b → h'[b]? = h[b]?) :
    RefC h' M bs fv of lv ol R where
  str := (hk bs (.inl rfl)).trans s.str
  fs := s.fs.mono (fun b hb => ⟨hb, hk b (.inr (.inr (.inr hb)))⟩) fun b hb => ⟨fun hR => (s.sep b hR).2.2.1 hb, hk b (.inr (.inl hb))⟩
  tr := s.tr.mono (fun _b hb => hb.elim) fun b hb => ⟨fun h => h, hk b (.inr (.inr (.inl hb)))⟩
  sep := fun b hb => ⟨Nat.lt_of_lt_of_le (s.sep b hb).1 hs, (s.sep b hb).2⟩
  o1 := s.o1
  o2 := s.o2
  o3 := s.o3
  ok := s.ok
def RefAt (v : Value) (F : Nat → Prop) (h : Heap) (M : Mod) : Prop := ∃ bs fv of lv ol R, v = .pointer (some ⟨bs, 0, none⟩) ∧ F = rfoot bs of ol R ∧ RefC h M bs fv of lv ol R
theorem RefAt.lt {v : Value} {F : Nat → Prop} {h : Heap} {M : Mod} (s : RefAt v F h M) : ∀ b, F b → b < h.size := by
  obtain ⟨bs, fv, of, lv, ol, R, rfl, rfl, s⟩ := s
  exact s.lt
theorem RefAt.mono {v : Value} {F : Nat → Prop} {h h' : Heap} {M : Mod} (s : RefAt v F h M) (hs : h.size ≤ h'.size) (hk : ∀ b, F b → h'[b]? = h[b]?) : RefAt v F h' M := by
  obtain ⟨bs, fv, of, lv, ol, R, rfl, rfl, s⟩ := s
  exact ⟨bs, fv, of, lv, ol, R, rfl, rfl, s.mono hs hk⟩
theorem RefAt.keep {v : Value} {F S : Nat → Prop} {h h' : Heap} {M : Mod} (s : RefAt v F h M) (k : Keep S h h') (hS : ∀ b, F b → ¬ S b) : RefAt v F h' M := s.mono k.size fun b hb => k.blk b (s.lt b hb) (hS b hb)
theorem RefAt.ok {v : Value} {F : Nat → Prop} {h : Heap} {M : Mod} (s : RefAt v F h M) : M.Ok := by
  obtain ⟨bs, fv, of, lv, ol, R, rfl, rfl, s⟩ := s
  exact s.ok

theorem rnew_spec (k : Int) (h : Heap) : CallH Tryz.prog 77 #[.int .i64 k] h fun r h' => ∃ F, RefAt r F h' (Mod.new k) ∧ Keep none_ h h' ∧ ∀ b, F b → h.size ≤ b := by
  refine enter [.tmp 2] Tryz.func77 rfl rfl (by kernel_rfl) rfl ?_
  simp -dsimp [boxS_eq]
  refine ⟨rfoot h.size none none none_, ⟨h.size, _, none, _, none, none_, rfl, rfl, ?_, .nil _ _ _ _, .nil _ _ _ _, fun b hb => hb.elim, by simp, by simp, (fun b hb => by cases hb), .new k⟩, .push _ _ _, ?_⟩
  · exact push_new _ _
  · rintro b (rfl | h | h | h)
    · exact Nat.le_refl _
    · cases h
    · cases h
    · exact h.elim

set_option maxRecDepth 10000 in
theorem rsfind_spec {v : Value} {F : Nat → Prop} {h : Heap} {M : Mod} (s : RefAt v F h M) (hn : M.files.length < 1000000000) (x : Nm) :
    CallH Tryz.prog 58 #[v, .string x] h fun r h' => r = .tuple #[.int .i64 (posF x M.files), .bool (M.look x).isSome] ∧ h' = h := by
  refine callH_by fun K hK => ?_
  obtain ⟨bs, fv, of, lv, ol, R, rfl, rfl, s⟩ := s
  refine enter [.tmp 4, .tmp 5] Tryz.func58 rfl rfl (by kernel_rfl) rfl ?_
  have hs := s.str
  obtain ⟨fa, fc, rfl⟩ := s.fs.val
  have hrep := s.fs.rep
  simp -dsimp
  refine loop' (σ := Nat) (fun k => [(0, .pointer (some ⟨bs, 0, none⟩)), (1, .string x), (6, .int .i64 k)]) (fun _ => []) (fun k h' => h' = h ∧ k ≤ posF x M.files) (fun k => M.files.length - k) 0 ?_ rfl ⟨rfl, Nat.zero_le _⟩ (by kernel_rfl) ?_
  · intro p hp
    simp at hp
    rcases hp with rfl | rfl | rfl <;> simp
  · rintro k h' g ⟨rfl, hk⟩
    have hpl := posF_le x M.files
    have hpd := posF_drop hk
    by_cases hkl : k < M.files.length
    · obtain ⟨bk, off, cs, rfl, hF, hr, hc⟩ := hrep.get k hkl
      obtain ⟨bv, ov, ox, had, rfl, h1, h2, h3⟩ := hr
      have hcell : cellIn h'[bk]? (off + k * 5) = some (.string M.files[k].1) := by
        have := cellsIn_cell (d := 0) hc (by decide)
        simpa [rFile] using this
      have hidx : ∀ (K : Value → Heap → Prop) (h : Heap), indexAddrS Tryz.prog 120 (.slice (some ⟨bk, off, none⟩) M.files.length fc) (.int .i64 (k : Int)) h K = K (.pointer (some ⟨bk, off + k * 5, none⟩)) h := by
        intro K h
        rw [indexAddrS_slice _ _ _ _ _ _ (by omega) (by omega) rfl]
        simp [elSz]
      have hdr : M.files.drop k = M.files[k] :: M.files.drop (k + 1) := List.drop_eq_getElem_cons hkl
      have wk : IntKind.i64.wrap ((k : Int) + 1) = ((k + 1 : Nat) : Int) := by rw [wrap_i64 (by omega) (by omega)]; rfl
      by_cases hlt : nLt M.files[k].1 x
      · have hsl : sLt M.files[k].1 x = true := by rw [sLt_eq]; exact decide_eq_true hlt
        rw [hdr, posF, if_pos hlt] at hpd
        simp -dsimp [hs, hkl, hidx, hcell, hsl, wk]
        refine ⟨k + 1, ?_, rfl, ⟨rfl, by omega⟩, by show M.files.length - (k + 1) < M.files.length - k; omega⟩
        intro p hp
        simp at hp
        rcases hp with rfl | rfl | rfl <;> simp
      · have hsl : sLt M.files[k].1 x = false := by rw [sLt_eq]; exact decide_eq_false hlt
        rw [hdr, posF, if_neg hlt] at hpd
        have hpk : posF x M.files = k := by omega
        have hlk : (M.look x).isSome = decide (M.files[k].1 = x) := by
          unfold Mod.look
          rw [look_pos s.ok.sorted, hpk, List.getElem?_eq_getElem hkl]
          simp only
          split
          · rename_i e; simp [e]
          · rename_i e; simp [e]
        have hidv : ∀ sz ar kk, idxV sz ar (.slice (some ⟨bk, off, none⟩) M.files.length fc) (.int kk (k : Int)) = sz.map fun s => .pointer (some ⟨bk, off + k * s, none⟩) := by
          intro sz ar kk
          rw [idxV_slice (by omega) (by omega) rfl]
          simp
        simp -dsimp [hs, hkl, hidx, hcell, hsl]
        refine drawn_by [⟨0, true, []⟩, ⟨1, true, []⟩, ⟨2, true, []⟩, ⟨3, true, []⟩, ⟨4, true, []⟩, ⟨5, true, []⟩, ⟨6, true, []⟩, ⟨7, true, []⟩, ⟨8, true, []⟩, ⟨9, true, []⟩, ⟨10, true, []⟩, ⟨11, true, []⟩, ⟨12, true, []⟩, ⟨13, true, []⟩, ⟨14, true, []⟩, ⟨15, true, []⟩, ⟨16, true, []⟩, ⟨17, true, []⟩, ⟨18, true, []⟩, ⟨19, true, []⟩, ⟨20, true, []⟩, ⟨21, true, []⟩] (by kernel_rfl) (by kernel_rfl) ?_
        simp -dsimp [hs, hkl, hidv, hcell, elSz]
        exact hK _ _ ⟨by rw [hpk, hlk], rfl⟩
    · have hpk : posF x M.files = k := by omega
      have hlk : (M.look x).isSome = false := by
        unfold Mod.look
        rw [look_pos s.ok.sorted, hpk, List.getElem?_eq_none (by omega)]
        rfl
      simp -dsimp [hs, hkl]
      refine drawn_by [⟨0, true, []⟩, ⟨1, true, []⟩, ⟨2, true, []⟩, ⟨3, true, []⟩, ⟨4, true, []⟩, ⟨5, true, []⟩, ⟨6, true, []⟩, ⟨7, true, []⟩, ⟨8, true, []⟩, ⟨9, true, []⟩, ⟨10, true, []⟩, ⟨11, true, []⟩, ⟨12, true, []⟩, ⟨13, true, []⟩, ⟨14, true, []⟩, ⟨15, true, []⟩, ⟨16, true, []⟩, ⟨17, true, []⟩, ⟨18, true, []⟩, ⟨19, true, []⟩, ⟨20, true, []⟩, ⟨21, true, []⟩] (by kernel_rfl) (by kernel_rfl) ?_
      simp -dsimp [hs, hkl]
      exact hK _ _ ⟨by rw [hpk, hlk], rfl⟩
end Go.Proofs

/-
  The document's store: the contracts of its small functions.
-/
namespace Go.Proofs
open Go Go.HC

theorem right_spec (x : Nm) (h : Heap) : CallH Tryz.prog 68 #[.string x] h fun r h' => r = .bool (nameOk x) ∧ h' = h := by
  refine enter [.tmp 2] Tryz.func68 rfl rfl (by kernel_rfl) rfl ?_
  simp -dsimp
  by_cases h1 : 1 ≤ x.size
  · have : (1 : Int) ≤ x.size := by omega
    simp -dsimp [this]
    have h2 : ((x.size : Int) ≤ 20) ↔ x.size ≤ 20 := by omega
    simp [nameOk, h1, h2]
  · have : ¬ (1 : Int) ≤ x.size := by omega
    simp -dsimp [this]
    simp [nameOk, h1]

set_option maxRecDepth 10000 in
theorem done_spec {h : Heap} {M : Mod} {bs : Nat} {fv : Value} {of : Option Nat} {lv : Value} {ol : Option Nat} {R : Nat → Prop} (s : RefC h M bs fv of lv ol R) (k : Int) (x : Nm) (hn : M.trace.length < 1000000000) :
    CallH Tryz.prog 65 #[.pointer (some ⟨bs, 0, none⟩), .int .i64 k, .string x] h fun r h' => r = .tuple #[] ∧ ∃ lv' ol',
      RefC h' ⟨M.limit, M.files, M.trace ++ [(k, x)]⟩ bs fv of lv' ol' R ∧ Keep (fun b => b = bs ∨ ol = some b) h h' ∧ ∀ b, ol' = some b → ol = some b ∨ h.size ≤ b := by
  refine enter [] Tryz.func65 rfl rfl (by kernel_rfl) rfl ?_
  have hs := s.str
  obtain ⟨fa, fc, rfl⟩ := s.fs.val
  simp -dsimp [hs]
  refine append_grow (F2 := fun b => b = h.size) ropT (s.tr.push (fun _ h => h.elim) _) (fun _ h => h.elim) (ys := [(k, x)]) rfl
    (.inr ⟨h.size, 0, _, _, _, rfl, rfl, push_new _ _, rfl⟩) (.single ⟨[.int .i64 k], [.string x], rfl, rfl, rfl⟩) (by simp; omega) (by simp; omega) ?_
  intro tv' h' own' hg hk ho
  have hs1 := hk.at (push_at (o := .cells #[Value.int IntKind.i64 k, Value.string x] 165) hs) s.o2
  have hbs := lt_of_blk hs1
  obtain ⟨a, c, rfl⟩ := hg.val
  simp -dsimp [hs1]
  have hps : (h.push (.cells #[Value.int IntKind.i64 k, Value.string x] 165)).size = h.size + 1 := by simp
  rw [hps] at ho
  have hsz : h.size + 1 ≤ h'.size := hps ▸ hk.size
  have hbl := lt_of_blk hs
  have hlen : (M.trace ++ [(k, x)]).length = M.trace.length + 1 := by simp
  rw [hlen] at hg
  generalize hH : h'.setIfInBounds bs _ = h2
  have hold : ∀ b, b < h.size → ol ≠ some b → b ≠ bs → h2[b]? = h[b]? := by
    intro b hb h1 h2
    rw [← hH, set_other _ (fun e => h2 e.symm), hk.blk b (by omega) h1, push_old _ hb]
  have hsz2 : h2.size = h'.size := by rw [← hH]; simp
  have hown' : ∀ b, own' = some b → b ≠ bs := fun b hb e => by
    subst e
    exact (ho _ hb).elim s.o2 (fun h => by omega)
  refine ⟨.slice a (M.trace.length + 1) c, own', ⟨?_, ?_, ?_, ?_, s.o1, fun e => hown' bs e rfl, ?_, ?_⟩, ⟨by omega, fun b hb hn => hold b hb (fun e => hn (.inr e)) (fun e => hn (.inl e))⟩, fun b hb => (ho b hb).imp id fun h => by omega⟩
  · rw [← hH]; exact set_same _ hbs
  · exact s.fs.mono (fun b hb => ⟨hb, hold b (s.sep b hb).1 (s.sep b hb).2.2.2 (s.sep b hb).2.1⟩) fun b hb => ⟨fun hR => (s.sep b hR).2.2.1 hb, hold b (s.fs.own_lt b hb) (s.o3 b hb) (fun e => s.o1 (e ▸ hb))⟩
  · exact hg.mono (fun _ h => h.elim) fun b hb => ⟨fun h => h, by rw [← hH]; exact set_other _ (fun e => hown' b hb e.symm)⟩
  · exact fun b hb => ⟨by have := (s.sep b hb).1; omega, (s.sep b hb).2.1, (s.sep b hb).2.2.1, fun e => (ho b e).elim (s.sep b hb).2.2.2 (fun h => by have := (s.sep b hb).1; omega)⟩
  · exact fun b hb e => (ho b e).elim (s.o3 b hb) (fun h => by have := s.fs.own_lt b hb; omega)
  · exact ⟨s.ok.sorted, s.ok.files⟩

set_option maxHeartbeats 4000000 in
set_option maxRecDepth 10000 in
theorem drop_spec {h : Heap} {M : Mod} {bs : Nat} {fv : Value} {of : Option Nat} {lv : Value} {ol : Option Nat} {R : Nat → Prop} (s : RefC h M bs fv of lv ol R) {x : Nm} {g : FileM} (hl : M.look x = some g) (hn : M.files.length < 1000000000) :
    CallH Tryz.prog 64 #[.pointer (some ⟨bs, 0, none⟩), .int .i64 (posF x M.files)] h fun r h' => r = .tuple #[] ∧ ∃ fv' of',
      RefC h' ⟨M.limit, delF x M.files, M.trace⟩ bs fv' of' lv ol R ∧ Keep (fun b => b = bs) h h' ∧ ∀ b, of' = some b → h.size ≤ b := by
  refine callH_by fun K hK => ?_
  refine enter [] Tryz.func64 rfl rfl (by kernel_rfl) rfl ?_
  have hs := s.str
  obtain ⟨hk, _⟩ := at_pos s.ok.sorted hl
  have hdel := del_pos s.ok.sorted hl
  generalize posF x M.files = k at hk hdel ⊢
  obtain ⟨fa, fc, rfl⟩ := s.fs.val
  obtain ⟨cs, _, hc1, hc2, hcel, hel⟩ := s.fs.cells
  have hof : ∀ b, of = some b → b < h.size := s.fs.own_lt
  have hR : ∀ b, R b → b < h.size := fun b hb => (s.sep b hb).1
  obtain ⟨p1, p2⟩ := cut_cells (i := 0) (j := k) (c := fc) hcel hel (by omega) (by omega) hc1
  obtain ⟨q1, q2⟩ := cut_cells (i := k + 1) (j := M.files.length) (c := fc) hcel hel (by omega) (by omega) hc1
  have hpc1 : ∀ sz kk, pieceV sz none (some (.int kk (k : Int))) (.slice fa M.files.length fc) = sz.map fun s => .slice (piece fa 0 fc s) k fc := by
    intro sz kk
    cases sz <;> simp [pieceV, natV]; omega
  have wk : IntKind.i64.wrap ((k : Int) + 1) = (k : Int) + 1 := wrap_i64 (by omega) (by omega)
  have hpc2 : ∀ sz kk, pieceV sz (some (.int kk ((k : Int) + 1))) none (.slice fa M.files.length fc) = sz.map fun s => .slice (piece fa (k + 1) fc s) (M.files.length - (k + 1)) (fc - (k + 1)) := by
    intro sz kk
    have e1 : (0 : Int) ≤ (k : Int) + 1 := by omega
    have e2 : ((k : Int) + 1).toNat = k + 1 := by omega
    have e3 : k + 1 ≤ M.files.length ∧ M.files.length ≤ fc := by omega
    cases sz <;> simp [pieceV, natV, e1, e2, e3]
  simp -dsimp
  refine drawn_by [⟨0, true, []⟩, ⟨2, true, []⟩, ⟨3, true, []⟩, ⟨4, true, []⟩, ⟨5, true, []⟩, ⟨6, true, []⟩, ⟨7, true, []⟩, ⟨9, true, []⟩, ⟨10, true, []⟩, ⟨11, true, []⟩, ⟨12, true, []⟩, ⟨13, true, []⟩, ⟨14, true, []⟩, ⟨15, true, []⟩, ⟨1, false, [0, 2, 3, 4, 5, 6, 7, 9, 10, 11, 12, 13, 14, 15]⟩, ⟨8, false, [0, 9, 10, 11, 12, 13, 14, 15]⟩, ⟨16, false, [0]⟩, ⟨17, true, []⟩, ⟨18, true, []⟩, ⟨19, false, []⟩] (by kernel_rfl) (by kernel_rfl) ?_
  simp -dsimp [hs, hpc1, hpc2, wk, elSz]
  have hs0 : (h.push (.cells #[] 119))[bs]? = _ := (push_old _ (lt_of_blk hs)).trans hs
  simp -dsimp [again_cons, hs0, hpc1, hpc2, wk, elSz]
  have hx1 : ((M.files.drop 0).take (k - 0)) = M.files.take k := by simp
  have hx2 : ((M.files.drop (k + 1)).take (M.files.length - (k + 1))) = M.files.drop (k + 1) := List.take_of_length_le (by simp)
  have hl1 : (M.files.take k).length = k := by rw [List.length_take]; omega
  have hl2 : (M.files.drop (k + 1)).length = M.files.length - (k + 1) := by simp
  rw [hx1] at p2
  rw [hx2] at q2
  refine clone_cells (F := R) (F2 := fun b => of = some b) (xs := M.files.take k) fileT hR hof hl1.symm p1 p2 (by omega) (by omega) ?_
  intro v1 h1 own1 hg1 kk1 ho1 hz1
  obtain ⟨a1, c1, hv1⟩ := hg1.val
  rw [hl1] at hv1
  subst hv1
  have hs1 := kk1.at hs (fun h => h)
  simp -dsimp [again_cons, hs1, hpc1, hpc2, wk, elSz]
  refine append_grow (F2 := fun b => of = some b) (ys := M.files.drop (k + 1)) fileT hg1 (fun b hb => by have := hR b hb; omega) hl2.symm (q1.mono fun b hb => ⟨hb, kk1.blk b (hof b hb) (fun h => h)⟩) (q2.mono fun b hb => ⟨hb, kk1.blk b (hR b hb) (fun h => h)⟩) (by rw [hl1, hl2]; omega) (by rw [hl1, hl2]; omega) ?_
  intro v2 h2 own2 hg2 kk2 ho2
  rw [← hdel] at hg2
  obtain ⟨a2, c2, rfl⟩ := hg2.val
  have hbl := lt_of_blk hs
  have hz2 := kk2.size
  have l1 := hg1.own_lt
  have hs2 := kk2.at hs1 (fun e => by have := ho1 bs e; omega)
  simp -dsimp [again_cons, hs2]
  generalize hH : h2.setIfInBounds bs _ = h3
  have hz3 : h3.size = h2.size := by rw [← hH]; simp
  have hold : ∀ b, b < h.size → b ≠ bs → h3[b]? = h[b]? := by
    intro b hb hn
    rw [← hH, set_other _ (fun e => hn e.symm), kk2.blk b (by omega) (fun e => by have := ho1 b e; omega), kk1.blk b hb (fun h => h)]
  have hnew : ∀ b, own2 = some b → h.size ≤ b := fun b hb => (ho2 b hb).elim (ho1 b) (fun h => by omega)
  refine hK _ _ ⟨rfl, .slice a2 (delF x M.files).length c2, own2, ⟨?_, ?_, ?_, ?_, fun e => by have := hnew bs e; omega, s.o2, ?_, ?_⟩, ⟨by omega, fun b hb hn => hold b hb hn⟩, hnew⟩
  · rw [← hH]; exact set_same _ (lt_of_blk hs2)
  · exact hg2.mono (fun b hb => ⟨hb, by rw [← hH]; exact set_other _ (fun e => (s.sep b hb).2.1 e.symm)⟩) fun b hb => ⟨fun hRb => by have := hR b hRb; have := hnew b hb; omega, by rw [← hH]; exact set_other _ (fun e => by have := hnew b hb; omega)⟩
  · exact s.tr.mono (fun b hb => hb.elim) fun b hb => ⟨fun h => h, hold b (s.tr.own_lt b hb) (fun e => s.o2 (e ▸ hb))⟩
  · exact fun b hb => ⟨by have := hR b hb; omega, (s.sep b hb).2.1, fun e => by have := hR b hb; have := hnew b e; omega, (s.sep b hb).2.2.2⟩
  · exact fun b hb e => by have := hnew b hb; have := s.tr.own_lt b e; omega
  · exact s.ok.del x _ _
end Go.Proofs

/-
  The document's store: a file is put in its place.
-/
namespace Go.Proofs
open Go Go.HC

theorem RefC.at {h : Heap} {M : Mod} {bs : Nat} {fv : Value} {of : Option Nat} {lv : Value} {ol : Option Nat} {R : Nat → Prop} (s : RefC h M bs fv of lv ol R) : RefAt (.pointer (some ⟨bs, 0, none⟩)) (rfoot bs of ol R) h M := ⟨bs, fv, of, lv, ol, R, rfl, rfl, s⟩
set_option maxHeartbeats 40000000 in
set_option maxRecDepth 10000 in
theorem put_spec {h : Heap} {M : Mod} {bs : Nat} {fv : Value} {of : Option Nat} {lv : Value} {ol : Option Nat} {R : Nat → Prop} (s : RefC h M bs fv of lv ol R) {x : Nm} {f : FileM} {cs : List Value} (hr : rFile.rep R h cs (x, f)) (hf : f.Ok) (hn : M.files.length < 1000000000) :
    CallH Tryz.prog 70 #[.pointer (some ⟨bs, 0, none⟩), .agg cs.toArray] h fun r h' => r = .tuple #[] ∧ ∃ fv' of',
      RefC h' ⟨M.limit, putF x f M.files, M.trace⟩ bs fv' of' lv ol R ∧ Keep (fun b => b = bs ∨ of = some b) h h' ∧ ∀ b, of' = some b → of = some b ∨ h.size ≤ b := by
  refine callH_by fun K hK => ?_
  have hr0 := hr
  obtain ⟨bv, ov, ox, had, rfl, r1, r2, r3⟩ := hr
  obtain ⟨ba, bc, rfl, _, _⟩ := r1.val
  obtain ⟨oa, oc, rfl, _, _⟩ := r2.val
  simp only at hr0 r1 r2 r3
  refine enter [] Tryz.func70 rfl rfl (by kernel_rfl) rfl ?_
  have hs := s.str
  have hbl := lt_of_blk hs
  have hR : ∀ b, R b → b < h.size := fun b hb => (s.sep b hb).1
  have hof : ∀ b, of = some b → b < h.size := s.fs.own_lt
  have hol : ∀ b, ol = some b → b < h.size := s.tr.own_lt
  simp -dsimp [boxS_eq]
  generalize hB : h.push _ = hb0
  have kB : Keep none_ h hb0 := by rw [← hB]; exact .push _ _ _
  have hzB : hb0.size = h.size + 1 := by rw [← hB]; simp
  have hbB : hb0[h.size]? = some (.cells #[.string x, .slice ba f.now.length bc, .slice oa ox.length oc, .bool f.safe, .bool had] 119 (0, 0)) := by rw [← hB]; exact push_new _ _
  have sB := s.mono (h' := hb0) (by omega) fun b hb => kB.blk b (s.lt b hb) (fun h => h)
  have hsB := sB.str
  have hrB := rFile.mono hr0 fun b hb => ⟨hb, kB.blk b (hR b hb) (fun h => h)⟩
  refine call_by (rsfind_spec sB.at hn x) ?_
  rintro _ h0' ⟨rfl, hh⟩
  obtain rfl := hh.symm
  cases hl : M.look x with
  | some g =>
    obtain ⟨hk, _⟩ := at_pos s.ok.sorted hl
    have hput := put_old (f := f) s.ok.sorted hl
    generalize posF x M.files = k at hk hput ⊢
    obtain ⟨bk, c, o, hfv, how, hwr, hg1⟩ := sB.fs.setE hk hrB
    subst hfv
    subst how
    rw [← hput] at hg1
    have hplen : (putF x f M.files).length = M.files.length := by rw [hput]; simp
    have hidv : ∀ sz ar kk, idxV sz ar (.slice (some ⟨bk, 0, none⟩) M.files.length c) (.int kk (k : Int)) = sz.map fun s => .pointer (some ⟨bk, k * s, none⟩) := by
      intro sz ar kk
      rw [idxV_slice (by omega) (by omega) rfl]
      simp
    have hwr' : writeIn hb0[bk]? (k * 5) [.string x, .slice ba f.now.length bc, .slice oa ox.length oc, .bool f.safe, .bool had] = some o := hwr
    simp -dsimp
    refine drawn_by [⟨0, true, []⟩, ⟨1, true, []⟩, ⟨2, true, []⟩, ⟨3, true, []⟩, ⟨4, true, []⟩, ⟨5, true, []⟩, ⟨6, true, []⟩, ⟨7, false, []⟩] (by kernel_rfl) (by kernel_rfl) ?_
    simp -dsimp [hsB, hbB, hidv, elSz, hwr']
    generalize hH : hb0.setIfInBounds bk o = h3 at hg1 ⊢
    have hz3 : h3.size = hb0.size := by rw [← hH]; simp
    have hbk := hof bk rfl
    have hold : ∀ b, b < h.size → b ≠ bk → h3[b]? = h[b]? := by
      intro b hb hn
      rw [← hH, set_other _ (fun e => hn e.symm), kB.blk b hb (fun h => h)]
    have hne : bk ≠ bs := fun e => s.o1 (by rw [e])
    refine hK _ _ ⟨rfl, _, _, ⟨?_, hg1, ?_, ?_, s.o1, s.o2, s.o3, ?_⟩, ⟨by omega, fun b hb hn => hold b hb (fun e => hn (.inr (by rw [e])))⟩, fun b hb => .inl hb⟩
    · exact (hold bs hbl hne.symm).trans hs
    · exact s.tr.mono (fun b hb => hb.elim) fun b hb => ⟨fun h => h, hold b (hol b hb) (fun e => s.o3 bk rfl (e ▸ hb))⟩
    · exact fun b hb => ⟨by have := hR b hb; omega, (s.sep b hb).2⟩
    · exact s.ok.put hf _ _
  | none =>
    have hpl := posF_le x M.files
    have hput := put_new (f := f) s.ok.sorted hl
    generalize posF x M.files = k at hpl hput ⊢
    obtain ⟨fa, fc, rfl⟩ := s.fs.val
    obtain ⟨cs, _, hc1, hc2, hcel, hel⟩ := sB.fs.cells
    obtain ⟨p1, p2⟩ := cut_cells (i := 0) (j := k) (c := fc) hcel hel (by omega) (by omega) hc1
    obtain ⟨q1, q2⟩ := cut_cells (i := k) (j := M.files.length) (c := fc) hcel hel (by omega) (by omega) hc1
    have hx1 : ((M.files.drop 0).take (k - 0)) = M.files.take k := by simp
    have hx2 : ((M.files.drop k).take (M.files.length - k)) = M.files.drop k := List.take_of_length_le (by simp)
    have hl1 : (M.files.take k).length = k := by rw [List.length_take]; omega
    have hl2 : (M.files.drop k).length = M.files.length - k := by simp
    rw [hx1] at p2
    rw [hx2] at q2
    have hpc1 : ∀ sz kk, pieceV sz none (some (.int kk (k : Int))) (.slice fa M.files.length fc) = sz.map fun s => .slice (piece fa 0 fc s) k fc := by
      intro sz kk
      cases sz <;> simp [pieceV, natV]; omega
    have hpc2 : ∀ sz kk, pieceV sz (some (.int kk (k : Int))) none (.slice fa M.files.length fc) = sz.map fun s => .slice (piece fa k fc s) (M.files.length - k) (fc - k) := by
      intro sz kk
      have e3 : k ≤ M.files.length ∧ M.files.length ≤ fc := by omega
      cases sz <;> simp [pieceV, natV, e3]
    simp -dsimp
    refine drawn_byT (.node 1 10 (.node 8 10 (.leaf [⟨0, true, []⟩, ⟨2, true, []⟩, ⟨3, true, []⟩, ⟨4, true, []⟩, ⟨5, true, []⟩, ⟨6, true, []⟩, ⟨7, true, []⟩, ⟨9, true, []⟩, ⟨12, true, []⟩, ⟨13, true, []⟩, ⟨14, true, []⟩, ⟨15, true, []⟩, ⟨16, true, []⟩, ⟨17, true, []⟩, ⟨1, false, [0, 2, 3, 4, 5, 6, 7, 9, 12, 13, 14, 15, 16, 17]⟩, ⟨8, false, [0, 9, 12, 13, 14, 15, 16, 17]⟩, ⟨10, false, [0, 12, 13, 14, 15, 16, 17]⟩, ⟨11, false, [0, 12, 13, 14, 15, 16, 17]⟩, ⟨18, false, [0]⟩, ⟨19, true, []⟩, ⟨20, true, []⟩, ⟨21, false, []⟩]) (.leaf [⟨0, true, []⟩, ⟨2, true, []⟩, ⟨3, true, []⟩, ⟨4, true, []⟩, ⟨5, true, []⟩, ⟨6, true, []⟩, ⟨7, true, []⟩, ⟨9, true, []⟩, ⟨12, true, []⟩, ⟨13, true, []⟩, ⟨14, true, []⟩, ⟨15, true, []⟩, ⟨16, true, []⟩, ⟨17, true, []⟩, ⟨1, false, [0, 2, 3, 4, 5, 6, 7, 9, 12, 13, 14, 15, 16, 17]⟩, ⟨10, false, [0, 2, 3, 4, 5, 6, 7, 12, 13, 14, 15, 16, 17]⟩, ⟨8, false, [0, 12, 13, 14, 15, 16, 17]⟩, ⟨11, false, [0, 12, 13, 14, 15, 16, 17]⟩, ⟨18, false, [0]⟩, ⟨19, true, []⟩, ⟨20, true, []⟩, ⟨21, false, []⟩])) (.leaf [⟨0, true, []⟩, ⟨2, true, []⟩, ⟨3, true, []⟩, ⟨4, true, []⟩, ⟨5, true, []⟩, ⟨6, true, []⟩, ⟨7, true, []⟩, ⟨9, true, []⟩, ⟨12, true, []⟩, ⟨13, true, []⟩, ⟨14, true, []⟩, ⟨15, true, []⟩, ⟨16, true, []⟩, ⟨17, true, []⟩, ⟨10, false, [0, 2, 3, 4, 5, 6, 7, 12, 13, 14, 15, 16, 17]⟩, ⟨1, false, [0, 2, 3, 4, 5, 6, 7, 12, 13, 14, 15, 16, 17]⟩, ⟨8, false, [0, 12, 13, 14, 15, 16, 17]⟩, ⟨11, false, [0, 12, 13, 14, 15, 16, 17]⟩, ⟨18, false, [0]⟩, ⟨19, true, []⟩, ⟨20, true, []⟩, ⟨21, false, []⟩])) (by kernel_rfl) (by kernel_rfl) ⟨⟨?A, ?B⟩, ?C⟩
    all_goals rw [treeW_leaf]
    case' A =>
      simp -dsimp [hsB, hbB, hpc1, hpc2, elSz]
      have hs0 : (hb0.push (.cells #[] 119))[bs]? = _ := (push_old _ (lt_of_blk hsB)).trans hsB
      have hb0' : (hb0.push (.cells #[] 119))[h.size]? = _ := (push_old _ (lt_of_blk hbB)).trans hbB
      simp -dsimp [again_cons, hs0, hb0', hpc1, hpc2, elSz]
      refine clone_cells (F := R) (F2 := fun b => of = some b) (xs := M.files.take k) fileT (fun b hb => by have := hR b hb; omega) (fun b hb => by have := hof b hb; omega) hl1.symm p1 p2 (by omega) (by omega) ?_
      intro v2 h2 own2 hg2' kk2 ho2' hz2
      obtain ⟨a2, c2, hv2⟩ := hg2'.val
      rw [hl1] at hv2
      subst hv2
      have hs2 := kk2.at hsB (fun h => h)
      have hb2 := kk2.at hbB (fun h => h)
      simp -dsimp [again_cons, hs2, hb2, hpc1, hpc2, elSz]
      obtain ⟨sb, hsb0⟩ : ∃ sb, sb = h2.size := ⟨_, rfl⟩
      have l2' := hg2'.own_lt
      have hgS := hg2'.push (fun b hb => by have := hR b hb; omega) (.cells #[.string x, .slice ba f.now.length bc, .slice oa ox.length oc, .bool f.safe, .bool had] 119)
      have hsS := push_at (o := .cells #[.string x, .slice ba f.now.length bc, .slice oa ox.length oc, .bool f.safe, .bool had] 119) hs2
      have hbS := push_at (o := .cells #[.string x, .slice ba f.now.length bc, .slice oa ox.length oc, .bool f.safe, .bool had] 119) hb2
      simp -dsimp [hsS]
      rw [← hsb0]
      generalize hHA : h2.push _ = hA at hgS hsS hbS ⊢
      have hg2 := hgS
      have hsA := hsS
      have hbA := hbS
      have hzA : hA.size = h2.size + 1 := by rw [← hHA]; simp
      have kA : Keep none_ hb0 hA := by rw [← hHA]; exact kk2.pushed _
      have ho2 : ∀ b, own2 = some b → hb0.size ≤ b := ho2'
      have hsb : hb0.size ≤ sb := by omega
      have hosb : own2 ≠ some sb := fun e => by have := l2' sb e; omega
      have hbSA : hA[sb]? = some (.cells #[.string x, .slice ba f.now.length bc, .slice oa ox.length oc, .bool f.safe, .bool had] 119 (0, 0)) := by rw [← hHA, hsb0]; exact push_new _ _
    case' B =>
      simp -dsimp [hsB, hbB, hpc1, hpc2, elSz]
      have hs0 : (hb0.push (.cells #[] 119))[bs]? = _ := (push_old _ (lt_of_blk hsB)).trans hsB
      have hb0' : (hb0.push (.cells #[] 119))[h.size]? = _ := (push_old _ (lt_of_blk hbB)).trans hbB
      simp -dsimp [again_cons, hs0, hb0', hpc1, hpc2, elSz]
      have hgE := (Grow.empty rFile 119 (h := hb0) (F := R) (fun b hb => by have := hR b hb; omega)).push (fun b hb => by have := hR b hb; simp; omega) (.cells #[.string x, .slice ba f.now.length bc, .slice oa ox.length oc, .bool f.safe, .bool had] 119)
      have hs0S := push_at (o := .cells #[.string x, .slice ba f.now.length bc, .slice oa ox.length oc, .bool f.safe, .bool had] 119) hs0
      have hb0S := push_at (o := .cells #[.string x, .slice ba f.now.length bc, .slice oa ox.length oc, .bool f.safe, .bool had] 119) hb0'
      simp -dsimp [hs0S]
      have hzX : ((hb0.push (.cells #[] 119)).push (.cells #[.string x, .slice ba f.now.length bc, .slice oa ox.length oc, .bool f.safe, .bool had] 119)).size = hb0.size + 2 := by simp
      have kX : Keep none_ hb0 ((hb0.push (.cells #[] 119)).push (.cells #[.string x, .slice ba f.now.length bc, .slice oa ox.length oc, .bool f.safe, .bool had] 119)) := ((Keep.refl none_ hb0).pushed _).pushed _
      have hbX : ((hb0.push (.cells #[] 119)).push (.cells #[.string x, .slice ba f.now.length bc, .slice oa ox.length oc, .bool f.safe, .bool had] 119))[hb0.size + 1]? = some (.cells #[.string x, .slice ba f.now.length bc, .slice oa ox.length oc, .bool f.safe, .bool had] 119 (0, 0)) := by
        have : (hb0.push (.cells #[] 119)).size = hb0.size + 1 := by simp
        rw [← this]; exact push_new _ _
      generalize hHX : (hb0.push _).push _ = hX at hgE hs0S hb0S hzX kX hbX ⊢
      refine append_grow (F2 := fun b => of = some b) (ys := M.files.take k) fileT hgE (fun b hb => by have := hR b hb; omega) hl1.symm (p1.mono fun b hb => ⟨hb, kX.blk b (by have := hof b hb; omega) (fun h => h)⟩) (p2.mono fun b hb => ⟨hb, kX.blk b (by have := hR b hb; omega) (fun h => h)⟩) (by simp; omega) (by simp; omega) ?_
      intro v2 hA own2 hg2' kk2 ho2'
      rw [List.nil_append] at hg2'
      obtain ⟨a2, c2, hv2⟩ := hg2'.val
      rw [hl1] at hv2
      subst hv2
      have hzA := kk2.size
      have hsA := kk2.at hs0S (fun e => by have := lt_of_blk hsB; simp at e; omega)
      have hbA := kk2.at hb0S (fun e => by simp at e; omega)
      obtain ⟨sb, hsb0⟩ : ∃ sb, sb = hb0.size + 1 := ⟨_, rfl⟩
      have hbSA := kk2.at hbX (fun e => by simp at e)
      simp -dsimp [again_cons, hsA, hbA, hpc1, hpc2, elSz]
      rw [← hsb0] at hbSA ⊢
      have hg2 := hg2'
      have kA : Keep none_ hb0 hA := ⟨by omega, fun b hb _ => by rw [kk2.blk b (by omega) (fun e => by simp at e; omega), kX.blk b hb (fun h => h)]⟩
      have ho2 : ∀ b, own2 = some b → hb0.size ≤ b := fun b hb => (ho2' b hb).elim (fun e => by simp at e; omega) (fun h => by omega)
      have hsb : hb0.size ≤ sb := by omega
      have hosb : own2 ≠ some sb := fun e => (ho2' sb e).elim (fun e => by simp at e; omega) (fun h => by omega)
      have hsA' : hA[bs]? = _ := hsA
    case' C =>
      simp -dsimp [hsB, hbB, hpc1, hpc2, elSz]
      have hs0 := push_at (o := .cells #[.string x, .slice ba f.now.length bc, .slice oa ox.length oc, .bool f.safe, .bool had] 119) hsB
      have hb0' := push_at (o := .cells #[.string x, .slice ba f.now.length bc, .slice oa ox.length oc, .bool f.safe, .bool had] 119) hbB
      simp -dsimp [again_cons, hs0, hb0', hpc1, hpc2, elSz]
      have hs1 := push_at (o := .cells #[] 119) hs0
      have hb1 := push_at (o := .cells #[] 119) hb0'
      simp -dsimp [hs1]
      have hzS : (hb0.push (.cells #[.string x, .slice ba f.now.length bc, .slice oa ox.length oc, .bool f.safe, .bool had] 119)).size = hb0.size + 1 := by simp
      have hgE := Grow.empty rFile 119 (h := hb0.push (.cells #[.string x, .slice ba f.now.length bc, .slice oa ox.length oc, .bool f.safe, .bool had] 119)) (F := R) (fun b hb => by have := hR b hb; omega)
      rw [hzS] at hgE
      have hzX : ((hb0.push (.cells #[.string x, .slice ba f.now.length bc, .slice oa ox.length oc, .bool f.safe, .bool had] 119)).push (.cells #[] 119)).size = hb0.size + 2 := by simp
      have kX : Keep none_ hb0 ((hb0.push (.cells #[.string x, .slice ba f.now.length bc, .slice oa ox.length oc, .bool f.safe, .bool had] 119)).push (.cells #[] 119)) := ((Keep.refl none_ hb0).pushed _).pushed _
      have hbX : ((hb0.push (.cells #[.string x, .slice ba f.now.length bc, .slice oa ox.length oc, .bool f.safe, .bool had] 119)).push (.cells #[] 119))[hb0.size]? = some (.cells #[.string x, .slice ba f.now.length bc, .slice oa ox.length oc, .bool f.safe, .bool had] 119 (0, 0)) := push_at (push_new _ _)
      generalize hHX : (hb0.push _).push _ = hX at hgE hs1 hb1 hzX kX hbX ⊢
      refine append_grow (F2 := fun b => of = some b) (ys := M.files.take k) fileT hgE (fun b hb => by have := hR b hb; omega) hl1.symm (p1.mono fun b hb => ⟨hb, kX.blk b (by have := hof b hb; omega) (fun h => h)⟩) (p2.mono fun b hb => ⟨hb, kX.blk b (by have := hR b hb; omega) (fun h => h)⟩) (by simp; omega) (by simp; omega) ?_
      intro v2 hA own2 hg2' kk2 ho2'
      rw [List.nil_append] at hg2'
      obtain ⟨a2, c2, hv2⟩ := hg2'.val
      rw [hl1] at hv2
      subst hv2
      have hzA := kk2.size
      have hsA := kk2.at hs1 (fun e => by have := lt_of_blk hsB; simp at e; omega)
      have hbA := kk2.at hb1 (fun e => by simp at e; omega)
      obtain ⟨sb, hsb0⟩ : ∃ sb, sb = hb0.size := ⟨_, rfl⟩
      have hbSA := kk2.at hbX (fun e => by simp at e)
      simp -dsimp [again_cons, hsA, hbA, hpc1, hpc2, elSz]
      rw [← hsb0] at hbSA ⊢
      have hg2 := hg2'
      have kA : Keep none_ hb0 hA := ⟨by omega, fun b hb _ => by rw [kk2.blk b (by omega) (fun e => by simp at e; omega), kX.blk b hb (fun h => h)]⟩
      have ho2 : ∀ b, own2 = some b → hb0.size ≤ b := fun b hb => (ho2' b hb).elim (fun e => by simp at e; omega) (fun h => by omega)
      have hsb : hb0.size ≤ sb := by omega
      have hosb : own2 ≠ some sb := fun e => (ho2' sb e).elim (fun e => by simp at e; omega) (fun h => by omega)
    all_goals
      have eA := kA.size
      have hrA := rFile.mono hr0 fun b hb => ⟨hb, by rw [kA.blk b (by have := hR b hb; omega) (fun h => h), kB.blk b (hR b hb) (fun h => h)]⟩
      have hlx : ([(x, f)] : Files).length = 1 := rfl
      refine append_grow (F2 := fun b => b = sb) (ys := [(x, f)]) fileT hg2 (fun b hb => by have := hR b hb; omega) rfl (.inr ⟨sb, 0, _, _, _, rfl, rfl, hbSA, rfl⟩) (.single hrA) (by rw [hl1, hlx]; omega) (by rw [hl1, hlx]; omega) ?_
      intro v4 h4 own4 hg4 kk4 ho4
      have hl4 : (M.files.take k ++ [(x, f)]).length = k + 1 := by rw [List.length_append, hl1]; rfl
      obtain ⟨a4, c4, hv4⟩ := hg4.val
      rw [hl4] at hv4
      subst hv4
      have e4 := kk4.size
      have k4 : Keep none_ hb0 h4 := ⟨by omega, fun b hb _ => by rw [kk4.blk b (by omega) (fun e => by have := ho2 b e; omega), kA.blk b hb (fun h => h)]⟩
      have hs4 := k4.at hsB (fun h => h)
      have hb4 := k4.at hbB (fun h => h)
      simp -dsimp [again_cons, hs4, hb4, hpc1, hpc2, elSz]
      refine append_grow (F2 := fun b => of = some b) (ys := M.files.drop k) fileT hg4 (fun b hb => by have := hR b hb; omega) hl2.symm (q1.mono fun b hb => ⟨hb, k4.blk b (by have := hof b hb; omega) (fun h => h)⟩) (q2.mono fun b hb => ⟨hb, k4.blk b (by have := hR b hb; omega) (fun h => h)⟩) (by rw [hl4, hl2]; omega) (by rw [hl4, hl2]; omega) ?_
      intro v5 h5 own5 hg5 kk5 ho5
      rw [← hput] at hg5
      obtain ⟨a5, c5, rfl⟩ := hg5.val
      have e5 := kk5.size
      have hn4 : ∀ b, own4 = some b → hb0.size ≤ b := fun b hb => (ho4 b hb).elim (ho2 b) (fun h => by omega)
      have hn5 : ∀ b, own5 = some b → hb0.size ≤ b := fun b hb => (ho5 b hb).elim (hn4 b) (fun h => by omega)
      have k5 : Keep none_ hb0 h5 := ⟨by omega, fun b hb _ => by rw [kk5.blk b (by omega) (fun e => by have := hn4 b e; omega), k4.blk b hb (fun h => h)]⟩
      have hs5 := k5.at hsB (fun h => h)
      simp -dsimp [again_cons, hs5]
      generalize hH : h5.setIfInBounds bs _ = h6
      have hz6 : h6.size = h5.size := by rw [← hH]; simp
      have hold : ∀ b, b < h.size → b ≠ bs → h6[b]? = h[b]? := by
        intro b hb hn
        rw [← hH, set_other _ (fun e => hn e.symm), k5.blk b (by omega) (fun h => h), kB.blk b hb (fun h => h)]
      refine hK _ _ ⟨rfl, .slice a5 (putF x f M.files).length c5, own5, ⟨?_, ?_, ?_, ?_, fun e => by have := hn5 bs e; omega, s.o2, ?_, ?_⟩, ⟨by omega, fun b hb hn => hold b hb (fun e => hn (.inl e))⟩, fun b hb => .inr (by have := hn5 b hb; omega)⟩
      · rw [← hH]; exact set_same _ (lt_of_blk hs5)
      · exact hg5.mono (fun b hb => ⟨hb, by rw [← hH]; exact set_other _ (fun e => (s.sep b hb).2.1 e.symm)⟩) fun b hb => ⟨fun hRb => by have := hR b hRb; have := hn5 b hb; omega, by rw [← hH]; exact set_other _ (fun e => by have := hn5 b hb; omega)⟩
      · exact s.tr.mono (fun b hb => hb.elim) fun b hb => ⟨fun h => h, hold b (hol b hb) (fun e => s.o2 (e ▸ hb))⟩
      · exact fun b hb => ⟨by have := hR b hb; omega, (s.sep b hb).2.1, fun e => by have := hR b hb; have := hn5 b e; omega, (s.sep b hb).2.2.2⟩
      · exact fun b hb e => by have := hn5 b hb; have := hol b e; omega
      · exact s.ok.put hf _ _
end Go.Proofs

/-
  The document's store: what looks only: used, names, read, trace.
-/
namespace Go.HC
theorem used_take : ∀ {l : Files} {i : Nat} (h : i < l.length), usedF (l.take (i + 1)) = usedF (l.take i) + l[i].2.now.length
  | p :: l, 0, _ => by simp
  | p :: l, i + 1, h => by
    simp only [List.take_succ_cons, usedF_cons, List.getElem_cons_succ]
    rw [used_take (l := l) (i := i) (by simpa using h)]; omega
theorem used_take_le : ∀ {l : Files} {i : Nat}, usedF (l.take i) ≤ usedF l
  | [], i => by simp
  | p :: l, 0 => by simp
  | p :: l, i + 1 => by
    simp only [List.take_succ_cons, usedF_cons]
    have := used_take_le (l := l) (i := i); omega
end Go.HC
namespace Go.Proofs
open Go Go.HC
theorem rfoot_sub {bs n : Nat} {of of' ol ol' : Option Nat} {R R' : Nat → Prop} (h1 : ∀ b, of' = some b → of = some b ∨ n ≤ b) (h2 : ∀ b, ol' = some b → ol = some b ∨ n ≤ b) (h3 : ∀ b, R' b → R b ∨ n ≤ b) : ∀ b, rfoot bs of' ol' R' b → rfoot bs of ol R b ∨ n ≤ b := by
  rintro b (rfl | h | h | h)
  · exact .inl (.inl rfl)
  · exact (h1 b h).imp (fun h => .inr (.inl h)) id
  · exact (h2 b h).imp (fun h => .inr (.inr (.inl h))) id
  · exact (h3 b h).imp (fun h => .inr (.inr (.inr h))) id

set_option maxRecDepth 10000 in
theorem rused_spec {v : Value} {F : Nat → Prop} {h : Heap} {M : Mod} (s : RefAt v F h M) (hn : usedF M.files < 1099511627776) (hn' : M.files.length < 1000000000) :
    CallH Tryz.prog 69 #[v] h fun r h' => r = .int .i64 (usedF M.files) ∧ h' = h := by
  refine callH_by fun K hK => ?_
  obtain ⟨bs, fv, of, lv, ol, R, rfl, rfl, s⟩ := s
  refine enter [.tmp 2] Tryz.func69 rfl rfl (by kernel_rfl) rfl ?_
  have hs := s.str
  obtain ⟨fa, fc, rfl⟩ := s.fs.val
  have hrep := s.fs.rep
  simp -dsimp
  refine loop' (σ := Nat) (fun k => [(0, .pointer (some ⟨bs, 0, none⟩)), (3, .int .i64 (usedF (M.files.take k))), (4, .int .i64 k)]) (fun _ => []) (fun k h' => h' = h ∧ k ≤ M.files.length) (fun k => M.files.length - k) 0 ?_ rfl ⟨rfl, Nat.zero_le _⟩ (by kernel_rfl) ?_
  · intro p hp
    simp at hp
    rcases hp with rfl | rfl | rfl <;> simp
  · rintro k h' g ⟨rfl, hk⟩
    by_cases hkl : k < M.files.length
    · obtain ⟨bk, off, cs, rfl, hF, hr, hc⟩ := hrep.get k hkl
      obtain ⟨bv, ov, ox, had, rfl, h1, h2, h3⟩ := hr
      obtain ⟨ba, bc, rfl, _, _⟩ := h1.val
      have hcell : cellIn h'[bk]? (off + k * 5 + 1) = some (.slice ba M.files[k].2.now.length bc) := by
        have := cellsIn_cell (d := 1) hc (by decide)
        simpa [rFile] using this
      have hidx : ∀ (K : Value → Heap → Prop) (h : Heap), indexAddrS Tryz.prog 120 (.slice (some ⟨bk, off, none⟩) M.files.length fc) (.int .i64 (k : Int)) h K = K (.pointer (some ⟨bk, off + k * 5, none⟩)) h := by
        intro K h
        rw [indexAddrS_slice _ _ _ _ _ _ (by omega) (by omega) rfl]
        simp [elSz]
      have wk : IntKind.i64.wrap ((k : Int) + 1) = ((k + 1 : Nat) : Int) := by rw [wrap_i64 (by omega) (by omega)]; rfl
      have hut := used_take hkl
      have hul := used_take_le (l := M.files) (i := k + 1)
      have wu : IntKind.i64.wrap ((usedF (M.files.take k) : Int) + (M.files[k].2.now.length : Int)) = ((usedF (M.files.take (k + 1)) : Nat) : Int) := by rw [wrap_i64 (by omega) (by omega)]; omega
      simp -dsimp [hs, hkl, hidx, hcell, wk, wu]
      refine ⟨k + 1, ?_, rfl, ⟨rfl, by omega⟩, by show M.files.length - (k + 1) < M.files.length - k; omega⟩
      intro p hp
      simp at hp
      rcases hp with rfl | rfl | rfl <;> simp
    · have hall : M.files.take k = M.files := List.take_of_length_le (by omega)
      simp -dsimp [hs, hkl, hall]
      exact hK _ _ ⟨rfl, rfl⟩

set_option maxRecDepth 10000 in
theorem rnames_spec {v : Value} {F : Nat → Prop} {h : Heap} {M : Mod} (s : RefAt v F h M) (hn' : M.files.length < 1000000000) :
    CallH Tryz.prog 35 #[v] h fun r h' => ∃ own, Grow rStr 9 none_ h' r M.names own ∧ Keep none_ h h' ∧ ∀ b, own = some b → h.size ≤ b := by
  refine callH_by fun K hK => ?_
  obtain ⟨bs, fv, of, lv, ol, R, rfl, rfl, s⟩ := s
  refine enter [.tmp 2] Tryz.func35 rfl rfl (by kernel_rfl) rfl ?_
  obtain ⟨fa, fc, rfl⟩ := s.fs.val
  simp -dsimp
  refine loop' (σ := Nat × Value) (fun t => [(0, .pointer (some ⟨bs, 0, none⟩)), (3, t.2), (4, .int .i64 t.1)]) (fun _ => [])
    (fun t h' => Keep none_ h h' ∧ t.1 ≤ M.files.length ∧ ∃ own, Grow rStr 9 none_ h' t.2 (M.names.take t.1) own ∧ ∀ b, own = some b → h.size ≤ b) (fun t => M.files.length - t.1) (0, .slice none 0 0) ?_ rfl ⟨.refl _ _, Nat.zero_le _, none, .nil _ _ _ _, fun b hb => by cases hb⟩ (by kernel_rfl) ?_
  · intro p hp
    simp at hp
    rcases hp with rfl | rfl | rfl <;> simp
  · rintro ⟨k, tv⟩ h1 g ⟨k1, hk, own, hg, ho⟩
    simp only at hk hg
    have s1 := s.mono k1.size fun b hb => k1.blk b (s.lt b hb) (fun h => h)
    have hs := s1.str
    have hrep := s1.fs.rep
    have hnl : M.names.length = M.files.length := by simp [Mod.names]
    by_cases hkl : k < M.files.length
    · obtain ⟨bk, off, cs, rfl, hF, hr, hc⟩ := hrep.get k hkl
      obtain ⟨bv, ov, ox, had, rfl, h1', h2, h3⟩ := hr
      have hcell : cellIn h1[bk]? (off + k * 5) = some (.string M.files[k].1) := by
        have := cellsIn_cell (d := 0) hc (by decide)
        simpa [rFile] using this
      have hidx : ∀ (K : Value → Heap → Prop) (h : Heap), indexAddrS Tryz.prog 120 (.slice (some ⟨bk, off, none⟩) M.files.length fc) (.int .i64 (k : Int)) h K = K (.pointer (some ⟨bk, off + k * 5, none⟩)) h := by
        intro K h
        rw [indexAddrS_slice _ _ _ _ _ _ (by omega) (by omega) rfl]
        simp [elSz]
      have wk : IntKind.i64.wrap ((k : Int) + 1) = ((k + 1 : Nat) : Int) := by rw [wrap_i64 (by omega) (by omega)]; rfl
      have htk : (M.names.take k).length = k := by rw [List.length_take, hnl]; omega
      obtain ⟨ta, tc, htv⟩ := hg.val
      rw [htk] at htv
      subst htv
      simp -dsimp [hs, hkl, hidx, hcell]
      have l1 := hg.own_lt
      refine append_grow (F2 := fun b => b = h1.size) (ys := [M.files[k].1]) strT (hg.push (fun _ h => h.elim) _) (fun _ h => h.elim) rfl
        (.inr ⟨h1.size, 0, _, _, _, rfl, rfl, push_new _ _, rfl⟩) (.single rfl) (by rw [htk]; simp; omega) (by rw [htk]; simp; omega) ?_
      intro tv' h2 own' hg2 kk2 ho2
      have hps : (h1.push (.cells #[.string M.files[k].1] 9)).size = h1.size + 1 := by simp
      rw [hps] at ho2
      have e2 := kk2.size
      have e1 := k1.size
      rw [hps] at e2
      have hnt : M.names.take k ++ [M.files[k].1] = M.names.take (k + 1) := by
        rw [List.take_add_one, List.getElem?_eq_getElem (by omega)]
        simp [Mod.names]
      rw [hnt] at hg2
      simp -dsimp [wk]
      refine ⟨(k + 1, tv'), ?_, rfl, ⟨⟨by omega, fun b hb _ => by rw [kk2.blk b (by omega) (fun e => by have := ho b e; omega), push_old _ (by omega), k1.blk b hb (fun h => h)]⟩, by show k + 1 ≤ M.files.length; omega, own', hg2, fun b hb => (ho2 b hb).elim (ho b) (fun h => by omega)⟩, by show M.files.length - (k + 1) < M.files.length - k; omega⟩
      intro p hp
      simp at hp
      rcases hp with rfl | rfl | rfl <;> simp
    · have hall : M.names.take k = M.names := List.take_of_length_le (by omega)
      rw [hall] at hg
      simp -dsimp [hs, hkl]
      exact hK _ _ ⟨own, hg, k1, ho⟩

end Go.Proofs

/-
  The document's store: what changes it.
-/
namespace Go.Proofs
open Go Go.HC

theorem RefC.widen {h : Heap} {M : Mod} {bs : Nat} {fv : Value} {of : Option Nat} {lv : Value} {ol : Option Nat} {R : Nat → Prop} (s : RefC h M bs fv of lv ol R) {G : Nat → Prop} (hG : ∀ b, G b → b < h.size ∧ b ≠ bs ∧ of ≠ some b ∧ ol ≠ some b) :
    RefC h M bs fv of lv ol (fun b => R b ∨ G b) where
  str := s.str
  fs := s.fs.mono (fun _b hb => ⟨.inl hb, rfl⟩) fun b hb => ⟨fun hR => hR.elim (fun h => (s.sep b h).2.2.1 hb) (fun h => (hG b h).2.2.1 hb), rfl⟩
  tr := s.tr
  sep := fun b hb => hb.elim (s.sep b) (hG b)
  o1 := s.o1
  o2 := s.o2
  o3 := s.o3
  ok := s.ok

set_option maxRecDepth 10000 in
theorem rremove_spec {v : Value} {F : Nat → Prop} {h : Heap} {M : Mod} (s : RefAt v F h M) {n : Nat} (hn : M.Small n) (hn' : n < 1000000000) (x : Nm) :
    CallH Tryz.prog 31 #[v, .string x] h fun r h' => r = .int .i64 (M.remove x).1 ∧ ∃ F', RefAt v F' h' (M.remove x).2 ∧ Keep F h h' ∧ ∀ b, F' b → F b ∨ h.size ≤ b := by
  refine callH_by fun K hK => ?_
  have s0 := s
  have hfl := hn.files
  have htl := hn.trace
  obtain ⟨bs, fv, of, lv, ol, R, rfl, rfl, s⟩ := s
  refine enter [.tmp 4] Tryz.func31 rfl rfl (by kernel_rfl) rfl ?_
  simp -dsimp
  refine call_by (rsfind_spec s0 (by omega) x) ?_
  rintro _ h' ⟨rfl, hh⟩
  obtain rfl := hh.symm
  unfold Mod.remove at hK
  cases hl : M.look x with
  | none =>
    rw [hl] at hK
    simp -dsimp
    exact hK _ _ ⟨rfl, _, s0, .refl _ _, fun b hb => .inl hb⟩
  | some g =>
    rw [hl] at hK
    simp -dsimp
    refine call_by (drop_spec s hl (by omega)) ?_
    rintro _ h1 ⟨rfl, fv1, of1, s1, k1, ho1⟩
    simp -dsimp
    refine call_by (done_spec s1 4 x (by show M.trace.length < _; omega)) ?_
    rintro _ h2 ⟨rfl, lv2, ol2, s2, k2, ho2⟩
    simp -dsimp
    have e1 := k1.size
    have e2 := k2.size
    refine hK _ _ ⟨rfl, _, s2.at, ⟨by omega, fun b hb hn => ?_⟩, rfoot_sub (fun b hb => .inr (ho1 b hb)) (fun b hb => (ho2 b hb).imp id fun h => by omega) (fun b hb => .inl hb)⟩
    rw [k2.blk b (by omega) (fun h => h.elim (fun h => hn (.inl h)) (fun h => hn (.inr (.inr (.inl h))))), k1.blk b hb (fun h => hn (.inl h))]

set_option maxRecDepth 10000 in
theorem rsync_spec {v : Value} {F : Nat → Prop} {h : Heap} {M : Mod} (s : RefAt v F h M) {n : Nat} (hn : M.Small n) (hn' : n < 1000000000) (x : Nm) :
    CallH Tryz.prog 79 #[v, .string x] h fun r h' => r = .int .i64 (M.sync x).1 ∧ ∃ F', RefAt v F' h' (M.sync x).2 ∧ Keep F h h' ∧ ∀ b, F' b → F b ∨ h.size ≤ b := by
  refine callH_by fun K hK => ?_
  have s0 := s
  have hfl := hn.files
  have htl := hn.trace
  obtain ⟨bs, fv, of, lv, ol, R, rfl, rfl, s⟩ := s
  refine enter [.tmp 4] Tryz.func79 rfl rfl (by kernel_rfl) rfl ?_
  have hs := s.str
  simp -dsimp
  refine call_by (rsfind_spec s0 (by omega) x) ?_
  rintro _ h' ⟨rfl, hh⟩
  obtain rfl := hh.symm
  unfold Mod.sync at hK
  cases hl : M.look x with
  | none =>
    rw [hl] at hK
    simp -dsimp
    exact hK _ _ ⟨rfl, _, s0, .refl _ _, fun b hb => .inl hb⟩
  | some g =>
    rw [hl] at hK
    obtain ⟨hk, hat⟩ := at_pos s.ok.sorted hl
    have hput := put_old (f := ⟨g.now, some g.now, true⟩) s.ok.sorted hl
    generalize posF x M.files = k at hk hput hat ⊢
    obtain ⟨bk, c, o, hfv, how, hwr, hg1⟩ := s.fs.setF (d := 3) (news := [.bool true]) (x := (x, ⟨g.now, some g.now, true⟩)) hk (by decide) rfl (by
      rintro cs ⟨bv, ov, ox, had, rfl, r1, r2, r3⟩
      rw [hat] at r1 ⊢
      exact ⟨bv, ov, ox, had, rfl, r1, r2, rfl⟩)
    rw [← hput] at hg1
    subst hfv
    subst how
    have hidx : ∀ (K : Value → Heap → Prop) (h : Heap), indexAddrS Tryz.prog 120 (.slice (some ⟨bk, 0, none⟩) M.files.length c) (.int .i64 (k : Int)) h K = K (.pointer (some ⟨bk, k * 5, none⟩)) h := by
      intro K h
      rw [indexAddrS_slice _ _ _ _ _ _ (by omega) (by omega) rfl]
      simp [elSz]
    have hwr' : writeIn h[bk]? (k * 5 + 3) [.bool true] = some o := hwr
    simp -dsimp [hs, hidx, hwr']
    generalize hH : h.setIfInBounds bk o = h1 at hg1 ⊢
    have hz1 : h1.size = h.size := by rw [← hH]; simp
    have hold : ∀ b, b ≠ bk → h1[b]? = h[b]? := fun b hn => by rw [← hH, set_other _ (fun e => hn e.symm)]
    have hne : bk ≠ bs := fun e => s.o1 (by rw [e])
    have s1 : RefC h1 ⟨M.limit, putF x ⟨g.now, some g.now, true⟩ M.files, M.trace⟩ bs (.slice (some ⟨bk, 0, none⟩) M.files.length c) (some bk) lv ol R :=
      ⟨(hold bs hne.symm).trans hs, hg1, s.tr.mono (fun b hb => hb.elim) fun b hb => ⟨fun h => h, hold b (fun e => s.o3 bk rfl (e ▸ hb))⟩, fun b hb => ⟨by have := (s.sep b hb).1; omega, (s.sep b hb).2⟩, s.o1, s.o2, s.o3, s.ok.put (fun _ => rfl) _ _⟩
    refine call_by (done_spec s1 2 x (by show M.trace.length < _; omega)) ?_
    rintro _ h2 ⟨rfl, lv2, ol2, s2, k2, ho2⟩
    simp -dsimp
    have e2 := k2.size
    refine hK _ _ ⟨rfl, _, s2.at, ⟨by omega, fun b hb hn => ?_⟩, rfoot_sub (fun b hb => .inl hb) (fun b hb => (ho2 b hb).imp id fun h => by omega) (fun b hb => .inl hb)⟩
    rw [k2.blk b (by omega) (fun h => h.elim (fun h => hn (.inl h)) (fun h => hn (.inr (.inr (.inl h))))), hold b (fun e => hn (.inr (.inl (by rw [e]))))]

end Go.Proofs

/-
  HC, part 23: a drawn region in which operations stand in no order, whatever they do; each one's own promise is kept whatever else has been done ahead.
-/
namespace Go.HC
/-- What is said of an operation: it looks, and sees v; or it acts, leaves all older blocks, and promises Q. -/
inductive Sp
  | look (v : Value)
  | act (Q : Value → Heap → Prop)
abbrev Sps := List (List Nat × Sp)
def dstOf (ops : List Oper) (i : Nat) : Option Tmp := (ops[i]?).bind (·.dst)
/-- What earlier operations promised, as the frame shows it. -/
def rdS (ops : List Oper) (sp : Sps) (h1 : Heap) : List Nat → L → (L → Prop) → Prop
  | [], l, C => C l
  | j :: js, l, C => match sp[j]? with
    | some (_, .look v) => rdS ops sp h1 js (putl (dstOf ops j) v l) C
    | some (_, .act Q) => ∀ v hj, Q v hj → Keep none_ hj h1 → rdS ops sp h1 js (putl (dstOf ops j) v l) C
    | none => False
/-- The same, looked up. -/
def item (ops : List Oper) (sp : Sps) (j : Nat) : Option Tmp × Option Sp := (dstOf ops j, (sp[j]?).map (·.2))
def rdI (h1 : Heap) : List (Option Tmp × Option Sp) → L → (L → Prop) → Prop
  | [], l, C => C l
  | (d, s) :: r, l, C => match s with
    | some (.look v) => rdI h1 r (putl d v l) C
    | some (.act Q) => ∀ v hj, Q v hj → Keep none_ hj h1 → rdI h1 r (putl d v l) C
    | none => False
def doS (P : Program) (o : Option Oper) (s : Sp) (l : L) (b : Base) (h1 : Heap) : Prop :=
  match o with
  | none => False
  | some o => match s with
    | .look v => vop P o.op (ev l b) h1 = some v
    | .act Q => os P o l b h1 (fun v h2 => Keep none_ h1 h2 ∧ Q v h2)
def obl (P : Program) (ops : List Oper) (sp : Sps) (l : L) (b : Base) (h : Heap) : Nat → Sps → Prop
  | _, [] => True
  | i, (rd, s) :: rest => (∀ h1, Keep none_ h h1 → rdS ops sp h1 rd l (fun l' => doS P ops[i]? s l' b h1)) ∧ obl P ops sp l b h (i + 1) rest

def anyOk (ops : List Oper) (rds : List (List Nat)) (tail : List Di) : Bool :=
  (!Region.departs ops.toArray || (upM .text ops.toArray && upM .gc ops.toArray)) && upB ops.toArray && Region.noSelect ops.toArray && decide (rds.length ≤ ops.length) &&
  ((List.range rds.length).all fun i => match ops[i]? with
    | none => false
    | some o => o.guard.isNone && o.dst.isSome && ((rds.getD i []).all fun j => decide (j < rds.length) && (depsOf ops.toArray i).contains j) &&
      o.op.operands.toList.all fun x => match x with
        | .tmp t => ((rds.getD i []).any fun j => dstOf ops j == some t) || ((List.range rds.length).all fun j => dstOf ops j != some t)
        | _ => true) &&
  ((List.range rds.length).all fun i => (List.range rds.length).all fun j => i == j || dstOf ops i != dstOf ops j) &&
  (tail.all fun d => decide (rds.length ≤ d.i) && (List.range rds.length).all fun x => anc ops.toArray ops.length x d.i) &&
  pairB ops.toArray tail && (List.range rds.length ++ tail.map (·.i)).isPerm (List.range ops.length) &&
  tail.all fun d => !d.mv || (match ops[d.i]? with | some o => valOp o.op | none => false)

def putsL (ops : List Oper) (vals : Nat → Value) : List Nat → L → L
  | [], l => l
  | j :: js, l => putsL ops vals js (putl (dstOf ops j) (vals j) l)

section
variable {P : Program} {ops : List Oper} {sp : Sps}
def Post (sp : Sps) (i : Nat) (v : Value) (h1 : Heap) : Prop :=
  match sp[i]? with
  | some (_, .look u) => v = u
  | some (_, .act Q) => ∃ hj, Q v hj ∧ Keep none_ hj h1
  | none => False
theorem Post.keep {i : Nat} {v : Value} {h1 h2 : Heap} (hp : Post sp i v h1) (k : Keep none_ h1 h2) : Post sp i v h2 := by
  unfold Post at hp ⊢
  split at hp
  · exact hp
  · obtain ⟨hj, hq, hk⟩ := hp
    exact ⟨hj, hq, hk.trans k fun _ _ h => h⟩
  · exact hp
theorem rdS_use {h1 : Heap} {vals : Nat → Value} {C : L → Prop} : ∀ (js : List Nat) {l : L}, (∀ j ∈ js, Post sp j (vals j) h1) → rdS ops sp h1 js l C → C (putsL ops vals js l)
  | [], _, _, h => h
  | j :: js, l, hp, h => by
    have hj := hp j (List.mem_cons_self ..)
    have hp' : ∀ j ∈ js, Post sp j (vals j) h1 := fun i hi => hp i (List.mem_cons_of_mem _ hi)
    unfold rdS at h
    unfold Post at hj
    split at h
    · rename_i hs
      rw [hs] at hj
      have hj : vals j = _ := hj
      rw [← hj] at h
      exact rdS_use js hp' h
    · rename_i hs
      rw [hs] at hj
      obtain ⟨hh, hq, hk⟩ := hj
      exact rdS_use js hp' (h _ _ hq hk)
    · exact h.elim
theorem rdS_mono {h1 : Heap} {C C' : L → Prop} : ∀ (js : List Nat) {l : L}, rdS ops sp h1 js l C → (∀ l, C l → C' l) → rdS ops sp h1 js l C'
  | [], _, h, hc => hc _ h
  | j :: js, l, h, hc => by
    unfold rdS at h ⊢
    split at h
    · exact rdS_mono js h hc
    · exact fun v hj hq hk => rdS_mono js (h v hj hq hk) hc
    · exact h
theorem rdS_of_rdI {h1 : Heap} {C : L → Prop} : ∀ (js : List Nat) {l : L}, rdI h1 (js.map (item ops sp)) l C → rdS ops sp h1 js l C
  | [], _, h => h
  | j :: js, l, h => by
    unfold rdS
    rw [List.map_cons] at h
    unfold item rdI at h
    split
    · rename_i hs
      rw [hs] at h
      exact rdS_of_rdI js h
    · rename_i hs
      rw [hs] at h
      exact fun v hj hq hk => rdS_of_rdI js (h v hj hq hk)
    · rename_i hs
      rw [hs] at h
      exact h
theorem look_putl_ne {d : Option Tmp} {v : Value} {l : L} {b : Base} {t : Nat} (h : d ≠ some t) : look (putl d v l) b t = look l b t := by
  cases d with
  | none => rfl
  | some d =>
    have hne : d ≠ t := fun e => h (by rw [e])
    simp [putl, hne]
theorem look_puts_ne {vals : Nat → Value} {b : Base} {t : Nat} : ∀ (js : List Nat) {l : L}, (∀ j ∈ js, dstOf ops j ≠ some t) → look (putsL ops vals js l) b t = look l b t
  | [], _, _ => rfl
  | j :: js, l, h => by
    unfold putsL
    rw [look_puts_ne js (fun i hi => h i (List.mem_cons_of_mem _ hi)), look_putl_ne (h j (List.mem_cons_self ..))]
theorem look_puts_eq {vals : Nat → Value} {b : Base} {t j : Nat} (hj : dstOf ops j = some t) : ∀ (js : List Nat) {l : L}, (∀ i ∈ js, dstOf ops i = some t → i = j) → j ∈ js → look (putsL ops vals js l) b t = vals j
  | [], _, _, h => by cases h
  | i :: js, l, hu, h => by
    unfold putsL
    by_cases hm : j ∈ js
    · exact look_puts_eq hj js (fun x hx => hu x (List.mem_cons_of_mem _ hx)) hm
    · have hij : i = j := by
        rcases List.mem_cons.1 h with h | h
        · exact h.symm
        · exact absurd h hm
      subst hij
      rw [look_puts_ne js (fun x hx he => hm (hu x (List.mem_cons_of_mem _ hx) he ▸ hx)), hj]
      simp [putl]
theorem obl_get {l : L} {b : Base} {h : Heap} : ∀ (rest : Sps) (i : Nat) {k : Nat} {rd : List Nat} {s : Sp}, obl P ops sp l b h i rest → rest[k]? = some (rd, s) →
    ∀ h1, Keep none_ h h1 → rdS ops sp h1 rd l (fun l' => doS P ops[i + k]? s l' b h1)
  | [], _, _, _, _, _, hk => by simp at hk
  | (rd', s') :: rest, i, k, rd, s, ho, hk => by
    cases k with
    | zero =>
      simp only [List.getElem?_cons_zero, Option.some.injEq, Prod.mk.injEq] at hk
      obtain ⟨rfl, rfl⟩ := hk
      exact ho.1
    | succ k =>
      rw [List.getElem?_cons_succ] at hk
      have := obl_get rest (i + 1) ho.2 hk
      rw [show i + 1 + k = i + (k + 1) by omega] at this
      exact this

/-- What holds while operations are done. -/
structure Mid (P : Program) (ops : List Oper) (sp : Sps) (n : Nat) (l : L) (b : Base) (h : Heap) (E : List Nat) (a : Act) (h1 : Heap) : Prop where
  size : a.tmps.size = n
  defers : a.defers = b.d.map markOf
  other : ∀ t, (∀ j ∈ E, dstOf ops j ≠ some t) → a.tmps.getD t undef = look l b t
  val : ∀ j ∈ E, ∃ d, dstOf ops j = some d ∧ Post sp j (a.tmps.getD d undef) h1
  keep : Keep none_ h h1
def valsOf (ops : List Oper) (a : Act) (j : Nat) : Value := match dstOf ops j with | some d => a.tmps.getD d undef | none => undef
theorem Mid.post {n : Nat} {l : L} {b : Base} {h h1 : Heap} {E : List Nat} {a : Act} (m : Mid P ops sp n l b h E a h1) : ∀ j ∈ E, Post sp j (valsOf ops a j) h1 := by
  intro j hj
  obtain ⟨d, hd, hp⟩ := m.val j hj
  unfold valsOf
  rw [hd]; exact hp
theorem Mid.look {n : Nat} {l : L} {b : Base} {h h1 : Heap} {E : List Nat} {a : Act} (m : Mid P ops sp n l b h E a h1) {js : List Nat} (hjs : ∀ j ∈ js, j ∈ E) (hu : ∀ i ∈ E, ∀ j ∈ E, dstOf ops i = dstOf ops j → i = j) {t : Nat}
    (ht : (∃ j ∈ js, dstOf ops j = some t) ∨ ∀ j ∈ E, dstOf ops j ≠ some t) : a.tmps.getD t undef = HC.look (putsL ops (valsOf ops a) js l) b t := by
  by_cases hex : ∃ j ∈ js, dstOf ops j = some t
  · obtain ⟨j, hj, hd⟩ := hex
    rw [look_puts_eq hd js (fun i hi he => hu i (hjs i hi) j (hjs j hj) (by rw [he, hd])) hj]
    unfold valsOf
    rw [hd]
  · have hE := ht.resolve_left hex
    rw [look_puts_ne js (fun j hj => hE j (hjs j hj))]
    exact m.other t hE
theorem getD_setIfInBounds (a : Array Value) (d t : Nat) (v : Value) (hd : d < a.size) : (a.setIfInBounds d v).getD t undef = if d = t then v else a.getD t undef := by
  by_cases h : d = t
  · subst h; simp [hd]
  · simp [h, Array.getElem?_setIfInBounds_ne h]
theorem Mid.step {n : Nat} {l : L} {b : Base} {h h1 h2 : Heap} {E : List Nat} {a : Act} {s d : Nat} {v : Value} (m : Mid P ops sp n l b h E a h1) (hd : dstOf ops s = some d) (hdn : d < n) (hu : ∀ j ∈ E, dstOf ops j ≠ some d) (hk : Keep none_ h1 h2) (hp : Post sp s v h2) :
    Mid P ops sp n l b h (s :: E) (a.put (some d) v) h2 := by
  have hsz : d < a.tmps.size := by rw [m.size]; exact hdn
  refine ⟨by simp [Act.put, m.size], m.defers, fun t ht => ?_, fun j hj => ?_, m.keep.trans hk fun _ _ h => h⟩
  · have hne : d ≠ t := fun e => ht s (List.mem_cons_self ..) (by rw [hd, e])
    show (a.tmps.setIfInBounds d v).getD t undef = _
    rw [getD_setIfInBounds _ _ _ _ hsz, if_neg hne]
    exact m.other t fun j hj => ht j (List.mem_cons_of_mem _ hj)
  · show ∃ d', dstOf ops j = some d' ∧ Post sp j ((a.tmps.setIfInBounds d v).getD d' undef) h2
    rcases List.mem_cons.1 hj with rfl | hj
    · refine ⟨d, hd, ?_⟩
      rw [getD_setIfInBounds _ _ _ _ hsz, if_pos rfl]
      exact hp
    · obtain ⟨d', hd', hp'⟩ := m.val j hj
      refine ⟨d', hd', ?_⟩
      rw [getD_setIfInBounds _ _ _ _ hsz, if_neg (fun e => hu j hj (by rw [hd', e]))]
      exact hp'.keep hk
theorem any_arun {n : Nat} {κ : L → Base → Heap → Prop} {l : L} {b : Base} {h : Heap} (sp : Sps) (tail : List Di) (hok : anyOk ops (sp.map (·.1)) tail = true) (hopn : opsOk n ops.toArray = true)
    (hob : obl P ops sp l b h 0 sp) (hfin : ∀ h1, Keep none_ h h1 → rdS ops sp h1 (List.range sp.length) l (fun l' => dsem P ops.toArray tail [] κ l' b h1)) :
    ∀ (σ : List Nat) (E : List Nat) (a : Act) (h1 : Heap), (E ++ σ).Perm (List.range ops.length) → (∀ j ∈ E, j < sp.length) → DownC ops.toArray E → Lin ops.toArray E σ → Mid P ops sp n l b h E a h1 →
      arun P ops.toArray σ (fun a' h' => ∃ l', IsFr n a' l' b ∧ κ l' b h') a h1 := by
  unfold anyOk at hok
  simp only [List.length_map] at hok
  rw [Bool.and_eq_true, Bool.and_eq_true, Bool.and_eq_true, Bool.and_eq_true, Bool.and_eq_true, Bool.and_eq_true, Bool.and_eq_true, Bool.and_eq_true, Bool.and_eq_true] at hok
  obtain ⟨⟨⟨⟨⟨⟨⟨⟨⟨_, _⟩, hsel⟩, hle⟩, hops⟩, hdst⟩, htl⟩, hpair⟩, hperm⟩, hval⟩ := hok
  have hle := of_decide_eq_true hle
  have hperm := List.isPerm_iff.1 hperm
  have huniq : ∀ i, i < sp.length → ∀ j, j < sp.length → dstOf ops i = dstOf ops j → i = j := by
    intro i hi j hj he
    have h1 := List.all_eq_true.1 (List.all_eq_true.1 hdst i (List.mem_range.2 hi)) j (List.mem_range.2 hj)
    rcases Bool.or_eq_true_iff.1 h1 with h1 | h1
    · simpa using h1
    · simp [he] at h1
  have hnd : ∀ {σ E : List Nat}, (E ++ σ).Perm (List.range ops.length) → (E ++ σ).Nodup := fun hp => hp.symm.nodup List.nodup_range
  have hfinish : ∀ (σ : List Nat) (E : List Nat) (a : Act) (h1 : Heap), (E ++ σ).Perm (List.range ops.length) → (∀ j ∈ E, j < sp.length) → DownC ops.toArray E → Lin ops.toArray E σ → Mid P ops sp n l b h E a h1 → (∀ i, i < sp.length → i ∈ E) →
      arun P ops.toArray σ (fun a' h' => ∃ l', IsFr n a' l' b ∧ κ l' b h') a h1 := by
    intro σ E a h1 hp hE hdc hlin m hall
    have hEp : E.Perm (List.range sp.length) := (List.perm_ext_iff_of_nodup (List.nodup_append.1 (hnd hp)).1 List.nodup_range).2 fun j => ⟨fun hj => List.mem_range.2 (hE j hj), fun hj => hall j (List.mem_range.1 hj)⟩
    have hσ : σ.Perm (tail.map (·.i)) := by
      have h1 : (E ++ σ).Perm (E ++ tail.map (·.i)) := hp.trans (hperm.symm.trans (hEp.symm.append_right _))
      exact (List.perm_append_left_iff E).1 h1
    have hfr : IsFr n a (putsL ops (valsOf ops a) (List.range sp.length) l) b := by
      refine ⟨m.size, fun t => ?_, m.defers⟩
      refine m.look (fun j hj => hall j (List.mem_range.1 hj)) (fun i hi j hj he => huniq i (hE i hi) j (hE j hj) he) ?_
      by_cases hex : ∃ j ∈ List.range sp.length, dstOf ops j = some t
      · exact .inl hex
      · exact .inr fun j hj he => hex ⟨j, List.mem_range.2 (hE j hj), he⟩
    have hd := rdS_use (ops := ops) (vals := valsOf ops a) (List.range sp.length) (fun j hj => m.post j (hall j (List.mem_range.1 hj))) (hfin h1 m.keep)
    have hval' : tail.all (fun d => !d.mv || (match ops.toArray[d.i]? with | some o => valOp o.op | none => false)) = true := by
      simpa only [List.getElem?_toArray] using hval
    have hcr := crun_of_dsem (P := P) hopn tail (pa := []) hval' (by simp) hfr hd
    refine arun_of_crun hsel σ tail E [] a h1 hσ (List.nodup_append.1 (hnd hp)).2.1 (fun d hd => ?_) hdc hlin (fun d hd he => ?_) hpair hcr
    · have h2 : d.i ∈ List.range ops.length := hperm.subset (List.mem_append_right _ (List.mem_map.2 ⟨d, hd, rfl⟩))
      have h3 := List.mem_range.1 h2
      simp [h3]
    · have h1 := List.all_eq_true.1 htl d hd
      rw [Bool.and_eq_true] at h1
      have h2 := of_decide_eq_true h1.1
      have h3 := hE _ he
      omega
  intro σ
  induction σ with
  | nil =>
    intro E a h1 hp hE hdc hlin m
    refine hfinish [] E a h1 hp hE hdc hlin m fun i hi => ?_
    have := hp.symm.subset (List.mem_range.2 (Nat.lt_of_lt_of_le hi hle))
    simpa using this
  | cons s σ ih =>
    intro E a h1 hp hE hdc hlin m
    by_cases hall : ∀ i, i < sp.length → i ∈ E
    · exact hfinish _ E a h1 hp hE hdc hlin m hall
    have hsm : s < sp.length := by
      refine Classical.byContradiction fun hns => hall fun i hi => ?_
      have hsr : s ∈ List.range sp.length ++ tail.map (·.i) := hperm.symm.subset (hp.subset (List.mem_append_right _ (List.mem_cons_self ..)))
      rcases List.mem_append.1 hsr with h2 | h2
      · exact absurd (List.mem_range.1 h2) hns
      · obtain ⟨d, hd, hds⟩ := List.mem_map.1 h2
        have h3 := List.all_eq_true.1 htl d hd
        rw [Bool.and_eq_true] at h3
        have h4 := List.all_eq_true.1 h3.2 i (List.mem_range.2 hi)
        rw [hds] at h4
        exact anc_mem hdc _ _ _ hlin.1 h4
    have hsE : s ∉ E := fun he => (List.nodup_append.1 (hnd hp)).2.2 _ he _ (List.mem_cons_self ..) rfl
    have hso := List.all_eq_true.1 hops s (List.mem_range.2 hsm)
    have hlt : s < ops.length := Nat.lt_of_lt_of_le hsm hle
    simp only [List.getElem?_eq_getElem hlt] at hso
    have hos : ops.toArray[s]? = some ops[s] := by simp [hlt]
    rw [Bool.and_eq_true, Bool.and_eq_true, Bool.and_eq_true] at hso
    obtain ⟨⟨⟨hg, hds⟩, hrd⟩, hopr⟩ := hso
    obtain ⟨rd, q, hsp⟩ : ∃ rd q, sp[s]? = some (rd, q) := ⟨_, _, List.getElem?_eq_getElem hsm⟩
    have hrde : (sp.map (·.1)).getD s [] = rd := by
      rw [List.getD_eq_getElem?_getD, List.getElem?_map, hsp]; rfl
    rw [hrde] at hrd hopr
    have hrE : ∀ j ∈ rd, j ∈ E := by
      intro j hj
      have h2 := List.all_eq_true.1 hrd j hj
      rw [Bool.and_eq_true] at h2
      exact hlin.1 j (by simpa using h2.2)
    obtain ⟨d, hd⟩ := Option.isSome_iff_exists.1 hds
    have hdst' : dstOf ops s = some d := by unfold dstOf; rw [List.getElem?_eq_getElem hlt]; exact hd
    have hdn : d < n := opsOk_spec hopn hos d hd
    have hgn : ops[s].guard = none := by simpa using hg
    have hwant : wanted ops.toArray ops[s] a = true := by unfold wanted Region.wanted; rw [hgn]
    have hgu : ∀ i ∈ E, ∀ j ∈ E, dstOf ops i = dstOf ops j → i = j := fun i hi j hj he => huniq i (hE i hi) j (hE j hj) he
    have heval : execOp a.eval ops[s] = execOp (ev (putsL ops (valsOf ops a) rd l) b) ops[s] := by
      refine execOp_congr _ (fun cs b => Region.noSelect_spec hsel _ _ cs b hos) fun x hx => ?_
      have hfr0 : IsFr n a [] ⟨fun t => a.tmps.getD t undef, b.d⟩ := ⟨m.size, fun _ => rfl, m.defers⟩
      have h2 := List.all_eq_true.1 hopr x (by simpa using hx)
      cases x with
      | tmp t =>
        refine m.look (js := rd) hrE hgu ?_
        rcases Bool.or_eq_true_iff.1 h2 with h2 | h2
        · obtain ⟨j, hj, he⟩ := List.any_eq_true.1 h2
          exact .inl ⟨j, hj, by simpa using he⟩
        · refine .inr fun j hj he => ?_
          have h3 := List.all_eq_true.1 h2 j (List.mem_range.2 (hE j hj))
          simp [he] at h3
      | const v => rfl
      | global k => rfl
      | func f => rfl
    have hdo := rdS_use (ops := ops) (vals := valsOf ops a) rd (fun j hj => m.post j (hrE j hj)) (obl_get sp 0 hob hsp h1 m.keep)
    rw [Nat.zero_add, List.getElem?_eq_getElem hlt] at hdo
    have hp' : (s :: E ++ σ).Perm (List.range ops.length) := (List.perm_middle.symm).trans hp
    have hE' : ∀ j ∈ s :: E, j < sp.length := fun j hj => by
      rcases List.mem_cons.1 hj with rfl | hj
      · exact hsm
      · exact hE j hj
    have hdc' : DownC ops.toArray (s :: E) := by
      intro y hy z hz
      rcases List.mem_cons.1 hy with rfl | hy
      · exact List.mem_cons_of_mem _ (hlin.1 z hz)
      · exact List.mem_cons_of_mem _ (hdc y hy z hz)
    have hun : ∀ j ∈ E, dstOf ops j ≠ some d := fun j hj he => hsE (huniq j (hE j hj) s hsm (by rw [he, hdst']) ▸ hj)
    simp only [arun, hos]
    rw [if_pos hwant, heval, hd]
    cases q with
    | look v =>
      have hv : vop P ops[s].op (ev (putsL ops (valsOf ops a) rd l) b) h1 = some v := hdo
      have hvs : os P ops[s] (putsL ops (valsOf ops a) rd l) b h1 (fun v' h' => v' = v ∧ h' = h1) := vop_sound hv _ ⟨rfl, rfl⟩
      refine hp_mono _ hvs fun x h' hx => nextK_mono (fun v' h'' hh => ?_) x h' hx
      obtain ⟨rfl, rfl⟩ := hh
      exact ih (s :: E) _ _ hp' hE' hdc' hlin.2 (m.step hdst' hdn hun (.refl _ _) (by unfold Post; rw [hsp]))
    | act Q =>
      have hvs : os P ops[s] (putsL ops (valsOf ops a) rd l) b h1 (fun v h2 => Keep none_ h1 h2 ∧ Q v h2) := hdo
      refine hp_mono _ hvs fun x h' hx => nextK_mono (fun v' h'' hh => ?_) x h' hx
      exact ih (s :: E) _ _ hp' hE' hdc' hlin.2 (m.step hdst' hdn hun hh.1 (by unfold Post; rw [hsp]; exact ⟨_, hh.2, .refl _ _⟩))
/-- A drawn region, in any order. -/
theorem drawn_any {n : Nat} {ro : Option Nat} {id : Nat} {κ : Kont} {l : L} {b : Base} {h : Heap} (sp : Sps) (is : List Nat) (tail : List Di) (his : List.range sp.length = is) (hok : anyOk ops (sp.map (·.1)) tail = true) (hopn : opsOk n ops.toArray = true)
    (hob : obl P ops sp l b h 0 sp) (hfin : ∀ h1, Keep none_ h h1 → rdI h1 (is.map (item ops sp)) l (fun l' => dw P ops tail [] κ.nx l' b h1)) : gs P n ro (.region id ops.toArray true) κ l b h := by
  intro a w hw hfr fr k cs hkd hro
  subst hw
  subst his
  have hd := hok
  unfold anyOk at hd
  rw [Bool.and_eq_true, Bool.and_eq_true, Bool.and_eq_true, Bool.and_eq_true, Bool.and_eq_true, Bool.and_eq_true, Bool.and_eq_true, Bool.and_eq_true, Bool.and_eq_true] at hd
  obtain ⟨⟨⟨⟨⟨⟨⟨⟨⟨hdep, hup⟩, _⟩, _⟩, _⟩, _⟩, _⟩, _⟩, _⟩, _⟩ := hd
  let tp := w.tape w.drawn (.order fr.fn id)
  obtain ⟨hp1, hlin⟩ := sched_all (mixed := P.follows .mixedOrders) hdep hup tp
  have hfin' : ∀ h1, Keep none_ w.heap h1 → rdS ops sp h1 (List.range sp.length) l (fun l' => dsem P ops.toArray tail [] κ.nx l' b h1) := fun h1 hk => rdS_mono _ (rdS_of_rdI _ (hfin h1 hk)) fun l' hl' => dsem_of_dwF tail (by simp) hl'
  have har := any_arun (P := P) (κ := κ.nx) (l := l) (b := b) (h := w.heap) sp tail hok hopn hob hfin' _ [] a w.heap (by simpa using hp1) (fun j hj => by cases hj) (fun y hy => by cases hy) hlin
    ⟨hfr.size, hfr.defers, fun t _ => hfr.slot t, (fun j hj => by cases hj), .refl _ _⟩
  obtain ⟨a', w', hs, ⟨l', hfr', hk⟩, hst⟩ := steps_arun (P := P) (d := b.d) (fr := fr) (k := k) (cs := cs) hopn _ (w := { w with drawn := w.drawn + 1 }) hfr.size hfr.defers har
  exact ⟨.nx, a', w', l', b, ⟨hs.os, hs.tape, hs.output, (by first | exact hs.drawn | exact Nat.le_trans (Nat.le_succ _) hs.drawn)⟩, hfr', hk, .head stepR_region_draw hst⟩
/-- append onto a slice of no capacity. -/
theorem clone_at {h : Heap} {K : Value → Heap → Prop} {α : Type} {R : Rp α} {F F2 : Nat → Prop} {ty : TypeId} {T e by_ bk : Nat} {cs : Array Bool} {xs : List α} {a : Option Addr} {n c2 : Nat} {news : List Value} (hT : ElemT P T e R by_) (hF : ∀ b, F b → b < h.size)
    (hb : h[bk]? = some (.cells #[] e (0, 0))) (hFb : ¬ F bk) (hn : n = xs.length) (hrn : Cells F2 h a news) (hel : Elems R F h news xs) (hbig : xs.length * by_ ≤ 140737488355328) (h63 : xs.length < 9223372036854775808)
    (hk : ∀ v' h' own', Grow R e F h' v' xs own' → Keep none_ h h' → (∀ b, own' = some b → b = bk ∨ h.size ≤ b) → K v' h') :
    builtinS P .append #[T, T] ty cs #[.slice (some ⟨bk, 0, none⟩) 0 0, .slice a n c2] h K := by
  obtain ⟨z, hz, hzs⟩ := hT.zero
  subst hn
  have hnl := hel.len
  refine append_cells (F := F2) hT.el hT.sz hT.by_ hz R.pos (old := []) (by simp) (.nil _ _ _) hnl hrn (by simpa using hbig) (by simpa using h63) ?_ ?_ ?_
  · intro h0 _
    have : xs = [] := List.eq_nil_of_length_eq_zero h0
    subst this
    exact hk _ _ (some bk) (.inr ⟨bk, 0, #[], [], rfl, rfl, hb, hFb, by simp, Nat.le_refl _, by decide, by simp, rfl⟩) (.refl _ _) (fun b hb => by cases hb; exact .inl rfl)
  · intro h0 hroom
    omega
  · intro hgr cap hcap hcap63
    have hnew : ¬ F h.size := fun hh => by have := hF _ hh; omega
    have e0 : 0 + xs.length = xs.length := by omega
    rw [e0] at hcap ⊢
    refine hk _ _ (some h.size) (.inr ⟨h.size, cap, _, news, rfl, rfl, push_new _ _, hnew, ?_, hcap, hcap63, ?_, ?_⟩)
      (.push _ _ _) (fun b hb => .inr (by cases hb; exact Nat.le_refl _))
    · simp only [Array.size_append, List.size_toArray, zeroCells_size, hzs, hnl, List.length_nil, Nat.zero_add]
      rw [← Nat.add_mul]
      congr 1
      omega
    · rw [← hnl]
      simp only [Array.toList_append, List.nil_append]
      exact List.take_left
    · exact hel.mono fun b hFb => ⟨hFb, push_old _ (hF b hFb)⟩
end
end Go.HC

/-
  The document's store: a file is written.
-/
namespace Go.Proofs
open Go Go.HC

set_option maxHeartbeats 40000000 in
set_option maxRecDepth 10000 in
theorem rwrite_spec {v : Value} {F G : Nat → Prop} {h : Heap} {M : Mod} (s : RefAt v F h M) {n : Nat} (hn : M.Small n) (hn' : n < 1000000000) (hlo : -9223372030000000000 ≤ M.limit) (hhi : M.limit ≤ 9223372036854775807) (x : Nm) {bv : Value} {b : List UInt8}
    (hb : SlRep rByte G h bv b) (hG : ∀ b, G b → b < h.size) (hbl : b.length < 1000000000) :
    CallH Tryz.prog 33 #[v, .string x, bv] h fun r h' => r = .int .i64 (M.write x b).1 ∧ ∃ F', RefAt v F' h' (M.write x b).2 ∧ Keep F h h' ∧ ∀ b, F' b → F b ∨ h.size ≤ b := by
  refine callH_by fun K hK => ?_
  have s0 := s
  have hfl := hn.files
  have htl := hn.trace
  have hul := hn.used
  obtain ⟨bs, fv, of, lv, ol, R, rfl, rfl, s⟩ := s
  obtain ⟨ba, bc, rfl, hbc, _⟩ := hb.val
  refine enter [.tmp 6] Tryz.func33 rfl rfl (by kernel_rfl) rfl ?_
  have hs := s.str
  have hbs := lt_of_blk hs
  have hRl : ∀ b, R b → b < h.size := fun b hb => (s.sep b hb).1
  have hlol := s.tr.own_lt
  have hlof := s.fs.own_lt
  simp -dsimp
  refine call_by (right_spec x h) ?_
  rintro _ h' ⟨rfl, hh⟩
  obtain rfl := hh.symm
  unfold Mod.write at hK
  cases hno : nameOk x with
  | false =>
    rw [hno] at hK
    simp -dsimp
    exact hK _ _ ⟨rfl, _, s0, .refl _ _, fun b hb => .inl hb⟩
  | true =>
    rw [hno] at hK
    simp only [Bool.true_eq_false, if_false] at hK
    simp -dsimp
    refine call_by (rsfind_spec s0 (by omega) x) ?_
    rintro _ h' ⟨rfl, hh⟩
    obtain rfl := hh.symm
    obtain ⟨fa, fc, rfl⟩ := s.fs.val
    have hnl := now_le s.ok x
    simp -dsimp
    generalize hH : Array.setIfInBounds _ h.size _ = h1
    have hz1 : h1.size = h.size + 1 := by rw [← hH]; simp
    have k1 : Keep none_ h h1 := by rw [← hH]; exact ((Keep.refl none_ h).pushed _).setted _ (fun hh => absurd hh (by omega))
    have hf1 : h1[h.size]? = some (.cells #[.string x, .slice none 0 0, .slice none 0 0, .bool false, .bool false] 119 (0, 0)) := by rw [← hH]; exact set_same _ (by simp)
    have s1 := s.mono (h' := h1) (by omega) fun b hb => k1.blk b (s.lt b hb) (fun h => h)
    have hs1 := s1.str
    refine call_by (rused_spec s1.at (by omega) (by omega)) ?_
    rintro _ h1' ⟨rfl, hh⟩
    obtain rfl := hh.symm
    -- the file as it was
    cases hl : M.look x
    case' none =>
      simp -dsimp
      have hno' : M.nowOf x = [] := by unfold Mod.nowOf; rw [hl]; rfl
      obtain ⟨h2, rfl⟩ : ∃ h2, h2 = h1 := ⟨_, rfl⟩
      have k2 := k1
      obtain ⟨f0, hf0⟩ : ∃ f0 : FileM, f0 = ⟨[], none, false⟩ := ⟨_, rfl⟩
      have hf2 : ∃ va vc oa oc ox had, h2[h.size]? = some (.cells #[.string x, .slice va f0.now.length vc, .slice oa ox.length oc, .bool f0.safe, .bool had] 119 (0, 0)) ∧
          SlRep rByte R h2 (.slice va f0.now.length vc) f0.now ∧ SlRep rByte R h2 (.slice oa ox.length oc) ox ∧ f0.sure = if f0.safe = true then some f0.now else if had = true then some ox else none := by
        rw [hf0]; exact ⟨none, 0, none, 0, [], false, hf1, .nil _ _ _, .nil _ _ _, rfl⟩
      have hsure : (M.look x).bind (·.sure) = f0.sure := by rw [hl, hf0]; rfl
      have hnow : M.nowOf x = f0.now := by rw [hno', hf0]
      have hu0 : ((usedF M.files : Nat) : Int) = (usedF M.files : Int) - (f0.now.length : Int) := by rw [hf0]; simp
      rw [hu0]
    case' some g =>
      obtain ⟨hk, hat⟩ := at_pos s.ok.sorted hl
      have hno' : M.nowOf x = g.now := by unfold Mod.nowOf; rw [hl]; rfl
      generalize posF x M.files = k at hk hat ⊢
      obtain ⟨bk, cs, rfl, rfl, hr, hc⟩ := s1.fs.elem k hk
      obtain ⟨wv, ov, ox, had, rfl, r1, r2, r3⟩ := hr
      rw [hat] at r1 r3 hc
      obtain ⟨va, vc, rfl, _, _⟩ := r1.val
      obtain ⟨oa, oc, rfl, _, _⟩ := r2.val
      have hcells : HC.cellsIn h1[bk]? (k * 5) 5 = some [.string x, .slice va g.now.length vc, .slice oa ox.length oc, .bool g.safe, .bool had] := hc
      have hidx : ∀ (K : Value → Heap → Prop) (h : Heap), indexAddrS Tryz.prog 120 (.slice (some ⟨bk, 0, none⟩) M.files.length fc) (.int .i64 (k : Int)) h K = K (.pointer (some ⟨bk, k * 5, none⟩)) h := by
        intro K h
        rw [indexAddrS_slice _ _ _ _ _ _ (by omega) (by omega) rfl]
        simp [elSz]
      have hset : ∀ o, (h1.setIfInBounds h.size o)[h.size]? = some o := fun o => set_same _ (by omega)
      rw [hno'] at hnl
      have hw : IntKind.i64.wrap ((usedF M.files : Int) - (g.now.length : Int)) = (usedF M.files : Int) - (g.now.length : Int) := wrap_i64 (by omega) (by omega)
      simp -dsimp [hs1, hidx, hcells, hf1, hset, hw]
      generalize hH2 : h1.setIfInBounds h.size _ = h2
      have k2 : Keep none_ h h2 := by rw [← hH2]; exact k1.setted _ (fun hh => absurd hh (by omega))
      obtain ⟨f0, hf0⟩ : ∃ f0 : FileM, f0 = g := ⟨_, rfl⟩
      have hf2 : ∃ va vc oa oc ox had, h2[h.size]? = some (.cells #[.string x, .slice va f0.now.length vc, .slice oa ox.length oc, .bool f0.safe, .bool had] 119 (0, 0)) ∧
          SlRep rByte R h2 (.slice va f0.now.length vc) f0.now ∧ SlRep rByte R h2 (.slice oa ox.length oc) ox ∧ f0.sure = if f0.safe = true then some f0.now else if had = true then some ox else none := by
        have hm : ∀ b, R b → R b ∧ h2[b]? = h1[b]? := fun b hb => ⟨hb, by rw [← hH2]; exact set_other _ (by have := hRl b hb; omega)⟩
        rw [hf0]; exact ⟨va, vc, oa, oc, ox, had, by rw [← hH2]; exact hset _, r1.mono hm, r2.mono hm, r3⟩
      have hsure : (M.look x).bind (·.sure) = f0.sure := by rw [hl, hf0]; rfl
      have hnow : M.nowOf x = f0.now := by rw [hno', hf0]
      rw [← hf0]
    all_goals
      obtain ⟨va, vc, oa, oc, ox, had, hfb, r1, r2, r3⟩ := hf2
      have e2 := k2.size
      have hz2 : h2.size ≥ h.size + 1 := lt_of_blk hfb
      have s2 := s.mono (h' := h2) (by omega) fun b hb => k2.blk b (s.lt b hb) (fun h => h)
      have hs2 := s2.str
      have hnl := now_le s.ok x
      rw [hnow] at hnl
      have hwl : IntKind.i64.wrap (M.limit - ((usedF M.files : Int) - (f0.now.length : Int))) = M.limit - ((usedF M.files : Int) - (f0.now.length : Int)) := wrap_i64 (by omega) (by omega)
      have hfit : M.fits x b = decide ((usedF M.files : Int) - (f0.now.length : Int) + (b.length : Int) ≤ M.limit) := by unfold Mod.fits; rw [hnow]
      by_cases hgt : M.limit - ((usedF M.files : Int) - (f0.now.length : Int)) < (b.length : Int)
      · have hff : M.fits x b = false := by rw [hfit]; exact decide_eq_false (by omega)
        rw [hff] at hK
        simp -dsimp [hs2, hwl, hgt]
        exact hK _ _ ⟨rfl, _, s2.at, k2.none, fun b hb => .inl hb⟩
      · have hff : M.fits x b = true := by rw [hfit]; exact decide_eq_true (by omega)
        rw [hff] at hK
        simp only [Bool.true_eq_false, if_false] at hK
        simp -dsimp [hs2, hwl, hgt, hfb]
        have hset2 : ∀ o, (h2.setIfInBounds h.size o)[h.size]? = some o := fun o => set_same _ (by omega)
        have hset3 : ∀ o o', ((h2.setIfInBounds h.size o).setIfInBounds h.size o')[h.size]? = some o' := fun o o' => set_same _ (by simp; omega)
        cases hsf : f0.safe
        case' true =>
          rw [hsf] at hfb r3
          simp -dsimp [hfb, hset2]
          generalize hH3 : Array.setIfInBounds _ h.size _ = h3
          have k3 : Keep none_ h h3 := by rw [← hH3]; first | exact (k2.setted _ (fun hh => absurd hh (by omega))).setted _ (fun hh => absurd hh (by omega)) | exact k2.setted _ (fun hh => absurd hh (by omega))
          have hz3 : h3.size = h2.size := by rw [← hH3]; simp
          rw [← hz3]
          have hold3 : ∀ b, b < h.size → h3[b]? = h[b]? := fun b hb => k3.blk b hb (fun h => h)
          obtain ⟨had', hhad'⟩ : ∃ had', had' = true := ⟨_, rfl⟩
          obtain ⟨oa', oc', ox', hfb3, r2', r3'⟩ : ∃ oa' oc' ox', h3[h.size]? = some (.cells #[.string x, .slice va f0.now.length vc, .slice oa' ox'.length oc', .bool true, .bool had'] 119 (0, 0)) ∧ SlRep rByte R h3 (.slice oa' ox'.length oc') ox' ∧ f0.sure = if had' = true then some ox' else none :=
            ⟨va, vc, f0.now, by rw [hhad', ← hH3]; first | exact hset3 _ _ | exact hset2 _, r1.mono fun b hb => ⟨hb, by rw [hold3 b (hRl b hb), k2.blk b (hRl b hb) (fun h => h)]⟩, by rw [hhad', r3]; rfl⟩
        case' false =>
          rw [hsf] at hfb r3
          simp -dsimp
          obtain ⟨h3, hH3⟩ : ∃ h3, h3 = h2 := ⟨_, rfl⟩
          rw [← hH3]
          have k3 : Keep none_ h h3 := by rw [hH3]; exact k2
          have hz3 : h3.size = h2.size := by rw [hH3]
          have hold3 : ∀ b, b < h.size → h3[b]? = h[b]? := fun b hb => k3.blk b hb (fun h => h)
          obtain ⟨had', hhad'⟩ : ∃ had', had' = had := ⟨_, rfl⟩
          obtain ⟨oa', oc', ox', hfb3, r2', r3'⟩ : ∃ oa' oc' ox', h3[h.size]? = some (.cells #[.string x, .slice va f0.now.length vc, .slice oa' ox'.length oc', .bool false, .bool had'] 119 (0, 0)) ∧ SlRep rByte R h3 (.slice oa' ox'.length oc') ox' ∧ f0.sure = if had' = true then some ox' else none :=
            ⟨oa, oc, ox, by rw [hhad', hH3]; exact hfb, by rw [hH3]; exact r2, by rw [hhad', r3]; rfl⟩
        all_goals
          have hb3 := hb.mono (F' := G) (h' := h3) fun b hb => ⟨hb, hold3 b (hG b hb)⟩
          refine clone_bytes byteT hb3 (fun b hb => by have := hG b hb; omega) (by omega) ?_
          intro nv h4 own4 hg4 k4 ho4 hz4
          obtain ⟨na, nc, rfl⟩ := hg4.val
          have l4 := hg4.own_lt
          have hfb4 := k4.at hfb3 (fun h => h)
          have hset4 : ∀ o, (h4.setIfInBounds h.size o)[h.size]? = some o := fun o => set_same _ (by omega)
          have hset5 : ∀ o o', ((h4.setIfInBounds h.size o).setIfInBounds h.size o')[h.size]? = some o' := fun o o' => set_same _ (by simp; omega)
          simp -dsimp [hfb4, hset4]
          generalize hH5 : Array.setIfInBounds _ h.size _ = h5
          have k35 : Keep none_ h h5 := by rw [← hH5]; first | exact ((k3.trans k4 (fun _ _ h => h)).setted _ (fun hh => absurd hh (by omega))).setted _ (fun hh => absurd hh (by omega)) | exact (k3.trans k4 (fun _ _ h => h)).setted _ (fun hh => absurd hh (by omega))
          have hz5 : h5.size = h4.size := by rw [← hH5]; simp
          have s5 := s.mono (h' := h5) (by omega) fun b hb => k35.blk b (s.lt b hb) (fun h => h)
          have s6 := s5.widen (G := fun b => own4 = some b) fun b hb => ⟨by have := l4 b hb; omega, fun e => by have := ho4 b hb; omega, fun e => by have := ho4 b hb; have := hlof b e; omega, fun e => by have := ho4 b hb; have := hlol b e; omega⟩
          have hr5 : rFile.rep (fun b => R b ∨ own4 = some b) h5 [.string x, .slice na b.length nc, .slice oa' ox'.length oc', .bool false, .bool had'] (x, ⟨b, f0.sure, false⟩) :=
            ⟨_, _, ox', had', rfl, hg4.bytes.mono fun c hc => ⟨.inr hc, by rw [← hH5]; first | rw [set_other _ (by have := ho4 c hc; omega), set_other _ (by have := ho4 c hc; omega)] | rw [set_other _ (by have := ho4 c hc; omega)]⟩,
              r2'.mono fun c hc => ⟨.inl hc, by rw [k35.blk c (hRl c hc) (fun h => h), hold3 c (hRl c hc)]⟩, r3'⟩
          refine call_by (put_spec s6 hr5 (fun h => by cases h) (by omega)) ?_
          rintro _ h6 ⟨rfl, fv6, of6, s6', k6, ho6⟩
          simp -dsimp
          refine call_by (done_spec s6' 1 x (by show M.trace.length < _; omega)) ?_
          rintro _ h7 ⟨rfl, lv7, ol7, s7, k7, ho7⟩
          have e6 := k6.size
          have e7 := k7.size
          have e35 := k35.size
          simp -dsimp
          have hfin : RefC h7 (M.wrote x b) bs fv6 of6 lv7 ol7 (fun b => R b ∨ own4 = some b) := by
            unfold Mod.wrote; rw [hsure]; exact s7
          refine hK _ _ ⟨rfl, _, hfin.at, ⟨by omega, fun b hb hn => ?_⟩, rfoot_sub (fun b hb => (ho6 b hb).imp id fun h => by omega) (fun b hb => (ho7 b hb).imp id fun h => by omega) (fun b hb => hb.imp id fun h => by have := ho4 b h; omega)⟩
          rw [k7.blk b (by omega) (fun h => h.elim (fun h => hn (.inl h)) (fun h => hn (.inr (.inr (.inl h))))), k6.blk b (by omega) (fun h => h.elim (fun h => hn (.inl h)) (fun h => hn (.inr (.inl h)))), k35.blk b hb (fun h => h)]
end Go.Proofs

/-
  Tables of cells by their keys, plainly. No program is in sight.
-/
namespace Go.HC

structure CellM where
  key : List Int
  count : Int
  sum : List Int
  mn : List Int
  mx : List Int
def joinC (a b : CellM) : CellM :=
  ⟨a.key, IntKind.i64.wrap (a.count + b.count), List.zipWith (fun x y => IntKind.i64.wrap (x + y)) a.sum b.sum, List.zipWith min a.mn b.mn, List.zipWith max a.mx b.mx⟩
/-- A key's hash; its place among n slots. -/
def hashM (key : List Int) : Int := key.foldl (fun h v => (31 * h + v.tmod 1000003 + 1).tmod 1000003) 7
def placeM (key : List Int) (n : Nat) : Nat := (((hashM key).tmod n + n).tmod n).toNat
theorem tmod_bound {a n : Int} (hn : 0 < n) : -n < a.tmod n ∧ a.tmod n < n := by
  have h1 := Int.tmod_lt_of_pos a hn
  have h2 := Int.tmod_lt_of_pos (-a) hn
  rw [Int.neg_tmod] at h2
  omega
abbrev Tab := List (Option CellM)
/-- The key stands here, or may. -/
def hitM (T : Tab) (key : List Int) (k : Nat) : Bool :=
  match T[k]? with
  | some (some c) => decide (c.key = key)
  | _ => true
def probe (key : List Int) (n i : Nat) : Nat := (placeM key n + i) % n
def findM (T : Tab) (key : List Int) : Option Nat := ((List.range T.length).find? fun i => hitM T key (probe key T.length i)).map (probe key T.length)
def takenM (T : Tab) : Nat := T.countP (·.isSome)
def putM (T : Tab) (c : CellM) : Option Tab :=
  match findM T c.key with
  | none => none
  | some k => some (T.set k (match T[k]? with | some (some d) => some (joinC d c) | _ => some c))
def getM (T : Tab) (key : List Int) : Option CellM :=
  match findM T key with
  | none => none
  | some k => (T[k]?).join
def cellsM (T : Tab) : List CellM := T.filterMap id
/-- A cell stands where it is found: all slots from its key's place on are taken, and by other keys. -/
def StandsAt (T : Tab) (i : Nat) (key : List Int) (k : Nat) : Prop := i < T.length ∧ probe key T.length i = k ∧ ∀ j, j < i → ∃ c : CellM, T[probe key T.length j]? = some (some c) ∧ c.key ≠ key
def TabOk (T : Tab) : Prop := ∀ (k : Nat) (c : CellM), T[k]? = some (some c) → ∃ i, StandsAt T i c.key k

theorem probe_lt (key : List Int) {n : Nat} (hn : 0 < n) (i : Nat) : probe key n i < n := Nat.mod_lt _ hn
theorem find_spec_some {T : Tab} {key : List Int} {k : Nat} (h : findM T key = some k) : k < T.length ∧ (T[k]? = some none ∨ ∃ c, T[k]? = some (some c) ∧ c.key = key) ∧ ∃ i, StandsAt T i key k := by
  unfold findM at h
  rw [Option.map_eq_some_iff] at h
  obtain ⟨i, hi, rfl⟩ := h
  have hmem := List.mem_of_find?_eq_some hi
  have hhit := List.find?_some hi
  rw [List.mem_range] at hmem
  have hlt := probe_lt key (n := T.length) (by omega) i
  refine ⟨hlt, ?_, i, hmem, rfl, fun j hj => ?_⟩
  · unfold hitM at hhit
    rw [List.getElem?_eq_getElem hlt] at hhit ⊢
    cases hc : T[probe key T.length i] with
    | none => exact .inl rfl
    | some c =>
      rw [hc] at hhit
      exact .inr ⟨c, rfl, of_decide_eq_true hhit⟩
  · have hno : hitM T key (probe key T.length j) = false := by
      rw [List.find?_range_eq_some] at hi
      have := hi.2.2 j hj
      simpa using this
    have hlj := probe_lt key (n := T.length) (by omega) j
    unfold hitM at hno
    rw [List.getElem?_eq_getElem hlj] at hno ⊢
    cases hc : T[probe key T.length j] with
    | none => rw [hc] at hno; cases hno
    | some c =>
      rw [hc] at hno
      exact ⟨c, rfl, of_decide_eq_false hno⟩
/-- What is there is found. -/
theorem find_there {T : Tab} (hT : TabOk T) {k : Nat} {c : CellM} (h : T[k]? = some (some c)) : findM T c.key = some k := by
  obtain ⟨i, hi, hp, hb⟩ := hT k c h
  unfold findM
  rw [Option.map_eq_some_iff]
  refine ⟨i, ?_, hp⟩
  rw [List.find?_range_eq_some]
  refine ⟨?_, List.mem_range.2 hi, fun j hj => ?_⟩
  · unfold hitM
    rw [hp, h]
    simp
  · obtain ⟨d, hd, hne⟩ := hb j hj
    unfold hitM
    rw [hd]
    simpa using hne
theorem taken_set_new {T : Tab} {k : Nat} {c : CellM} (h : T[k]? = some none) : takenM (T.set k (some c)) = takenM T + 1 := by
  obtain ⟨hk, hv⟩ := List.getElem?_eq_some_iff.1 h
  unfold takenM
  rw [List.countP_set hk, hv]
  simp
theorem taken_set_old {T : Tab} {k : Nat} {c d : CellM} (h : T[k]? = some (some d)) : takenM (T.set k (some c)) = takenM T := by
  obtain ⟨hk, hv⟩ := List.getElem?_eq_some_iff.1 h
  unfold takenM
  rw [List.countP_set hk, hv]
  have : 0 < T.countP (·.isSome) := List.countP_pos_iff.2 ⟨some d, hv ▸ List.getElem_mem hk, rfl⟩
  simp; omega
theorem cells_len (T : Tab) : (cellsM T).length = takenM T := by
  unfold cellsM takenM
  induction T with
  | nil => rfl
  | cons x T ih =>
    cases x with
    | none => simpa using ih
    | some c => simp [ih]
/-- The keys that are there. -/
def keysM (T : Tab) : List (List Int) := (cellsM T).map (·.key)
theorem mem_keys {T : Tab} {key : List Int} : key ∈ keysM T ↔ ∃ (k : Nat) (c : CellM), T[k]? = some (some c) ∧ c.key = key := by
  unfold keysM cellsM
  simp only [List.mem_map, List.mem_filterMap, id]
  constructor
  · rintro ⟨c, ⟨x, hx, rfl⟩, rfl⟩
    obtain ⟨k, hk⟩ := List.mem_iff_getElem?.1 hx
    exact ⟨k, c, hk, rfl⟩
  · rintro ⟨k, c, h, rfl⟩
    exact ⟨c, ⟨some c, List.mem_of_getElem? h, rfl⟩, rfl⟩
/-- Behind a put: the table is right; the keys are those and this. -/
theorem put_ok {T T' : Tab} (hT : TabOk T) {c : CellM} (h : putM T c = some T') :
    TabOk T' ∧ takenM T' = (if c.key ∈ keysM T then takenM T else takenM T + 1) ∧ ∀ key, key ∈ keysM T' ↔ key = c.key ∨ key ∈ keysM T := by
  unfold putM at h
  cases hf : findM T c.key with
  | none => rw [hf] at h; cases h
  | some k =>
    rw [hf] at h
    simp only [Option.some.injEq] at h
    obtain ⟨hk, hor, i, hi, hp, hb⟩ := find_spec_some hf
    have hkey : ∃ d : CellM, T' = T.set k (some d) ∧ d.key = c.key := by
      rcases hor with h0 | ⟨d, hd, he⟩
      · rw [h0] at h; exact ⟨c, h.symm, rfl⟩
      · rw [hd] at h; exact ⟨joinC d c, h.symm, he⟩
    obtain ⟨d, rfl, hdk⟩ := hkey
    have hget : ∀ m, (T.set k (some d))[m]? = if k = m then some (some d) else T[m]? := by
      intro m
      rw [List.getElem?_set]
      by_cases e : k = m
      · subst e; simp [hk]
      · simp [e]
    have hlen : (T.set k (some d)).length = T.length := List.length_set
    -- a probe that met a taken slot of another key meets one
    have hpb : ∀ key j, (∃ e : CellM, T[probe key T.length j]? = some (some e) ∧ e.key ≠ key) → (probe key T.length j = k → c.key ≠ key) → ∃ e : CellM, (T.set k (some d))[probe key T.length j]? = some (some e) ∧ e.key ≠ key := by
      rintro key j ⟨e, he, hne⟩ hk'
      rw [hget]
      by_cases hc : k = probe key T.length j
      · rw [if_pos hc]; exact ⟨d, rfl, by rw [hdk]; exact hk' hc.symm⟩
      · rw [if_neg hc]; exact ⟨e, he, hne⟩
    refine ⟨?_, ?_, ?_⟩
    · intro m e hm
      rw [hget] at hm
      by_cases hkm : k = m
      · rw [if_pos hkm] at hm
        cases hm
        subst hkm
        refine ⟨i, by rw [hlen]; exact hi, by rw [hlen, hdk]; exact hp, fun j hj => ?_⟩
        rw [hlen, hdk]
        obtain ⟨e, he, hne⟩ := hb j hj
        refine hpb c.key j ⟨e, he, hne⟩ fun hpk => ?_
        exfalso
        rcases hor with h0 | ⟨d', hd', he'⟩
        · rw [hpk, h0] at he; cases he
        · rw [hpk, hd'] at he; cases he; exact hne he'
      · rw [if_neg hkm] at hm
        obtain ⟨i', hi', hp', hb'⟩ := hT m e hm
        refine ⟨i', by rw [hlen]; exact hi', by rw [hlen]; exact hp', fun j hj => ?_⟩
        rw [hlen]
        refine hpb e.key j (hb' j hj) fun hpk hce => ?_
        obtain ⟨e2, he2, hne2⟩ := hb' j hj
        rw [hpk] at he2
        rcases hor with h0 | ⟨d', hd', he'⟩
        · rw [h0] at he2; cases he2
        · rw [hd'] at he2; cases he2; exact hne2 (he'.trans hce)
    · rcases hor with h0 | ⟨d', hd', he'⟩
      · have hnot : ¬ c.key ∈ keysM T := by
          intro hm
          obtain ⟨k', d', hd', he'⟩ := mem_keys.1 hm
          have := find_there hT hd'
          rw [he', hf] at this
          cases this
          rw [h0] at hd'; cases hd'
        rw [if_neg hnot, taken_set_new h0]
      · rw [if_pos (mem_keys.2 ⟨k, d', hd', he'⟩), taken_set_old hd']
    · intro key
      rw [mem_keys, mem_keys]
      constructor
      · rintro ⟨m, e, hm, rfl⟩
        rw [hget] at hm
        by_cases hkm : k = m
        · rw [if_pos hkm] at hm; cases hm; exact .inl hdk
        · rw [if_neg hkm] at hm; exact .inr ⟨m, e, hm, rfl⟩
      · rintro (rfl | ⟨m, e, hm, rfl⟩)
        · exact ⟨k, d, by rw [hget, if_pos rfl], hdk⟩
        · by_cases hkm : k = m
          · subst hkm
            rcases hor with h0 | ⟨d', hd', he'⟩
            · rw [h0] at hm; cases hm
            · rw [hd'] at hm; cases hm
              exact ⟨k, d, by rw [hget, if_pos rfl], by rw [hdk, he']⟩
          · exact ⟨m, e, by rw [hget, if_neg hkm]; exact hm, rfl⟩
def newM (n : Nat) : Tab := List.replicate n none
theorem newM_ok (n : Nat) : TabOk (newM n) := by
  intro k c h
  unfold newM at h
  rw [List.getElem?_replicate] at h
  split at h <;> cases h
end Go.HC

/-
  Cells and tables of the program in memory; the contracts of small functions on them.
-/
namespace Go.HC
theorem Grow.ints {e : TypeId} {F : Nat → Prop} {h : Heap} {v : Value} {xs : List Int} {own : Option Nat} (hg : Grow rInt e F h v xs own) : SlRep rInt (fun b => own = some b) h v xs := by
  obtain ⟨a, c, rfl⟩ := hg.val
  obtain ⟨cs, _, h1, h2, h3, h4⟩ := hg.cells
  exact ⟨a, c, cs, rfl, h1, h2, h3, ints_map.2 (ints_map.1 h4)⟩
def rCell : Rp CellM where
  sz := 5
  pos := by decide
  rep F h cs c := ∃ kv sv nv xv, cs = [kv, .int .i64 c.count, sv, nv, xv] ∧ SlRep rInt F h kv c.key ∧ SlRep rInt F h sv c.sum ∧ SlRep rInt F h nv c.mn ∧ SlRep rInt F h xv c.mx
  len := by rintro F h cs c ⟨kv, sv, nv, xv, rfl, _⟩; rfl
  one := by
    rintro F h cs c ⟨kv, sv, nv, xv, rfl, h1, h2, h3, h4⟩
    obtain ⟨_, _, rfl, _⟩ := h1.val
    obtain ⟨_, _, rfl, _⟩ := h2.val
    obtain ⟨_, _, rfl, _⟩ := h3.val
    obtain ⟨_, _, rfl, _⟩ := h4.val
    rfl
  mono := by
    rintro F F' h h' cs c ⟨kv, sv, nv, xv, rfl, h1, h2, h3, h4⟩ hm
    exact ⟨kv, sv, nv, xv, rfl, h1.mono hm, h2.mono hm, h3.mono hm, h4.mono hm⟩
end Go.HC
namespace Go.Proofs
open Go Go.HC

theorem intT : ElemT Tryz.prog 22 3 rInt 8 := ⟨Tryz.elS22, Tryz.szS3, Tryz.byS3, _, Tryz.zS3, rfl⟩
theorem cellT : ElemT Tryz.prog 43 65 rCell 104 := ⟨Tryz.elS43, Tryz.szS65, Tryz.byS65, _, Tryz.zS65, rfl⟩
set_option maxRecDepth 10000 in
theorem cloneInt_spec {F : Nat → Prop} {h : Heap} {v : Value} {xs : List Int} (hv : SlRep rInt F h v xs) (hF : ∀ b, F b → b < h.size) (hn : xs.length < 1099511627776) :
    CallH Tryz.prog 92 #[v] h fun r h' => ∃ own, Grow rInt 3 none_ h' r xs own ∧ Keep none_ h h' ∧ ∀ b, own = some b → h.size ≤ b := by
  refine enter [.tmp 2] Tryz.func92 rfl rfl (by kernel_rfl) rfl ?_
  obtain ⟨a, c, cs, rfl, h1, h2, h3, h4⟩ := hv
  cases a with
  | none =>
    simp -dsimp
    have : xs = [] := by
      rcases h3 with h0 | ⟨_, _, _, _, _, hx, _⟩
      · have hl := h4.len
        rw [h0] at hl
        rcases Nat.mul_eq_zero.1 hl.symm with h | h
        · exact List.eq_nil_of_length_eq_zero h
        · exact absurd h (Nat.ne_of_gt rInt.pos)
      · cases hx
    subst this
    exact ⟨none, .nil _ _ _ _, .refl _ _, fun b hb => by cases hb⟩
  | some a =>
    simp -dsimp
    refine clone_cells (F := none_) (F2 := F) intT (fun _ h => h.elim) hF rfl h3 (ints_map.2 (ints_map.1 h4)) (by omega) (by omega) ?_
    intro v' h' own' hg hk ho hz
    obtain ⟨a', c', rfl⟩ := hg.val
    simp -dsimp
    exact ⟨own', hg, hk, ho⟩

end Go.Proofs

/-
  Groups of cells by their keys, plainly: what cells of one key come to, one cell of each key, rising.
-/
namespace Go.HC
/-! ### the order of keys -/
def lessM : List Int → List Int → Int
  | [], [] => 0
  | [], _ :: _ => -1
  | _ :: _, [] => 1
  | x :: xs, y :: ys => if x < y then -1 else if y < x then 1 else lessM xs ys
theorem lessM_zero : ∀ {xs ys : List Int}, lessM xs ys = 0 ↔ xs = ys
  | [], [] => by simp [lessM]
  | [], _ :: _ => by simp [lessM]
  | _ :: _, [] => by simp [lessM]
  | x :: xs, y :: ys => by
    rw [lessM]
    split
    · rename_i h
      simp only [List.cons.injEq]
      constructor
      · intro h; omega
      · rintro ⟨rfl, _⟩; omega
    · split
      · rename_i h
        simp only [List.cons.injEq]
        constructor
        · intro h; omega
        · rintro ⟨rfl, _⟩; omega
      · rename_i h1 h2
        rw [lessM_zero]
        simp only [List.cons.injEq]
        constructor
        · intro h; exact ⟨by omega, h⟩
        · rintro ⟨_, h⟩; exact h
theorem lessM_neg : ∀ (xs ys : List Int), lessM ys xs = - lessM xs ys
  | [], [] => rfl
  | [], _ :: _ => rfl
  | _ :: _, [] => rfl
  | x :: xs, y :: ys => by
    rw [lessM, lessM]
    by_cases h1 : x < y
    · have h2 : ¬ y < x := by omega
      simp only [if_pos h1, if_neg h2]; rfl
    · by_cases h2 : y < x
      · simp only [if_neg h1, if_pos h2]
      · simp only [if_neg h1, if_neg h2, lessM_neg xs ys]
theorem lessM_three : ∀ (xs ys : List Int), lessM xs ys = -1 ∨ lessM xs ys = 0 ∨ lessM xs ys = 1
  | [], [] => .inr (.inl rfl)
  | [], _ :: _ => .inl rfl
  | _ :: _, [] => .inr (.inr rfl)
  | x :: xs, y :: ys => by
    rw [lessM]
    split
    · exact .inl rfl
    · split
      · exact .inr (.inr rfl)
      · exact lessM_three xs ys
theorem lessM_trans : ∀ {xs ys zs : List Int}, lessM xs ys < 0 → lessM ys zs < 0 → lessM xs zs < 0
  | [], [], _, h, _ => by simp [lessM] at h
  | [], _ :: _, [], _, h => by simp [lessM] at h
  | [], _ :: _, _ :: _, _, _ => by simp [lessM]
  | _ :: _, [], _, h, _ => by simp [lessM] at h
  | _ :: _, _ :: _, [], _, h => by simp [lessM] at h
  | x :: xs, y :: ys, z :: zs, h1, h2 => by
    rw [lessM] at h1 h2 ⊢
    split at h1
    · split at h2
      · rw [if_pos (by omega)]; omega
      · split at h2
        · omega
        · rw [if_pos (by omega)]; omega
    · split at h1
      · omega
      · split at h2
        · rw [if_pos (by omega)]; omega
        · split at h2
          · omega
          · rw [if_neg (by omega), if_neg (by omega)]
            exact lessM_trans h1 h2
theorem lessM_self (xs : List Int) : lessM xs xs = 0 := lessM_zero.2 rfl
/-! ### cells of one key -/
def joinAll : List CellM → Option CellM
  | [] => none
  | c :: cs => some (cs.foldl joinC c)
/-- A cell, put to what is there. -/
def joinO : Option CellM → CellM → CellM
  | none, c => c
  | some d, c => joinC d c
theorem joinAll_snoc (l : List CellM) (c : CellM) : joinAll (l ++ [c]) = some (joinO (joinAll l) c) := by
  cases l with
  | nil => rfl
  | cons d l => simp [joinAll, joinO]
theorem foldl_key : ∀ (l : List CellM) (c : CellM), (l.foldl joinC c).key = c.key
  | [], _ => rfl
  | d :: l, c => by rw [List.foldl_cons, foldl_key l]; rfl
/-- What the cells of a key come to. -/
def atKey (key : List Int) (l : List CellM) : Option CellM := joinAll (l.filter fun c => decide (c.key = key))
theorem atKey_nil (key : List Int) : atKey key [] = none := rfl
theorem atKey_key {key : List Int} {l : List CellM} {c : CellM} (h : atKey key l = some c) : c.key = key := by
  unfold atKey at h
  cases hf : l.filter (fun c => decide (c.key = key)) with
  | nil => rw [hf] at h; cases h
  | cons d m =>
    rw [hf] at h
    simp only [joinAll, Option.some.injEq] at h
    rw [← h, foldl_key]
    have : d ∈ l.filter (fun c => decide (c.key = key)) := by rw [hf]; exact List.mem_cons_self
    simpa using (List.mem_filter.1 this).2
theorem atKey_snoc (key : List Int) (l : List CellM) (c : CellM) :
    atKey key (l ++ [c]) = if c.key = key then some (joinO (atKey key l) c) else atKey key l := by
  unfold atKey
  rw [List.filter_append]
  by_cases h : c.key = key
  · rw [if_pos h, ← joinAll_snoc]
    simp [h]
  · rw [if_neg h]
    simp [h]
theorem atKey_none {key : List Int} {l : List CellM} : atKey key l = none ↔ ∀ c ∈ l, c.key ≠ key := by
  unfold atKey
  cases hf : l.filter (fun c => decide (c.key = key)) with
  | nil =>
    simp only [joinAll, true_iff]
    intro c hc hk
    have : c ∈ l.filter (fun c => decide (c.key = key)) := List.mem_filter.2 ⟨hc, by simpa using hk⟩
    rw [hf] at this
    cases this
  | cons d m =>
    have : d ∈ l.filter (fun c => decide (c.key = key)) := by rw [hf]; exact List.mem_cons_self
    have := List.mem_filter.1 this
    simp only [joinAll, reduceCtorEq, false_iff]
    exact fun h => h d this.1 (by simpa using this.2)
/-! ### joining is of no order -/
theorem wrap_is (x : Int) : ∃ k : Int, IntKind.i64.wrap x = x + k * 18446744073709551616 ∧ -9223372036854775808 ≤ IntKind.i64.wrap x ∧ IntKind.i64.wrap x < 9223372036854775808 := by
  have e : (2 : Int) ^ IntKind.i64.bits = 18446744073709551616 := by decide
  have e2 : (2 : Int) ^ (IntKind.i64.bits - 1) = 9223372036854775808 := by decide
  unfold IntKind.wrap
  simp only [e, e2]
  by_cases h : x % 18446744073709551616 ≥ 9223372036854775808
  · refine ⟨- (x / 18446744073709551616) - 1, ?_⟩
    simp [IntKind.signed, h]; omega
  · refine ⟨- (x / 18446744073709551616), ?_⟩
    simp [IntKind.signed, h]; omega
theorem wrap_add_wrap (x y : Int) : IntKind.i64.wrap (IntKind.i64.wrap x + y) = IntKind.i64.wrap (x + y) := by
  obtain ⟨k1, h1, _, _⟩ := wrap_is x
  obtain ⟨k2, h2, _, _⟩ := wrap_is (IntKind.i64.wrap x + y)
  obtain ⟨k3, h3, _, _⟩ := wrap_is (x + y)
  omega
theorem wrap_add_wrap' (x y : Int) : IntKind.i64.wrap (x + IntKind.i64.wrap y) = IntKind.i64.wrap (x + y) := by
  rw [Int.add_comm, wrap_add_wrap, Int.add_comm]
theorem zip_assoc {f : Int → Int → Int} (hf : ∀ x y z, f (f x y) z = f x (f y z)) : ∀ xs ys zs : List Int, List.zipWith f (List.zipWith f xs ys) zs = List.zipWith f xs (List.zipWith f ys zs)
  | [], _, _ => by simp
  | _ :: _, [], _ => by simp
  | _ :: _, _ :: _, [] => by simp
  | x :: xs, y :: ys, z :: zs => by simp [hf, zip_assoc hf xs ys zs]
theorem zip_comm {f : Int → Int → Int} (hf : ∀ x y, f x y = f y x) : ∀ xs ys : List Int, List.zipWith f xs ys = List.zipWith f ys xs
  | [], ys => by simp
  | _ :: _, [] => by simp
  | x :: xs, y :: ys => by simp [hf x y, zip_comm hf xs ys]
theorem joinC_assoc (a b c : CellM) : joinC (joinC a b) c = joinC a (joinC b c) := by
  unfold joinC
  simp only [wrap_add_wrap, wrap_add_wrap', Int.add_assoc]
  rw [zip_assoc (fun x y z => by rw [wrap_add_wrap, wrap_add_wrap', Int.add_assoc]), zip_assoc (fun x y z => by omega), zip_assoc (fun x y z => by omega)]
theorem joinC_comm {a b : CellM} (h : a.key = b.key) : joinC a b = joinC b a := by
  unfold joinC
  rw [h, Int.add_comm, zip_comm (fun x y => by rw [Int.add_comm]) a.sum, zip_comm (fun x y => by omega) a.mn, zip_comm (fun x y => by omega) a.mx]
theorem foldl_join (l : List CellM) : ∀ (a b : CellM), l.foldl joinC (joinC a b) = joinC a (l.foldl joinC b) := by
  induction l with
  | nil => exact fun _ _ => rfl
  | cons c l ih => intro a b; rw [List.foldl_cons, List.foldl_cons, joinC_assoc, ih]
/-- Two parts' cells of a key. -/
def join2 : Option CellM → Option CellM → Option CellM
  | none, y => y
  | x, none => x
  | some x, some y => some (joinC x y)
theorem joinAll_append (l m : List CellM) : joinAll (l ++ m) = join2 (joinAll l) (joinAll m) := by
  cases l with
  | nil => cases m <;> rfl
  | cons c l =>
    cases m with
    | nil => simp [joinAll, join2]
    | cons d m => simp [joinAll, join2, foldl_join]
theorem joinAll_perm {key : List Int} {l m : List CellM} (hp : l.Perm m) : (∀ c ∈ l, c.key = key) → joinAll l = joinAll m := by
  induction hp with
  | nil => exact fun _ => rfl
  | @cons x l m hp ih =>
    intro hl
    have := ih fun c hc => hl c (List.mem_cons_of_mem _ hc)
    rw [← List.singleton_append, ← List.singleton_append (l := m), joinAll_append, joinAll_append, this]
  | swap x y l =>
    intro hl
    have h1 := hl x (by simp)
    have h2 := hl y (by simp)
    simp only [joinAll, List.foldl_cons]
    rw [joinC_comm (h2.trans h1.symm)]
  | trans hp1 hp2 ih1 ih2 => exact fun hl => (ih1 hl).trans (ih2 fun c hc => hl c (hp1.mem_iff.2 hc))
theorem atKey_perm {key : List Int} {l m : List CellM} (hp : l.Perm m) : atKey key l = atKey key m :=
  joinAll_perm (key := key) (hp.filter _) fun c hc => by simpa using (List.mem_filter.1 hc).2
/-! ### one cell of each key -/
def Srt (l : List CellM) : Prop := l.Pairwise fun a b => lessM a.key b.key < 0
/-- The group-by: rising, of each key what its cells come to. -/
structure Grp (l out : List CellM) : Prop where
  srt : Srt out
  mem : ∀ c, c ∈ out ↔ atKey c.key l = some c
theorem srt_eq : ∀ {l m : List CellM}, Srt l → Srt m → (∀ c, c ∈ l ↔ c ∈ m) → l = m
  | [], [], _, _, _ => rfl
  | [], c :: m, _, _, h => by have := (h c).2 List.mem_cons_self; cases this
  | c :: l, [], _, _, h => by have := (h c).1 List.mem_cons_self; cases this
  | a :: l, b :: m, h1, h2, h => by
    obtain ⟨h1a, h1b⟩ := List.pairwise_cons.1 h1
    obtain ⟨h2a, h2b⟩ := List.pairwise_cons.1 h2
    have hab : a = b := by
      rcases List.mem_cons.1 ((h a).1 List.mem_cons_self) with e | h3
      · exact e
      · rcases List.mem_cons.1 ((h b).2 List.mem_cons_self) with e | h4
        · exact e.symm
        · have x := lessM_trans (h2a a h3) (h1a b h4)
          rw [lessM_self] at x; omega
    subst hab
    congr 1
    refine srt_eq h1b h2b fun c => ?_
    constructor
    · intro hc
      rcases List.mem_cons.1 ((h c).1 (List.mem_cons_of_mem _ hc)) with e | h3
      · subst e; have x := h1a c hc; rw [lessM_self] at x; omega
      · exact h3
    · intro hc
      rcases List.mem_cons.1 ((h c).2 (List.mem_cons_of_mem _ hc)) with e | h3
      · subst e; have x := h2a c hc; rw [lessM_self] at x; omega
      · exact h3
theorem Grp.unique {l o o' : List CellM} (h : Grp l o) (h' : Grp l o') : o = o' := srt_eq h.srt h'.srt fun c => (h.mem c).trans (h'.mem c).symm
theorem Grp.perm {l m o : List CellM} (h : Grp l o) (hp : l.Perm m) : Grp m o := ⟨h.srt, fun c => by rw [h.mem, atKey_perm hp]⟩
theorem Grp.nil : Grp [] [] := ⟨List.Pairwise.nil, fun c => by simp [atKey_nil]⟩
/-- A cell is put to those of its key, or where it belongs. -/
def putC : List CellM → CellM → List CellM
  | [], c => [c]
  | d :: l, c => if lessM d.key c.key < 0 then d :: putC l c else if lessM d.key c.key = 0 then joinC d c :: l else c :: d :: l
theorem Srt.find {l : List CellM} (hs : Srt l) {a b : CellM} (ha : a ∈ l) (hb : b ∈ l) (h : a.key = b.key) : a = b := by
  induction l with
  | nil => cases ha
  | cons c l ih =>
    obtain ⟨h1, h2⟩ := List.pairwise_cons.1 hs
    rcases List.mem_cons.1 ha with rfl | ha' <;> rcases List.mem_cons.1 hb with rfl | hb'
    · rfl
    · have := h1 b hb'; rw [h, lessM_self] at this; omega
    · have := h1 a ha'; rw [← h, lessM_self] at this; omega
    · exact ih h2 ha' hb'
theorem mem_put {l : List CellM} (hs : Srt l) (c x : CellM) : x ∈ putC l c ↔ (x.key ≠ c.key ∧ x ∈ l) ∨ (x.key = c.key ∧ x = joinO (l.find? (fun d => decide (d.key = c.key))) c) := by
  induction l with
  | nil =>
    simp only [putC, List.mem_singleton, List.not_mem_nil, and_false, false_or, List.find?_nil]
    exact ⟨fun h => ⟨by rw [h], h⟩, fun h => h.2⟩
  | cons d l ih =>
    obtain ⟨h1, h2⟩ := List.pairwise_cons.1 hs
    rw [putC]
    split
    · rename_i hlt
      have hne : d.key ≠ c.key := fun e => by rw [e, lessM_self] at hlt; omega
      rw [List.mem_cons, ih h2, List.find?_cons_of_neg (by simpa using hne), List.mem_cons]
      constructor
      · rintro (rfl | ⟨h3, h4⟩ | h3)
        · exact .inl ⟨hne, .inl rfl⟩
        · exact .inl ⟨h3, .inr h4⟩
        · exact .inr h3
      · rintro (⟨h3, rfl | h4⟩ | h3)
        · exact .inl rfl
        · exact .inr (.inl ⟨h3, h4⟩)
        · exact .inr (.inr h3)
    · split
      · rename_i h0
        have he := lessM_zero.1 h0
        rw [List.find?_cons_of_pos (by simpa using he), List.mem_cons, List.mem_cons]
        have hlk : ∀ y ∈ l, y.key ≠ c.key := fun y hy e => by have := h1 y hy; rw [e, ← he, lessM_self] at this; omega
        constructor
        · rintro (rfl | h3)
          · exact .inr ⟨he, rfl⟩
          · exact .inl ⟨hlk x h3, .inr h3⟩
        · rintro (⟨h3, rfl | h4⟩ | ⟨_, rfl⟩)
          · exact absurd he h3
          · exact .inr h4
          · exact .inl rfl
      · rename_i h3 h0
        have hgt : lessM c.key d.key < 0 := by
          have := lessM_neg d.key c.key
          have := lessM_three d.key c.key
          omega
        have hlk : ∀ y ∈ d :: l, y.key ≠ c.key := by
          intro y hy e
          rcases List.mem_cons.1 hy with rfl | hy
          · rw [e, lessM_self] at hgt; omega
          · have := lessM_trans hgt (h1 y hy)
            rw [e, lessM_self] at this; omega
        have hn : (d :: l).find? (fun d => decide (d.key = c.key)) = none := by
          rw [List.find?_eq_none]
          intro y hy
          simpa using hlk y hy
        rw [hn, List.mem_cons]
        constructor
        · rintro (rfl | h4)
          · exact .inr ⟨rfl, rfl⟩
          · exact .inl ⟨hlk x h4, h4⟩
        · rintro (⟨_, h4⟩ | ⟨_, rfl⟩)
          · exact .inr h4
          · exact .inl rfl
theorem put_key {l : List CellM} {c x : CellM} (hx : x ∈ putC l c) : x.key = c.key ∨ x ∈ l := by
  induction l with
  | nil => rw [putC, List.mem_singleton] at hx; exact .inl (by rw [hx])
  | cons d l ih =>
    rw [putC] at hx
    split at hx
    · rcases List.mem_cons.1 hx with rfl | h
      · exact .inr List.mem_cons_self
      · exact (ih h).imp id (List.mem_cons_of_mem _)
    · split at hx
      · rename_i h0
        rcases List.mem_cons.1 hx with rfl | h
        · exact .inl (lessM_zero.1 h0)
        · exact .inr (List.mem_cons_of_mem _ h)
      · rcases List.mem_cons.1 hx with rfl | h
        · exact .inl rfl
        · exact .inr h
theorem srt_put {l : List CellM} (hs : Srt l) (c : CellM) : Srt (putC l c) := by
  induction l with
  | nil => exact List.pairwise_singleton _ _
  | cons d l ih =>
    obtain ⟨h1, h2⟩ := List.pairwise_cons.1 hs
    rw [putC]
    split
    · rename_i hlt
      refine List.pairwise_cons.2 ⟨fun y hy => ?_, ih h2⟩
      rcases put_key hy with e | h
      · rw [e]; exact hlt
      · exact h1 y h
    · split
      · refine List.pairwise_cons.2 ⟨fun y hy => h1 y hy, h2⟩
      · rename_i h3 h0
        have hgt : lessM c.key d.key < 0 := by
          have := lessM_neg d.key c.key
          have := lessM_three d.key c.key
          omega
        refine List.pairwise_cons.2 ⟨fun y hy => ?_, hs⟩
        rcases List.mem_cons.1 hy with rfl | hy
        · exact hgt
        · exact lessM_trans hgt (h1 y hy)
theorem Grp.find {l o : List CellM} (h : Grp l o) (key : List Int) : o.find? (fun d => decide (d.key = key)) = atKey key l := by
  cases hf : o.find? (fun d => decide (d.key = key)) with
  | none =>
    cases ha : atKey key l with
    | none => rfl
    | some c =>
      have hk := atKey_key ha
      have hm := (h.mem c).2 (by rw [hk, ha])
      have := List.find?_eq_none.1 hf c hm
      simp [hk] at this
  | some d =>
    have hm := (h.mem d).1 (List.mem_of_find?_eq_some hf)
    have hk := List.find?_some hf
    simp only [decide_eq_true_eq] at hk
    rw [hk] at hm
    exact hm.symm
theorem Grp.put {l o : List CellM} (h : Grp l o) (c : CellM) : Grp (l ++ [c]) (putC o c) := by
  refine ⟨srt_put h.srt c, fun x => ?_⟩
  rw [mem_put h.srt, h.find, atKey_snoc]
  by_cases hk : c.key = x.key
  · rw [if_pos hk, hk]
    simp only [ne_eq, not_true_eq_false, false_and, true_and, false_or]
    rw [Option.some.injEq]
    exact eq_comm
  · rw [if_neg hk, h.mem]
    have : x.key ≠ c.key := fun e => hk e.symm
    simp [this]
def groupC (l : List CellM) : List CellM := l.foldl putC []
theorem groupC_snoc (l : List CellM) (c : CellM) : groupC (l ++ [c]) = putC (groupC l) c := by simp [groupC]
theorem group_take {l : List CellM} {k : Nat} (hk : k < l.length) : groupC (l.take (k + 1)) = putC (groupC (l.take k)) l[k] := by
  rw [List.take_add_one, List.getElem?_eq_getElem hk, Option.toList_some, groupC_snoc]
theorem grp_aux : ∀ (l o m : List CellM), Grp m o → Grp (m ++ l) (l.foldl putC o)
  | [], o, m, h => by simpa using h
  | c :: l, o, m, h => by
    have := grp_aux l (putC o c) (m ++ [c]) (h.put c)
    simpa using this
theorem grp_group (l : List CellM) : Grp l (groupC l) := by
  have := grp_aux l [] [] .nil
  rwa [List.nil_append] at this
theorem group_perm {l m : List CellM} (hp : l.Perm m) : groupC l = groupC m := ((grp_group l).perm hp).unique (grp_group m)
theorem Grp.eq {l o : List CellM} (h : Grp l o) : o = groupC l := h.unique (grp_group l)
/-- As many as there are keys. -/
theorem putC_len {l : List CellM} (c : CellM) : (putC l c).length = l.length ∨ (putC l c).length = l.length + 1 := by
  induction l with
  | nil => exact .inr rfl
  | cons d l ih =>
    rw [putC]
    split
    · simpa using ih
    · split <;> simp
theorem putC_le (l : List CellM) (c : CellM) : (putC l c).length ≤ l.length + 1 := by rcases putC_len (l := l) c with h | h <;> omega
theorem group_le : ∀ (l o : List CellM), (l.foldl putC o).length ≤ o.length + l.length
  | [], _ => by simp
  | c :: l, o => by
    have := group_le l (putC o c)
    have := putC_le o c
    rw [List.foldl_cons, List.length_cons]; omega
theorem groupC_le (l : List CellM) : (groupC l).length ≤ l.length := by
  have := group_le l []
  rwa [List.length_nil, Nat.zero_add] at this
end Go.HC

/-
  The document's order of keys.
-/
namespace Go.Proofs
open Go Go.HC

set_option maxHeartbeats 4000000 in
set_option maxRecDepth 10000 in
theorem rless_spec {F G : Nat → Prop} {h : Heap} {av bv : Value} {xs ys : List Int} (ha : SlRep rInt F h av xs) (hb : SlRep rInt G h bv ys) :
    CallH Tryz.prog 99 #[av, bv] h fun r h' => r = .int .i64 (lessM xs ys) ∧ h' = h := by
  refine callH_by fun K hK => ?_
  refine enter [.tmp 4] Tryz.func99 rfl rfl (by kernel_rfl) rfl ?_
  obtain ⟨a0, c0, rfl, hc0, hc0'⟩ := ha.val
  obtain ⟨a1, c1, rfl, hc1, hc1'⟩ := hb.val
  simp -dsimp
  refine loop' (σ := Nat) (fun k => [(0, .slice a0 xs.length c0), (1, .slice a1 ys.length c1), (5, .int .i64 k)]) (fun _ => []) (fun k h' => h' = h ∧ k ≤ xs.length ∧ k ≤ ys.length ∧ lessM xs ys = lessM (xs.drop k) (ys.drop k)) (fun k => xs.length - k) 0 ?_ rfl ⟨rfl, Nat.zero_le _, Nat.zero_le _, rfl⟩ (by kernel_rfl) ?_
  · intro p hp
    simp at hp
    rcases hp with rfl | rfl | rfl <;> simp
  · rintro k h' g ⟨rfl, hk, hk', hpre⟩
    by_cases hx : k < xs.length
    · by_cases hy : k < ys.length
      · obtain ⟨b1, o1, v1, rfl, _, hr1, hc1⟩ := ha.get1 rfl k hx
        obtain ⟨b2, o2, v2, rfl, _, hr2, hc2⟩ := hb.get1 rfl k hy
        have hv1 : v1 = .int .i64 xs[k] := by simpa [rInt] using hr1
        have hv2 : v2 = .int .i64 ys[k] := by simpa [rInt] using hr2
        subst hv1; subst hv2
        have hid1 : ∀ sz ar kk, idxV sz ar (.slice (some ⟨b1, o1, none⟩) xs.length c0) (.int kk (k : Int)) = sz.map fun s => .pointer (some ⟨b1, o1 + k * s, none⟩) := by
          intro sz ar kk
          rw [idxV_slice (by omega) (by omega) rfl]
          simp
        have hid2 : ∀ sz ar kk, idxV sz ar (.slice (some ⟨b2, o2, none⟩) ys.length c1) (.int kk (k : Int)) = sz.map fun s => .pointer (some ⟨b2, o2 + k * s, none⟩) := by
          intro sz ar kk
          rw [idxV_slice (by omega) (by omega) rfl]
          simp
        have wk : IntKind.i64.wrap ((k : Int) + 1) = ((k + 1 : Nat) : Int) := by rw [wrap_i64 (by omega) (by omega)]; rfl
        rw [List.drop_eq_getElem_cons hx, List.drop_eq_getElem_cons hy, lessM] at hpre
        simp -dsimp [hx, hy]
        refine drawn_by [⟨0, true, []⟩, ⟨1, true, []⟩, ⟨2, true, []⟩, ⟨3, true, []⟩, ⟨4, true, []⟩, ⟨5, true, []⟩, ⟨6, true, []⟩, ⟨7, true, []⟩, ⟨8, true, []⟩] (by kernel_rfl) (by kernel_rfl) ?_
        by_cases h1 : xs[k] < ys[k]
        · rw [if_pos h1] at hpre
          simp -dsimp [hid1, hid2, hc1, hc2, elSz, h1]
          exact hK _ _ ⟨by rw [hpre], rfl⟩
        · rw [if_neg h1] at hpre
          simp -dsimp [hid1, hid2, hc1, hc2, elSz, h1]
          refine drawn_by [⟨0, true, []⟩, ⟨1, true, []⟩, ⟨2, true, []⟩, ⟨3, true, []⟩, ⟨4, true, []⟩, ⟨5, true, []⟩, ⟨6, true, []⟩, ⟨7, true, []⟩, ⟨8, true, []⟩] (by kernel_rfl) (by kernel_rfl) ?_
          by_cases h2 : ys[k] < xs[k]
          · rw [if_pos h2] at hpre
            simp -dsimp [hid1, hid2, hc1, hc2, elSz, h2]
            exact hK _ _ ⟨by rw [hpre], rfl⟩
          · rw [if_neg h2] at hpre
            simp -dsimp [hid1, hid2, hc1, hc2, elSz, h2, wk]
            refine ⟨k + 1, ?_, rfl, ⟨rfl, by omega, by omega, hpre⟩, by show xs.length - (k + 1) < xs.length - k; omega⟩
            intro p hp
            simp at hp
            rcases hp with rfl | rfl | rfl <;> simp
      · have hl : ¬ (xs.length < ys.length) := by omega
        have hg : ys.length < xs.length := by omega
        rw [List.drop_eq_getElem_cons hx, List.drop_of_length_le (l := ys) (by omega), lessM] at hpre
        simp -dsimp [hx, hy, hl, hg]
        exact hK _ _ ⟨by rw [hpre], rfl⟩
    · by_cases hy : k < ys.length
      · have hl : xs.length < ys.length := by omega
        rw [List.drop_of_length_le (l := xs) (by omega), List.drop_eq_getElem_cons hy, lessM] at hpre
        simp -dsimp [hx, hl]
        exact hK _ _ ⟨by rw [hpre], rfl⟩
      · have hl : ¬ (xs.length < ys.length) := by omega
        have hg : ¬ (ys.length < xs.length) := by omega
        rw [List.drop_of_length_le (l := xs) (by omega), List.drop_of_length_le (l := ys) (by omega), lessM] at hpre
        simp -dsimp [hx, hl, hg]
        exact hK _ _ ⟨by rw [hpre], rfl⟩
end Go.Proofs

/-
  The document's comparisons of cells.
-/
namespace Go.HC
end Go.HC
namespace Go.Proofs
open Go Go.HC

end Go.Proofs

/-
  The program's table in memory; where a key is found.
-/
namespace Go.Proofs
open Go Go.HC

end Go.Proofs

/-
  Cells in memory of their own.
-/
namespace Go.HC
/-- No row of a cell is too long. -/
structure CellSmall (c : CellM) : Prop where
  key : c.key.length < 1000000000
  sum : c.sum.length < 1000000000
  mn : c.mn.length < 1000000000
  mx : c.mx.length < 1000000000
end Go.HC
namespace Go.Proofs
open Go Go.HC

set_option maxHeartbeats 40000000 in
set_option maxRecDepth 10000 in
theorem cellOwn_th {F : Nat → Prop} {h : Heap} {cs : List Value} {c : CellM} (hr : rCell.rep F h cs c) (hF : ∀ b, F b → b < h.size) (hc : CellSmall c) :
    CallH Tryz.prog 90 #[.agg cs.toArray] h fun r h' => ∃ ds G, r = .agg ds.toArray ∧ rCell.rep G h' ds c ∧ Keep none_ h h' ∧ (∀ b, G b → h.size ≤ b ∧ b < h'.size) ∧ ∀ b, G b → Thaw h' b := by
  refine callH_by fun K hK => ?_
  refine enter [.cell 2 65] Tryz.func90 rfl rfl (by kernel_rfl) rfl ?_
  obtain ⟨kv, sv, nv, xv, rfl, r1, r2, r3, r4⟩ := hr
  obtain ⟨ka, kc, rfl, _, _⟩ := r1.val
  obtain ⟨sa, sc, rfl, _, _⟩ := r2.val
  obtain ⟨na, nc, rfl, _, _⟩ := r3.val
  obtain ⟨xa, xc, rfl, _, _⟩ := r4.val
  simp -dsimp [boxS_eq]
  generalize hB : (h.push _).push _ = h0
  have hz0 : h0.size = h.size + 2 := by rw [← hB]; simp
  have k0 : Keep none_ h h0 := by rw [← hB]; exact ((Keep.refl none_ h).pushed _).pushed _
  have hb0 : h0[h.size]? = some (.cells #[.slice ka c.key.length kc, .int .i64 c.count, .slice sa c.sum.length sc, .slice na c.mn.length nc, .slice xa c.mx.length xc] 65 (0, 0)) := by rw [← hB]; exact push_at (push_new _ _)
  have ht0 : h.size + 1 < h0.size := by omega
  have m1 : ∀ (h' : Heap), Keep none_ h h' → ∀ b, F b → F b ∧ h'[b]? = h[b]? := fun h' k b hb => ⟨hb, k.blk b (hF b hb) (fun h => h)⟩
  refine drawn_by [⟨0, true, []⟩, ⟨1, true, []⟩, ⟨3, true, []⟩, ⟨4, true, []⟩, ⟨5, true, []⟩, ⟨6, true, []⟩, ⟨8, true, []⟩, ⟨9, true, []⟩, ⟨11, true, []⟩, ⟨12, true, []⟩, ⟨2, false, [3, 4, 5, 6, 8, 9, 11, 12]⟩, ⟨7, false, [3, 4, 8, 9, 11, 12]⟩, ⟨10, false, [3, 4, 11, 12]⟩, ⟨13, false, [3, 4]⟩, ⟨14, false, []⟩, ⟨15, false, []⟩] (by kernel_rfl) (by kernel_rfl) ?_
  simp -dsimp [hb0]
  refine call_by (cloneInt_spec (r1.mono (m1 h0 k0)) (fun b hb => by have := hF b hb; omega) (by have := hc.key; omega)) ?_
  rintro _ h1 ⟨o1, g1, k1, n1⟩
  obtain ⟨a1, c1, rfl⟩ := g1.val
  have k01 := k0.trans k1 (fun _ _ h => h)
  have hb1 := k1.at hb0 (fun h => h)
  have e1 := k1.size
  simp -dsimp [again_cons, hb1]
  refine call_by (cloneInt_spec (r2.mono (m1 h1 k01)) (fun b hb => by have := hF b hb; omega) (by have := hc.sum; omega)) ?_
  rintro _ h2 ⟨o2, g2, k2, n2⟩
  obtain ⟨a2, c2, rfl⟩ := g2.val
  have k02 := k01.trans k2 (fun _ _ h => h)
  have hb2 := k2.at hb1 (fun h => h)
  have e2 := k2.size
  simp -dsimp [again_cons, hb2]
  refine call_by (cloneInt_spec (r3.mono (m1 h2 k02)) (fun b hb => by have := hF b hb; omega) (by have := hc.mn; omega)) ?_
  rintro _ h3 ⟨o3, g3, k3, n3⟩
  obtain ⟨a3, c3, rfl⟩ := g3.val
  have k03 := k02.trans k3 (fun _ _ h => h)
  have hb3 := k3.at hb2 (fun h => h)
  have e3 := k3.size
  simp -dsimp [again_cons, hb3]
  refine call_by (cloneInt_spec (r4.mono (m1 h3 k03)) (fun b hb => by have := hF b hb; omega) (by have := hc.mx; omega)) ?_
  rintro _ h4 ⟨o4, g4, k4, n4⟩
  obtain ⟨a4, c4, rfl⟩ := g4.val
  have k04 := k03.trans k4 (fun _ _ h => h)
  have hb4 := k4.at hb3 (fun h => h)
  have e4 := k4.size
  have ht4 : h4[h.size + 1]? = some (.cells #[.slice none 0 0, .int .i64 0, .slice none 0 0, .slice none 0 0, .slice none 0 0] 65 (0, 0)) := by
    have : h0[h.size + 1]? = some (.cells #[.slice none 0 0, .int .i64 0, .slice none 0 0, .slice none 0 0, .slice none 0 0] 65 (0, 0)) := by
      rw [← hB]
      have : (h.push (.cells #[.slice ka c.key.length kc, .int .i64 c.count, .slice sa c.sum.length sc, .slice na c.mn.length nc, .slice xa c.mx.length xc] 65)).size = h.size + 1 := by simp
      rw [← this]; exact push_new _ _
    exact k4.at (k3.at (k2.at (k1.at this (fun h => h)) (fun h => h)) (fun h => h)) (fun h => h)
  have hset : ∀ o, (h4.setIfInBounds (h.size + 1) o)[h.size + 1]? = some o := fun o => set_same o (by omega)
  simp -dsimp [again_cons, hb4, ht4, hset]
  generalize hH : h4.setIfInBounds (h.size + 1) _ = h5
  have hz5 : h5.size = h4.size := by rw [← hH]; simp
  have hold : ∀ b, b ≠ h.size + 1 → h5[b]? = h4[b]? := fun b hn => by rw [← hH, set_other _ (fun e => hn e.symm)]
  have l1 := g1.own_lt
  have l2 := g2.own_lt
  have l3 := g3.own_lt
  have l4 := g4.own_lt
  refine hK _ _ ⟨_, fun b => o1 = some b ∨ o2 = some b ∨ o3 = some b ∨ o4 = some b, rfl, ⟨_, _, _, _, rfl, ?_, ?_, ?_, ?_⟩, ⟨by omega, fun b hb _ => by rw [hold b (by omega), k04.blk b hb (fun h => h)]⟩, ?_, ?_⟩
  · exact g1.ints.mono fun b hb => ⟨.inl hb, by
      have := n1 b hb
      have := l1 b hb
      rw [hold b (by omega), k4.blk b (by omega) (fun h => h), k3.blk b (by omega) (fun h => h), k2.blk b (by omega) (fun h => h)]⟩
  · exact g2.ints.mono fun b hb => ⟨.inr (.inl hb), by
      have := n2 b hb
      have := l2 b hb
      rw [hold b (by omega), k4.blk b (by omega) (fun h => h), k3.blk b (by omega) (fun h => h)]⟩
  · exact g3.ints.mono fun b hb => ⟨.inr (.inr (.inl hb)), by
      have := n3 b hb
      have := l3 b hb
      rw [hold b (by omega), k4.blk b (by omega) (fun h => h)]⟩
  · exact g4.ints.mono fun b hb => ⟨.inr (.inr (.inr hb)), by
      have := n4 b hb
      rw [hold b (by omega)]⟩
  · rintro b (hb | hb | hb | hb)
    · have := n1 b hb; have := l1 b hb; omega
    · have := n2 b hb; have := l2 b hb; omega
    · have := n3 b hb; have := l3 b hb; omega
    · have := n4 b hb; have := l4 b hb; omega
  · rintro b (hb | hb | hb | hb)
    · refine (g1.thaw b hb).at ?_
      have := n1 b hb; have := l1 b hb
      rw [hold b (by omega), k4.blk b (by omega) (fun h => h), k3.blk b (by omega) (fun h => h), k2.blk b (by omega) (fun h => h)]
    · refine (g2.thaw b hb).at ?_
      have := n2 b hb; have := l2 b hb
      rw [hold b (by omega), k4.blk b (by omega) (fun h => h), k3.blk b (by omega) (fun h => h)]
    · refine (g3.thaw b hb).at ?_
      have := n3 b hb; have := l3 b hb
      rw [hold b (by omega), k4.blk b (by omega) (fun h => h)]
    · refine (g4.thaw b hb).at ?_
      have := n4 b hb
      rw [hold b (by omega)]
set_option maxRecDepth 10000 in
theorem add_spec (x y : Int) (h : Heap) : CallH Tryz.prog 133 #[.int .i64 x, .int .i64 y] h fun r h' => r = .int .i64 (IntKind.i64.wrap (x + y)) ∧ h' = h := by
  refine enter [.tmp 4] Tryz.func133 rfl rfl (by kernel_rfl) rfl ?_
  simp -dsimp
set_option maxRecDepth 10000 in
theorem min_spec (x y : Int) (h : Heap) : CallH Tryz.prog 134 #[.int .i64 x, .int .i64 y] h fun r h' => r = .int .i64 (min x y) ∧ h' = h := by
  refine enter [.tmp 4] Tryz.func134 rfl rfl (by kernel_rfl) rfl ?_
  simp -dsimp
  done
set_option maxRecDepth 10000 in
theorem max_spec (x y : Int) (h : Heap) : CallH Tryz.prog 135 #[.int .i64 x, .int .i64 y] h fun r h' => r = .int .i64 (max x y) ∧ h' = h := by
  refine enter [.tmp 4] Tryz.func135 rfl rfl (by kernel_rfl) rfl ?_
  simp -dsimp
  done
end Go.Proofs

/-
  The document's copy of a cell.
-/
namespace Go.Proofs
open Go Go.HC

theorem _root_.Go.HC.Grow.at_ {h h' : Heap} {v : Value} {xs : List Int} {e : Nat} {own : Option Nat} (g : Grow rInt e none_ h v xs own) (k : Keep none_ h h') : Grow rInt e none_ h' v xs own :=
  g.mono (fun _ h => h.elim) fun b hb => ⟨fun h => h, k.blk b (g.own_lt b hb) (fun h => h)⟩
/-- A slice without cells, at a block that is new. -/
def EmptyAt (n0 : Nat) : Value → Heap → Prop := fun v h => ∃ b, v = .slice (some ⟨b, 0, none⟩) 0 0 ∧ h[b]? = some (.cells #[] 3 (0, 0)) ∧ n0 ≤ b
/-- A new slice that holds these. -/
def NewInts (n0 : Nat) (xs : List Int) : Value → Heap → Prop := fun v h => ∃ own, Grow rInt 3 none_ h v xs own ∧ ∀ b, own = some b → n0 ≤ b
set_option maxRecDepth 10000 in
theorem newInts_app {K : Value → Heap → Prop} {ty : TypeId} {cs : Array Bool} {h0 h1 h2 : Heap} {F : Nat → Prop} {v : Value} {xs : List Int} {a : Option Addr} {c : Nat} (hv : EmptyAt h0.size v h1) (k12 : Keep none_ h1 h2) (k02 : Keep none_ h0 h2) (hx : SlRep rInt F h0 (.slice a xs.length c) xs) (hF : ∀ b, F b → b < h0.size) (hn : xs.length < 1000000000)
    (hk : ∀ v' h', Keep none_ h2 h' ∧ NewInts h0.size xs v' h' → K v' h') : builtinS Tryz.prog .append #[22, 22] ty cs #[v, .slice a xs.length c] h2 K := by
  obtain ⟨b, rfl, hb, hle⟩ := hv
  obtain ⟨a', c', cs', hv', h1', h2', h3, h4⟩ := hx
  cases hv'
  have s := k02.size
  refine clone_at (F := none_) (F2 := F) (xs := xs) intT (fun _ h => h.elim) (k12.at hb (fun h => h)) (fun h => h.elim) rfl (h3.mono fun b hb => ⟨hb, k02.blk b (hF b hb) (fun h => h)⟩) (ints_map.2 (ints_map.1 h4)) (by omega) (by omega) ?_
  intro v' h' own' hg hk' ho
  refine hk v' h' ⟨hk', own', hg, fun b hb => ?_⟩
  rcases ho b hb with rfl | h
  · exact hle
  · omega

set_option maxHeartbeats 40000000 in
set_option maxRecDepth 10000 in
theorem rcopy_th {F : Nat → Prop} {h : Heap} {cs : List Value} {c : CellM} (hr : rCell.rep F h cs c) (hF : ∀ b, F b → b < h.size) (hc : CellSmall c) :
    CallH Tryz.prog 62 #[.agg cs.toArray] h fun r h' => ∃ ds G, r = .agg ds.toArray ∧ rCell.rep G h' ds c ∧ Keep none_ h h' ∧ (∀ b, G b → h.size ≤ b ∧ b < h'.size) ∧ ∀ b, G b → Thaw h' b := by
  refine callH_by fun K hK => ?_
  refine enter [.cell 2 65] Tryz.func62 rfl rfl (by kernel_rfl) rfl ?_
  obtain ⟨kv, sv, nv, xv, rfl, r1, r2, r3, r4⟩ := hr
  obtain ⟨ka, kc, rfl, _, _⟩ := r1.val
  obtain ⟨sa, sc, rfl, _, _⟩ := r2.val
  obtain ⟨na, nc, rfl, _, _⟩ := r3.val
  obtain ⟨xa, xc, rfl, _, _⟩ := r4.val
  simp -dsimp [boxS_eq]
  generalize hB : (h.push _).push _ = h0
  have hz0 : h0.size = h.size + 2 := by rw [← hB]; simp
  have k0 : Keep none_ h h0 := by rw [← hB]; exact ((Keep.refl none_ h).pushed _).pushed _
  have hb0 : h0[h.size]? = some (.cells #[.slice ka c.key.length kc, .int .i64 c.count, .slice sa c.sum.length sc, .slice na c.mn.length nc, .slice xa c.mx.length xc] 65 (0, 0)) := by rw [← hB]; exact push_at (push_new _ _)
  have ht0 : h0[h.size + 1]? = some (.cells #[.slice none 0 0, .int .i64 0, .slice none 0 0, .slice none 0 0, .slice none 0 0] 65 (0, 0)) := by
    rw [← hB]
    have : (h.push (.cells #[.slice ka c.key.length kc, .int .i64 c.count, .slice sa c.sum.length sc, .slice na c.mn.length nc, .slice xa c.mx.length xc] 65)).size = h.size + 1 := by simp
    rw [← this]; exact push_new _ _
  have m0 : ∀ b, F b → F b ∧ h0[b]? = h[b]? := fun b hb => ⟨hb, k0.blk b (hF b hb) (fun h => h)⟩
  have hF0 : ∀ b, F b → b < h0.size := fun b hb => by have := hF b hb; omega
  have q1 := r1.mono m0
  have q2 := r2.mono m0
  have q3 := r3.mono m0
  have q4 := r4.mono m0
  refine drawn_any [([], .act (EmptyAt h0.size)), ([], .look (.pointer (some ⟨h.size, 0, none⟩))), ([1], .look (.slice ka c.key.length kc)), ([0, 2], .act (NewInts h0.size c.key)),
    ([], .look (.pointer (some ⟨h.size, 1, none⟩))), ([4], .look (.int .i64 c.count)),
    ([], .act (EmptyAt h0.size)), ([], .look (.pointer (some ⟨h.size, 2, none⟩))), ([7], .look (.slice sa c.sum.length sc)), ([6, 8], .act (NewInts h0.size c.sum)),
    ([], .act (EmptyAt h0.size)), ([], .look (.pointer (some ⟨h.size, 3, none⟩))), ([11], .look (.slice na c.mn.length nc)), ([10, 12], .act (NewInts h0.size c.mn)),
    ([], .act (EmptyAt h0.size)), ([], .look (.pointer (some ⟨h.size, 4, none⟩))), ([15], .look (.slice xa c.mx.length xc)), ([14, 16], .act (NewInts h0.size c.mx))] [0, 1, 2, 3, 4, 5, 6, 7, 8, 9, 10, 11, 12, 13, 14, 15, 16, 17] [⟨18, false, []⟩, ⟨19, false, []⟩] (by kernel_rfl) (by kernel_rfl) (by kernel_rfl) ?_ ?_
  · simp only [obl, rdS, doS]
    refine ⟨?_, ?_, ?_, ?_, ?_, ?_, ?_, ?_, ?_, ?_, ?_, ?_, ?_, ?_, ?_, ?_, ?_, ?_, trivial⟩
    all_goals intro h1 k1
    all_goals simp -dsimp [dstOf, k1.at hb0 (fun h => h)]
    · exact ⟨.push _ _ _, _, rfl, push_new _ _, k1.size⟩
    · exact fun v hj he kj => newInts_app he kj k1 q1 hF0 hc.key fun _ _ h => h
    · exact ⟨.push _ _ _, _, rfl, push_new _ _, k1.size⟩
    · exact fun v hj he kj => newInts_app he kj k1 q2 hF0 hc.sum fun _ _ h => h
    · exact ⟨.push _ _ _, _, rfl, push_new _ _, k1.size⟩
    · exact fun v hj he kj => newInts_app he kj k1 q3 hF0 hc.mn fun _ _ h => h
    · exact ⟨.push _ _ _, _, rfl, push_new _ _, k1.size⟩
    · exact fun v hj he kj => newInts_app he kj k1 q4 hF0 hc.mx fun _ _ h => h
  · intro h4 k4
    have hT4 := k4.at ht0 (fun h => h)
    have e4 := k4.size
    simp -dsimp only [List.map_cons, List.map_nil, item, dstOf, List.getElem?_cons_succ, List.getElem?_cons_zero, Option.map_some, Option.bind_some]
    simp -dsimp only [rdI, putl]
    rintro - - - - v1 j1 ⟨o1, g1, n1⟩ w1 - - - - v2 j2 ⟨o2, g2, n2⟩ w2 - - - - v3 j3 ⟨o3, g3, n3⟩ w3 - - - - v4 j4 ⟨o4, g4, n4⟩ w4
    replace g1 := g1.at_ w1
    replace g2 := g2.at_ w2
    replace g3 := g3.at_ w3
    replace g4 := g4.at_ w4
    obtain ⟨a1, c1, rfl⟩ := g1.val
    obtain ⟨a2, c2, rfl⟩ := g2.val
    obtain ⟨a3, c3, rfl⟩ := g3.val
    obtain ⟨a4, c4, rfl⟩ := g4.val
    have hset : ∀ o, (h4.setIfInBounds (h.size + 1) o)[h.size + 1]? = some o := fun o => set_same o (by omega)
    simp -dsimp [hT4, hset]
    generalize hH : h4.setIfInBounds (h.size + 1) _ = h5
    have hz5 : h5.size = h4.size := by rw [← hH]; simp
    have hold : ∀ b, b ≠ h.size + 1 → h5[b]? = h4[b]? := fun b hn => by rw [← hH, set_other _ (fun e => hn e.symm)]
    have l1 := g1.own_lt
    have l2 := g2.own_lt
    have l3 := g3.own_lt
    have l4 := g4.own_lt
    refine hK _ _ ⟨_, fun b => o1 = some b ∨ o2 = some b ∨ o3 = some b ∨ o4 = some b, rfl, ⟨_, _, _, _, rfl, ?_, ?_, ?_, ?_⟩, ⟨by omega, fun b hb _ => by rw [hold b (by omega), k4.blk b (by omega) (fun h => h), k0.blk b hb (fun h => h)]⟩, ?_, ?_⟩
    · exact g1.ints.mono fun b hb => ⟨.inl hb, by have := n1 b hb; rw [hold b (by omega)]⟩
    · exact g2.ints.mono fun b hb => ⟨.inr (.inl hb), by have := n2 b hb; rw [hold b (by omega)]⟩
    · exact g3.ints.mono fun b hb => ⟨.inr (.inr (.inl hb)), by have := n3 b hb; rw [hold b (by omega)]⟩
    · exact g4.ints.mono fun b hb => ⟨.inr (.inr (.inr hb)), by have := n4 b hb; rw [hold b (by omega)]⟩
    · rintro b (hb | hb | hb | hb)
      · have := n1 b hb; have := l1 b hb; omega
      · have := n2 b hb; have := l2 b hb; omega
      · have := n3 b hb; have := l3 b hb; omega
      · have := n4 b hb; have := l4 b hb; omega
    · rintro b (hb | hb | hb | hb)
      · exact (g1.thaw b hb).at (by have := n1 b hb; rw [hold b (by omega)])
      · exact (g2.thaw b hb).at (by have := n2 b hb; rw [hold b (by omega)])
      · exact (g3.thaw b hb).at (by have := n3 b hb; rw [hold b (by omega)])
      · exact (g4.thaw b hb).at (by have := n4 b hb; rw [hold b (by omega)])
end Go.Proofs

/-
  HC, part 24: footprints with a bound; what may be changed; a slice that grows among them; small words for the walk.
-/
namespace Go.HC
/-- The blocks from n on that are there, and are not to be changed. -/
def Ft (n : Nat) (M : Nat → Prop) (h : Heap) : Nat → Prop := fun b => Nw n h b ∧ b < h.size ∧ ¬ M b
abbrev Old (h : Heap) : Nat → Prop := Ft 0 none_ h
theorem Old.lt {h : Heap} : ∀ b, Old h b → b < h.size := fun _ h => h.2.1
theorem Ft.lt {n : Nat} {M : Nat → Prop} {h : Heap} : ∀ b, Ft n M h b → b < h.size := fun _ h => h.2.1
/-- From h to h' only blocks of M have changed; what may be changed now could be so, or is new. -/
structure Tr (M M' : Nat → Prop) (h h' : Heap) : Prop where
  keep : Keep M h h'
  new : ∀ b, M' b → M b ∨ h.size ≤ b
  lt : ∀ b, M' b → b < h'.size
section
variable {M M' M'' : Nat → Prop} {h h' h'' : Heap} {n n' : Nat}
theorem Tr.start (h : Heap) : Tr none_ none_ h h := ⟨.refl _ _, fun _ h => .inl h, fun _ h => h.elim⟩
theorem Tr.here (t : Tr M M' h h') : Tr M' M' h' h' := ⟨.refl _ _, fun _ h => .inl h, t.lt⟩
theorem Tr.size (t : Tr M M' h h') : h.size ≤ h'.size := t.keep.size
theorem Tr.trans (t : Tr M M' h h') (t' : Tr M' M'' h' h'') : Tr M M'' h h'' := by
  have s := t.keep.size
  refine ⟨⟨Nat.le_trans s t'.keep.size, fun b hb hm => ?_⟩, fun b hb => ?_, t'.lt⟩
  · have : ¬ M' b := fun hm' => (t.new b hm').elim hm (fun h => by omega)
    rw [t'.keep.blk b (by omega) this, t.keep.blk b hb hm]
  · rcases t'.new b hb with h1 | h1
    · exact t.new b h1
    · exact .inr (by omega)
theorem Tr.ft (t : Tr M M' h h') (hn : n' ≤ n) : ∀ b, Ft n M h b → Ft n' M' h' b ∧ h'[b]? = h[b]? := fun b hb =>
  ⟨⟨hb.1.at hn (t.keep.blk b hb.2.1 hb.2.2), Nat.lt_of_lt_of_le hb.2.1 t.keep.size, fun hm => (t.new b hm).elim hb.2.2 (fun h => by have := hb.2.1; omega)⟩, t.keep.blk b hb.2.1 hb.2.2⟩
/-- What is as old as h, whatever n. -/
theorem Tr.old (t : Tr none_ M h h') : ∀ b, Ft n none_ h b → Ft 0 M h' b ∧ h'[b]? = h[b]? := t.ft (Nat.zero_le _)
theorem Tr.call (t : Tr M M' h h') (k : Keep none_ h' h'') : Tr M M' h h'' :=
  t.trans ⟨⟨k.size, fun b hb _ => k.blk b hb (fun h => h)⟩, fun _ h => .inl h, fun b hb => Nat.lt_of_lt_of_le (t.lt b hb) k.size⟩
theorem Tr.push (t : Tr M M' h h') (o : Obj) : Tr M M' h (h'.push o) := t.call (.push _ _ _)
theorem Tr.pushM (t : Tr M M' h h') (o : Obj) : Tr M (fun b => M' b ∨ b = h'.size) h (h'.push o) :=
  t.trans ⟨.push _ _ _, fun b hb => hb.imp id fun e => by omega, fun b hb => by
    have : (h'.push o).size = h'.size + 1 := by simp
    rcases hb with hb | hb
    · have := t.lt b hb; omega
    · omega⟩
theorem Tr.set (t : Tr M M' h h') {b : Nat} (o : Obj) (hb : M' b) : Tr M M' h (h'.setIfInBounds b o) :=
  t.trans ⟨.set _ _ fun _ => hb, fun _ h => .inl h, fun c hc => by simpa using t.lt c hc⟩
theorem Tr.less (t : Tr M M' h h') (hm : ∀ b, M'' b → M' b) : Tr M M'' h h' := ⟨t.keep, fun b hb => t.new b (hm b hb), fun b hb => t.lt b (hm b hb)⟩
theorem Tr.of (k : Keep none_ h h') : Tr none_ none_ h h' := (Tr.start h).call k
/-- Blocks that are not to be changed are as they were. -/
theorem Tr.at (t : Tr M M' h h') {b : Nat} {o : Obj} (hb : h[b]? = some o) (hm : ¬ M b) : h'[b]? = some o := t.keep.at hb hm
theorem Tr.fresh (t : Tr none_ M h h') : ∀ b, M b → h.size ≤ b := fun b hb => (t.new b hb).elim (fun h => h.elim) id
/-- What a call has laid anew is not to be changed. -/
theorem Tr.ret (t : Tr M M' h h') (hn : n ≤ h'.size) : ∀ b, Ft h'.size none_ h'' b → Ft n M' h'' b ∧ h''[b]? = h''[b]? :=
  fun b hb => ⟨⟨hb.1.less hn, hb.2.1, fun hm => by have := t.lt b hm; have := hb.1.1; omega⟩, rfl⟩
/-- The same, once nothing is changed any more. -/
theorem Ft.free (hn : n' ≤ n) : ∀ b, Ft n M h b → Ft n' none_ h b ∧ h[b]? = h[b]? := fun _ hb => ⟨⟨hb.1.less hn, hb.2.1, fun h => h⟩, rfl⟩
end
section
variable {α : Type} {R : Rp α} {M M' : Nat → Prop} {h h' : Heap} {n n' : Nat} {e : TypeId}
/-- A slice that grows: its block may be changed, its data lie in blocks that may not. -/
structure Gr (R : Rp α) (e : TypeId) (n : Nat) (M : Nat → Prop) (h : Heap) (v : Value) (xs : List α) (own : Option Nat) : Prop where
  grow : Grow R e (Ft n M h) h v xs own
  mu : ∀ b, own = some b → M b
theorem Gr.nil (R : Rp α) (e n : Nat) (M : Nat → Prop) (h : Heap) : Gr R e n M h (.slice none 0 0) [] none := ⟨.nil _ _ _ _, fun b hb => by cases hb⟩
theorem Gr.own_lt {v : Value} {xs : List α} {own : Option Nat} (g : Gr R e n M h v xs own) : ∀ b, own = some b → b < h.size := g.grow.own_lt
theorem Gr.mono {v : Value} {xs : List α} {own : Option Nat} (g : Gr R e n M h v xs own) (t : Tr M M' h h') (hn : n' ≤ n) (ho : ∀ b, own = some b → M' b ∧ h'[b]? = h[b]?) : Gr R e n' M' h' v xs own :=
  ⟨g.grow.mono (t.ft hn) fun b hb => ⟨fun hf => hf.2.2 (ho b hb).1, (ho b hb).2⟩, fun b hb => (ho b hb).1⟩
theorem Gr.call {v : Value} {xs : List α} {own : Option Nat} (g : Gr R e n M h v xs own) (k : Keep none_ h h') : Gr R e n M h' v xs own :=
  ⟨g.grow.mono (fun b hb => ⟨⟨hb.1.at (Nat.le_refl _) (k.blk b hb.2.1 (fun h => h)), Nat.lt_of_lt_of_le hb.2.1 k.size, hb.2.2⟩, k.blk b hb.2.1 (fun h => h)⟩) fun b hb => ⟨fun hf => hf.2.2 (g.mu b hb), k.blk b (g.own_lt b hb) (fun h => h)⟩, g.mu⟩
/-- Another block is written. -/
theorem Gr.set {v : Value} {xs : List α} {own : Option Nat} (g : Gr R e n M h v xs own) {b : Nat} (o : Obj) (hb : M b) (hne : own ≠ some b) : Gr R e n M (h.setIfInBounds b o) v xs own :=
  ⟨g.grow.mono (fun c hc => ⟨⟨hc.1.at (Nat.le_refl _) (set_other _ fun e => hc.2.2 (e ▸ hb)), by simpa using hc.2.1, hc.2.2⟩, set_other _ fun e => hc.2.2 (e ▸ hb)⟩) fun c hc => ⟨fun hf => hf.2.2 (g.mu c hc), set_other _ fun e => hne (by rw [hc, e])⟩, g.mu⟩
theorem Gr.val {v : Value} {xs : List α} {own : Option Nat} (g : Gr R e n M h v xs own) : ∃ a c, v = .slice a xs.length c := g.grow.val
theorem Gr.vals {v : Value} {xs : List α} {own : Option Nat} (g : Gr R e n M h v xs own) : ∃ a m c, v = .slice a m c ∧ m = xs.length := by
  obtain ⟨a, c, rfl⟩ := g.val
  exact ⟨a, _, c, rfl, rfl⟩
theorem Gr.thaw {v : Value} {xs : List α} {own : Option Nat} (g : Gr R e n M h v xs own) : ∀ b, own = some b → Thaw h b := g.grow.thaw
theorem Gr.rep {v : Value} {xs : List α} {own : Option Nat} (g : Gr R e n M h v xs own) (hn : n' ≤ n) (ho : ∀ b, own = some b → n' ≤ b) : SlRep R (Ft n' none_ h) h v xs :=
  g.grow.rep.mono fun b hb => ⟨hb.elim (fun hf => ⟨hf.1.less hn, hf.2.1, fun h => h⟩) fun hf => ⟨⟨ho b hf, fun _ => g.thaw b hf⟩, g.own_lt b hf, fun h => h⟩, rfl⟩
theorem Gr.elem {a : Option Addr} {m c : Nat} {xs : List α} {own : Option Nat} (g : Gr R e n M h (.slice a m c) xs own) (k : Nat) (hk : k < xs.length) :
    ∃ bk cs, a = some ⟨bk, 0, none⟩ ∧ own = some bk ∧ R.rep (Ft n M h) h cs xs[k] ∧ cellsIn h[bk]? (k * R.sz) R.sz = some cs := g.grow.elem k hk
/-- An element is written. -/
theorem Gr.setE {v : Value} {xs : List α} {own : Option Nat} {news : List Value} {x : α} {i : Nat} (g : Gr R e n M h v xs own) (hi : i < xs.length) (hr : R.rep (Ft n M h) h news x) :
    ∃ bk m c o, v = .slice (some ⟨bk, 0, none⟩) m c ∧ m = xs.length ∧ own = some bk ∧ writeIn h[bk]? (i * R.sz) news = some o ∧ Gr R e n M (h.setIfInBounds bk o) v (xs.set i x) own := by
  obtain ⟨bk, c, o, h1, h2, h3, h4⟩ := g.grow.setE hi hr
  refine ⟨bk, _, c, o, h1, rfl, h2, h3, ⟨h4.mono (fun b hb => ⟨⟨hb.1.at (Nat.le_refl _) (set_other _ fun e => hb.2.2 (e ▸ g.mu bk h2)), by simpa using hb.2.1, hb.2.2⟩, rfl⟩) fun b hb => ⟨fun hf => hf.2.2 (g.mu b hb), rfl⟩, g.mu⟩⟩
end
section
variable {P : Program} {h : Heap} {K : Value → Heap → Prop} {ty : TypeId} {α : Type} {R : Rp α} {M : Nat → Prop} {n : Nat}
/-- append onto a slice that grows. -/
theorem gr_append {T e by_ : Nat} {cs : Array Bool} {v : Value} {xs ys : List α} {own : Option Nat} {b : Option Addr} {m c2 : Nat} {news : List Value} {F2 : Nat → Prop}
    (hT : ElemT P T e R by_) (hg : Gr R e n M h v xs own) (hM : ∀ b, M b → b < h.size) (hm : m = ys.length) (hrn : Cells F2 h b news) (hel : Elems R (Ft n M h) h news ys)
    (hbig : (xs.length + ys.length) * by_ ≤ 140737488355328) (h63 : xs.length + ys.length < 9223372036854775808)
    (hk : ∀ v' h' own', Gr R e n (fun b => M b ∨ own' = some b) h' v' (xs ++ ys) own' → Tr M (fun b => M b ∨ own' = some b) h h' → Keep (fun b => own = some b) h h' → (∀ b, own' = some b → own = some b ∨ h.size ≤ b) → K v' h') :
    builtinS P .append #[T, T] ty cs #[v, .slice b m c2] h K := by
  refine append_grow hT hg.grow Ft.lt hm hrn hel hbig h63 ?_
  intro v' h' own' hg' hk' ho
  have hs := hk'.size
  have ht : Tr M (fun b => M b ∨ own' = some b) h h' := ⟨hk'.weaken fun b _ => hg.mu b, fun b hb => hb.elim .inl fun hb => (ho b hb).imp (hg.mu b) id, fun b hb => hb.elim (fun h => Nat.lt_of_lt_of_le (hM b h) hs) (hg'.own_lt b)⟩
  exact hk v' h' own' ⟨hg'.mono (fun b hb => ⟨(ht.ft (Nat.le_refl _) b hb).1, rfl⟩) fun b hb => ⟨fun hf => hf.2.2 (.inr hb), rfl⟩, fun b hb => .inr hb⟩ ht hk' ho
/-- A slice without cells is laid. -/
theorem gr_empty {M0 : Nat → Prop} {h0 : Heap} (R : Rp α) (e n : Nat) (t : Tr M0 M h0 h) (n0 : Nat) (hn0 : n0 = h.size) :
    Gr R e n (fun b => M b ∨ b = h.size) (h.push (.cells #[] e)) (.slice (some ⟨n0, 0, none⟩) 0 0) [] (some h.size) ∧ Tr M (fun b => M b ∨ b = h.size) h (h.push (.cells #[] e)) := by
  have t1 := t.here.pushM (.cells #[] e)
  subst hn0
  refine ⟨⟨?_, fun b hb => .inr (by cases hb; rfl)⟩, t1⟩
  exact .inr ⟨h.size, 0, #[], [], rfl, rfl, push_new _ _, fun hf => hf.2.2 (.inr rfl), by simp, Nat.le_refl _, by decide, by simp, rfl⟩
/-- A slice is opened for append. -/
theorem SlRep.open_ {F : Nat → Prop} {a : Option Addr} {m c : Nat} {xs : List α} (hs : SlRep R F h (.slice a m c) xs) : ∃ cs, m = xs.length ∧ xs.length ≤ c ∧ c < 9223372036854775808 ∧ Cells F h a cs ∧ Elems R F h cs xs := by
  obtain ⟨a', c', cs, hv, h1, h2, h3, h4⟩ := hs
  cases hv
  exact ⟨cs, rfl, h1, h2, h3, h4⟩
/-- append of one datum. -/
theorem gr_app1 {T e by_ n0 : Nat} {cs : Array Bool} {v : Value} {xs : List α} {own : Option Nat} {x : α} {c : List Value} {arr : Array Value} (hn0 : n0 = h.size)
    (hT : ElemT P T e R by_) (hg : Gr R e n M h v xs own) (hM : ∀ b, M b → b < h.size) (hr : R.rep (Ft n M h) h c x) (hc : arr.toList = c)
    (hbig : (xs.length + 1) * by_ ≤ 140737488355328) (h63 : xs.length + 1 < 9223372036854775808)
    (hk : ∀ v' h' own', Gr R e n (fun b => M b ∨ own' = some b) h' v' (xs ++ [x]) own' → Tr M (fun b => M b ∨ own' = some b) h h' → Keep (fun b => own = some b) h h' → (∀ b, own' = some b → own = some b ∨ h.size ≤ b) → K v' h') :
    builtinS P .append #[T, T] ty cs #[v, .slice (some ⟨n0, 0, none⟩) 1 1] (h.push (.cells arr e)) K := by
  subst hn0
  have hp : Tr M M h (h.push (.cells arr e)) := Tr.push ⟨.refl _ _, fun _ h => .inl h, hM⟩ _
  have hps : (h.push (.cells arr e)).size = h.size + 1 := by simp
  subst hc
  refine gr_append (F2 := fun b => b = h.size) (ys := [x]) (news := arr.toList) hT (hg.call (.push _ _ _)) hp.lt rfl ?_ (.single (R.mono hr (hp.ft (Nat.le_refl _)))) hbig h63 ?_
  · exact .inr ⟨h.size, 0, _, _, _, rfl, rfl, push_new _ _, by rw [List.drop_zero, List.take_of_length_le (Nat.le_refl _)]⟩
  · intro v' h' own' g t k ho
    have t' := hp.trans t
    refine hk v' h' own' g t' ⟨t'.size, fun b hb hn => ?_⟩ fun b hb => (ho b hb).imp id fun h => by omega
    rw [k.blk b (by omega) hn, push_old _ hb]
end
/-! ### words for the walk -/
section
variable {P : Program} {h : Heap} {K : Value → Heap → Prop} {l : L} {b : Base}
@[simp] theorem sub_nil : Sub [] l b = True := propext ⟨fun _ => trivial, fun _ => .nil _ _⟩
@[simp] theorem sub_cons (t : Nat) (v : Value) (S : L) : Sub ((t, v) :: S) l b = (look l b t = v ∧ Sub S l b) :=
  propext ⟨fun hs => ⟨hs (t, v) (List.mem_cons_self), fun p hp => hs p (List.mem_cons_of_mem _ hp)⟩, fun ⟨h1, h2⟩ => .cons h1 h2⟩
/-- A variable that is given its value at once. -/
theorem push_set {h : Heap} {o o' : Obj} {n : Nat} (hn : n = h.size) : (h.push o).setIfInBounds n o' = h.push o' := by
  subst hn
  apply Array.ext'
  simp
/-- A round of a loop has ended well; simp leaves what is said as it is written. -/
def LoopJ {σ : Type} (S : σ → L) (D : σ → List Nat) (J : σ → Heap → Prop) (μ : σ → Nat) (s : σ) (_t1 : Tag S) (_t2 : Tag J) (_t3 : Tag μ) (l : L) (b : Base) (h : Heap) : Prop := ∃ s', Sub (S s') l b ∧ b.d = D s' ∧ J s' h ∧ μ s' < μ s
theorem loopj {P : Program} {n : Nat} {ro : Option Nat} {c : Code} {κ : Kont} {l : L} {b : Base} {h : Heap} {σ : Type} (S : σ → L) (J : σ → Heap → Prop) (μ : σ → Nat) (s0 : σ) (hS : Sub (S s0) l b) (hJ : J s0 h) (hok : codeOk n c = true)
    (round : ∀ s h g, J s h → cs P n ro c { κ with nx := LoopJ S (fun _ => b.d) J μ s ⟨⟩ ⟨⟩ ⟨⟩ } (S s) ⟨g, b.d⟩ h) : gs P n ro (.loop c) κ l b h := loop S (fun _ => b.d) J μ s0 hS rfl hJ hok round
theorem elSz_eq (T : TypeId) : elSz P T = (elS P T).bind (szS P) := _root_.id rfl
theorem idxA_nat {T : TypeId} {bk off n c i : Nat} {k : IntKind} (hi : i < n) :
    indexAddrS P T (.slice (some ⟨bk, off, none⟩) n c) (.int k (i : Int)) h K = optS ((elS P T).bind (szS P)) (fun s => K (.pointer (some ⟨bk, off + i * s, none⟩)) h) := by
  rw [indexAddrS_slice _ _ _ _ _ _ (by omega) (by omega) rfl, elSz_eq]
  have e : (fun s => K (.pointer (offs (some ⟨bk, off, none⟩) ((i : Int).toNat * s))) h) = fun s => K (.pointer (some ⟨bk, off + i * s, none⟩)) h := by
    funext s; rw [offs_mk, Int.toNat_natCast]
  rw [e]
theorem idxA_zero {T : TypeId} {bk off n c : Nat} {k : IntKind} (hi : 0 < n) :
    indexAddrS P T (.slice (some ⟨bk, off, none⟩) n c) (.int k 0) h K = optS ((elS P T).bind (szS P)) (fun _ => K (.pointer (some ⟨bk, off, none⟩)) h) := by
  have := idxA_nat (P := P) (T := T) (bk := bk) (off := off) (c := c) (k := k) (h := h) (K := K) hi
  rw [Int.natCast_zero] at this
  rw [this]
  have e : (fun s => K (.pointer (some ⟨bk, off + 0 * s, none⟩)) h) = fun _ => K (.pointer (some ⟨bk, off, none⟩)) h := by
    funext s; rw [Nat.zero_mul, Nat.add_zero]
  rw [e]
theorem idxV_nat {sz : Option Nat} {ar : Option (Nat × Nat)} {bk off n c i : Nat} {k : IntKind} (hi : i < n) :
    idxV sz ar (.slice (some ⟨bk, off, none⟩) n c) (.int k (i : Int)) = sz.map fun s => .pointer (some ⟨bk, off + i * s, none⟩) := by
  rw [idxV_slice (by omega) (by omega) rfl]
  simp only [Int.toNat_natCast, offs_mk]
theorem wrap_succ {k : Nat} (hk : k < 9223372036854775807) : IntKind.i64.wrap ((k : Int) + 1) = ((k + 1 : Nat) : Int) := by
  rw [wrap_i64 (by omega) (by omega)]; rfl
end
end Go.HC
