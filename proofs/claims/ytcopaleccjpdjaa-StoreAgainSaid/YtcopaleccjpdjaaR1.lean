/-
  The document's store in memory: a row of files in the order of their names.
-/
import Derived.Test.YtcopaleccjpdjaaN3
import Derived.Test.YtcopaleccjpdjaaHC20
namespace Go.HC
/-- Where a name stands, or would stand. -/
def posF (x : Nm) : Files → Nat
  | [] => 0
  | p :: l => if nLt p.1 x then posF x l + 1 else 0
theorem posF_le (x : Nm) : ∀ (l : Files), posF x l ≤ l.length
  | [] => Nat.le_refl _
  | p :: l => by
    rw [posF]
    split
    · simp; exact posF_le x l
    · exact Nat.zero_le _
theorem look_pos {x : Nm} : ∀ {l : Files}, SortedF l → lookF x l = match l[posF x l]? with | some p => if p.1 = x then some p.2 else none | none => none
  | [], _ => rfl
  | p :: l, hs => by
    obtain ⟨h1, h2⟩ := List.pairwise_cons.1 hs
    rw [lookF, posF]
    by_cases hlt : nLt p.1 x
    · rw [if_neg (fun e => nLt_irrefl x (by rwa [← e] at hlt)), if_pos hlt, look_pos h2]
      simp
    · rw [if_neg hlt]
      by_cases he : x = p.1
      · subst he; simp
      · rw [if_neg he, lookF_lt fun q hq => nLt_trans (nLt_total hlt (fun e => he e.symm)) (h1 q hq)]
        simp [Ne.symm he]
theorem put_new {x : Nm} {f : FileM} : ∀ {l : Files}, SortedF l → lookF x l = none → putF x f l = l.take (posF x l) ++ [(x, f)] ++ l.drop (posF x l)
  | [], _, _ => rfl
  | p :: l, hs, hl => by
    obtain ⟨h1, h2⟩ := List.pairwise_cons.1 hs
    rw [lookF] at hl
    by_cases he : x = p.1
    · rw [if_pos he] at hl; cases hl
    · rw [if_neg he] at hl
      rw [putF, if_neg he, posF]
      by_cases hlt : nLt p.1 x
      · rw [if_neg (nLt_asymm hlt), if_pos hlt, put_new h2 hl]
        simp
      · rw [if_pos (nLt_total hlt (fun e => he e.symm)), if_neg hlt]
        simp
theorem put_old {x : Nm} {f g : FileM} : ∀ {l : Files}, SortedF l → lookF x l = some g → putF x f l = l.set (posF x l) (x, f)
  | [], _, h => by cases h
  | p :: l, hs, hl => by
    obtain ⟨h1, h2⟩ := List.pairwise_cons.1 hs
    rw [lookF] at hl
    by_cases he : x = p.1
    · rw [putF, if_pos he, posF, if_neg (by rw [he]; exact nLt_irrefl _)]; simp
    · rw [if_neg he] at hl
      have hm := mem_lookF hl
      have hlt : nLt p.1 x := h1 _ hm
      rw [putF, if_neg he, if_neg (nLt_asymm hlt), posF, if_pos hlt, put_old h2 hl]
      simp
theorem del_pos {x : Nm} {g : FileM} : ∀ {l : Files}, SortedF l → lookF x l = some g → delF x l = l.take (posF x l) ++ l.drop (posF x l + 1)
  | [], _, h => by cases h
  | p :: l, hs, hl => by
    obtain ⟨h1, h2⟩ := List.pairwise_cons.1 hs
    rw [lookF] at hl
    by_cases he : x = p.1
    · rw [delF, if_pos he, posF, if_neg (by rw [he]; exact nLt_irrefl _)]; simp
    · rw [if_neg he] at hl
      have hm := mem_lookF hl
      have hlt : nLt p.1 x := h1 _ hm
      rw [delF, if_neg he, posF, if_pos hlt, del_pos h2 hl]
      simp
theorem at_pos {x : Nm} {g : FileM} : ∀ {l : Files}, SortedF l → lookF x l = some g → ∃ h : posF x l < l.length, l[posF x l] = (x, g)
  | l, hs, hl => by
    have := look_pos (x := x) hs
    rw [hl] at this
    cases hp : l[posF x l]? with
    | none => rw [hp] at this; cases this
    | some p =>
      rw [hp] at this
      obtain ⟨h1, h2⟩ := List.getElem?_eq_some_iff.1 hp
      refine ⟨h1, ?_⟩
      rw [h2]
      simp only at this
      split at this
      · rename_i he
        cases this
        rw [← he]
      · cases this
theorem posF_drop {x : Nm} : ∀ {l : Files} {k : Nat}, k ≤ posF x l → posF x l = k + posF x (l.drop k)
  | l, 0, _ => by simp
  | [], k + 1, h => by simp [posF] at h
  | p :: l, k + 1, h => by
    rw [posF] at h ⊢
    split
    · rename_i hlt
      rw [if_pos hlt] at h
      rw [posF_drop (l := l) (k := k) (by omega)]
      simp; omega
    · rename_i hlt
      rw [if_neg hlt] at h; omega
theorem cellsIn_cell {o : Option Obj} {i n d : Nat} {cs : List Value} (h : cellsIn o i n = some cs) (hd : d < n) : cellIn o (i + d) = cs[d]? := by
  cases o with
  | none => simp [cellsIn] at h
  | some o =>
    cases o with
    | cells c e fz =>
      rw [cellsIn_some] at h
      split at h
      · simp only [Option.some.injEq] at h
        rw [cellIn_some, ← h, List.getElem?_take, if_pos hd, List.getElem?_drop]
        simp
      · cases h
    | _ => simp [cellsIn] at h
end Go.HC
namespace Go.Proofs
open Go Go.HC

def rFile : Rp (Nm × FileM) where
  sz := 5
  pos := by decide
  rep F h cs p := ∃ bv ov ox had, cs = [.string p.1, bv, ov, .bool p.2.safe, .bool had] ∧ SlRep rByte F h bv p.2.now ∧ SlRep rByte F h ov ox ∧ p.2.sure = if p.2.safe = true then some p.2.now else if had = true then some ox else none
  len := by rintro F h cs p ⟨bv, ov, ox, had, rfl, _⟩; rfl
  one := by
    rintro F h cs p ⟨bv, ov, ox, had, rfl, h1, h2, _⟩
    obtain ⟨_, _, rfl, _⟩ := h1.val
    obtain ⟨_, _, rfl, _⟩ := h2.val
    rfl
  mono := by
    rintro F F' h h' cs p ⟨bv, ov, ox, had, rfl, h1, h2, h3⟩ hm
    exact ⟨bv, ov, ox, had, rfl, h1.mono hm, h2.mono hm, h3⟩
theorem fileT : ElemT Try.prog 81 89 rFile 72 := ⟨Try.elS81, Try.szS89, Try.byS89, _, Try.zS89, rfl⟩
theorem ropT : ElemT Try.prog 48 85 rOp 24 := ⟨Try.elS48, Try.szS85, Try.byS85, _, Try.zS85, rfl⟩

structure RefC (h : Heap) (M : Mod) (bs : Nat) (fv : Value) (of : Option Nat) (lv : Value) (ol : Option Nat) (R : Nat → Prop) : Prop where
  str : h[bs]? = some (.cells #[.int .i64 M.limit, fv, lv] 83 (0, 0))
  fs : Grow rFile 89 R h fv M.files of
  tr : Grow rOp 85 none_ h lv M.trace ol
  sep : ∀ b, R b → b < h.size ∧ b ≠ bs ∧ of ≠ some b ∧ ol ≠ some b
  o1 : of ≠ some bs
  o2 : ol ≠ some bs
  o3 : ∀ b, of = some b → ol ≠ some b
  ok : M.Ok
def rfoot (bs : Nat) (of ol : Option Nat) (R : Nat → Prop) : Nat → Prop := fun b => b = bs ∨ of = some b ∨ ol = some b ∨ R b
theorem RefC.lt {h : Heap} {M : Mod} {bs : Nat} {fv : Value} {of : Option Nat} {lv : Value} {ol : Option Nat} {R : Nat → Prop} (s : RefC h M bs fv of lv ol R) : ∀ b, rfoot bs of ol R b → b < h.size := by
  rintro b (rfl | ho | ho | hr)
  · exact lt_of_blk s.str
  · exact s.fs.own_lt b ho
  · exact s.tr.own_lt b ho
  · exact (s.sep b hr).1
theorem RefC.mono {h h' : Heap} {M : Mod} {bs : Nat} {fv : Value} {of : Option Nat} {lv : Value} {ol : Option Nat} {R : Nat → Prop} (s : RefC h M bs fv of lv ol R) (hs : h.size ≤ h'.size) (hk : ∀ b, rfoot bs of ol R b → h'[b]? = h[b]?) :
    RefC h' M bs fv of lv ol R where
  str := (hk bs (.inl rfl)).trans s.str
  fs := s.fs.mono (fun b hb => ⟨hb, hk b (.inr (.inr (.inr hb)))⟩) fun b hb => ⟨fun hR => (s.sep b hR).2.2.1 hb, hk b (.inr (.inl hb))⟩
  tr := s.tr.mono (fun b hb => hb.elim) fun b hb => ⟨fun h => h, hk b (.inr (.inr (.inl hb)))⟩
  sep := fun b hb => ⟨Nat.lt_of_lt_of_le (s.sep b hb).1 hs, (s.sep b hb).2⟩
  o1 := s.o1
  o2 := s.o2
  o3 := s.o3
  ok := s.ok
def RefAt (v : Value) (F : Nat → Prop) (h : Heap) (M : Mod) : Prop := ∃ bs fv of lv ol R, v = .pointer (some ⟨bs, 0, none⟩) ∧ F = rfoot bs of ol R ∧ RefC h M bs fv of lv ol R
theorem RefAt.lt {v : Value} {F : Nat → Prop} {h : Heap} {M : Mod} (s : RefAt v F h M) : ∀ b, F b → b < h.size := by
  obtain ⟨bs, fv, of, lv, ol, R, rfl, rfl, s⟩ := s
  exact s.lt
theorem RefAt.mono {v : Value} {F : Nat → Prop} {h h' : Heap} {M : Mod} (s : RefAt v F h M) (hs : h.size ≤ h'.size) (hk : ∀ b, F b → h'[b]? = h[b]?) : RefAt v F h' M := by
  obtain ⟨bs, fv, of, lv, ol, R, rfl, rfl, s⟩ := s
  exact ⟨bs, fv, of, lv, ol, R, rfl, rfl, s.mono hs hk⟩
theorem RefAt.keep {v : Value} {F S : Nat → Prop} {h h' : Heap} {M : Mod} (s : RefAt v F h M) (k : Keep S h h') (hS : ∀ b, F b → ¬ S b) : RefAt v F h' M := s.mono k.size fun b hb => k.blk b (s.lt b hb) (hS b hb)
theorem RefAt.ok {v : Value} {F : Nat → Prop} {h : Heap} {M : Mod} (s : RefAt v F h M) : M.Ok := by
  obtain ⟨bs, fv, of, lv, ol, R, rfl, rfl, s⟩ := s
  exact s.ok

theorem rnew_spec (k : Int) (h : Heap) : CallH Try.prog 23 #[.int .i64 k] h fun r h' => ∃ F, RefAt r F h' (Mod.new k) ∧ Keep none_ h h' ∧ ∀ b, F b → h.size ≤ b := by
  refine enter [.tmp 2] Try.func23 rfl rfl (by kernel_rfl) rfl ?_
  simp -dsimp [boxS_eq]
  refine ⟨rfoot h.size none none none_, ⟨h.size, _, none, _, none, none_, rfl, rfl, ?_, .nil _ _ _ _, .nil _ _ _ _, fun b hb => hb.elim, by simp, by simp, (fun b hb => by cases hb), .new k⟩, .push _ _ _, ?_⟩
  · exact push_new _ _
  · rintro b (rfl | h | h | h)
    · exact Nat.le_refl _
    · cases h
    · cases h
    · exact h.elim

set_option maxRecDepth 10000 in
theorem find_spec {v : Value} {F : Nat → Prop} {h : Heap} {M : Mod} (s : RefAt v F h M) (hn : M.files.length < 1000000000) (x : Nm) :
    CallH Try.prog 46 #[v, .string x] h fun r h' => r = .tuple #[.int .i64 (posF x M.files), .bool (M.look x).isSome] ∧ h' = h := by
  refine callH_by fun K hK => ?_
  obtain ⟨bs, fv, of, lv, ol, R, rfl, rfl, s⟩ := s
  refine enter [.tmp 4, .tmp 5] Try.func46 rfl rfl (by kernel_rfl) rfl ?_
  have hs := s.str
  obtain ⟨fa, fc, rfl⟩ := s.fs.val
  have hrep := s.fs.rep
  simp -dsimp
  refine loop' (σ := Nat) (fun k => [(0, .pointer (some ⟨bs, 0, none⟩)), (1, .string x), (6, .int .i64 k)]) (fun _ => []) (fun k h' => h' = h ∧ k ≤ posF x M.files) (fun k => M.files.length - k) 0 ?_ rfl ⟨rfl, Nat.zero_le _⟩ (by kernel_rfl) ?_
  · intro p hp
    simp at hp
    rcases hp with rfl | rfl | rfl <;> simp
  · rintro k h' g ⟨rfl, hk⟩
    have hpl := posF_le x M.files
    have hpd := posF_drop hk
    by_cases hkl : k < M.files.length
    · obtain ⟨bk, off, cs, rfl, hF, hr, hc⟩ := hrep.get k hkl
      obtain ⟨bv, ov, ox, had, rfl, h1, h2, h3⟩ := hr
      have hcell : cellIn h'[bk]? (off + k * 5) = some (.string M.files[k].1) := by
        have := cellsIn_cell (d := 0) hc (by decide)
        simpa [rFile] using this
      have hidx : ∀ (K : Value → Heap → Prop) (h : Heap), indexAddrS Try.prog 81 (.slice (some ⟨bk, off, none⟩) M.files.length fc) (.int .i64 (k : Int)) h K = K (.pointer (some ⟨bk, off + k * 5, none⟩)) h := by
        intro K h
        rw [indexAddrS_slice _ _ _ _ _ _ (by omega) (by omega) rfl]
        simp [elSz]
      have hdr : M.files.drop k = M.files[k] :: M.files.drop (k + 1) := List.drop_eq_getElem_cons hkl
      have wk : IntKind.i64.wrap ((k : Int) + 1) = ((k + 1 : Nat) : Int) := by rw [wrap_i64 (by omega) (by omega)]; rfl
      by_cases hlt : nLt M.files[k].1 x
      · have hsl : sLt M.files[k].1 x = true := by rw [sLt_eq]; exact decide_eq_true hlt
        rw [hdr, posF, if_pos hlt] at hpd
        simp -dsimp [hs, hkl, hidx, hcell, hsl, wk]
        refine ⟨k + 1, ?_, rfl, ⟨rfl, by omega⟩, by show M.files.length - (k + 1) < M.files.length - k; omega⟩
        intro p hp
        simp at hp
        rcases hp with rfl | rfl | rfl <;> simp
      · have hsl : sLt M.files[k].1 x = false := by rw [sLt_eq]; exact decide_eq_false hlt
        rw [hdr, posF, if_neg hlt] at hpd
        have hpk : posF x M.files = k := by omega
        have hlk : (M.look x).isSome = decide (M.files[k].1 = x) := by
          unfold Mod.look
          rw [look_pos s.ok.sorted, hpk, List.getElem?_eq_getElem hkl]
          simp only
          split
          · rename_i e; simp [e]
          · rename_i e; simp [e]
        have hidv : ∀ sz ar kk, idxV sz ar (.slice (some ⟨bk, off, none⟩) M.files.length fc) (.int kk (k : Int)) = sz.map fun s => .pointer (some ⟨bk, off + k * s, none⟩) := by
          intro sz ar kk
          rw [idxV_slice (by omega) (by omega) rfl]
          simp
        simp -dsimp [hs, hkl, hidx, hcell, hsl]
        refine drawn_by [⟨0, true, []⟩, ⟨1, true, []⟩, ⟨2, true, []⟩, ⟨3, true, []⟩, ⟨4, true, []⟩, ⟨5, true, []⟩, ⟨6, true, []⟩, ⟨7, true, []⟩, ⟨8, true, []⟩, ⟨9, true, []⟩, ⟨10, true, []⟩, ⟨11, true, []⟩, ⟨12, true, []⟩, ⟨13, true, []⟩, ⟨14, true, []⟩, ⟨15, true, []⟩, ⟨16, true, []⟩, ⟨17, true, []⟩, ⟨18, true, []⟩, ⟨19, true, []⟩, ⟨20, true, []⟩, ⟨21, true, []⟩] (by kernel_rfl) (by kernel_rfl) ?_
        simp -dsimp [hs, hkl, hidv, hcell, elSz]
        exact hK _ _ ⟨by rw [hpk, hlk], rfl⟩
    · have hpk : posF x M.files = k := by omega
      have hlk : (M.look x).isSome = false := by
        unfold Mod.look
        rw [look_pos s.ok.sorted, hpk, List.getElem?_eq_none (by omega)]
        rfl
      simp -dsimp [hs, hkl]
      refine drawn_by [⟨0, true, []⟩, ⟨1, true, []⟩, ⟨2, true, []⟩, ⟨3, true, []⟩, ⟨4, true, []⟩, ⟨5, true, []⟩, ⟨6, true, []⟩, ⟨7, true, []⟩, ⟨8, true, []⟩, ⟨9, true, []⟩, ⟨10, true, []⟩, ⟨11, true, []⟩, ⟨12, true, []⟩, ⟨13, true, []⟩, ⟨14, true, []⟩, ⟨15, true, []⟩, ⟨16, true, []⟩, ⟨17, true, []⟩, ⟨18, true, []⟩, ⟨19, true, []⟩, ⟨20, true, []⟩, ⟨21, true, []⟩] (by kernel_rfl) (by kernel_rfl) ?_
      simp -dsimp [hs, hkl]
      exact hK _ _ ⟨by rw [hpk, hlk], rfl⟩
end Go.Proofs
