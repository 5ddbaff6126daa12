/-
  The program's store in memory: what it looks like, and the contracts of the small functions on it.
-/
import Derived.Test.YtcopaleccjpdjaaSM
import Derived.Test.YtcopaleccjpdjaaHF
namespace Go.Proofs
open Go Go.HC

def rOp : Rp (Int × Nm) := rInt.prod rStr
/-- A file's value. -/
def FileRep (R : Nat → Prop) (h : Heap) (v : Value) (f : FileM) : Prop :=
  ∃ nv sv sx si, v = .agg #[nv, sv, .bool si, .bool f.safe] ∧ SlRep rByte R h nv f.now ∧ SlRep rByte R h sv sx ∧ f.sure = if si = true then some sx else none
def FilesRep (R : Nat → Prop) (h : Heap) (es : Ents Nm) (fs : Files) : Prop :=
  ∀ x, (getE x es = none ∧ lookF x fs = none) ∨ ∃ v f, getE x es = some v ∧ lookF x fs = some f ∧ FileRep R h v f

structure StC (h : Heap) (M : Mod) (bs bm : Nat) (es : Ents Nm) (clock : Nat) (tv : Value) (own : Option Nat) (R : Nat → Prop) : Prop where
  str : h[bs]? = some (.cells #[.int .i64 M.limit, .map (some bm), tv] 66 (0, 0))
  map : h[bm]? = some (.map (entsOf kStr es) clock)
  ents : EntsOk es clock
  files : FilesRep R h es M.files
  tr : Grow rOp 53 none_ h tv M.trace own
  sep : ∀ b, R b → b < h.size ∧ b ≠ bs ∧ b ≠ bm ∧ own ≠ some b
  o1 : own ≠ some bs
  o2 : own ≠ some bm
  ne : bs ≠ bm
  ok : M.Ok

theorem FileRep.mono {R R' : Nat → Prop} {h h' : Heap} {v : Value} {f : FileM} (hf : FileRep R h v f) (hm : ∀ b, R b → R' b ∧ h'[b]? = h[b]?) : FileRep R' h' v f := by
  obtain ⟨nv, sv, sx, si, rfl, h1, h2, h3⟩ := hf
  exact ⟨nv, sv, sx, si, rfl, h1.mono hm, h2.mono hm, h3⟩
theorem FilesRep.mono {R R' : Nat → Prop} {h h' : Heap} {es : Ents Nm} {fs : Files} (hf : FilesRep R h es fs) (hm : ∀ b, R b → R' b ∧ h'[b]? = h[b]?) : FilesRep R' h' es fs := by
  intro x
  rcases hf x with h1 | ⟨v, f, h1, h2, h3⟩
  · exact .inl h1
  · exact .inr ⟨v, f, h1, h2, h3.mono hm⟩

/-- The blocks of a store. -/
def foot (bs bm : Nat) (own : Option Nat) (R : Nat → Prop) : Nat → Prop := fun b => b = bs ∨ b = bm ∨ own = some b ∨ R b
theorem StC.lt {h : Heap} {M : Mod} {bs bm : Nat} {es : Ents Nm} {clock : Nat} {tv : Value} {own : Option Nat} {R : Nat → Prop} (s : StC h M bs bm es clock tv own R) : ∀ b, foot bs bm own R b → b < h.size := by
  rintro b (rfl | rfl | ho | hr)
  · exact lt_of_blk s.str
  · exact lt_of_blk s.map
  · exact s.tr.own_lt b ho
  · exact (s.sep b hr).1
theorem StC.mono {h h' : Heap} {M : Mod} {bs bm : Nat} {es : Ents Nm} {clock : Nat} {tv : Value} {own : Option Nat} {R : Nat → Prop} (s : StC h M bs bm es clock tv own R) (hs : h.size ≤ h'.size)
    (hk : ∀ b, foot bs bm own R b → h'[b]? = h[b]?) : StC h' M bs bm es clock tv own R where
  str := (hk _ (.inl rfl)).trans s.str
  map := (hk _ (.inr (.inl rfl))).trans s.map
  ents := s.ents
  files := s.files.mono fun b hb => ⟨hb, hk b (.inr (.inr (.inr hb)))⟩
  tr := s.tr.mono (fun _ h => h.elim) fun b hb => ⟨fun h => h.elim, hk b (.inr (.inr (.inl hb)))⟩
  sep := fun b hb => ⟨Nat.lt_of_lt_of_le (s.sep b hb).1 hs, (s.sep b hb).2⟩
  o1 := s.o1
  o2 := s.o2
  ne := s.ne
  ok := s.ok

theorem opT : ElemT Try.prog 50 53 rOp 24 := ⟨Try.elS50, Try.szS53, Try.byS53, _, Try.zS53, rfl⟩

set_option maxRecDepth 10000 in
theorem did_spec {h : Heap} {M : Mod} {bs bm : Nat} {es : Ents Nm} {clock : Nat} {tv : Value} {own : Option Nat} {R : Nat → Prop} (s : StC h M bs bm es clock tv own R) (k : Int) (x : Nm) (hn : M.trace.length < 1099511627776) :
    CallH Try.prog 37 #[.pointer (some ⟨bs, 0, none⟩), .int .i64 k, .string x] h fun r h' => r = .int .i64 0 ∧ ∃ tv' own',
      StC h' ⟨M.limit, M.files, M.trace ++ [(k, x)]⟩ bs bm es clock tv' own' R ∧ Keep (foot bs bm own R) h h' ∧ ∀ b, foot bs bm own' R b → foot bs bm own R b ∨ h.size ≤ b := by
  refine enter [.tmp 6] Try.func37 rfl rfl (by kernel_rfl) rfl ?_
  have hs := s.str
  simp -dsimp [hs]
  refine append_grow (F2 := fun b => b = h.size) opT (s.tr.push (fun _ h => h.elim) _) (fun _ h => h.elim) (ys := [(k, x)]) rfl
    (.inr ⟨h.size, 0, _, _, _, rfl, rfl, push_new _ _, rfl⟩) (.single ⟨[.int .i64 k], [.string x], rfl, rfl, rfl⟩) (by simp; omega) (by simp; omega) ?_
  intro tv' h' own' hg hk ho
  have hs1 := hk.at (push_at (o := .cells #[Value.int IntKind.i64 k, Value.string x] 53) hs) s.o1
  have hbs := lt_of_blk hs1
  obtain ⟨a, c, rfl⟩ := hg.val
  simp -dsimp [hs1]
  have hps : (h.push (.cells #[Value.int IntKind.i64 k, Value.string x] 53)).size = h.size + 1 := by simp
  rw [hps] at ho
  have hsz : h.size + 1 ≤ h'.size := hps ▸ hk.size
  have hold : ∀ b, b < h.size → own ≠ some b → b ≠ bs → (h'.setIfInBounds bs (.cells #[.int .i64 M.limit, .map (some bm), .slice a (M.trace.length + 1) c] 66))[b]? = h[b]? := by
    intro b hb h1 h2
    rw [set_other _ (fun e => h2 e.symm), hk.blk b (by omega) h1, push_old _ hb]
  have hlen : (M.trace ++ [(k, x)]).length = M.trace.length + 1 := by simp
  rw [hlen] at hg
  have ho1 : own' ≠ some bs := fun e => (ho _ e).elim s.o1 (fun h => by have := lt_of_blk hs; omega)
  have ho2 : own' ≠ some bm := fun e => (ho _ e).elim s.o2 (fun h => by have := lt_of_blk s.map; omega)
  refine ⟨_, own', ⟨set_same _ hbs, (hold _ (lt_of_blk s.map) s.o2 s.ne.symm).trans s.map, s.ents, s.files.mono fun b hb => ⟨hb, hold b (s.sep b hb).1 (s.sep b hb).2.2.2 (s.sep b hb).2.1⟩,
    hg.mono (fun _ h => h.elim) (fun b hb => ⟨fun h => h.elim, set_other _ (fun e => ho1 (e ▸ hb))⟩), ?_, ho1, ho2, s.ne, ⟨s.ok.sorted, s.ok.files⟩⟩, ⟨by simp; omega, ?_⟩, ?_⟩
  · intro b hb
    obtain ⟨h1, h2, h3, h4⟩ := s.sep b hb
    exact ⟨by simp; omega, h2, h3, fun e => (ho _ e).elim h4 (fun h => by omega)⟩
  · intro b hb hn
    simp only [foot, not_or] at hn
    exact hold b hb hn.2.2.1 hn.1
  · rintro b (hb | hb | hb | hb)
    · exact .inl (.inl hb)
    · exact .inl (.inr (.inl hb))
    · exact (ho _ hb).imp (fun h => .inr (.inr (.inl h))) (fun h => by omega)
    · exact .inl (.inr (.inr (.inr hb)))

theorem byteT : ElemT Try.prog 30 5 rByte 1 := ⟨Try.elS30, Try.szS5, Try.byS5, _, Try.zS5, rfl⟩
set_option maxRecDepth 10000 in
theorem clone_byte {F : Nat → Prop} {h : Heap} {v : Value} {xs : List UInt8} (hv : SlRep rByte F h v xs) (hF : ∀ b, F b → b < h.size) (hn : xs.length < 1099511627776) :
    CallH Try.prog 52 #[v] h fun r h' => ∃ own, Grow rByte 5 F h' r xs own ∧ Keep none_ h h' ∧ ∀ b, own = some b → h.size ≤ b := by
  refine enter [.tmp 2] Try.func52 rfl rfl (by kernel_rfl) rfl ?_
  obtain ⟨a, c, cs, rfl, h1, h2, h3, h4⟩ := hv
  cases a with
  | none =>
    simp -dsimp
    have : xs = [] := by
      rcases h3 with h0 | ⟨_, _, _, _, _, hx, _⟩
      · have hl := h4.len
        rw [h0] at hl
        rcases Nat.mul_eq_zero.1 hl.symm with h | h
        · exact List.eq_nil_of_length_eq_zero h
        · exact absurd h (Nat.ne_of_gt rByte.pos)
      · cases hx
    subst this
    exact ⟨none, .nil _ _ _ _, .refl _ _, fun b hb => by cases hb⟩
  | some a =>
    simp -dsimp
    refine append_grow (F2 := F) byteT (Grow.empty rByte 5 hF) (fun b hb => by have := hF b hb; simp; omega) rfl (h3.mono fun b hb => ⟨hb, push_old _ (hF b hb)⟩) (h4.mono fun b hb => ⟨hb, push_old _ (hF b hb)⟩) (by simp; omega) (by simp; omega) ?_
    intro v' h' own' hg hk ho
    obtain ⟨a', c', rfl⟩ := hg.val
    simp -dsimp
    have hps : (h.push (.cells #[] 5)).size = h.size + 1 := by simp
    rw [hps] at ho
    refine ⟨own', by simpa using hg, ⟨?_, ?_⟩, ?_⟩
    · have := hk.size; omega
    · intro b hb _
      rw [hk.blk b (by omega) (by simp; omega), push_old _ hb]
    · intro b hb
      rcases ho b hb with h | h
      · simp at h; omega
      · omega

theorem strT : ElemT Try.prog 36 9 rStr 16 := ⟨Try.elS36, Try.szS9, Try.byS9, _, Try.zS9, rfl⟩
set_option maxRecDepth 10000 in
theorem clone_str {F : Nat → Prop} {h : Heap} {v : Value} {xs : List Nm} (hv : SlRep rStr F h v xs) (hF : ∀ b, F b → b < h.size) (hn : xs.length < 1099511627776) :
    CallH Try.prog 38 #[v] h fun r h' => ∃ own, Grow rStr 9 F h' r xs own ∧ Keep none_ h h' ∧ ∀ b, own = some b → h.size ≤ b := by
  refine enter [.tmp 2] Try.func38 rfl rfl (by kernel_rfl) rfl ?_
  obtain ⟨a, c, cs, rfl, h1, h2, h3, h4⟩ := hv
  cases a with
  | none =>
    simp -dsimp
    have : xs = [] := by
      rcases h3 with h0 | ⟨_, _, _, _, _, hx, _⟩
      · have hl := h4.len
        rw [h0] at hl
        rcases Nat.mul_eq_zero.1 hl.symm with h | h
        · exact List.eq_nil_of_length_eq_zero h
        · exact absurd h (Nat.ne_of_gt rStr.pos)
      · cases hx
    subst this
    exact ⟨none, .nil _ _ _ _, .refl _ _, fun b hb => by cases hb⟩
  | some a =>
    simp -dsimp
    refine append_grow (F2 := F) strT (Grow.empty rStr 9 hF) (fun b hb => by have := hF b hb; simp; omega) rfl (h3.mono fun b hb => ⟨hb, push_old _ (hF b hb)⟩) (h4.mono fun b hb => ⟨hb, push_old _ (hF b hb)⟩) (by simp; omega) (by simp; omega) ?_
    intro v' h' own' hg hk ho
    obtain ⟨a', c', rfl⟩ := hg.val
    simp -dsimp
    have hps : (h.push (.cells #[] 9)).size = h.size + 1 := by simp
    rw [hps] at ho
    refine ⟨own', by simpa using hg, ⟨?_, ?_⟩, ?_⟩
    · have := hk.size; omega
    · intro b hb _
      rw [hk.blk b (by omega) (by simp; omega), push_old _ hb]
    · intro b hb
      rcases ho b hb with h | h
      · simp at h; omega
      · omega

theorem opT' : ElemT Try.prog 50 53 rOp 24 := ⟨Try.elS50, Try.szS53, Try.byS53, _, Try.zS53, rfl⟩
set_option maxRecDepth 10000 in
theorem clone_op {F : Nat → Prop} {h : Heap} {v : Value} {xs : List (Int × Nm)} (hv : SlRep rOp F h v xs) (hF : ∀ b, F b → b < h.size) (hn : xs.length < 1099511627776) :
    CallH Try.prog 50 #[v] h fun r h' => ∃ own, Grow rOp 53 F h' r xs own ∧ Keep none_ h h' ∧ ∀ b, own = some b → h.size ≤ b := by
  refine enter [.tmp 2] Try.func50 rfl rfl (by kernel_rfl) rfl ?_
  obtain ⟨a, c, cs, rfl, h1, h2, h3, h4⟩ := hv
  cases a with
  | none =>
    simp -dsimp
    have : xs = [] := by
      rcases h3 with h0 | ⟨_, _, _, _, _, hx, _⟩
      · have hl := h4.len
        rw [h0] at hl
        rcases Nat.mul_eq_zero.1 hl.symm with h | h
        · exact List.eq_nil_of_length_eq_zero h
        · exact absurd h (Nat.ne_of_gt rOp.pos)
      · cases hx
    subst this
    exact ⟨none, .nil _ _ _ _, .refl _ _, fun b hb => by cases hb⟩
  | some a =>
    simp -dsimp
    refine append_grow (F2 := F) opT' (Grow.empty rOp 53 hF) (fun b hb => by have := hF b hb; simp; omega) rfl (h3.mono fun b hb => ⟨hb, push_old _ (hF b hb)⟩) (h4.mono fun b hb => ⟨hb, push_old _ (hF b hb)⟩) (by simp; omega) (by simp; omega) ?_
    intro v' h' own' hg hk ho
    obtain ⟨a', c', rfl⟩ := hg.val
    simp -dsimp
    have hps : (h.push (.cells #[] 53)).size = h.size + 1 := by simp
    rw [hps] at ho
    refine ⟨own', by simpa using hg, ⟨?_, ?_⟩, ?_⟩
    · have := hk.size; omega
    · intro b hb _
      rw [hk.blk b (by omega) (by simp; omega), push_old _ hb]
    · intro b hb
      rcases ho b hb with h | h
      · simp at h; omega
      · omega
end Go.Proofs
