/-
  The contracts of the program's store: names, own bytes, a new store, what is used, what is read, what is done.
-/
import Derived.Test.YtcopaleccjpdjaaS1
namespace Go.Proofs
open Go Go.HC

theorem name_spec (x : Nm) (h : Heap) : CallH Try.prog 35 #[.string x] h fun r h' => r = .bool (nameOk x) ∧ h' = h := by
  refine enter [.tmp 2] Try.func35 rfl rfl (by kernel_rfl) rfl ?_
  simp -dsimp
  by_cases h1 : 1 ≤ x.size
  · have : (1 : Int) ≤ x.size := by omega
    simp -dsimp [this]
    simp [nameOk, h1]
    omega
  · have : ¬ (1 : Int) ≤ x.size := by omega
    simp -dsimp [this]
    simp [nameOk, h1]

set_option maxRecDepth 10000 in
theorem own_spec {F : Nat → Prop} {h : Heap} {v : Value} {xs : List UInt8} (hv : SlRep rByte F h v xs) (hF : ∀ b, F b → b < h.size) (hn : xs.length < 1099511627776) :
    CallH Try.prog 36 #[v] h fun r h' => ∃ own, Grow rByte 5 F h' r xs own ∧ Keep none_ h h' ∧ ∀ b, own = some b → h.size ≤ b := by
  refine enter [.tmp 2] Try.func36 rfl rfl (by kernel_rfl) rfl ?_
  obtain ⟨a, c, rfl, h1, h2⟩ := hv.val
  simp -dsimp
  rw [sliceS_slice (i := 0) (j := xs.length) (m := xs.length) Try.elS30 Try.szS5 (.inr ⟨_, rfl, by simp⟩) (.inr ⟨_, rfl⟩) (.inl ⟨rfl, rfl⟩) (by omega) (by omega) h1]
  have hp := hv.cut (i := 0) (j := xs.length) (m := xs.length) (by omega) (by omega) (by omega) h1
  rw [List.drop_zero, Nat.sub_zero, List.take_length] at hp
  simp -dsimp
  refine call_by (clone_byte hp hF hn) ?_
  rintro r h' ⟨own, hg, hk⟩
  obtain ⟨a', c', rfl⟩ := hg.val
  simp -dsimp
  exact ⟨own, hg, hk⟩

/-- A store at work: its value, its blocks, what it is. -/
def StAt (v : Value) (F : Nat → Prop) (h : Heap) (M : Mod) : Prop :=
  ∃ bs bm es clock tv own R, v = .pointer (some ⟨bs, 0, none⟩) ∧ F = foot bs bm own R ∧ StC h M bs bm es clock tv own R
theorem StAt.lt {v : Value} {F : Nat → Prop} {h : Heap} {M : Mod} (s : StAt v F h M) : ∀ b, F b → b < h.size := by
  obtain ⟨bs, bm, es, clock, tv, own, R, rfl, rfl, s⟩ := s
  exact s.lt
theorem StAt.mono {v : Value} {F : Nat → Prop} {h h' : Heap} {M : Mod} (s : StAt v F h M) (hs : h.size ≤ h'.size) (hk : ∀ b, F b → h'[b]? = h[b]?) : StAt v F h' M := by
  obtain ⟨bs, bm, es, clock, tv, own, R, rfl, rfl, s⟩ := s
  exact ⟨bs, bm, es, clock, tv, own, R, rfl, rfl, s.mono hs hk⟩
theorem StAt.ok {v : Value} {F : Nat → Prop} {h : Heap} {M : Mod} (s : StAt v F h M) : M.Ok := by
  obtain ⟨bs, bm, es, clock, tv, own, R, rfl, rfl, s⟩ := s
  exact s.ok
theorem StAt.keep {v : Value} {F S : Nat → Prop} {h h' : Heap} {M : Mod} (s : StAt v F h M) (hk : Keep S h h') (hd : ∀ b, F b → ¬ S b) : StAt v F h' M :=
  s.mono hk.size fun b hb => hk.blk b (s.lt b hb) (hd b hb)

set_option maxRecDepth 10000 in
theorem new_spec (k : Int) (h : Heap) : CallH Try.prog 16 #[.int .i64 k] h fun r h' => ∃ F, StAt r F h' (Mod.new k) ∧ Keep none_ h h' ∧ ∀ b, F b → h.size ≤ b := by
  refine enter [.tmp 2] Try.func16 rfl rfl (by kernel_rfl) rfl ?_
  simp -dsimp [boxS_eq]
  refine ⟨foot (h.size + 1) h.size none none_, ⟨h.size + 1, h.size, [], 0, _, none, none_, rfl, rfl, ?_, push_at (push_new _ _), .nil _, fun x => .inl ⟨rfl, rfl⟩, .nil _ _ _ _, fun b hb => hb.elim, by simp, by simp, by omega, .new k⟩, ?_, ?_⟩
  · have : (h.push (.map #[] 0)).size = h.size + 1 := by simp
    rw [← this]
    exact push_new _ _
  · exact (Keep.push none_ h _).trans (.push none_ _ _) (fun _ _ h => h)
  · rintro b (rfl | rfl | hb | hb)
    · omega
    · omega
    · cases hb
    · exact hb.elim

/-- How long the file of this name is. -/
def lenF (fs : Files) (x : Nm) : Nat := ((lookF x fs).map (·.now.length)).getD 0
theorem files_perm {R : Nat → Prop} {h : Heap} {es : Ents Nm} {clock : Nat} {fs : Files} (he : EntsOk es clock) (hf : FilesRep R h es fs) (hs : SortedF fs) : (es.map (·.1)).Perm (fs.map (·.1)) := by
  refine (List.perm_ext_iff_of_nodup he.keys (keys_nodup hs)).2 fun x => ?_
  constructor
  · intro hx
    obtain ⟨e, he1, rfl⟩ := List.mem_map.1 hx
    rcases hf e.1 with ⟨h1, _⟩ | ⟨v, f, _, h2, _⟩
    · exact absurd hx (getE_none h1)
    · exact List.mem_map_of_mem (f := (·.1)) (mem_lookF h2)
  · intro hx
    obtain ⟨p, hp, rfl⟩ := List.mem_map.1 hx
    rcases hf p.1 with ⟨_, h2⟩ | ⟨v, f, h1, _, _⟩
    · rw [lookF_mem hs hp] at h2; cases h2
    · obtain ⟨c, hc⟩ := getE_some h1
      exact List.mem_map_of_mem (f := (·.1)) hc
theorem lenF_cons {x : Nm} {p : Nm × FileM} {l : Files} (hx : x ≠ p.1) : lenF (p :: l) x = lenF l x := by
  unfold lenF; rw [lookF, if_neg hx]
theorem sum_lenF : ∀ {fs : Files}, SortedF fs → ((fs.map (·.1)).map (lenF fs)).sum = usedF fs
  | [], _ => rfl
  | p :: l, hs => by
    obtain ⟨h1, h2⟩ := List.pairwise_cons.1 hs
    have h3 : ((l.map (·.1)).map (lenF (p :: l))) = ((l.map (·.1)).map (lenF l)) := by
      apply List.map_congr_left
      intro x hx
      obtain ⟨q, hq, rfl⟩ := List.mem_map.1 hx
      exact lenF_cons fun e => nLt_irrefl p.1 (by have := h1 q hq; rwa [e] at this)
    have h4 : lenF (p :: l) p.1 = p.2.now.length := by simp [lenF, lookF]
    rw [List.map_cons, List.map_cons, List.sum_cons, h3, sum_lenF h2, h4]
    rfl
def sumE (fs : Files) (es : Ents Nm) : Nat := ((es.map (·.1)).map (lenF fs)).sum
theorem perm_sum {l l' : List Nat} (h : l.Perm l') : l.sum = l'.sum := by
  induction h with
  | nil => rfl
  | cons x _ ih => simp [ih]
  | swap x y l => simp; omega
  | trans _ _ h1 h2 => exact h1.trans h2
theorem sumE_perm {fs : Files} {es es' : Ents Nm} (h : es.Perm es') : sumE fs es = sumE fs es' := perm_sum ((h.map _).map _)
theorem sumE_append (fs : Files) (es es' : Ents Nm) : sumE fs (es ++ es') = sumE fs es + sumE fs es' := by simp [sumE]
theorem sumE_one (fs : Files) (e : Nm × Value × Nat) : sumE fs [e] = lenF fs e.1 := by simp [sumE]

set_option maxRecDepth 10000 in
theorem used_spec {v : Value} {F : Nat → Prop} {h : Heap} {M : Mod} (s : StAt v F h M) (hn : usedF M.files < 1099511627776) :
    CallH Try.prog 18 #[v] h fun r h' => r = .int .i64 (usedF M.files) ∧ Keep none_ h h' := by
  obtain ⟨bs, bm, es, clock, tv, own, R, rfl, rfl, s⟩ := s
  have htot : sumE M.files es = usedF M.files := (perm_sum ((files_perm s.ents s.files s.ok.sorted).map _)).trans (sum_lenF s.ok.sorted)
  refine enter [.tmp 2] Try.func18 rfl rfl (by kernel_rfl) rfl ?_
  have hs := s.str
  simp -dsimp [hs]
  rw [range_map (kt := 9) (et := 71) (by simp) s.map]
  simp -dsimp
  refine loop (σ := Ents Nm × Ents Nm) (fun t => [(3, .int .i64 (sumE M.files t.1)), (10, .pointer (some ⟨h.size, 0, none⟩))]) (fun _ => [])
    (fun t h1 => es.Perm (t.1 ++ t.2) ∧ h1[h.size]? = some (.mapIter (some bm) clock (seenOf t.1) clock) ∧ Keep none_ h h1) (fun t => t.2.length) ([], es) ?_ rfl ⟨by simp, push_new _ _, .push _ _ _⟩ (by kernel_rfl) ?_
  · intro p hp
    simp at hp
    rcases hp with rfl | rfl <;> simp [sumE]
  · rintro ⟨done, rest⟩ h1 g ⟨hperm, hit, hk⟩
    have hm : h1[bm]? = some (.map (entsOf kStr es) clock) := hk.at s.map (by simp [none_])
    simp -dsimp
    refine next_map s.ents hit hm hperm ?_ ?_
    · intro hr
      simp -dsimp
      refine ⟨?_, hk⟩
      subst hr
      rw [← htot, sumE_perm hperm]
      simp
    · intro e rest' hr
      simp -dsimp
      have he : e ∈ es := hperm.mem_iff.2 (List.mem_append_right _ (hr.mem_iff.2 (List.mem_cons_self ..)))
      have hlt : h.size < h1.size := lt_of_blk hit
      have hm2 : (h1.setIfInBounds h.size (.mapIter (some bm) clock (seenOf (done ++ [e])) clock))[bm]? = some (.map (entsOf kStr es) clock) := by
        rw [set_other _ (by have := lt_of_blk s.map; omega)]; exact hm
      rw [entry_map s.ents (set_same _ hlt) hm2 he]
      have hg := getE_mem s.ents.keys he
      rcases s.files e.1 with ⟨q1, _⟩ | ⟨u, f, q1, q2, q3⟩
      · rw [q1] at hg; cases hg
      rw [hg] at q1
      cases q1
      obtain ⟨nv, sv, sx, si, q4, q5, q6, q7⟩ := q3
      obtain ⟨a1, c1, rfl, _, _⟩ := q5.val
      obtain ⟨a2, c2, rfl, _, _⟩ := q6.val
      have hlen : lenF M.files e.1 = f.now.length := by simp [lenF, q2]
      have hle : sumE M.files (done ++ [e]) ≤ usedF M.files := by
        rw [← htot, sumE_perm (hperm.trans (List.Perm.append_left done hr)), sumE_append, sumE_append, show e :: rest' = [e] ++ rest' from rfl, sumE_append]
        omega
      rw [sumE_append, sumE_one, hlen] at hle
      have hw : IntKind.i64.wrap ((sumE M.files done : Int) + f.now.length) = (sumE M.files (done ++ [e]) : Nat) := by
        rw [wrap_i64 (by omega) (by omega), sumE_append, sumE_one, hlen]; rfl
      simp -dsimp [q4, hw]
      refine ⟨done ++ [e], ?_, rest', ⟨?_, ?_, ?_⟩, ?_⟩
      · intro p hp
        simp at hp
        rcases hp with rfl | rfl <;> simp
      · exact (hperm.trans (List.Perm.append_left done hr)).trans (by simp)
      · rw [set_other _ (by omega), push_old _ (by simpa using hlt), set_same _ hlt]
      · exact ((hk.setted _ (fun hh => absurd hh (by omega))).pushed _).setted _ (fun hh => absurd hh (by have := hk.size; omega))
      · have := hr.length_eq
        simp at this
        omega

def noFile : FileM := ⟨[], none, false⟩
theorem nowOf_eq (M : Mod) (x : Nm) : M.nowOf x = ((lookF x M.files).getD noFile).now := by
  unfold Mod.nowOf Mod.look
  cases lookF x M.files <;> rfl
theorem now_le {M : Mod} (hok : M.Ok) (x : Nm) : (M.nowOf x).length ≤ usedF M.files := by
  have := used_put (x := x) (f := noFile) hok.sorted
  unfold Mod.nowOf Mod.look
  cases hl : lookF x M.files with
  | none => simp
  | some f => rw [hl] at this; simp at this; simp [noFile] at this ⊢; omega
/-- What a file's value shows when it is looked up. -/
theorem FilesRep.zero {R : Nat → Prop} {h : Heap} : ∀ {es : Ents Nm} {fs : Files}, FilesRep R h es fs → ∀ x, FileRep R h ((getE x es).getD (.agg #[.slice none 0 0, .slice none 0 0, .bool false, .bool false])) ((lookF x fs).getD noFile) ∧ (getE x es).isSome = (lookF x fs).isSome := by
  intro es fs hf x
  rcases hf x with ⟨h1, h2⟩ | ⟨v, f, h1, h2, h3⟩
  · rw [h1, h2]; exact ⟨⟨_, _, [], false, rfl, .nil _ _ _, .nil _ _ _, rfl⟩, rfl⟩
  · rw [h1, h2]; exact ⟨h3, rfl⟩

set_option maxRecDepth 10000 in
theorem read_spec {v : Value} {F : Nat → Prop} {h : Heap} {M : Mod} (s : StAt v F h M) (hn : usedF M.files < 1099511627776) (x : Nm) :
    CallH Try.prog 20 #[v, .string x] h fun r h' => ∃ u own, r = .tuple #[u, .bool (M.look x).isSome] ∧ Grow rByte 5 F h' u (M.nowOf x) own ∧ Keep none_ h h' ∧ ∀ b, own = some b → h.size ≤ b := by
  obtain ⟨bs, bm, es, clock, tv, own, R, rfl, rfl, s⟩ := s
  refine enter [.tmp 4, .tmp 5] Try.func20 rfl rfl (by kernel_rfl) rfl ?_
  have hs := s.str
  simp -dsimp [hs]
  rw [lookup_str (kt := 9) (et := 71) (by simp) (by kernel_rfl) Try.zS71 s.map]
  obtain ⟨q1, q2⟩ := s.files.zero x
  rw [q2]
  generalize (getE x es).getD _ = fv at q1 ⊢
  obtain ⟨nv, sv, sx, si, rfl, q5, q6, q7⟩ := q1
  obtain ⟨a1, c1, rfl, _, _⟩ := q5.val
  obtain ⟨a2, c2, rfl, _, _⟩ := q6.val
  simp -dsimp
  rw [← nowOf_eq] at q5 ⊢
  generalize hH : (h.push _).setIfInBounds h.size _ = h1
  have k1 : Keep none_ h h1 := by rw [← hH]; exact ((Keep.refl none_ h).pushed _).setted _ (fun hh => absurd hh (by omega))
  refine call_by (own_spec (F := R) (q5.mono fun b hb => ⟨hb, k1.blk b (s.sep b hb).1 (by simp [none_])⟩) (fun b hb => Nat.lt_of_lt_of_le (s.sep b hb).1 k1.size) (by have := now_le s.ok x; omega)) ?_
  rintro r h2 ⟨own2, hg, hk2, ho2⟩
  obtain ⟨a', c', rfl⟩ := hg.val
  simp -dsimp
  have k2 := k1.trans hk2 (fun _ _ h => h)
  refine ⟨_, ⟨rfl, rfl⟩, own2, ?_, k2, fun b hb => Nat.le_trans k1.size (ho2 b hb)⟩
  rcases hg with hn | ⟨bk, c, arr, cs, e1, e2, e3, e4, e5, e6, e7, e8, e9⟩
  · exact .inl hn
  · exact .inr ⟨bk, c, arr, cs, e1, e2, e3, fun b => by have := ho2 bk e2; have := s.lt _ b; have := k1.size; omega, e5, e6, e7, e8, bytes_map.2 (bytes_map.1 e9)⟩
end Go.Proofs
