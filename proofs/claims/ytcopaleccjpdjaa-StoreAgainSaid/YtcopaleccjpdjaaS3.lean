/-
  The contracts of what is done to the program's store: a file is written, made sure, published, removed.
-/
import Derived.Test.YtcopaleccjpdjaaS2
namespace Go.Proofs
open Go Go.HC

/-- A file is put. -/
theorem StC.put {h h' : Heap} {M : Mod} {bs bm : Nat} {es : Ents Nm} {clock : Nat} {tv : Value} {own : Option Nat} {R R' : Nat → Prop} (s : StC h M bs bm es clock tv own R) {x : Nm} {v : Value} {f : FileM}
    (hb : h'[bm]? = some (.map (entsOf kStr (putE x v clock es)) (clockE x es clock))) (hk : Keep (fun b => b = bm) h h') (hf : FileRep R' h' v f) (hR : ∀ b, R b → R' b) (hR' : ∀ b, R' b → R b ∨ h.size ≤ b ∧ b < h'.size) (hok : f.Ok) :
    StC h' ⟨M.limit, putF x f M.files, M.trace⟩ bs bm (putE x v clock es) (clockE x es clock) tv own R' where
  str := (hk.blk _ (lt_of_blk s.str) s.ne).trans s.str
  map := hb
  ents := s.ents.put x v
  files := by
    intro y
    rw [getE_put, lookF_put]
    by_cases hy : y = x
    · rw [if_pos hy, if_pos hy]; exact .inr ⟨v, f, rfl, rfl, hf⟩
    · rw [if_neg hy, if_neg hy]
      rcases s.files y with h1 | ⟨u, g, h1, h2, h3⟩
      · exact .inl h1
      · exact .inr ⟨u, g, h1, h2, h3.mono fun b hb => ⟨hR b hb, hk.blk b (s.sep b hb).1 (s.sep b hb).2.2.1⟩⟩
  tr := s.tr.mono (fun _ h => h.elim) fun b hb => ⟨fun h => h.elim, hk.blk b (s.tr.own_lt b hb) (fun e => s.o2 (e ▸ hb))⟩
  sep := by
    intro b hb
    rcases hR' b hb with h1 | ⟨h1, h2⟩
    · exact ⟨Nat.lt_of_lt_of_le (s.sep b h1).1 hk.size, (s.sep b h1).2⟩
    · exact ⟨h2, fun e => by have := lt_of_blk s.str; omega, fun e => by have := lt_of_blk s.map; omega, fun e => by have := s.tr.own_lt b e; omega⟩
  o1 := s.o1
  o2 := s.o2
  ne := s.ne
  ok := s.ok.put hok _ _
theorem StC.del {h h' : Heap} {M : Mod} {bs bm : Nat} {es : Ents Nm} {clock : Nat} {tv : Value} {own : Option Nat} {R : Nat → Prop} (s : StC h M bs bm es clock tv own R) {x : Nm}
    (hb : h'[bm]? = some (.map (entsOf kStr (delE x es)) clock)) (hk : Keep (fun b => b = bm) h h') :
    StC h' ⟨M.limit, delF x M.files, M.trace⟩ bs bm (delE x es) clock tv own R where
  str := (hk.blk _ (lt_of_blk s.str) s.ne).trans s.str
  map := hb
  ents := s.ents.del x
  files := by
    intro y
    rw [getE_del s.ents.keys, lookF_del s.ok.sorted]
    by_cases hy : y = x
    · rw [if_pos hy, if_pos hy]; exact .inl ⟨rfl, rfl⟩
    · rw [if_neg hy, if_neg hy]
      rcases s.files y with h1 | ⟨u, g, h1, h2, h3⟩
      · exact .inl h1
      · exact .inr ⟨u, g, h1, h2, h3.mono fun b hb => ⟨hb, hk.blk b (s.sep b hb).1 (s.sep b hb).2.2.1⟩⟩
  tr := s.tr.mono (fun _ h => h.elim) fun b hb => ⟨fun h => h.elim, hk.blk b (s.tr.own_lt b hb) (fun e => s.o2 (e ▸ hb))⟩
  sep := fun b h1 => ⟨Nat.lt_of_lt_of_le (s.sep b h1).1 hk.size, (s.sep b h1).2⟩
  o1 := s.o1
  o2 := s.o2
  ne := s.ne
  ok := s.ok.del x _ _
theorem look_isSome {h : Heap} {M : Mod} {bs bm : Nat} {es : Ents Nm} {clock : Nat} {tv : Value} {own : Option Nat} {R : Nat → Prop} (s : StC h M bs bm es clock tv own R) (x : Nm) : (getE x es).isSome = (M.look x).isSome := (s.files.zero x).2

theorem sure_eq (M : Mod) (x : Nm) : (M.look x).bind (·.sure) = ((lookF x M.files).getD noFile).sure := by
  unfold Mod.look
  cases lookF x M.files <;> rfl
/-- Behind 'did': the store's end. -/
theorem StC.fin {h : Heap} {M : Mod} {bs bm : Nat} {es : Ents Nm} {clock : Nat} {tv : Value} {own : Option Nat} {R : Nat → Prop} (s : StC h M bs bm es clock tv own R) : StAt (.pointer (some ⟨bs, 0, none⟩)) (foot bs bm own R) h M :=
  ⟨bs, bm, es, clock, tv, own, R, rfl, rfl, s⟩

set_option maxRecDepth 10000 in
theorem write_spec {v : Value} {F G : Nat → Prop} {h : Heap} {M : Mod} (s : StAt v F h M) {n : Nat} (hn : M.Small n) (hn' : n < 1000000000) (x : Nm) {bv : Value} {b : List UInt8}
    (hb : SlRep rByte G h bv b) (hG : ∀ b, G b → b < h.size) (hbl : b.length < 1000000000) :
    CallH Try.prog 17 #[v, .string x, bv] h fun r h' => r = .int .i64 (M.write x b).1 ∧ ∃ F', StAt v F' h' (M.write x b).2 ∧ Keep F h h' ∧ ∀ b, F' b → F b ∨ h.size ≤ b := by
  obtain ⟨bs, bm, es, clock, tv, own, R, rfl, rfl, s⟩ := s
  refine enter [.tmp 6] Try.func17 rfl rfl (by kernel_rfl) rfl ?_
  have hs := s.str
  obtain ⟨a0, c0, rfl, hc0, _⟩ := hb.val
  simp -dsimp
  refine call_by (name_spec x h) ?_
  rintro _ h0 ⟨rfl, hh⟩
  obtain rfl := hh.symm
  cases hnm : nameOk x with
  | false =>
    have hw : M.write x b = (1, M) := by simp [Mod.write, hnm]
    rw [hw]
    simp -dsimp
    exact ⟨_, ⟨bs, bm, es, clock, tv, own, R, rfl, rfl, s⟩, .refl _ _, fun b hb => .inl hb⟩
  | true =>
  simp -dsimp [hs]
  rw [lookup_str (kt := 9) (et := 71) (by simp) (by kernel_rfl) Try.zS71 s.map]
  obtain ⟨q1, q2⟩ := s.files.zero x
  generalize (getE x es).getD _ = fv at q1 ⊢
  obtain ⟨nv, sv, sx, si, rfl, q5, q6, q7⟩ := q1
  obtain ⟨a1, c1, rfl, _, _⟩ := q5.val
  obtain ⟨a2, c2, rfl, _, _⟩ := q6.val
  simp -dsimp
  generalize hH : (Array.push _ _).setIfInBounds _ _ = h1
  have k1 : Keep none_ h h1 := by rw [← hH]; exact ((Keep.refl none_ h).pushed _).setted _ (fun hh => absurd hh (by omega))
  have hf1 : h1[h.size]? = some (.cells #[.slice a1 ((lookF x M.files).getD noFile).now.length c1, .slice a2 sx.length c2, .bool si, .bool ((lookF x M.files).getD noFile).safe] 71 (0, 0)) := by
    rw [← hH]; exact set_same _ (by simp)
  have s1 := s.mono k1.size fun b hb => k1.blk b (s.lt b hb) (by simp [none_])
  have hs1 := s1.str
  refine drawn_by [⟨0, true, []⟩, ⟨2, true, []⟩, ⟨3, true, []⟩, ⟨4, true, []⟩, ⟨6, true, []⟩, ⟨7, true, []⟩, ⟨9, true, []⟩, ⟨10, true, []⟩, ⟨11, true, []⟩, ⟨12, true, []⟩, ⟨1, false, [2, 3, 4, 6, 7, 9, 10, 11, 12]⟩, ⟨5, true, []⟩, ⟨8, true, []⟩, ⟨13, true, []⟩] (by kernel_rfl) (by kernel_rfl) ?_
  simp -dsimp [hs1, hf1]
  refine call_by (used_spec ⟨bs, bm, es, clock, tv, own, R, rfl, rfl, s1⟩ (by have := hn.used; omega)) ?_
  rintro _ h2 ⟨rfl, k2⟩
  have k12 := k1.trans k2 (fun _ _ h => h)
  have s2 := s1.mono k2.size fun b hb => k2.blk b (s1.lt b hb) (by simp [none_])
  have hs2 := s2.str
  have hf2 := k2.at hf1 (by simp [none_])
  simp -dsimp [again_cons, hs2, hf2]
  have hnow := now_le s.ok x
  have hu := hn.used
  have hw : IntKind.i64.wrap (IntKind.i64.wrap ((usedF M.files : Int) - ((lookF x M.files).getD noFile).now.length) + b.length) = (usedF M.files : Int) - (M.nowOf x).length + b.length := by
    have h1 : IntKind.i64.wrap ((usedF M.files : Int) - (M.nowOf x).length) = (usedF M.files : Int) - (M.nowOf x).length := wrap_i64 (by omega) (by omega)
    rw [← nowOf_eq, h1, wrap_i64 (by omega) (by omega)]
  have hfit : decide (M.limit < (usedF M.files : Int) - (M.nowOf x).length + b.length) = !M.fits x b := by
    unfold Mod.fits
    rw [← decide_not, decide_eq_decide]; omega
  rw [hw, hfit]
  cases hft : M.fits x b with
  | false =>
    have hw : M.write x b = (4, M) := by simp [Mod.write, hnm, hft]
    rw [hw]
    simp -dsimp
    exact ⟨_, ⟨bs, bm, es, clock, tv, own, R, rfl, rfl, s2⟩, k12.none, fun b hb => .inl hb⟩
  | true =>
  have hw : M.write x b = (0, M.wrote x b) := by simp [Mod.write, hnm, hft]
  rw [hw]
  simp -dsimp
  refine drawn_by [⟨0, true, []⟩, ⟨1, true, []⟩, ⟨2, true, []⟩, ⟨3, true, []⟩, ⟨4, true, []⟩, ⟨5, true, []⟩, ⟨7, true, []⟩, ⟨8, true, []⟩, ⟨6, false, [0, 1, 2, 3, 4, 7, 8]⟩, ⟨9, false, [0, 1, 2, 3, 4]⟩, ⟨10, false, []⟩] (by kernel_rfl) (by kernel_rfl) ?_
  simp -dsimp [hs2, hf2]
  refine call_by (own_spec (F := G) (hb.mono fun b hb => ⟨hb, k12.blk b (hG b hb) (by simp [none_])⟩) (fun b hb => Nat.lt_of_lt_of_le (hG b hb) k12.size) (by omega)) ?_
  rintro r h3 ⟨own3, hg3, k3, ho3⟩
  obtain ⟨a3, c3, rfl⟩ := hg3.val
  have hs3 := k3.at hs2 (by simp [none_])
  have hf3 := k3.at hf2 (by simp [none_])
  have s3 := s2.mono k3.size fun b hb => k3.blk b (s2.lt b hb) (by simp [none_])
  simp -dsimp [again_cons, hs3, hf3]
  rw [update_str (kt := 9) (et := 71) (by simp) (by kernel_rfl) s3.map]
  generalize hH4 : h3.setIfInBounds bm _ = h4
  have hbm : bm < h3.size := lt_of_blk s3.map
  have k4 : Keep (fun b => b = bm) h3 h4 := by rw [← hH4]; exact .set h3 _ (fun _ => rfl)
  have k04 : Keep (fun b => b = bm) h h4 := (k12.none.trans k3.none (fun _ _ h => h)).trans k4 (fun _ _ h => h)
  have hb4 : h4[bm]? = some (.map (entsOf kStr (putE x (.agg #[.slice a3 b.length c3, .slice a2 sx.length c2, .bool si, .bool false]) clock es)) (clockE x es clock)) := by
    rw [← hH4]; exact set_same _ hbm
  have s4 := s.put (R' := fun b => R b ∨ own3 = some b) (f := ⟨b, (M.look x).bind (·.sure), false⟩) hb4 k04 ⟨_, _, sx, si, rfl, ?_, ?_, ?_⟩ (fun b hb => .inl hb) ?_ (fun h => by cases h)
  · have hs4 := s4.str
    simp -dsimp
    refine call_by (did_spec s4 1 x (by have := hn.trace; simp only; omega)) ?_
    rintro _ h5 ⟨rfl, tv5, own5, s5, k5, ho5⟩
    simp -dsimp
    refine ⟨_, s5.fin, ?_, ?_⟩
    · exact (k04.weaken (fun b _ hb => .inr (.inl hb))).trans k5 (fun b hb hf => by
        rcases hf with h1 | h1 | h1 | h1 | h1
        · exact .inl h1
        · exact .inr (.inl h1)
        · exact .inr (.inr (.inl h1))
        · exact .inr (.inr (.inr h1))
        · have := ho3 b h1; have := k12.size; omega)
    · intro b hb
      rcases ho5 b hb with (h1 | h1 | h1 | h1 | h1) | h1
      · exact .inl (.inl h1)
      · exact .inl (.inr (.inl h1))
      · exact .inl (.inr (.inr (.inl h1)))
      · exact .inl (.inr (.inr (.inr h1)))
      · have := ho3 b h1; have := k12.size; exact .inr (by omega)
      · have := k04.size; exact .inr (by omega)
  · refine hg3.bytes.mono fun b hb => ⟨.inr hb, ?_⟩
    have := ho3 b hb
    refine k4.blk b (hg3.own_lt b hb) ?_
    have := lt_of_blk s2.map
    omega
  · exact q6.mono fun b hb => ⟨.inl hb, k04.blk b (s.sep b hb).1 (s.sep b hb).2.2.1⟩
  · rw [sure_eq]; exact q7
  · rintro b (hb | hb)
    · exact .inl hb
    · have := ho3 b hb
      have := k12.size
      have := hg3.own_lt b hb
      have := k4.size
      exact .inr ⟨by omega, by omega⟩
end Go.Proofs
