/-
  The document's store: a crash.
-/
import Derived.Test.YtcopaleccjpdjaaR6
import Derived.Test.YtcopaleccjpdjaaN5
namespace Go.Proofs
open Go Go.HC

set_option maxHeartbeats 40000000 in
set_option maxRecDepth 10000 in
theorem rcrash_spec {v : Value} {F G : Nat → Prop} {h : Heap} {M : Mod} (s : RefAt v F h M) {n : Nat} (hn : M.Small n) (hn' : n < 1000000000) (hsu : ∀ p ∈ M.files, ∀ b, p.2.sure = some b → b.length < 1000000000) {kv : Value} {ks : List Int}
    (hk : SlRep rInt G h kv ks) (hG : ∀ b, G b → b < h.size) (hkl : ks.length < 1000000000) :
    CallH Try.prog 34 #[v, kv] h fun r h' => ∃ F', RefAt r F' h' (M.crash ks) ∧ Keep none_ h h' ∧ ∀ b, F' b → h.size ≤ b := by
  have hnm := hn.files
  refine callH_by fun K hK => ?_
  refine enter [.tmp 4] Try.func34 rfl rfl (by kernel_rfl) rfl ?_
  obtain ⟨bs, fv, of, lv, ol, R, rfl, rfl, sc⟩ := s
  have hs := sc.str
  have hRl : ∀ b, R b → b < h.size := fun b hb => (sc.sep b hb).1
  obtain ⟨ka, kc, rfl, hkc, _⟩ := hk.val
  obtain ⟨fa, fc, rfl⟩ := sc.fs.val
  simp -dsimp [hs]
  refine call_by (rnew_spec M.limit h) ?_
  rintro r h1 ⟨F1, o1, k1, n1⟩
  obtain ⟨ob, hr⟩ : ∃ ob, r = .pointer (some ⟨ob, 0, none⟩) := by
    obtain ⟨ob, _, _, _, _, _, rfl, _⟩ := o1; exact ⟨ob, rfl⟩
  subst hr
  simp -dsimp
  refine loop' (σ := Files × Files × Files × Nat) (fun t => [(0, .pointer (some ⟨bs, 0, none⟩)), (1, .slice ka ks.length kc), (5, .pointer (some ⟨ob, 0, none⟩)), (6, .int .i64 t.2.2.2), (7, .int .i64 t.1.length)]) (fun _ => [])
    (fun t h3 => CrashAt M ks t.1 t.2.1 t.2.2.1 (ks.drop t.2.2.2) ∧ t.2.2.2 ≤ t.1.length ∧ Keep none_ h h3 ∧ ∃ Fo, RefAt (.pointer (some ⟨ob, 0, none⟩)) Fo h3 ⟨M.limit, t.2.2.1, []⟩ ∧ ∀ b, Fo b → h.size ≤ b)
    (fun t => t.2.1.length) ([], M.files, [], 0) ?_ rfl ⟨⟨rfl, rfl, fun q hq => by cases hq⟩, Nat.le_refl _, k1, F1, o1, n1⟩ (by kernel_rfl) ?_
  · intro p hp
    simp at hp
    rcases hp with rfl | rfl | rfl | rfl | rfl <;> simp
  · rintro ⟨done, rest, out, at_⟩ h3 g ⟨hca, hat, k03, Fo, ost, hFo⟩
    simp only at hca hat ost
    have hlen : M.files.length = done.length + rest.length := by rw [hca.all]; simp
    have sc3 := sc.mono k03.size fun b hb => k03.blk b (sc.lt b hb) (fun h => h)
    have hs3 := sc3.str
    have e03 := k03.size
    cases rest with
    | nil =>
      have e1 : ¬ (done.length < M.files.length) := by simp at hlen; omega
      simp -dsimp [hs3, e1]
      refine hK _ _ ⟨Fo, ?_, k03, hFo⟩
      have : M.crash ks = ⟨M.limit, out, []⟩ := by
        unfold Mod.crash; rw [hca.sum]; simp [crashF]
      rw [this]; exact ost
    | cons p rest =>
      have e1 : done.length < M.files.length := by simp at hlen; omega
      have hmem : p ∈ M.files := by rw [hca.all]; simp
      have hpk : M.files[done.length] = p := by simp [hca.all]
      have hpok := sc.ok.files p hmem
      obtain ⟨bk, cs, rfl, _, hr, hc⟩ := sc3.fs.elem done.length e1
      obtain ⟨bv, ov, ox, had, rfl, r1, r2, r3⟩ := hr
      rw [hpk] at r1 r3 hc
      obtain ⟨ba, bc, rfl, hbc, _⟩ := r1.val
      obtain ⟨oa, oc, rfl, _, _⟩ := r2.val
      have hcells : HC.cellsIn h3[bk]? (done.length * 5) 5 = some [.string p.1, .slice ba p.2.now.length bc, .slice oa ox.length oc, .bool p.2.safe, .bool had] := hc
      have hidx : ∀ (K : Value → Heap → Prop) (h : Heap), indexAddrS Try.prog 81 (.slice (some ⟨bk, 0, none⟩) M.files.length fc) (.int .i64 (done.length : Int)) h K = K (.pointer (some ⟨bk, done.length * 5, none⟩)) h := by
        intro K h
        rw [indexAddrS_slice _ _ _ _ _ _ (by omega) (by omega) rfl]
        simp [elSz]
      simp -dsimp [hs3, e1, hidx, hcells]
      generalize hH5 : Array.setIfInBounds _ h3.size _ = h5
      have hz5 : h5.size = h3.size + 1 := by rw [← hH5]; simp
      have k35 : Keep none_ h3 h5 := by rw [← hH5]; exact ((Keep.refl none_ h3).pushed _).setted _ (fun hh => absurd hh (by omega))
      have hfb : h5[h3.size]? = some (.cells #[.string p.1, .slice ba p.2.now.length bc, .slice oa ox.length oc, .bool p.2.safe, .bool had] 89 (0, 0)) := by rw [← hH5]; exact set_same _ (by simp)
      have r1' : SlRep rByte R h5 (.slice ba p.2.now.length bc) p.2.now := r1.mono fun b hb => ⟨hb, k35.blk b (by have := hRl b hb; omega) (fun h => h)⟩
      have r2' : SlRep rByte R h5 (.slice oa ox.length oc) ox := r2.mono fun b hb => ⟨hb, k35.blk b (by have := hRl b hb; omega) (fun h => h)⟩
      have hk5 : SlRep rInt G h5 (.slice ka ks.length kc) ks := hk.mono fun b hb => ⟨hb, (k03.trans k35 (fun _ _ h => h)).blk b (hG b hb) (fun h => h)⟩
      have wa : IntKind.i64.wrap ((at_ : Int) + 1) = ((at_ + 1 : Nat) : Int) := by rw [wrap_i64 (by omega) (by omega)]; rfl
      have htail : (ks.drop at_).tail = ks.drop (at_ + 1) := by simp
      have hnowl := r1.len_lt
      cases hsf : p.2.safe
      case' true =>
        rw [hsf] at hfb
        simp -dsimp [hfb]
        obtain ⟨la, lc, lx, li, at', ea1, ea2, ea3, ea4, ea5⟩ : ∃ la lc lx li at', la = ba ∧ lc = bc ∧ lx = p.2.now ∧ li = true ∧ at' = at_ := ⟨_, _, _, _, _, rfl, rfl, rfl, rfl, rfl⟩
        have hlx : SlRep rByte R h5 (.slice la lx.length lc) lx := by rw [ea1, ea2, ea3]; exact r1'
        have hleft : (if p.2.safe = true then p.2.sure else leftF p.2 ((ks.drop at_).headD 0)) = if li = true then some lx else none := by rw [if_pos hsf, hpok hsf, ea3, ea4]; rfl
        have hks2 : (if p.2.safe = true then ks.drop at_ else (ks.drop at_).tail) = ks.drop at' := by rw [if_pos hsf, ea5]
        have hat' : at' ≤ done.length + 1 := by omega
        have hfbb := hfb
        have hli := ea4
        have hea5 : (at' : Int) = (at_ : Int) := by rw [ea5]
        rw [← ea1, ← ea2, ← ea3]
      case' false =>
        rw [hsf] at hfb r3
        refine if hal : at_ < ks.length then ?cIn else ?cOut
        case' cIn =>
          obtain ⟨kbk, koff, kv', rfl, _, hkr, hkcell⟩ := hk5.get1 rfl at_ hal
          have hkv' : kv' = .int .i64 ks[at_] := by simpa [rInt] using hkr
          subst hkv'
          have hkidx : ∀ (K : Value → Heap → Prop) (h : Heap), indexAddrS Try.prog 22 (.slice (some ⟨kbk, koff, none⟩) ks.length kc) (.int .i64 (at_ : Int)) h K = K (.pointer (some ⟨kbk, koff + at_, none⟩)) h := by
            intro K h
            rw [indexAddrS_slice _ _ _ _ _ _ (by omega) (by omega) rfl]
            simp [elSz]
          have hhead : (ks.drop at_).headD 0 = ks[at_] := by rw [List.drop_eq_getElem_cons hal]; rfl
          simp -dsimp [hfb, hal, hkidx, hkcell, wa]
          generalize ks[at_] = how at hhead ⊢
          refine if w1 : how = 1 then ?c1 else ?cn1
          case' c1 =>
            subst w1
            simp -dsimp [hfb]
            obtain ⟨la, lc, lx, li, at', ea1, ea2, ea3, ea4, ea5⟩ : ∃ la lc lx li at', la = ba ∧ lc = bc ∧ lx = p.2.now ∧ li = true ∧ at' = at_ + 1 := ⟨_, _, _, _, _, rfl, rfl, rfl, rfl, rfl⟩
            have hlx : SlRep rByte R h5 (.slice la lx.length lc) lx := by rw [ea1, ea2, ea3]; exact r1'
            have hleft : (if p.2.safe = true then p.2.sure else leftF p.2 ((ks.drop at_).headD 0)) = if li = true then some lx else none := by rw [hsf, hhead, ea3, ea4]; rfl
          case' cn1 =>
            have b1 : (how == 1) = false := by simp [w1]
            refine if w2 : how = 2 then ?c2 else ?cn2
            case' c2 =>
              subst w2
              obtain ⟨m, hm⟩ : ∃ m, p.2.now.length / 2 = m := ⟨_, rfl⟩
              have e2 : IntKind.i64.wrap ((p.2.now.length : Int) / 2) = (m : Int) := by
                rw [wrap_i64 (by omega) (by omega)]; omega
              have hpc0 := r1'.cut (i := 0) (j := m) (m := bc) (by omega) (by omega) (by omega) (by omega)
              rw [List.drop_zero] at hpc0
              have hpc : SlRep rByte R h5 (.slice (piece ba 0 bc 1) m bc) (p.2.now.take m) := hpc0
              have hml : (p.2.now.take m).length = m := by simp; omega
              simp -dsimp [hfb, e2]
              rw [sliceS_slice (i := 0) (j := m) (m := bc) Try.elS30 Try.szS5 (.inl ⟨rfl, rfl⟩) (.inr ⟨_, rfl⟩) (.inl ⟨rfl, rfl⟩) (by omega) (by omega) (by omega)]
              simp -dsimp
              obtain ⟨la, lc, lx, li, at', ea1, ea2, ea3, ea4, ea5⟩ : ∃ la lc lx li at', la = piece ba 0 bc 1 ∧ lc = bc ∧ lx = p.2.now.take m ∧ li = true ∧ at' = at_ + 1 := ⟨_, _, _, _, _, rfl, rfl, rfl, rfl, rfl⟩
              have hlxm : lx.length = m := by rw [ea3, hml]
              have hlx : SlRep rByte R h5 (.slice la lx.length lc) lx := by rw [hlxm, ea1, ea2, ea3]; exact hpc
              have hleft : (if p.2.safe = true then p.2.sure else leftF p.2 ((ks.drop at_).headD 0)) = if li = true then some lx else none := by rw [hsf, hhead, ea3, ea4, ← hm]; rfl
              rw [← hlxm]
            case' cn2 =>
              have b2 : (how == 2) = false := by simp [w2]
              simp -dsimp [b1, b2]
              refine drawn_by [⟨0, true, []⟩, ⟨1, true, []⟩, ⟨2, true, []⟩, ⟨3, true, []⟩, ⟨4, true, []⟩, ⟨5, true, []⟩] (by kernel_rfl) (by kernel_rfl) ?_
              simp -dsimp [hfb]
              obtain ⟨la, lc, lx, li, at', ea1, ea2, ea3, ea4, ea5⟩ : ∃ la lc lx li at', la = oa ∧ lc = oc ∧ lx = ox ∧ li = had ∧ at' = at_ + 1 := ⟨_, _, _, _, _, rfl, rfl, rfl, rfl, rfl⟩
              have hlx : SlRep rByte R h5 (.slice la lx.length lc) lx := by rw [ea1, ea2, ea3]; exact r2'
              have hleft : (if p.2.safe = true then p.2.sure else leftF p.2 ((ks.drop at_).headD 0)) = if li = true then some lx else none := by
                rw [hsf, hhead, ea3, ea4]
                simpa [leftF, w1, w2] using r3
        case' cOut =>
          have hhead : (ks.drop at_).headD 0 = 0 := by rw [List.drop_of_length_le (show ks.length ≤ at_ by omega)]; rfl
          simp -dsimp [hfb, hal, wa]
          refine drawn_by [⟨0, true, []⟩, ⟨1, true, []⟩, ⟨2, true, []⟩, ⟨3, true, []⟩, ⟨4, true, []⟩, ⟨5, true, []⟩] (by kernel_rfl) (by kernel_rfl) ?_
          simp -dsimp [hfb]
          obtain ⟨la, lc, lx, li, at', ea1, ea2, ea3, ea4, ea5⟩ : ∃ la lc lx li at', la = oa ∧ lc = oc ∧ lx = ox ∧ li = had ∧ at' = at_ + 1 := ⟨_, _, _, _, _, rfl, rfl, rfl, rfl, rfl⟩
          have hlx : SlRep rByte R h5 (.slice la lx.length lc) lx := by rw [ea1, ea2, ea3]; exact r2'
          have hleft : (if p.2.safe = true then p.2.sure else leftF p.2 ((ks.drop at_).headD 0)) = if li = true then some lx else none := by
            rw [hsf, hhead, ea3, ea4]
            simpa [leftF] using r3
        all_goals
          have hks2 : (if p.2.safe = true then ks.drop at_ else (ks.drop at_).tail) = ks.drop at' := by rw [hsf, ea5, ← htail]; rfl
          have hat' : at' ≤ done.length + 1 := by omega
          have hfbb := hfb
          have hli := ea4
          have hea5 : (at' : Int) = (at_ : Int) + 1 := by rw [ea5]; rfl
          rw [← ea1, ← ea2]
          try rw [← ea3]
          try rw [← ea4]
      all_goals
        have hst := hca.step sc.ok.sorted
        rw [hleft, hks2] at hst
        have k05 : Keep none_ h h5 := k03.trans k35 (fun _ _ h => h)
        have ost5 := ost.keep k35 (fun _ _ h => h)
        have wj : IntKind.i64.wrap ((done.length : Int) + 1) = ((done ++ [p]).length : Int) := by
          rw [wrap_i64 (by omega) (by omega)]; simp
        cases li with
        | false =>
          try exact absurd hli (by decide)
          all_goals
            simp only [Bool.false_eq_true, if_false] at hst
            simp -dsimp [wj]
            refine ⟨(done ++ [p], rest, out, at'), ?_, rfl, ⟨hst, by simp; omega, k05, Fo, ost5, hFo⟩, by simp⟩
            intro q hq
            simp [hea5] at hq
            rcases hq with rfl | rfl | rfl | rfl | rfl <;> simp
        | true =>
          simp only [if_true] at hst
          have hlxn : lx.length < 1000000000 := left_len sc.ok.sorted hn.used hn' hsu hmem (hleft.trans (if_pos rfl))
          have hola : out.length < 1000000000 := by
            have h1 := crashF_le (l := M.files) (ks := ks)
            rw [hca.sum, List.length_append] at h1
            omega
          try simp -dsimp
          refine drawn_by [⟨0, true, []⟩, ⟨1, true, []⟩, ⟨2, true, []⟩, ⟨4, true, []⟩, ⟨3, false, [0, 1, 2, 4]⟩, ⟨5, false, [0, 1, 2]⟩, ⟨6, false, [0]⟩, ⟨7, false, []⟩] (by kernel_rfl) (by kernel_rfl) ?_
          have hfb5 := push_at (o := .cells #[] 5) hfb
          simp -dsimp [again_cons, hfb, hfb5]
          refine clone_bytes byteT hlx (fun b hb => by have := hRl b hb; omega) (by omega) ?_
          intro nv h6 own6 hg6 k6 ho6 hz6
          obtain ⟨na, nc, rfl⟩ := hg6.val
          have hfb6 := k6.at hfb (fun h => h)
          simp -dsimp [again_cons, hfb6]
          have k56 : Keep none_ h3 h6 := k35.trans k6 (fun _ _ h => h)
          obtain ⟨obs, ofv, oof, olv, ool, oR, hov, rfl, oc5⟩ := ost5
          have hobs : obs = ob := by
            simp at hov; exact hov.symm
          subst hobs
          have oc6 := oc5.mono (h' := h6) (by omega) fun b hb => k6.blk b (oc5.lt b hb) (fun h => h)
          have l5 : ∀ b, rfoot obs oof ool oR b → b < h5.size := fun b hb => oc5.lt b hb
          have oc7 := oc6.widen (G := fun b => own6 = some b) fun b hb => ⟨hg6.own_lt b hb, fun e => by have := ho6 b hb; have := l5 obs (.inl rfl); omega, fun e => by have := ho6 b hb; have := l5 b (.inr (.inl e)); omega, fun e => by have := ho6 b hb; have := l5 b (.inr (.inr (.inl e))); omega⟩
          have hr6 : rFile.rep (fun b => oR b ∨ own6 = some b) h6 [.string p.1, .slice na lx.length nc, .slice none 0 0, .bool true, .bool false] (p.1, ⟨lx, some lx, true⟩) :=
            ⟨_, .slice none 0 0, [], false, rfl, hg6.bytes.mono fun b hb => ⟨.inr hb, rfl⟩, .nil _ _ _, rfl⟩
          refine call_by (put_spec oc7 hr6 (fun _ => rfl) hola) ?_
          rintro _ h8 ⟨rfl, fv8, of8, oc8, k8, ho8⟩
          have hend : putF p.1 ⟨lx, some lx, true⟩ out = out ++ [(p.1, ⟨lx, some lx, true⟩)] := putF_end fun q hq => hca.lt q hq p (List.mem_cons_self ..)
          simp only [hend] at oc8
          have e8 := k8.size
          have e6 := k6.size
          have e5 := k05.size
          simp -dsimp [wj]
          refine ⟨(done ++ [p], rest, out ++ [(p.1, ⟨lx, some lx, true⟩)], at'), ?_, rfl, ⟨hst, by simp; omega, ⟨by omega, fun b hb _ => ?_⟩, _, oc8.at, ?_⟩, by simp⟩
          · intro q hq
            simp [hea5] at hq
            rcases hq with rfl | rfl | rfl | rfl | rfl <;> simp
          · rw [k8.blk b (by omega) (fun h => h.elim (fun e => by have := hFo obs (.inl rfl); omega) (fun e => by have := hFo b (.inr (.inl e)); omega)), k6.blk b (by omega) (fun h => h), k05.blk b hb (fun h => h)]
          · intro b hb
            rcases hb with h1 | h1 | h1 | h1 | h1
            · exact hFo b (.inl h1)
            · rcases ho8 b h1 with h2 | h2
              · exact hFo b (.inr (.inl h2))
              · omega
            · exact hFo b (.inr (.inr (.inl h1)))
            · exact hFo b (.inr (.inr (.inr h1)))
            · have := ho6 b h1; omega
end Go.Proofs
