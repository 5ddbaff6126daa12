/-
  The contract of the program's store: a crash.
-/
import Derived.Test.YtcopaleccjpdjaaS11
namespace Go.Proofs
open Go Go.HC

set_option maxHeartbeats 4000000 in
set_option maxRecDepth 10000 in
theorem crash_spec {v : Value} {F G : Nat → Prop} {h : Heap} {M : Mod} (s : StAt v F h M) {n : Nat} (hn : M.Small n) (hn' : n < 1000000000) (hsu : ∀ p ∈ M.files, ∀ b, p.2.sure = some b → b.length < 1000000000) {kv : Value} {ks : List Int}
    (hk : SlRep rInt G h kv ks) (hG : ∀ b, G b → b < h.size) :
    CallH Try.prog 22 #[v, kv] h fun r h' => ∃ F', StAt r F' h' (M.crash ks) ∧ Keep none_ h h' ∧ ∀ b, F' b → h.size ≤ b := by
  have hnm := hn.files
  refine callH_by fun K hK => ?_
  refine enter [.tmp 4] Try.func22 rfl rfl (by kernel_rfl) rfl ?_
  have s0 := s
  obtain ⟨bs, bm, es, clock, tv, own, R, rfl, rfl, sc⟩ := s
  have hs := sc.str
  obtain ⟨ka, kc, rfl, _, _⟩ := hk.val
  simp -dsimp [hs]
  refine call_by (new_spec M.limit h) ?_
  rintro r h1 ⟨F1, o1, k1, n1⟩
  obtain ⟨ob, hr⟩ : ∃ ob, r = .pointer (some ⟨ob, 0, none⟩) := by
    obtain ⟨ob, _, _, _, _, _, _, rfl, _⟩ := o1; exact ⟨ob, rfl⟩
  subst hr
  simp -dsimp
  have s1 := s0.keep k1 (fun _ _ h => h)
  refine call_by (names_spec s1 hn hn') ?_
  rintro r h2 ⟨own2, hg2, k2, n2⟩
  obtain ⟨na, nc, rfl⟩ := hg2.val
  have k12 := k1.trans k2 (fun _ _ h => h)
  have hnames : M.names.length = M.files.length := by simp [Mod.names]
  simp -dsimp
  refine loop' (σ := Files × Files × Files × List Int × Value) (fun t => [(0, .pointer (some ⟨bs, 0, none⟩)), (1, t.2.2.2.2), (5, .pointer (some ⟨ob, 0, none⟩)), (18, .slice na M.names.length nc), (19, .int .i64 M.names.length), (20, .int .i64 t.1.length)]) (fun _ => [])
    (fun t h3 => CrashAt M ks t.1 t.2.1 t.2.2.1 t.2.2.2.1 ∧ Keep none_ h h3 ∧ Keep F1 h2 h3 ∧ SlRep rInt G h3 t.2.2.2.2 t.2.2.2.1 ∧ ∃ Fo, StAt (.pointer (some ⟨ob, 0, none⟩)) Fo h3 ⟨M.limit, t.2.2.1, []⟩ ∧ ∀ b, Fo b → F1 b ∨ h2.size ≤ b)
    (fun t => t.2.1.length) ([], M.files, [], ks, .slice ka ks.length kc) ?_ rfl ⟨⟨rfl, rfl, fun q hq => by cases hq⟩, k12, .refl _ _, hk.mono fun b hb => ⟨hb, k12.blk b (hG b hb) (fun h => h)⟩, F1, o1.keep k2 (fun _ _ h => h), fun b hb => .inl hb⟩ (by kernel_rfl) ?_
  · intro p hp
    simp at hp
    rcases hp with rfl | rfl | rfl | rfl | rfl | rfl <;> simp
  · rintro ⟨done, rest, out, ks', kv'⟩ h3 g ⟨hca, k03, k23, hkv, Fo, ost, hFo⟩
    simp only at hca k03 k23 hkv ost hFo
    have hlen : M.files.length = done.length + rest.length := by rw [hca.all]; simp
    cases rest with
    | nil =>
      have e1 : ¬ (done.length < M.names.length) := by simp at hlen; omega
      simp -dsimp [e1]
      refine hK _ _ ⟨Fo, ?_, k03, fun b hb => (hFo b hb).elim (n1 b) (fun h => by have := k12.size; omega)⟩
      have : M.crash ks = ⟨M.limit, out, []⟩ := by
        unfold Mod.crash; rw [hca.sum]; simp [crashF]
      rw [this]; exact ost
    | cons p rest =>
      have e1 : done.length < M.names.length := by simp at hlen; omega
      have hmem : p ∈ M.files := by rw [hca.all]; simp
      have hlk : lookF p.1 M.files = some p.2 := lookF_mem sc.ok.sorted hmem
      have hnl : ∀ b, own2 = some b → ¬ F1 b := fun b hb hf => by have := n2 b hb; have := o1.lt b hf; omega
      have hgn : SlRep rStr (fun b => own2 = some b) h3 (.slice na M.names.length nc) M.names := hg2.strs.mono fun b hb => ⟨hb, k23.blk b (hg2.own_lt b hb) (hnl b hb)⟩
      obtain ⟨nbk, noff, nv', rfl, _, hrv, hcell⟩ := hgn.get1 rfl done.length e1
      have hnv : nv' = .string p.1 := by
        have : M.names[done.length] = p.1 := by simp [Mod.names, hca.all]
        rw [this] at hrv
        simpa [rStr] using hrv
      subst hnv
      have hidx : ∀ (K : Value → Heap → Prop) (h : Heap), indexAddrS Try.prog 36 (.slice (some ⟨nbk, noff, none⟩) M.names.length nc) (.int .i64 (done.length : Int)) h K = K (.pointer (some ⟨nbk, noff + done.length, none⟩)) h := by
        intro K h
        rw [indexAddrS_slice _ _ _ _ _ _ (by omega) (by omega) rfl]
        simp [elSz]
      have s3 := s0.keep k03 (fun _ _ h => h)
      have sc3 := sc.mono k03.size fun b hb => k03.blk b (sc.lt b hb) (fun h => h)
      have hs3 := sc3.str
      simp -dsimp [e1, hidx, hcell, hs3]
      rw [lookup_str (kt := 9) (et := 71) (by simp) (by kernel_rfl) Try.zS71 sc3.map]
      obtain ⟨q1, q2⟩ := sc3.files.zero p.1
      rw [hlk] at q1
      generalize (getE p.1 es).getD _ = fv at q1 ⊢
      have q1' := q1
      obtain ⟨nv, sv, sx, si, rfl, q5, q6, q7⟩ := q1
      obtain ⟨a1, c1, rfl, _, _⟩ := q5.val
      obtain ⟨a2, c2, rfl, _, _⟩ := q6.val
      simp only [Option.getD_some] at q1' q5 q7 ⊢
      simp -dsimp [push_old]
      generalize hH : Array.setIfInBounds _ (h3.size + 1) _ = h4
      have hz4 : h4.size = h3.size + 2 := by rw [← hH]; simp
      have k34 : Keep none_ h3 h4 := by rw [← hH]; exact (((Keep.refl none_ h3).pushed _).setted _ (fun hh => absurd hh (by omega))).pushed _ |>.setted _ (fun hh => absurd hh (by omega))
      have hf4 : h4[h3.size]? = some (.cells #[.slice a1 p.2.now.length c1, .slice a2 sx.length c2, .bool si, .bool p.2.safe] 71 (0, 0)) := by
        rw [← hH, set_other _ (by omega), push_old _ (by simp), set_same _ (by simp)]
      have hl4 : h4[h3.size + 1]? = some (.cells #[.slice a2 sx.length c2, .bool si] 69 (0, 0)) := by
        rw [← hH]; exact set_same _ (by simp)
      have hR3 : ∀ b, R b → b < h3.size := fun b hb => (sc3.sep b hb).1
      cases hsf : p.2.safe with
      | true =>
        simp -dsimp [hl4]
        obtain ⟨h5, rfl⟩ : ∃ h5, h5 = h4 := ⟨_, rfl⟩
        obtain ⟨li, rfl⟩ : ∃ li, li = si := ⟨_, rfl⟩
        have k35 := k34
        have hl5 := hl4
        have hleft : (if p.2.safe = true then p.2.sure else leftF p.2 (ks'.headD 0)) = if li = true then some sx else none := by rw [if_pos hsf, q7]
        have hks2 : (if p.2.safe = true then ks' else ks'.tail) = ks' := by rw [if_pos hsf]
        have hlx : SlRep rByte R h5 (.slice a2 sx.length c2) sx := q6.mono fun b hb => ⟨hb, k35.blk b (hR3 b hb) (fun h => h)⟩
        have hkv2 : SlRep rInt G h5 kv' ks' := hkv.mono fun b hb => ⟨hb, k35.blk b (Nat.lt_of_lt_of_le (hG b hb) k03.size) (fun h => h)⟩
        have hst := hca.step sc.ok.sorted
        rw [hleft, hks2] at hst
        have k05 : Keep none_ h h5 := k03.trans k35 (fun _ _ h => h)
        have k25 : Keep F1 h2 h5 := k23.trans k35.none (fun _ _ h => h)
        have ost5 := ost.keep k35 (fun _ _ h => h)
        have wj : IntKind.i64.wrap ((done.length : Int) + 1) = ((done ++ [p]).length : Int) := by
          rw [wrap_i64 (by omega) (by omega)]; simp
        cases li with
        | false =>
          simp only [Bool.false_eq_true, if_false] at hst
          simp -dsimp [wj]
          refine ⟨(done ++ [p], rest, out, ks', kv'), ?_, rfl, ⟨hst, k05, k25, hkv2, Fo, ost5, hFo⟩, by simp⟩
          intro q hq
          simp at hq
          rcases hq with rfl | rfl | rfl | rfl | rfl | rfl <;> simp
        | true =>
          simp only [if_true] at hst
          simp -dsimp [hl5]
          have hlxn : sx.length < 1000000000 := left_len sc.ok.sorted hn.used hn' hsu hmem (hleft.trans (if_pos rfl))
          refine call_by (own_spec (F := R) hlx (fun b hb => Nat.lt_of_lt_of_le (hR3 b hb) k35.size) (by omega)) ?_
          rintro r h6 ⟨own6, hg6, k56, ho6⟩
          obtain ⟨a6, c6, rfl⟩ := hg6.val
          obtain ⟨obs, obm, oes, oclock, otv, oown, oR, hov, rfl, oc⟩ := ost5
          have hobs : obs = ob := by
            simp at hov; exact hov.symm
          subst hobs
          have oc6 := oc.mono k56.size fun b hb => k56.blk b (oc.lt b hb) (fun h => h)
          have hos := oc6.str
          simp -dsimp [hos]
          rw [update_str (kt := 9) (et := 71) (by simp) (by kernel_rfl) oc6.map]
          generalize hH7 : h6.setIfInBounds obm _ = h7
          have hbm7 : obm < h6.size := lt_of_blk oc6.map
          have k67 : Keep (fun b => b = obm) h6 h7 := by rw [← hH7]; exact .set h6 _ (fun _ => rfl)
          have k57 : Keep (fun b => b = obm) h5 h7 := k56.none.trans k67 (fun _ _ h => h)
          have hb7 : h7[obm]? = some (.map (entsOf kStr (putE p.1 (.agg #[.slice a6 sx.length c6, .slice a6 sx.length c6, .bool true, .bool true]) oclock oes)) (clockE p.1 oes oclock)) := by
            rw [← hH7]; exact set_same _ hbm7
          have hfr : FileRep (fun b => oR b ∨ own6 = some b) h7 (.agg #[.slice a6 sx.length c6, .slice a6 sx.length c6, .bool true, .bool true]) ⟨sx, some sx, true⟩ := by
            have hx : SlRep rByte (fun b => oR b ∨ own6 = some b) h7 (.slice a6 sx.length c6) sx := hg6.bytes.mono fun b hb => ⟨.inr hb, k67.blk b (hg6.own_lt b hb) (fun e => by have := ho6 b hb; have := lt_of_blk oc.map; omega)⟩
            exact ⟨_, _, sx, true, rfl, hx, hx, rfl⟩
          have oc7 := oc.put hb7 k57 hfr (fun b hb => .inl hb) (fun b hb => hb.imp id fun hb => ⟨ho6 b hb, by have := hg6.own_lt b hb; have := k67.size; omega⟩) (fun _ => rfl)
          have hend : putF p.1 ⟨sx, some sx, true⟩ out = out ++ [(p.1, ⟨sx, some sx, true⟩)] := putF_end fun q hq => hca.lt q hq p (List.mem_cons_self ..)
          simp only [hend] at oc7
          have hob : obm ∈ ([] : List Nat) ∨ (F1 obm ∨ h2.size ≤ obm) := .inr (hFo obm (.inr (.inl rfl)))
          have hobh : h.size ≤ obm := by
            rcases hFo obm (.inr (.inl rfl)) with h | h
            · exact n1 _ h
            · have := k12.size; omega
          have k07 : Keep none_ h h7 := ⟨by have := k05.size; have := k57.size; omega, fun b hb _ => by rw [k57.blk b (by have := k05.size; omega) (by omega), k05.blk b hb (fun h => h)]⟩
          have k27 : Keep F1 h2 h7 := ⟨by have := k25.size; have := k57.size; omega, fun b hb hn => by
            rw [k57.blk b (by have := k25.size; omega) (fun e => by
              rcases hFo obm (.inr (.inl rfl)) with h | h
              · exact hn (e ▸ h)
              · omega), k25.blk b hb hn]⟩
          have hkv7 : SlRep rInt G h7 kv' ks' := hkv2.mono fun b hb => ⟨hb, k57.blk b (by have := hG b hb; have := k05.size; omega) (by have := hG b hb; omega)⟩
          simp -dsimp [wj]
          refine ⟨(done ++ [p], rest, out ++ [(p.1, ⟨sx, some sx, true⟩)], ks', kv'), ?_, rfl, ⟨hst, k07, k27, hkv7, _, oc7.fin, ?_⟩, by simp⟩
          · intro q hq
            simp at hq
            rcases hq with rfl | rfl | rfl | rfl | rfl | rfl <;> simp
          · intro b hb
            rcases hb with h1 | h1 | h1 | h1 | h1
            · exact hFo b (.inl h1)
            · exact hFo b (.inr (.inl h1))
            · exact hFo b (.inr (.inr (.inl h1)))
            · exact hFo b (.inr (.inr (.inr h1)))
            · have := ho6 b h1; have := k25.size; exact .inr (by omega)
      | false =>
        obtain ⟨kva, kvc, rfl, hkc1, hkc2⟩ := hkv.val
        have hkv4 : SlRep rInt G h4 (.slice kva ks'.length kvc) ks' := hkv.mono fun b hb => ⟨hb, k34.blk b (Nat.lt_of_lt_of_le (hG b hb) k03.size) (fun h => h)⟩
        have q14 : FileRep R h4 (.agg #[.slice a1 p.2.now.length c1, .slice a2 sx.length c2, .bool si, .bool p.2.safe]) p.2 := q1'.mono fun b hb => ⟨hb, k34.blk b (hR3 b hb) (fun h => h)⟩
        rw [hsf] at q14 hf4
        cases ks' with
        | nil =>
          simp -dsimp [hf4]
          refine call_by (left_spec q14 (fun b hb => by have := hR3 b hb; omega) 0) ?_
          rintro r h4b ⟨la, ln, lc, li, lx, rfl, hlx0, hleft0, k4b⟩
          obtain ⟨_, _, hle, _, _⟩ := hlx0.val
          cases hle
          have hl4b := k4b.at hl4 (fun h => h)
          have hset : ∀ o, (h4b.setIfInBounds (h3.size + 1) o)[h3.size + 1]? = some o := fun o => set_same o (lt_of_blk hl4b)
          simp -dsimp [hl4b, hset]
          generalize hH5 : h4b.setIfInBounds (h3.size + 1) _ = h5
          have hl5 : h5[h3.size + 1]? = some (.cells #[.slice la lx.length lc, .bool li] 69 (0, 0)) := by rw [← hH5]; exact hset _
          have k35 : Keep none_ h3 h5 := by rw [← hH5]; exact (k34.trans k4b (fun _ _ h => h)).setted _ (fun hh => absurd hh (by omega))
          have hlx : SlRep rByte R h5 (.slice la lx.length lc) lx := hlx0.mono fun b hb => ⟨hb, by rw [← hH5]; exact set_other _ (by have := hR3 b hb; omega)⟩
          have hleft : (if p.2.safe = true then p.2.sure else leftF p.2 (([] : List Int).headD 0)) = if li = true then some lx else none := by rw [hsf]; exact hleft0
          have hks2 : (if p.2.safe = true then ([] : List Int) else ([] : List Int).tail) = [] := by rw [hsf]; rfl
          have hblk : ∀ b, b < h3.size → h5[b]? = h4[b]? := fun b hb => by rw [← hH5, set_other _ (by omega)]; exact k4b.blk b (by omega) (fun h => h)
          have hkv2 : SlRep rInt G h5 (.slice kva 0 kvc) [] := hkv4.mono fun b hb => ⟨hb, hblk b (Nat.lt_of_lt_of_le (hG b hb) k03.size)⟩
          have hst := hca.step sc.ok.sorted
          rw [hleft, hks2] at hst
          have k05 : Keep none_ h h5 := k03.trans k35 (fun _ _ h => h)
          have k25 : Keep F1 h2 h5 := k23.trans k35.none (fun _ _ h => h)
          have ost5 := ost.keep k35 (fun _ _ h => h)
          have wj : IntKind.i64.wrap ((done.length : Int) + 1) = ((done ++ [p]).length : Int) := by
            rw [wrap_i64 (by omega) (by omega)]; simp
          cases li with
          | false =>
            simp only [Bool.false_eq_true, if_false] at hst
            simp -dsimp [wj]
            refine ⟨(done ++ [p], rest, out, [], (.slice kva 0 kvc)), ?_, rfl, ⟨hst, k05, k25, hkv2, Fo, ost5, hFo⟩, by simp⟩
            intro q hq
            simp at hq
            rcases hq with rfl | rfl | rfl | rfl | rfl | rfl <;> simp
          | true =>
            simp only [if_true] at hst
            simp -dsimp [hl5]
            have hlxn : lx.length < 1000000000 := left_len sc.ok.sorted hn.used hn' hsu hmem (hleft.trans (if_pos rfl))
            refine call_by (own_spec (F := R) hlx (fun b hb => Nat.lt_of_lt_of_le (hR3 b hb) k35.size) (by omega)) ?_
            rintro r h6 ⟨own6, hg6, k56, ho6⟩
            obtain ⟨a6, c6, rfl⟩ := hg6.val
            obtain ⟨obs, obm, oes, oclock, otv, oown, oR, hov, rfl, oc⟩ := ost5
            have hobs : obs = ob := by
              simp at hov; exact hov.symm
            subst hobs
            have oc6 := oc.mono k56.size fun b hb => k56.blk b (oc.lt b hb) (fun h => h)
            have hos := oc6.str
            simp -dsimp [hos]
            rw [update_str (kt := 9) (et := 71) (by simp) (by kernel_rfl) oc6.map]
            generalize hH7 : h6.setIfInBounds obm _ = h7
            have hbm7 : obm < h6.size := lt_of_blk oc6.map
            have k67 : Keep (fun b => b = obm) h6 h7 := by rw [← hH7]; exact .set h6 _ (fun _ => rfl)
            have k57 : Keep (fun b => b = obm) h5 h7 := k56.none.trans k67 (fun _ _ h => h)
            have hb7 : h7[obm]? = some (.map (entsOf kStr (putE p.1 (.agg #[.slice a6 lx.length c6, .slice a6 lx.length c6, .bool true, .bool true]) oclock oes)) (clockE p.1 oes oclock)) := by
              rw [← hH7]; exact set_same _ hbm7
            have hfr : FileRep (fun b => oR b ∨ own6 = some b) h7 (.agg #[.slice a6 lx.length c6, .slice a6 lx.length c6, .bool true, .bool true]) ⟨lx, some lx, true⟩ := by
              have hx : SlRep rByte (fun b => oR b ∨ own6 = some b) h7 (.slice a6 lx.length c6) lx := hg6.bytes.mono fun b hb => ⟨.inr hb, k67.blk b (hg6.own_lt b hb) (fun e => by have := ho6 b hb; have := lt_of_blk oc.map; omega)⟩
              exact ⟨_, _, lx, true, rfl, hx, hx, rfl⟩
            have oc7 := oc.put hb7 k57 hfr (fun b hb => .inl hb) (fun b hb => hb.imp id fun hb => ⟨ho6 b hb, by have := hg6.own_lt b hb; have := k67.size; omega⟩) (fun _ => rfl)
            have hend : putF p.1 ⟨lx, some lx, true⟩ out = out ++ [(p.1, ⟨lx, some lx, true⟩)] := putF_end fun q hq => hca.lt q hq p (List.mem_cons_self ..)
            simp only [hend] at oc7
            have hob : obm ∈ ([] : List Nat) ∨ (F1 obm ∨ h2.size ≤ obm) := .inr (hFo obm (.inr (.inl rfl)))
            have hobh : h.size ≤ obm := by
              rcases hFo obm (.inr (.inl rfl)) with h | h
              · exact n1 _ h
              · have := k12.size; omega
            have k07 : Keep none_ h h7 := ⟨by have := k05.size; have := k57.size; omega, fun b hb _ => by rw [k57.blk b (by have := k05.size; omega) (by omega), k05.blk b hb (fun h => h)]⟩
            have k27 : Keep F1 h2 h7 := ⟨by have := k25.size; have := k57.size; omega, fun b hb hn => by
              rw [k57.blk b (by have := k25.size; omega) (fun e => by
                rcases hFo obm (.inr (.inl rfl)) with h | h
                · exact hn (e ▸ h)
                · omega), k25.blk b hb hn]⟩
            have hkv7 : SlRep rInt G h7 (.slice kva 0 kvc) [] := hkv2.mono fun b hb => ⟨hb, k57.blk b (by have := hG b hb; have := k05.size; omega) (by have := hG b hb; omega)⟩
            simp -dsimp [wj]
            refine ⟨(done ++ [p], rest, out ++ [(p.1, ⟨lx, some lx, true⟩)], [], (.slice kva 0 kvc)), ?_, rfl, ⟨hst, k07, k27, hkv7, _, oc7.fin, ?_⟩, by simp⟩
            · intro q hq
              simp at hq
              rcases hq with rfl | rfl | rfl | rfl | rfl | rfl <;> simp
            · intro b hb
              rcases hb with h1 | h1 | h1 | h1 | h1
              · exact hFo b (.inl h1)
              · exact hFo b (.inr (.inl h1))
              · exact hFo b (.inr (.inr (.inl h1)))
              · exact hFo b (.inr (.inr (.inr h1)))
              · have := ho6 b h1; have := k25.size; exact .inr (by omega)

        | cons k kr =>
          obtain ⟨kbk, koff, kv', rfl, _, hkr, hkcell⟩ := hkv4.get1 rfl 0 (by simp)
          have hkv' : kv' = .int .i64 k := by simpa [rInt] using hkr
          subst hkv'
          have hkl : (k :: kr).length = kr.length + 1 := rfl
          rw [hkl] at hkv4 hkc1
          have hkidx : ∀ sz ar kk, idxV sz ar (.slice (some ⟨kbk, koff, none⟩) (kr.length + 1) kvc) (.int kk 0) = sz.map fun s => .pointer (some ⟨kbk, koff + 0 * s, none⟩) := by
            intro sz ar kk
            rw [idxV_slice (i := 0) (by omega) (by omega) rfl]
            simp
          have hkpc : ∀ sz kk, pieceV sz (some (.int kk 1)) none (.slice (some ⟨kbk, koff, none⟩) (kr.length + 1) kvc) = sz.map fun s => .slice (piece (some ⟨kbk, koff, none⟩) 1 kvc s) kr.length (kvc - 1) := by
            intro sz kk
            cases sz <;> simp [pieceV, natV] <;> omega
          have hcutp := hkv4.cut (i := 1) (j := kr.length + 1) (m := kvc) (by omega) (by simp) (by omega) (by omega)
          have hcl : (((k :: kr).drop 1).take (kr.length + 1 - 1)) = kr := by simp
          have hgt : 0 < kr.length + 1 := by omega
          rw [hcl] at hcutp
          simp -dsimp
          refine drawn_by [⟨0, true, []⟩, ⟨1, true, []⟩, ⟨2, true, []⟩, ⟨3, true, []⟩, ⟨4, true, []⟩, ⟨5, true, []⟩, ⟨6, true, []⟩] (by kernel_rfl) (by kernel_rfl) ?_
          rw [Nat.add_zero] at hkcell
          simp -dsimp [hkidx, hkpc, hkcell, elSz, hf4]
          refine call_by (left_spec q14 (fun b hb => by have := hR3 b hb; omega) k) ?_
          rintro r h4b ⟨la, ln, lc, li, lx, rfl, hlx0, hleft0, k4b⟩
          obtain ⟨_, _, hle, _, _⟩ := hlx0.val
          cases hle
          have hl4b := k4b.at hl4 (fun h => h)
          have hset : ∀ o, (h4b.setIfInBounds (h3.size + 1) o)[h3.size + 1]? = some o := fun o => set_same o (lt_of_blk hl4b)
          simp -dsimp [hl4b, hset]
          generalize hH5 : h4b.setIfInBounds (h3.size + 1) _ = h5
          have hl5 : h5[h3.size + 1]? = some (.cells #[.slice la lx.length lc, .bool li] 69 (0, 0)) := by rw [← hH5]; exact hset _
          have k35 : Keep none_ h3 h5 := by rw [← hH5]; exact (k34.trans k4b (fun _ _ h => h)).setted _ (fun hh => absurd hh (by omega))
          have hlx : SlRep rByte R h5 (.slice la lx.length lc) lx := hlx0.mono fun b hb => ⟨hb, by rw [← hH5]; exact set_other _ (by have := hR3 b hb; omega)⟩
          have hleft : (if p.2.safe = true then p.2.sure else leftF p.2 ((k :: kr).headD 0)) = if li = true then some lx else none := by rw [hsf]; exact hleft0
          have hks2 : (if p.2.safe = true then (k :: kr) else (k :: kr).tail) = kr := by rw [hsf]; rfl
          have hblk : ∀ b, b < h3.size → h5[b]? = h4[b]? := fun b hb => by rw [← hH5, set_other _ (by omega)]; exact k4b.blk b (by omega) (fun h => h)
          have hpc : piece (some ⟨kbk, koff, none⟩) 1 kvc 1 = piece (some ⟨kbk, koff, none⟩) 1 kvc rInt.sz := rfl
          have hkv2 : SlRep rInt G h5 (.slice (piece (some ⟨kbk, koff, none⟩) 1 kvc 1) kr.length (kvc - 1)) kr := hcutp.mono fun b hb => ⟨hb, hblk b (Nat.lt_of_lt_of_le (hG b hb) k03.size)⟩
          have hst := hca.step sc.ok.sorted
          rw [hleft, hks2] at hst
          have k05 : Keep none_ h h5 := k03.trans k35 (fun _ _ h => h)
          have k25 : Keep F1 h2 h5 := k23.trans k35.none (fun _ _ h => h)
          have ost5 := ost.keep k35 (fun _ _ h => h)
          have wj : IntKind.i64.wrap ((done.length : Int) + 1) = ((done ++ [p]).length : Int) := by
            rw [wrap_i64 (by omega) (by omega)]; simp
          cases li with
          | false =>
            simp only [Bool.false_eq_true, if_false] at hst
            simp -dsimp [wj]
            refine ⟨(done ++ [p], rest, out, kr, (.slice (piece (some ⟨kbk, koff, none⟩) 1 kvc 1) kr.length (kvc - 1))), ?_, rfl, ⟨hst, k05, k25, hkv2, Fo, ost5, hFo⟩, by simp⟩
            intro q hq
            simp at hq
            rcases hq with rfl | rfl | rfl | rfl | rfl | rfl <;> simp
          | true =>
            simp only [if_true] at hst
            simp -dsimp [hl5]
            have hlxn : lx.length < 1000000000 := left_len sc.ok.sorted hn.used hn' hsu hmem (hleft.trans (if_pos rfl))
            refine call_by (own_spec (F := R) hlx (fun b hb => Nat.lt_of_lt_of_le (hR3 b hb) k35.size) (by omega)) ?_
            rintro r h6 ⟨own6, hg6, k56, ho6⟩
            obtain ⟨a6, c6, rfl⟩ := hg6.val
            obtain ⟨obs, obm, oes, oclock, otv, oown, oR, hov, rfl, oc⟩ := ost5
            have hobs : obs = ob := by
              simp at hov; exact hov.symm
            subst hobs
            have oc6 := oc.mono k56.size fun b hb => k56.blk b (oc.lt b hb) (fun h => h)
            have hos := oc6.str
            simp -dsimp [hos]
            rw [update_str (kt := 9) (et := 71) (by simp) (by kernel_rfl) oc6.map]
            generalize hH7 : h6.setIfInBounds obm _ = h7
            have hbm7 : obm < h6.size := lt_of_blk oc6.map
            have k67 : Keep (fun b => b = obm) h6 h7 := by rw [← hH7]; exact .set h6 _ (fun _ => rfl)
            have k57 : Keep (fun b => b = obm) h5 h7 := k56.none.trans k67 (fun _ _ h => h)
            have hb7 : h7[obm]? = some (.map (entsOf kStr (putE p.1 (.agg #[.slice a6 lx.length c6, .slice a6 lx.length c6, .bool true, .bool true]) oclock oes)) (clockE p.1 oes oclock)) := by
              rw [← hH7]; exact set_same _ hbm7
            have hfr : FileRep (fun b => oR b ∨ own6 = some b) h7 (.agg #[.slice a6 lx.length c6, .slice a6 lx.length c6, .bool true, .bool true]) ⟨lx, some lx, true⟩ := by
              have hx : SlRep rByte (fun b => oR b ∨ own6 = some b) h7 (.slice a6 lx.length c6) lx := hg6.bytes.mono fun b hb => ⟨.inr hb, k67.blk b (hg6.own_lt b hb) (fun e => by have := ho6 b hb; have := lt_of_blk oc.map; omega)⟩
              exact ⟨_, _, lx, true, rfl, hx, hx, rfl⟩
            have oc7 := oc.put hb7 k57 hfr (fun b hb => .inl hb) (fun b hb => hb.imp id fun hb => ⟨ho6 b hb, by have := hg6.own_lt b hb; have := k67.size; omega⟩) (fun _ => rfl)
            have hend : putF p.1 ⟨lx, some lx, true⟩ out = out ++ [(p.1, ⟨lx, some lx, true⟩)] := putF_end fun q hq => hca.lt q hq p (List.mem_cons_self ..)
            simp only [hend] at oc7
            have hob : obm ∈ ([] : List Nat) ∨ (F1 obm ∨ h2.size ≤ obm) := .inr (hFo obm (.inr (.inl rfl)))
            have hobh : h.size ≤ obm := by
              rcases hFo obm (.inr (.inl rfl)) with h | h
              · exact n1 _ h
              · have := k12.size; omega
            have k07 : Keep none_ h h7 := ⟨by have := k05.size; have := k57.size; omega, fun b hb _ => by rw [k57.blk b (by have := k05.size; omega) (by omega), k05.blk b hb (fun h => h)]⟩
            have k27 : Keep F1 h2 h7 := ⟨by have := k25.size; have := k57.size; omega, fun b hb hn => by
              rw [k57.blk b (by have := k25.size; omega) (fun e => by
                rcases hFo obm (.inr (.inl rfl)) with h | h
                · exact hn (e ▸ h)
                · omega), k25.blk b hb hn]⟩
            have hkv7 : SlRep rInt G h7 (.slice (piece (some ⟨kbk, koff, none⟩) 1 kvc 1) kr.length (kvc - 1)) kr := hkv2.mono fun b hb => ⟨hb, k57.blk b (by have := hG b hb; have := k05.size; omega) (by have := hG b hb; omega)⟩
            simp -dsimp [wj]
            refine ⟨(done ++ [p], rest, out ++ [(p.1, ⟨lx, some lx, true⟩)], kr, (.slice (piece (some ⟨kbk, koff, none⟩) 1 kvc 1) kr.length (kvc - 1))), ?_, rfl, ⟨hst, k07, k27, hkv7, _, oc7.fin, ?_⟩, by simp⟩
            · intro q hq
              simp at hq
              rcases hq with rfl | rfl | rfl | rfl | rfl | rfl <;> simp
            · intro b hb
              rcases hb with h1 | h1 | h1 | h1 | h1
              · exact hFo b (.inl h1)
              · exact hFo b (.inr (.inl h1))
              · exact hFo b (.inr (.inr (.inl h1)))
              · exact hFo b (.inr (.inr (.inr h1)))
              · have := ho6 b h1; have := k25.size; exact .inr (by omega)

end Go.Proofs
