/-
  Facts of numbers: a schema, rows.
-/
import Derived.Test.YtjkefplcbmdndaaKBb
import Derived.ProofKit
import Derived.OpenShut

namespace Go.HC
structure SchM where
  cards : List Int
  ms : Int
/-- The number of values of a dimension. -/
def cardM (cards : List Int) (i : Nat) : Int := 1 + withinM ((cards[i]?).getD ((i : Int) + 2)) 5
def cardsM (dims : Int) (cards : List Int) : List Int :=
  if withinM dims 7 = 0 then ((List.range ((withinM dims 4).toNat + 1)).map (cardM cards)).set 0 16 else (List.range ((withinM dims 4).toNat + 1)).map (cardM cards)
def div5 (k : Int) : Nat → Int
  | 0 => k
  | d + 1 => IntKind.i64.wrap ((div5 k d).tdiv 5)
def keyM (cs : List Int) (k : Int) : List Int := cs.mapIdx fun d c => withinM (div5 k d) c
def rowM (cs : List Int) (ms : Int) (k : Int) : RowM :=
  ⟨keyM cs k, (List.range ms.toNat).map fun (j : Nat) => IntKind.i64.wrap (withinM (IntKind.i64.wrap (div5 k cs.length + IntKind.i64.wrap (7 * (j : Int)))) 201 - 100)⟩
def factsM (dims : Int) (cards : List Int) (ms : Int) (ns : List Int) : SchM × List RowM :=
  (⟨cardsM dims cards, withinM ms 3⟩, (ns.take 40).map (rowM (cardsM dims cards) (withinM ms 3)))
/-- A schema, rows that may be. -/
structure FactsOk (s : SchM) (rows : List RowM) : Prop where
  dims : 1 ≤ s.cards.length ∧ s.cards.length ≤ 4
  cards : ∀ c ∈ s.cards, 1 ≤ c ∧ c ≤ 16
  ms : 0 ≤ s.ms ∧ s.ms ≤ 2
  len : rows.length ≤ 40
  key : ∀ r ∈ rows, r.key.length = s.cards.length ∧ ∀ (i : Nat) (h : i < r.key.length) (h' : i < s.cards.length), 0 ≤ r.key[i] ∧ r.key[i] < s.cards[i]
  m : ∀ r ∈ rows, r.m.length = s.ms.toNat ∧ ∀ x ∈ r.m, -100 ≤ x ∧ x ≤ 100
theorem cardM_bound (cards : List Int) (i : Nat) : 1 ≤ cardM cards i ∧ cardM cards i ≤ 5 := by
  unfold cardM
  have := withinM_bound (a := (cards[i]?).getD ((i : Int) + 2)) (n := 5) (by omega)
  omega
theorem cardsM_ok (dims : Int) (cards : List Int) : (cardsM dims cards).length = (withinM dims 4).toNat + 1 ∧ ∀ c ∈ cardsM dims cards, 1 ≤ c ∧ c ≤ 16 := by
  unfold cardsM
  split
  · refine ⟨by simp, fun c hc => ?_⟩
    rcases List.mem_or_eq_of_mem_set hc with h | rfl
    · obtain ⟨i, _, rfl⟩ := List.mem_map.1 h
      have := cardM_bound cards i; omega
    · omega
  · refine ⟨by simp, fun c hc => ?_⟩
    obtain ⟨i, _, rfl⟩ := List.mem_map.1 hc
    have := cardM_bound cards i; omega
theorem factsM_ok (dims : Int) (cards : List Int) (ms : Int) (ns : List Int) : FactsOk (factsM dims cards ms ns).1 (factsM dims cards ms ns).2 := by
  have hc := cardsM_ok dims cards
  have hd := withinM_bound (a := dims) (n := 4) (by omega)
  have hm := withinM_bound (a := ms) (n := 3) (by omega)
  refine ⟨by simp only [factsM, hc.1]; omega, hc.2, by simp only [factsM]; omega, by simp only [factsM, List.length_map, List.length_take]; omega, fun r hr => ?_, fun r hr => ?_⟩
  · simp only [factsM, List.mem_map] at hr
    obtain ⟨k, _, rfl⟩ := hr
    refine ⟨by simp [rowM, keyM, factsM], fun i h h' => ?_⟩
    simp only [rowM, keyM, List.getElem_mapIdx, factsM]
    simp only [factsM] at h'
    have := hc.2 _ (List.getElem_mem h')
    exact withinM_bound (by omega)
  · simp only [factsM, List.mem_map] at hr
    obtain ⟨k, _, rfl⟩ := hr
    refine ⟨by simp [rowM, factsM], fun x hx => ?_⟩
    simp only [rowM, List.mem_map] at hx
    obtain ⟨j, _, rfl⟩ := hx
    have := withinM_bound (a := IntKind.i64.wrap (div5 k (cardsM dims cards).length + IntKind.i64.wrap (7 * (j : Int)))) (n := 201) (by omega)
    rw [wrap_i64 (by omega) (by omega)]
    omega
end Go.HC
namespace Go.Proofs
open Go Go.HC

theorem rowT : ElemT Try.prog 26 57 rRow 48 := ⟨Try.elS26, Try.szS57, Try.byS57, _, Try.zS57, rfl⟩

set_option maxHeartbeats 4000000 in
set_option maxRecDepth 10000 in
theorem set2_spec {h : Heap} {v : Value} {cards : List Int} (ms n : Int) (hc : SlRep rInt (Old h) h v cards) (hl : cards.length ≤ 4) :
    CallH Try.prog 14 #[.agg #[v, .int .i64 ms], .int .i64 n] h fun r h' => r = .int .i64 (withinM n (2 ^ cards.length)) ∧ Keep none_ h h' := by
  refine callH_by fun K hK => ?_
  refine enter [.tmp 4] Try.func14 rfl rfl (by kernel_rfl) rfl ?_
  obtain ⟨a0, c0, rfl, hc0, hc0'⟩ := hc.val
  simp -dsimp [boxS_eq]
  have h3 : (2 : Int) ^ cards.length ≤ 2 ^ 4 := pow2_le hl
  have h4 : (0 : Int) < 2 ^ cards.length := Int.pow_pos (by decide)
  simp -dsimp [shl_one (k := cards.length) (by omega)]
  refine call_by (within2_spec n _ h4 (by omega) _) ?_
  rintro _ h1 ⟨rfl, hh⟩
  obtain rfl := hh.symm
  simp -dsimp
  exact hK _ _ ⟨rfl, .push _ _ _⟩

set_option maxHeartbeats 4000000 in
set_option maxRecDepth 10000 in
theorem facts1_spec {h : Heap} {cv nv : Value} {cards ns : List Int} (dims ms : Int) (hc : SlRep rInt (Old h) h cv cards) (hn : SlRep rInt (Old h) h nv ns) :
    CallH Try.prog 12 #[.int .i64 dims, cv, .int .i64 ms, nv] h fun r h' => ∃ sv rv, r = .tuple #[.agg #[sv, .int .i64 (factsM dims cards ms ns).1.ms], rv] ∧
      SlRep rInt (Ft h.size none_ h') h' sv (factsM dims cards ms ns).1.cards ∧ SlRep rRow (Ft h.size none_ h') h' rv (factsM dims cards ms ns).2 ∧ Keep none_ h h' := by
  refine callH_by fun K hK => ?_
  refine enter [.cell 8 25, .tmp 9] Try.func12 rfl rfl (by kernel_rfl) rfl ?_
  obtain ⟨a0, c0, rfl, hc0, hc0'⟩ := hc.val
  obtain ⟨a1, c1, rfl, hc1, hc1'⟩ := hn.val
  simp -dsimp
  refine call_by (within1_spec ms 3 (by decide) (by decide) _) ?_
  rintro _ h0 ⟨rfl, hh⟩
  obtain rfl := hh.symm
  simp -dsimp
  rw [push_set (by simp)]
  have hd4 := withinM_bound (a := dims) (n := 4) (by omega)
  have hm3 := withinM_bound (a := ms) (n := 3) (by omega)
  obtain ⟨nd, hnd⟩ : ∃ nd : Nat, withinM dims 4 = nd := ⟨(withinM dims 4).toNat, by omega⟩
  refine loopc (σ := Nat × Value) (fun t => [(0, .int .i64 dims), (1, .slice a0 cards.length c0), (3, .slice a1 ns.length c1), (8, .pointer (some ⟨h.size, 0, none⟩)), (10, .pointer (some ⟨h.size + 1, 0, none⟩)), (11, .int .i64 t.1)])
    (fun t h1 => ∃ M own, Tr none_ M h h1 ∧ (M h.size ∧ M (h.size + 1)) ∧ (∀ b, own = some b → h.size + 2 ≤ b) ∧ t.1 ≤ nd + 1 ∧ h1[h.size]? = some (.cells #[.slice none 0 0, .int .i64 0] 25 (0, 0)) ∧
      h1[h.size + 1]? = some (.cells #[t.2, .int .i64 (withinM ms 3)] 25 (0, 0)) ∧ Gr rInt 3 h.size M h1 t.2 ((List.range t.1).map (cardM cards)) own)
    (fun t => nd + 1 - t.1) (0, .slice none 0 0) 0 (fun t _ => t.1 = nd + 1) noRet noRet_le (by simp)
    ⟨_, none, (((Tr.start _).pushM _).pushM _), ⟨.inl (.inr rfl), .inr (by simp)⟩, (fun _ h => by cases h), Nat.zero_le _, push_at (push_new _ _), push_get (by simp), .nil _ _ _ _ _⟩ (by kernel_rfl) ?_ ?_
  · rintro ⟨k, v⟩ h1 g ⟨M, own, t1, ⟨hM8, hM10⟩, hne, hk1, hb8, hb10, g1⟩
    simp only at hk1 hb8 hb10 g1
    have e1 := t1.size
    obtain ⟨va, vn, vc, rfl, hvn⟩ := g1.vals
    have wk := wrap_succ (k := k) (by omega)
    simp -dsimp
    refine call_by (within1_spec dims 4 (by decide) (by decide) _) ?_
    rintro _ h1' ⟨rfl, hh⟩
    obtain rfl := hh.symm
    rw [hnd]
    by_cases hkl : k ≤ nd
    · have hb1p : ∀ o, (h1.push o)[h.size + 1]? = _ := fun o => push_at hb10
      have wk2 : IntKind.i64.wrap ((k : Int) + 2) = (k : Int) + 2 := by rw [wrap_i64 (by omega) (by omega)]
      obtain ⟨x, hx⟩ : ∃ x, x = (cards[k]?).getD ((k : Int) + 2) := ⟨_, rfl⟩
      have hcm : cardM cards k = 1 + withinM x 5 := by rw [hx]; rfl
      have hw5 := withinM_bound (a := x) (n := 5) (by omega)
      have wx : IntKind.i64.wrap (1 + withinM x 5) = 1 + withinM x 5 := by rw [wrap_i64 (by omega) (by omega)]
      simp -dsimp [hkl, wk2]
      refine if hck : k < cards.length then ?ina else ?inb
      case' ina =>
        obtain ⟨b1, o1, ea, _, hc1⟩ := (hc.mono t1.old).int_at k hck
        subst ea
        rw [List.getElem?_eq_getElem hck, Option.getD_some] at hx
        simp -dsimp [hck, idxA_nat hck, hc1, ← hx]
      case' inb =>
        rw [List.getElem?_eq_none (by omega), Option.getD_none] at hx
        simp -dsimp [hck, ← hx]
      all_goals
        refine drawn_by [⟨0, true, []⟩, ⟨1, true, []⟩, ⟨2, true, []⟩, ⟨3, false, [0, 1]⟩, ⟨4, true, []⟩, ⟨5, false, [0, 1]⟩, ⟨6, false, []⟩, ⟨7, true, []⟩, ⟨8, false, []⟩] (by kernel_rfl) (by kernel_rfl) ?_
        simp -dsimp [hb10]
        refine call_by (within1_spec x 5 (by decide) (by decide) _) ?_
        rintro _ h1' ⟨rfl, hh⟩
        obtain rfl := hh.symm
        simp -dsimp [hb10, hb1p, again_cons, wx]
        have hlr : ((List.range k).map (cardM cards)).length = k := by simp
        refine gr_app1 rfl intT g1 t1.lt rfl rfl (by omega) (by omega) ?_
        intro v' h2 own' g2 t2 k2 ho
        have hb2 := k2.at hb10 (fun e => by have := hne _ e; omega)
        have hb82 := k2.at hb8 (fun e => by have := hne _ e; omega)
        have hne' : ∀ b, own' = some b → h.size + 2 ≤ b := fun b e => (ho _ e).elim (hne b) (by have := lt_of_blk hb10; omega)
        obtain ⟨va', vn', vc', rfl, _⟩ := g2.vals
        simp -dsimp [hb2, wk]
        refine ⟨(k + 1, .slice va' vn' vc'), by simp, rfl, ⟨_, own', (t1.trans t2).set _ (.inl hM10), ⟨.inl hM8, .inl hM10⟩, hne', by omega, (set_other _ (by omega)).trans hb82, set_same _ (lt_of_blk hb2), ?_⟩, by simp; omega⟩
        rw [List.range_succ, List.map_append, List.map_singleton, hcm]
        exact g2.set _ (.inl hM10) (fun e => by have := hne' _ e; omega)
    · have hkk : k = nd + 1 := by omega
      simp -dsimp [hkl]
      exact ⟨rfl, (k, .slice va vn vc), by simp, rfl, ⟨M, own, t1, ⟨hM8, hM10⟩, hne, hk1, hb8, hb10, g1⟩, hkk⟩
  · rintro ⟨k, v⟩ h1 g ⟨M, own, t1, ⟨hM8, hM10⟩, hne, hk1, hb8, hb10, g1⟩ hkk
    simp only at hk1 hb8 hb10 g1 hkk
    subst hkk
    have e1 := t1.size
    obtain ⟨va, vn, vc, ev, hvn⟩ := g1.vals
    subst ev
    simp -dsimp
    have hcs : cardsM dims cards = if withinM dims 7 = 0 then ((List.range (nd + 1)).map (cardM cards)).set 0 16 else (List.range (nd + 1)).map (cardM cards) := by
      have : (withinM dims 4).toNat = nd := by omega
      unfold cardsM; rw [this]
    refine call_by (within1_spec dims 7 (by decide) (by decide) _) ?_
    rintro _ h1' ⟨rfl, hh⟩
    obtain rfl := hh.symm
    have hlr : ((List.range (nd + 1)).map (cardM cards)).length = nd + 1 := by simp
    refine if h7 : withinM dims 7 = 0 then ?za else ?zb
    case' za =>
      rw [if_pos h7] at hcs
      obtain ⟨bk, m', c', o', hv, hm', ho4, hw, g4⟩ := g1.setE (i := 0) (x := 16) (by rw [hlr]; omega) rfl
      cases hv
      have hm0 : 0 < vn := by rw [hm', hlr]; omega
      have hM' := g1.mu bk ho4
      have hnb := hne bk ho4
      have hw' : writeIn h1[bk]? 0 [.int .i64 16] = some o' := by simpa using hw
      simp -dsimp [h7, hb10, idxA_zero hm0, hw']
      have hb8' : (h1.setIfInBounds bk o')[h.size]? = _ := (set_other _ (by omega)).trans hb8
      have hb10' : (h1.setIfInBounds bk o')[h.size + 1]? = _ := (set_other _ (by omega)).trans hb10
      replace t1 := t1.set o' hM'
      generalize h1.setIfInBounds bk o' = h2 at *
      replace hb8 := hb8'
      replace hb10 := hb10'
      clear g1 hw hw' ho4 hM' hnb hb8' hb10'
      generalize some (⟨bk, 0, none⟩ : Addr) = va at *
    case' zb =>
      rw [if_neg h7] at hcs
      have h7' : (withinM dims 7 == 0) = false := by simpa using h7
      simp -dsimp [h7']
      have g4 := g1
      generalize h1 = h2 at *
    all_goals
      rw [← hcs] at g4
      have hcl : (cardsM dims cards).length = nd + 1 := by rw [(cardsM_ok dims cards).1]; omega
      have hcb := (cardsM_ok dims cards).2
      have hvn' : vn = (cardsM dims cards).length := by rw [hvn, hlr, hcl]
      obtain ⟨cl, ecl⟩ : ∃ cl, cl = cardsM dims cards := ⟨_, rfl⟩
      have sc : SlRep rInt (Ft h.size (fun b => b = h.size) h2) h2 _ (cardsM dims cards) := g4.grow.ints.mono fun b hb => ⟨⟨⟨by have := hne b hb; omega, fun _ => g4.grow.thaw b hb⟩, g4.own_lt b hb, by have := hne b hb; omega⟩, rfl⟩
      have t2 : Tr none_ (fun b => b = h.size) h h2 := t1.less fun b hb => hb ▸ hM8
      rw [← ecl] at sc hcl hcb hvn'
      obtain ⟨mm, hmm⟩ : ∃ mm : Nat, withinM ms 3 = mm := ⟨(withinM ms 3).toNat, by omega⟩
      rw [hmm] at hb10
      clear t1 g4 hne hcs
      refine loopc (σ := Nat × Value) (fun t => [(3, .slice a1 ns.length c1), (8, .pointer (some ⟨h.size, 0, none⟩)), (10, .pointer (some ⟨h.size + 1, 0, none⟩)), (13, t.2), (14, .int .i64 t.1)])
        (fun t h1 => ∃ M own, Tr (fun b => b = h.size) M h2 h1 ∧ M h.size ∧ (∀ b, own = some b → h.size + 1 ≤ b) ∧ (t.1 ≤ ns.length ∧ t.1 ≤ 40) ∧ h1[h.size]? = some (.cells #[.slice none 0 0, .int .i64 0] 25 (0, 0)) ∧
          Gr rRow 57 h.size M h1 t.2 ((ns.take t.1).map (rowM cl mm)) own)
        (fun t => 40 - t.1) (0, .slice none 0 0) 2 (fun t _ => ¬ (t.1 < ns.length ∧ t.1 < 40)) noRet noRet_le (by simp) ⟨_, none, t2.here, rfl, (fun _ h => by cases h), ⟨Nat.zero_le _, Nat.zero_le _⟩, hb8, .nil _ _ _ _ _⟩ (by kernel_rfl) ?_ ?_
      case refine_2 =>
        rintro ⟨i, v⟩ h3 g ⟨M3, own3, t3, hM3, ho3, ⟨hi1, hi2⟩, hz3, g3⟩ hin
        simp only at hi1 hi2 hz3 g3 hin
        obtain ⟨va3, vn3, vc3, ev3, hvn3⟩ := g3.vals
        subst ev3
        have hb103 := t3.at hb10 (by omega)
        have hcut : (ns.take i) = ns.take 40 := by
          by_cases h1 : i < ns.length
          · have : i = 40 := by omega
            rw [this]
          · rw [List.take_of_length_le (by omega), List.take_of_length_le (by omega)]
        have hset8 : ∀ o, (h3.setIfInBounds h.size o)[h.size]? = some o := fun o => set_same _ (lt_of_blk hz3)
        simp -dsimp [hb103, hz3, hset8]
        have t9 := t3.set (.cells #[.slice va vn vc, .int .i64 mm] 25) hM3
        refine hK _ _ ⟨.slice va vn vc, .slice va3 vn3 vc3, by simp only [factsM, hmm], ?_, ?_, (t2.trans t9).keep⟩
        · simp only [factsM, ← ecl]
          exact (sc.mono (t9.ft (Nat.le_refl _))).mono (Ft.free (Nat.le_refl _))
        · rw [hcut] at g3
          simp only [factsM, ← ecl, hmm]
          have g9 := g3.mono (t3.here.set (.cells #[.slice va vn vc, .int .i64 mm] 25) hM3) (Nat.le_refl _) fun b hb => ⟨g3.mu b hb, set_other _ fun e => by have := ho3 b hb; omega⟩
          exact g9.rep (Nat.le_refl _) fun b hb => by have := ho3 b hb; omega
      rintro ⟨i, v⟩ h3 g ⟨M3, own3, t3, hM3, ho3, ⟨hi1, hi2⟩, hz3, g3⟩
      simp only at hi1 hi2 hz3 g3
      have wi := wrap_succ (k := i) (by omega)
      obtain ⟨va3, vn3, vc3, ev3, hvn3⟩ := g3.vals
      subst ev3
      have hb103 := t3.at hb10 (by omega)
      have sc3 := (sc.mono (t3.ft (Nat.le_refl _))).mono (Ft.free (Nat.zero_le _))
      have t23 := t2.trans t3
      by_cases hin : i < ns.length ∧ i < 40
      case neg =>
        by_cases h1 : i < ns.length
        · have h2 : ((i : Int) < 40) = False := by simp; omega
          simp -dsimp [h1, h2]
          exact ⟨rfl, (i, .slice va3 vn3 vc3), by simp, rfl, ⟨M3, own3, t3, hM3, ho3, ⟨hi1, hi2⟩, hz3, g3⟩, hin⟩
        · simp -dsimp [h1]
          exact ⟨rfl, (i, .slice va3 vn3 vc3), by simp, rfl, ⟨M3, own3, t3, hM3, ho3, ⟨hi1, hi2⟩, hz3, g3⟩, hin⟩
      obtain ⟨hin1, hin2⟩ := hin
      obtain ⟨bn, on, en, _, hcn⟩ := (hn.mono t23.old).int_at i hin1
      have hin2' : ((i : Int) < 40) = True := by simp; omega
      simp -dsimp [hin1, hin2', en, idxA_nat hin1, hcn]
      obtain ⟨k, ek⟩ : ∃ k, k = ns[i] := ⟨_, rfl⟩
      rw [← ek, ← en]
      have hkl4 : (keyM cl k).length = cl.length := by simp [keyM]
      refine loopc (σ := Nat × Value) (fun t => [(3, .slice a1 ns.length c1), (8, .pointer (some ⟨h.size, 0, none⟩)), (10, .pointer (some ⟨h.size + 1, 0, none⟩)), (13, .slice va3 vn3 vc3), (14, .int .i64 i), (15, .int .i64 (div5 k t.1)), (16, .pointer (some ⟨h3.size, 0, none⟩)), (17, .int .i64 t.1)])
        (fun t h4 => ∃ M own, Tr none_ M h3 h4 ∧ M h3.size ∧ (∀ b, own = some b → h3.size + 1 ≤ b) ∧ t.1 ≤ cl.length ∧ h4[h3.size]? = some (.cells #[t.2, .slice none 0 0] 57 (0, 0)) ∧ Gr rInt 3 h3.size M h4 t.2 ((keyM cl k).take t.1) own)
        (fun t => cl.length - t.1) (0, .slice none 0 0) 4 (fun t _ => t.1 = cl.length) noRet noRet_le (by simp [div5]) ⟨_, none, (Tr.start _).pushM _, .inr rfl, (fun _ h => by cases h), Nat.zero_le _, push_new _ _, .nil _ _ _ _ _⟩ (by kernel_rfl) ?_ ?_
      case refine_1 =>
        rintro ⟨d, v⟩ h4 g ⟨M4, own4, t4, hM4, ho4, hd, hr4, g4⟩
        simp only at hd hr4 g4
        have wd := wrap_succ (k := d) (by omega)
        obtain ⟨va4, vn4, vc4, ev4, hvn4⟩ := g4.vals
        subst ev4
        have hb104 := t4.at hb103 (fun h => h)
        by_cases hdl : d < cl.length
        · obtain ⟨bc, oc, ec, _, hcc⟩ := (sc3.mono t4.old).int_at d hdl
          subst ec
          have hdn : d < vn := by omega
          have hr4p : ∀ o, (h4.push o)[h3.size]? = _ := fun o => push_at hr4
          have hcd := hcb _ (List.getElem_mem hdl)
          simp -dsimp [hb104, hdn]
          refine drawn_by [⟨0, true, []⟩, ⟨1, true, []⟩, ⟨2, true, []⟩, ⟨3, true, []⟩, ⟨4, true, []⟩, ⟨5, true, []⟩, ⟨6, true, []⟩, ⟨7, true, []⟩, ⟨8, false, [0, 1]⟩, ⟨9, false, [0, 1]⟩, ⟨10, false, []⟩, ⟨11, true, []⟩, ⟨12, false, []⟩] (by kernel_rfl) (by kernel_rfl) ?_
          simp -dsimp [hb104, hr4, hcc, idxV_nat hdn, elSz_eq]
          refine call_by (within1_spec (div5 k d) cl[d] (by omega) (by omega) h4) ?_
          rintro _ h4' ⟨rfl, hh⟩
          subst h4'
          simp -dsimp [hr4, hr4p, again_cons]
          have hlk : ((keyM cl k).take d).length = d := by rw [List.length_take, hkl4]; omega
          refine gr_app1 rfl intT g4 t4.lt rfl rfl (by omega) (by omega) ?_
          intro v5 h5 own5 g5 t5 k5 ho5
          have hr5 := k5.at hr4 (fun e => by have := ho4 _ e; omega)
          have ho5' : ∀ b, own5 = some b → h3.size + 1 ≤ b := fun b e => (ho5 _ e).elim (ho4 b) (by have := lt_of_blk hr4; omega)
          obtain ⟨va5, vn5, vc5, ev5, _⟩ := g5.vals
          subst ev5
          simp -dsimp [hr5, wd]
          refine ⟨(d + 1, .slice va5 vn5 vc5), by simp [div5], rfl, ⟨_, own5, (t4.trans t5).set _ (.inl hM4), .inl hM4, ho5', by omega, set_same _ (lt_of_blk hr5), ?_⟩, by simp; omega⟩
          have : (keyM cl k).take (d + 1) = (keyM cl k).take d ++ [withinM (div5 k d) cl[d]] := by
            rw [List.take_add_one, List.getElem?_eq_getElem (by omega)]
            simp [keyM]
          rw [this]
          exact g5.set _ (.inl hM4) (fun e => by have := ho5' _ e; omega)
        · have hdn : ¬ d < vn := by omega
          simp -dsimp [hb104, hdn]
          exact ⟨rfl, (d, .slice va4 vn4 vc4), by simp, rfl, ⟨M4, own4, t4, hM4, ho4, hd, hr4, g4⟩, by show d = _; omega⟩
      rintro ⟨d, v⟩ h4 g ⟨M4, own4, t4, hM4, ho4, hd, hr4, g4⟩ hdl
      simp only at hd hr4 g4 hdl
      subst hdl
      rw [List.take_of_length_le (by omega)] at g4
      have t4' : Tr none_ (fun b => b = h3.size) h3 h4 := t4.less fun b hb => hb ▸ hM4
      have sk : SlRep rInt (Ft h3.size (fun b => b = h3.size) h4) h4 v (keyM cl k) := g4.grow.ints.mono fun b hb => ⟨⟨⟨by have := ho4 b hb; omega, fun _ => g4.grow.thaw b hb⟩, g4.own_lt b hb, by have := ho4 b hb; omega⟩, rfl⟩
      obtain ⟨va4, vc4, ev4, _, _⟩ := sk.val
      subst ev4
      simp -dsimp
      have hml : ((rowM cl mm k).m).length = mm := by simp [rowM]
      refine loopc (σ := Nat × Value) (fun t => [(3, .slice a1 ns.length c1), (8, .pointer (some ⟨h.size, 0, none⟩)), (10, .pointer (some ⟨h.size + 1, 0, none⟩)), (13, .slice va3 vn3 vc3), (14, .int .i64 i), (15, .int .i64 (div5 k cl.length)), (16, .pointer (some ⟨h3.size, 0, none⟩)), (18, .int .i64 t.1)])
        (fun t h5 => ∃ M own, Tr (fun b => b = h3.size) M h4 h5 ∧ M h3.size ∧ (∀ b, own = some b → h3.size + 1 ≤ b) ∧ t.1 ≤ mm ∧ h5[h3.size]? = some (.cells #[.slice va4 (keyM cl k).length vc4, t.2] 57 (0, 0)) ∧ Gr rInt 3 h3.size M h5 t.2 ((rowM cl mm k).m.take t.1) own)
        (fun t => mm - t.1) (0, .slice none 0 0) 6 (fun t _ => t.1 = mm) noRet noRet_le (by simp) ⟨_, none, t4'.here, rfl, (fun _ h => by cases h), Nat.zero_le _, hr4, .nil _ _ _ _ _⟩ (by kernel_rfl) ?_ ?_
      case refine_1 =>
        rintro ⟨j, v⟩ h5 g ⟨M5, own5, t5, hM5, ho5, hj, hr5, g5⟩
        simp only at hj hr5 g5
        have wj := wrap_succ (k := j) (by omega)
        obtain ⟨va5, vn5, vc5, ev5, hvn5⟩ := g5.vals
        subst ev5
        have hb105 := (t4'.trans t5).at hb103 (fun h => h)
        by_cases hjl : j < mm
        · have hr5p : ∀ o, (h5.push o)[h3.size]? = _ := fun o => push_at hr5
          simp -dsimp [hb105, hjl]
          refine drawn_by [⟨0, true, []⟩, ⟨1, true, []⟩, ⟨2, true, []⟩, ⟨3, true, []⟩, ⟨4, true, []⟩, ⟨5, true, []⟩, ⟨6, false, [0, 1]⟩, ⟨7, true, []⟩, ⟨8, false, [0, 1]⟩, ⟨9, false, []⟩, ⟨10, true, []⟩, ⟨11, false, []⟩] (by kernel_rfl) (by kernel_rfl) ?_
          simp -dsimp [hr5]
          refine call_by (within1_spec _ 201 (by omega) (by omega) h5) ?_
          rintro _ h5' ⟨rfl, hh⟩
          subst h5'
          simp -dsimp [hr5, hr5p, again_cons]
          have hlk : ((rowM cl mm k).m.take j).length = j := by rw [List.length_take, hml]; omega
          refine gr_app1 rfl intT g5 t5.lt rfl rfl (by omega) (by omega) ?_
          intro v6 h6 own6 g6 t6 k6 ho6
          have hr6 := k6.at hr5 (fun e => by have := ho5 _ e; omega)
          have ho6' : ∀ b, own6 = some b → h3.size + 1 ≤ b := fun b e => (ho6 _ e).elim (ho5 b) (by have := lt_of_blk hr5; omega)
          obtain ⟨va6, vn6, vc6, ev6, _⟩ := g6.vals
          subst ev6
          simp -dsimp [hr6, wj]
          refine ⟨(j + 1, .slice va6 vn6 vc6), by simp, rfl, ⟨_, own6, (t5.trans t6).set _ (.inl hM5), .inl hM5, ho6', by omega, set_same _ (lt_of_blk hr6), ?_⟩, by simp; omega⟩
          have : (rowM cl mm k).m.take (j + 1) = (rowM cl mm k).m.take j ++ [IntKind.i64.wrap (withinM (IntKind.i64.wrap (div5 k cl.length + IntKind.i64.wrap (7 * (j : Int)))) 201 - 100)] := by
            rw [List.take_add_one, List.getElem?_eq_getElem (by omega)]
            simp [rowM]
          rw [this]
          exact g6.set _ (.inl hM5) (fun e => by have := ho6' _ e; omega)
        · simp -dsimp [hb105, hjl]
          exact ⟨rfl, (j, .slice va5 vn5 vc5), by simp, rfl, ⟨M5, own5, t5, hM5, ho5, hj, hr5, g5⟩, by show j = _; omega⟩
      rintro ⟨j, v⟩ h5 g ⟨M5, own5, t5, hM5, ho5, hj, hr5, g5⟩ hjl
      simp only at hj hr5 g5 hjl
      subst hjl
      rw [List.take_of_length_le (by omega)] at g5
      obtain ⟨va5, vn5, vc5, ev5, hvn5⟩ := g5.vals
      subst ev5
      have t45 := t4'.trans t5
      simp -dsimp [hr5]
      have sk5 := (sk.mono (t5.ft (Nat.le_refl _))).mono (Ft.free (n' := h3.size) (Nat.le_refl _))
      have sm5 := g5.rep (n' := h3.size) (Nat.le_refl _) fun b hb => by have := ho5 b hb; omega
      have hg3 := g3.call t45.keep
      have hlr3 : ((ns.take i).map (rowM cl j)).length = i := by rw [List.length_map, List.length_take]; omega
      refine gr_app1 rfl rowT hg3 (t3.call t45.keep).lt (x := rowM cl j k) (c := [.slice va4 (keyM cl k).length vc4, .slice va5 vn5 vc5]) ?_ rfl (by omega) (by omega) ?_
      · exact ⟨_, _, rfl, sk5.mono (t3.ret t23.size), sm5.mono (t3.ret t23.size)⟩
      intro v6 h6 own6 g6 t6 k6 ho6
      obtain ⟨va6, vn6, vc6, ev6, _⟩ := g6.vals
      subst ev6
      have hz5 := t45.at hz3 (fun h => h)
      have hz6 := k6.at hz5 (fun e => by have := ho3 _ e; omega)
      simp -dsimp [wi]
      have hs3 := t45.size
      have hs23 := t23.size
      have hlz := lt_of_blk hz3
      refine ⟨(i + 1, .slice va6 vn6 vc6), by simp, rfl, ⟨_, own6, (t3.call t45.keep).trans t6, .inl hM3, fun b e => (ho6 _ e).elim (ho3 b) (by omega), ⟨by omega, by omega⟩, hz6, ?_⟩, by simp; omega⟩
      have : (ns.take (i + 1)).map (rowM cl j) = (ns.take i).map (rowM cl j) ++ [rowM cl j k] := by
        rw [List.take_add_one, List.getElem?_eq_getElem hin1, Option.toList_some, List.map_append, List.map_singleton, ek]
      rw [this]
      exact g6
end Go.Proofs

/-
  HashPlaces: the plain law; the document's place of a key.
-/
namespace Go.HC
theorem newM_len (n : Nat) : (newM n).length = n := List.length_replicate
theorem newM_get {n k : Nat} (hk : k < n) : (newM n)[k]? = some none := by
  unfold newM
  rw [List.getElem?_replicate, if_pos hk]
theorem find_new {n : Nat} (hn : 0 < n) (key : List Int) : findM (newM n) key = some (placeM key n) := by
  have hp := placeM_lt key hn
  have h0 : probe key (newM n).length 0 = placeM key n := by
    unfold probe
    rw [newM_len, Nat.add_zero, Nat.mod_eq_of_lt hp]
  have := find_hit (T := newM n) (key := key) (i := 0) (by rw [newM_len]; exact hn) (fun j hj => by omega) (by
    rw [h0]; unfold hitM; rw [newM_get hp])
  rw [h0] at this
  exact this
theorem put_new1 {n : Nat} (hn : 0 < n) (c : CellM) : putM (newM n) c = some ((newM n).set (placeM c.key n) (some c)) := by
  unfold putM
  rw [find_new hn]
  simp only
  rw [newM_get (placeM_lt c.key hn)]
theorem put_again {n : Nat} (hn : 0 < n) (c d : CellM) (hd : d.key = c.key) : putM ((newM n).set (placeM c.key n) (some c)) d = some ((newM n).set (placeM c.key n) (some (joinC c d))) := by
  have hok := (put_ok (newM_ok n) (put_new1 hn c)).1
  have hp := placeM_lt c.key hn
  have hg : ((newM n).set (placeM c.key n) (some c))[placeM c.key n]? = some (some c) := by
    rw [List.getElem?_set_self (by rw [newM_len]; exact hp)]
  have hf := find_there hok hg
  unfold putM
  rw [hd, hf]
  simp only
  rw [hg]
  simp
/-- Where the other cell comes to stand. -/
def nextP (p : Nat) (n : Nat) (key : List Int) : Nat := if placeM key n = p then (p + 1) % n else placeM key n
theorem put_other {n : Nat} (hn : 2 ≤ n) (c d : CellM) (hne : c.key ≠ d.key) {p : Nat} (hp : p < n) : putM ((newM n).set p (some c)) d = some (((newM n).set p (some c)).set (nextP p n d.key) (some d)) ∧ nextP p n d.key < n ∧ nextP p n d.key ≠ p := by
  have hl : ((newM n).set p (some c)).length = n := by rw [List.length_set, newM_len]
  have hq := placeM_lt d.key (n := n) (by omega)
  have h0 : probe d.key ((newM n).set p (some c)).length 0 = placeM d.key n := by
    unfold probe
    rw [hl, Nat.add_zero, Nat.mod_eq_of_lt hq]
  have h1 : probe d.key ((newM n).set p (some c)).length 1 = (placeM d.key n + 1) % n := by
    unfold probe
    rw [hl]
  have hget : ∀ m, m < n → ((newM n).set p (some c))[m]? = if p = m then some (some c) else some none := by
    intro m hm
    rw [List.getElem?_set]
    by_cases e : p = m
    · subst e; rw [if_pos rfl, if_pos rfl, if_pos (by rw [newM_len]; exact hp)]
    · rw [if_neg e, if_neg e, newM_get hm]
  unfold nextP
  by_cases he : placeM d.key n = p
  · rw [if_pos he]
    have hlt : (p + 1) % n < n := Nat.mod_lt _ (by omega)
    have hnp : (p + 1) % n ≠ p := by
      by_cases h : p + 1 < n
      · rw [Nat.mod_eq_of_lt h]; omega
      · have : p + 1 = n := by omega
        rw [this, Nat.mod_self]; omega
    refine ⟨?_, hlt, hnp⟩
    have hf := find_hit (T := (newM n).set p (some c)) (key := d.key) (i := 1) (by rw [hl]; omega) (fun j hj => by
      have : j = 0 := by omega
      subst this
      rw [h0, he]
      unfold hitM
      rw [hget p hp, if_pos rfl]
      exact decide_eq_false hne) (by
      rw [h1, he]
      unfold hitM
      rw [hget _ hlt, if_neg (fun e => hnp e.symm)])
    rw [h1, he] at hf
    unfold putM
    rw [hf]
    simp only
    rw [hget _ hlt, if_neg (fun e => hnp e.symm)]
  · rw [if_neg he]
    refine ⟨?_, hq, he⟩
    have hf := find_hit (T := (newM n).set p (some c)) (key := d.key) (i := 0) (by rw [hl]; omega) (fun j hj => by omega) (by
      rw [h0]
      unfold hitM
      rw [hget _ hq, if_neg (fun e => he e.symm)])
    rw [h0] at hf
    unfold putM
    rw [hf]
    simp only
    rw [hget _ hq, if_neg (fun e => he e.symm)]
theorem cells_new (n : Nat) : cellsM (newM n) = [] := by
  unfold cellsM newM
  induction n with
  | zero => rfl
  | succ n _ => rw [List.replicate_succ]; simp
theorem cells_one : ∀ {n p : Nat} {c : CellM}, p < n → cellsM ((newM n).set p (some c)) = [c]
  | 0, _, _, h => by omega
  | n + 1, 0, c, _ => by
    unfold newM cellsM
    rw [List.replicate_succ]
    simp
  | n + 1, p + 1, c, h => by
    have := cells_one (n := n) (p := p) (c := c) (by omega)
    unfold newM at this ⊢
    unfold cellsM at this ⊢
    rw [List.replicate_succ]
    simpa using this
theorem cells_two : ∀ {n p q : Nat} {c d : CellM}, p < n → q < n → q ≠ p → cellsM (((newM n).set p (some c)).set q (some d)) = if p < q then [c, d] else [d, c]
  | 0, _, _, _, _, h, _, _ => by omega
  | n + 1, 0, q + 1, c, d, _, hq, _ => by
    have := cells_one (n := n) (p := q) (c := d) (by omega)
    unfold newM at this ⊢
    unfold cellsM at this ⊢
    rw [List.replicate_succ, if_pos (by omega)]
    simpa using this
  | n + 1, p + 1, 0, c, d, hp, _, _ => by
    have := cells_one (n := n) (p := p) (c := c) (by omega)
    unfold newM at this ⊢
    unfold cellsM at this ⊢
    rw [List.replicate_succ, if_neg (by omega)]
    simpa using this
  | _ + 1, 0, 0, _, _, _, _, h => by omega
  | n + 1, p + 1, q + 1, c, d, hp, hq, h => by
    have := cells_two (n := n) (p := p) (q := q) (c := c) (d := d) (by omega) (by omega) (by omega)
    unfold newM at this ⊢
    unfold cellsM at this ⊢
    rw [List.replicate_succ]
    simp only [List.set_cons_succ, List.filterMap_cons, id]
    rw [this]
    by_cases hpq : p < q
    · rw [if_pos hpq, if_pos (by omega)]
    · rw [if_neg hpq, if_neg (by omega)]
end Go.HC

/-
  HashPlaces: the document's place of a key.
-/
namespace Go.HC
def KeyOk (key : List Int) : Prop := ∀ v ∈ key, 0 ≤ v ∧ v < 1000003
theorem hashM_nonneg {key : List Int} (hk : KeyOk key) : 0 ≤ hashM key := by
  unfold hashM
  generalize h0 : (7 : Int) = z
  have hz : 0 ≤ z := by omega
  clear h0
  induction key generalizing z with
  | nil => exact hz
  | cons v key ih =>
    refine ih (fun w hw => hk w (List.mem_cons_of_mem _ hw)) _ (Int.tmod_nonneg _ ?_)
    have := hk v (List.mem_cons_self ..)
    have h2 : 0 ≤ v.tmod 1000003 := Int.tmod_nonneg _ this.1
    omega
theorem placeM_of {key : List Int} (hk : KeyOk key) {n : Nat} (hn : 0 < n) : (hashM key).tmod n = ((placeM key n : Nat) : Int) := by
  have h0 := hashM_nonneg hk
  unfold placeM
  have h1 : 0 ≤ (hashM key).tmod n := Int.tmod_nonneg _ h0
  have h2 : (hashM key).tmod n < n := Int.tmod_lt_of_pos _ (by omega)
  have h3 : ((hashM key).tmod n + n).tmod n = (hashM key).tmod n := by
    generalize (hashM key).tmod n = x at h1 h2
    rw [Int.tmod_eq_emod_of_nonneg (by omega), Int.add_emod_right, Int.emod_eq_of_lt h1 h2]
  rw [h3, Int.toNat_of_nonneg h1]
end Go.HC
namespace Go.Proofs
open Go Go.HC

set_option maxHeartbeats 4000000 in
set_option maxRecDepth 10000 in
theorem place_spec {G : Nat → Prop} {h : Heap} {kv : Value} {key : List Int} (hk : SlRep rInt G h kv key) (hko : KeyOk key) (n : Nat) (hn : 0 < n) (hn' : n < 1000000000) :
    CallH Try.prog 32 #[kv, .int .i64 n] h fun r h' => r = .int .i64 (placeM key n) ∧ h' = h := by
  refine callH_by fun K hK => ?_
  obtain ⟨ka, kc, rfl, hkc, hkc'⟩ := hk.val
  refine enter [.tmp 4] Try.func32 rfl rfl (by kernel_rfl) rfl ?_
  have hpl := placeM_of hko hn
  have hrem : ∀ x : Int, intRes .rem .i64 x (n : Int) = some (.int .i64 (x.tmod n)) := fun x => intRes_rem _ _ _ (by omega)
  simp -dsimp
  refine loop' (σ := Nat) (fun k => [(0, .slice ka key.length kc), (1, .int .i64 n), (5, .int .i64 (hashM (key.take k))), (6, .int .i64 k)]) (fun _ => []) (fun k h' => h' = h ∧ k ≤ key.length) (fun k => key.length - k) 0 ?_ rfl ⟨rfl, Nat.zero_le _⟩ (by kernel_rfl) ?_
  · intro p hp
    simp at hp
    rcases hp with rfl | rfl | rfl | rfl <;> simp [hashM]
  · rintro k h' g ⟨hhe, hkk⟩
    subst hhe
    by_cases hkl : k < key.length
    · obtain ⟨b1, o1, v1, rfl, _, hr1, hc1⟩ := hk.get1 rfl k hkl
      have hv1 : v1 = .int .i64 key[k] := by simpa [rInt] using hr1
      subst hv1
      have hidx : ∀ (K : Value → Heap → Prop) (h : Heap), indexAddrS Try.prog 22 (.slice (some ⟨b1, o1, none⟩) key.length kc) (.int .i64 (k : Int)) h K = K (.pointer (some ⟨b1, o1 + k, none⟩)) h := by
        intro K h
        rw [indexAddrS_slice _ _ _ _ _ _ (by omega) (by omega) rfl]
        simp [elSz]
      have wk : IntKind.i64.wrap ((k : Int) + 1) = ((k + 1 : Nat) : Int) := by rw [wrap_i64 (by omega) (by omega)]; rfl
      obtain ⟨q0, q1⟩ := hashM_bound (key.take k)
      obtain ⟨p0, p1⟩ := hko key[k] (List.getElem_mem hkl)
      have hst := hashM_take hkl
      have hmd : (key[k]).tmod 1000003 = key[k] := Int.tmod_eq_of_lt p0 p1
      rw [hmd] at hst
      have w1 : IntKind.i64.wrap (31 * hashM (key.take k)) = 31 * hashM (key.take k) := wrap_i64 (by omega) (by omega)
      have w2 : IntKind.i64.wrap (31 * hashM (key.take k) + key[k]) = 31 * hashM (key.take k) + key[k] := wrap_i64 (by omega) (by omega)
      have w3 : IntKind.i64.wrap (31 * hashM (key.take k) + key[k] + 1) = 31 * hashM (key.take k) + key[k] + 1 := wrap_i64 (by omega) (by omega)
      simp -dsimp [hkl, hidx, hc1, w1, w2, w3, ← hst, wk]
      refine ⟨k + 1, ?_, rfl, ⟨rfl, by omega⟩, by show key.length - (k + 1) < key.length - k; omega⟩
      intro p hp
      simp at hp
      rcases hp with rfl | rfl | rfl | rfl <;> simp
    · have hall : key.take k = key := List.take_of_length_le (by omega)
      simp -dsimp [hkl, hall, hrem, hpl]
      exact hK _ _ ⟨rfl, rfl⟩
end Go.Proofs

/-
  Two cells as one.
-/
namespace Go.Proofs
open Go Go.HC

set_option maxHeartbeats 4000000 in
set_option maxRecDepth 10000 in
theorem both_spec {F G : Nat → Prop} {h : Heap} {av bv : Value} {xs ys : List Int} {f : FuncId} {g : Int → Int → Int} (hfn : FnOk Try.prog f)
    (hdo : ∀ (x y : Int) (h : Heap), CallH Try.prog f #[.int .i64 x, .int .i64 y] h fun r h' => r = .int .i64 (g x y) ∧ h' = h)
    (ha : SlRep rInt F h av xs) (hF : ∀ b, F b → b < h.size) (hb : SlRep rInt G h bv ys) (hG : ∀ b, G b → b < h.size) (hl : xs.length < 1000000000) :
    CallH Try.prog 49 #[av, bv, .func (.func f) #[] #[]] h fun r h' => ∃ own, Grow rInt 3 none_ h' r (List.zipWith g xs ys) own ∧ Keep none_ h h' ∧ ∀ b, own = some b → h.size ≤ b := by
  refine callH_by fun K hK => ?_
  refine enter [.tmp 6] Try.func49 rfl rfl (by kernel_rfl) rfl ?_
  obtain ⟨a0, c0, rfl, hc0, hc0'⟩ := ha.val
  obtain ⟨a1, c1, rfl, hc1, hc1'⟩ := hb.val
  have hzl : (List.zipWith g xs ys).length = min xs.length ys.length := List.length_zipWith
  simp -dsimp
  refine loop' (σ := Nat × Value) (fun t => [(1, .slice a1 ys.length c1), (2, .func (.func f) #[] #[]), (7, t.2), (10, .slice a0 xs.length c0), (11, .int .i64 xs.length), (12, .int .i64 t.1)]) (fun _ => [])
    (fun t h1 => Keep none_ h h1 ∧ t.1 ≤ xs.length ∧ ∃ own, Grow rInt 3 none_ h1 t.2 ((List.zipWith g xs ys).take t.1) own ∧ ∀ b, own = some b → h.size ≤ b) (fun t => xs.length - t.1) (0, .slice none 0 0) ?_ rfl ⟨.refl _ _, Nat.zero_le _, none, .nil _ _ _ _, fun b hb => by cases hb⟩ (by kernel_rfl) ?_
  · intro p hp
    simp at hp
    rcases hp with rfl | rfl | rfl | rfl | rfl | rfl <;> simp
  · rintro ⟨k, tv⟩ h1 gg ⟨k1, hk, own, hg, ho⟩
    simp only at hk hg
    have e1 := k1.size
    obtain ⟨ta, tc, htv⟩ := hg.val
    obtain ⟨m, hm⟩ : ∃ m, ((List.zipWith g xs ys).take k).length = m := ⟨_, rfl⟩
    rw [hm] at htv
    subst htv
    by_cases hkl : k < xs.length
    · have ha1 := ha.mono (F' := F) (h' := h1) fun b hb => ⟨hb, k1.blk b (hF b hb) (fun h => h)⟩
      obtain ⟨b1, o1, v1, rfl, _, hr1, hcc1⟩ := ha1.get1 rfl k hkl
      have hv1 : v1 = .int .i64 xs[k] := by simpa [rInt] using hr1
      subst hv1
      have hidx1 : ∀ (K : Value → Heap → Prop) (h : Heap), indexAddrS Try.prog 22 (.slice (some ⟨b1, o1, none⟩) xs.length c0) (.int .i64 (k : Int)) h K = K (.pointer (some ⟨b1, o1 + k, none⟩)) h := by
        intro K h
        rw [indexAddrS_slice _ _ _ _ _ _ (by omega) (by omega) rfl]
        simp [elSz]
      have wk : IntKind.i64.wrap ((k : Int) + 1) = ((k + 1 : Nat) : Int) := by rw [wrap_i64 (by omega) (by omega)]; rfl
      by_cases hky : k < ys.length
      · have hb1 := hb.mono (F' := G) (h' := h1) fun b hb => ⟨hb, k1.blk b (hG b hb) (fun h => h)⟩
        obtain ⟨b2, o2, v2, rfl, _, hr2, hcc2⟩ := hb1.get1 rfl k hky
        have hv2 : v2 = .int .i64 ys[k] := by simpa [rInt] using hr2
        subst hv2
        have hidx2 : ∀ (K : Value → Heap → Prop) (h : Heap), indexAddrS Try.prog 22 (.slice (some ⟨b2, o2, none⟩) ys.length c1) (.int .i64 (k : Int)) h K = K (.pointer (some ⟨b2, o2 + k, none⟩)) h := by
          intro K h
          rw [indexAddrS_slice _ _ _ _ _ _ (by omega) (by omega) rfl]
          simp [elSz]
        have htl : ((List.zipWith g xs ys).take k).length = k := by rw [List.length_take, hzl]; omega
        have hnx : (List.zipWith g xs ys).take (k + 1) = (List.zipWith g xs ys).take k ++ [g xs[k] ys[k]] := by
          rw [List.take_add_one, List.getElem?_eq_getElem (by rw [hzl]; omega), List.getElem_zipWith]
          rfl
        simp -dsimp [hkl, hidx1, hcc1, hky, hidx2, hcc2, hfn]
        refine call_by (hdo xs[k] ys[k] h1) ?_
        rintro _ h1' ⟨rfl, hh⟩
        obtain rfl := hh.symm
        simp -dsimp
        have hps : (h1.push (.cells #[.int .i64 (g xs[k] ys[k])] 3)).size = h1.size + 1 := by simp
        have hgp := hg.push (fun _ h => h.elim) (.cells #[.int .i64 (g xs[k] ys[k])] 3)
        refine append_grow (F2 := fun b => b = h1.size) (ys := [g xs[k] ys[k]]) intT hgp (fun _ (h : none_ _) => h.elim) rfl
          (.inr ⟨h1.size, 0, _, _, _, rfl, rfl, push_new _ _, rfl⟩) (.single rfl) (by rw [htl]; simp; omega) (by rw [htl]; simp; omega) ?_
        intro tv' h2 own' hg2 kk2 ho2
        rw [hps] at ho2
        have e2 := kk2.size
        rw [hps] at e2
        rw [← hnx] at hg2
        simp -dsimp [wk]
        refine ⟨(k + 1, tv'), ?_, rfl, ⟨⟨by omega, fun b hb _ => by rw [kk2.blk b (by omega) (fun e => by have := ho b e; omega), push_old _ (by omega), k1.blk b hb (fun h => h)]⟩, by show k + 1 ≤ xs.length; omega, own', hg2, fun b hb => (ho2 b hb).elim (ho b) (fun h => by omega)⟩, by show xs.length - (k + 1) < xs.length - k; omega⟩
        intro p hp
        simp at hp
        rcases hp with rfl | rfl | rfl | rfl | rfl | rfl <;> simp
      · have hnx : (List.zipWith g xs ys).take (k + 1) = (List.zipWith g xs ys).take k := by
          rw [List.take_of_length_le (by rw [hzl]; omega), List.take_of_length_le (by rw [hzl]; omega)]
        have hg' : Grow rInt 3 none_ h1 (.slice ta m tc) ((List.zipWith g xs ys).take (k + 1)) own := by rw [hnx]; exact hg
        simp -dsimp [hkl, hidx1, hcc1, hky, wk]
        refine ⟨(k + 1, .slice ta m tc), ?_, rfl, ⟨k1, by show k + 1 ≤ xs.length; omega, own, hg', ho⟩, by show xs.length - (k + 1) < xs.length - k; omega⟩
        intro p hp
        simp at hp
        rcases hp with rfl | rfl | rfl | rfl | rfl | rfl <;> simp
    · have hall : (List.zipWith g xs ys).take k = List.zipWith g xs ys := List.take_of_length_le (by rw [hzl]; omega)
      rw [hall] at hg
      simp -dsimp [hkl]
      refine call_by (cloneInt_spec hg.ints hg.own_lt (by rw [hzl]; omega)) ?_
      rintro _ h2 ⟨own2, hg2, k2, ho2⟩
      obtain ⟨a2, c2, hv2⟩ := hg2.val
      obtain ⟨m2, hm2⟩ : ∃ m, (List.zipWith g xs ys).length = m := ⟨_, rfl⟩
      rw [hm2] at hv2
      subst hv2
      simp -dsimp
      exact hK _ _ ⟨own2, hg2, k1.trans k2 (fun _ _ h => h), fun b hb => by have := ho2 b hb; omega⟩

set_option maxHeartbeats 40000000 in
set_option maxRecDepth 10000 in
theorem join_th {F G : Nat → Prop} {h : Heap} {cs ds : List Value} {a b : CellM} (ha : rCell.rep F h cs a) (hF : ∀ b, F b → b < h.size) (sa : CellSmall a) (hb : rCell.rep G h ds b) (hG : ∀ b, G b → b < h.size) :
    CallH Try.prog 37 #[.agg cs.toArray, .agg ds.toArray] h fun r h' => ∃ es E, r = .agg es.toArray ∧ rCell.rep E h' es (joinC a b) ∧ Keep none_ h h' ∧ (∀ b, E b → h.size ≤ b ∧ b < h'.size) ∧ ∀ b, E b → Thaw h' b := by
  refine callH_by fun K hK => ?_
  refine enter [.cell 4 39] Try.func37 rfl rfl (by kernel_rfl) rfl ?_
  obtain ⟨kv, sv, nv, xv, rfl, r1, r2, r3, r4⟩ := ha
  obtain ⟨ka, kc, rfl, _, _⟩ := r1.val
  obtain ⟨s1, sc, rfl, _, _⟩ := r2.val
  obtain ⟨na, nc, rfl, _, _⟩ := r3.val
  obtain ⟨xa, xc, rfl, _, _⟩ := r4.val
  obtain ⟨kv', sv', nv', xv', rfl, q1, q2, q3, q4⟩ := hb
  obtain ⟨ka', kc', rfl, _, _⟩ := q1.val
  obtain ⟨sa', sc', rfl, _, _⟩ := q2.val
  obtain ⟨na', nc', rfl, _, _⟩ := q3.val
  obtain ⟨xa', xc', rfl, _, _⟩ := q4.val
  simp -dsimp [boxS_eq]
  generalize hB : Array.push _ _ = h0
  have hz0 : h0.size = h.size + 3 := by rw [← hB]; simp
  have k0 : Keep none_ h h0 := by rw [← hB]; exact (((Keep.refl none_ h).pushed _).pushed _).pushed _
  have hp1 : ∀ o, (h.push o).size = h.size + 1 := fun o => by simp
  have hp2 : ∀ o o', ((h.push o).push o').size = h.size + 2 := fun o o' => by simp
  have hA0 : h0[h.size]? = some (.cells #[.slice ka a.key.length kc, .int .i64 a.count, .slice s1 a.sum.length sc, .slice na a.mn.length nc, .slice xa a.mx.length xc] 39 (0, 0)) := by rw [← hB]; exact push_at (push_at (push_new _ _))
  have hB0 : h0[h.size + 1]? = some (.cells #[.slice ka' b.key.length kc', .int .i64 b.count, .slice sa' b.sum.length sc', .slice na' b.mn.length nc', .slice xa' b.mx.length xc'] 39 (0, 0)) := by
    rw [← hB]; refine push_at ?_; rw [← hp1]; exact push_new _ _
  have hT0 : h0[h.size + 2]? = some (.cells #[.slice none 0 0, .int .i64 0, .slice none 0 0, .slice none 0 0, .slice none 0 0] 39 (0, 0)) := by
    rw [← hB, ← hp2]; exact push_new _ _
  have m1 : ∀ (h' : Heap), Keep none_ h h' → ∀ b, F b → F b ∧ h'[b]? = h[b]? := fun h' k b hb => ⟨hb, k.blk b (hF b hb) (fun h => h)⟩
  have m2 : ∀ (h' : Heap), Keep none_ h h' → ∀ b, G b → G b ∧ h'[b]? = h[b]? := fun h' k b hb => ⟨hb, k.blk b (hG b hb) (fun h => h)⟩
  refine drawn_by [⟨0, true, []⟩, ⟨1, true, []⟩, ⟨3, true, []⟩, ⟨4, true, []⟩, ⟨5, true, []⟩, ⟨6, true, []⟩, ⟨7, true, []⟩, ⟨8, true, []⟩, ⟨9, true, []⟩, ⟨10, true, []⟩, ⟨11, true, []⟩, ⟨13, true, []⟩, ⟨14, true, []⟩, ⟨15, true, []⟩, ⟨16, true, []⟩, ⟨18, true, []⟩, ⟨19, true, []⟩, ⟨20, true, []⟩, ⟨21, true, []⟩, ⟨2, false, [3, 4, 5, 6, 7, 8, 9, 10, 11, 13, 14, 15, 16, 18, 19, 20, 21]⟩, ⟨12, false, [3, 4, 5, 6, 7, 13, 14, 15, 16, 18, 19, 20, 21]⟩, ⟨17, false, [3, 4, 5, 6, 7, 18, 19, 20, 21]⟩, ⟨22, false, [3, 4, 5, 6, 7]⟩, ⟨23, false, []⟩, ⟨24, false, []⟩] (by kernel_rfl) (by kernel_rfl) ?_
  simp -dsimp [hA0, hB0]
  refine call_by (cloneInt_spec (r1.mono (m1 h0 k0)) (fun b hb => by have := hF b hb; omega) (by have := sa.key; omega)) ?_
  rintro _ h1 ⟨o1, g1, k1, n1⟩
  obtain ⟨a1, c1, rfl⟩ := g1.val
  have k01 := k0.trans k1 (fun _ _ h => h)
  have hA1 := k1.at hA0 (fun h => h)
  have hB1 := k1.at hB0 (fun h => h)
  have e1 := k1.size
  simp -dsimp [again_cons, hA1, hB1]
  refine call_by (both_spec (f := 50) (by simp) add_spec (r2.mono (m1 h1 k01)) (fun b hb => by have := hF b hb; omega) (q2.mono (m2 h1 k01)) (fun b hb => by have := hG b hb; omega) sa.sum) ?_
  rintro _ h2 ⟨o2, g2, k2, n2⟩
  obtain ⟨a2, c2, hv2⟩ := g2.val
  obtain ⟨l2, hl2⟩ : ∃ m, (List.zipWith (fun x y => IntKind.i64.wrap (x + y)) a.sum b.sum).length = m := ⟨_, rfl⟩
  rw [hl2] at hv2
  subst hv2
  have k02 := k01.trans k2 (fun _ _ h => h)
  have hA2 := k2.at hA1 (fun h => h)
  have hB2 := k2.at hB1 (fun h => h)
  have e2 := k2.size
  simp -dsimp [again_cons, hA2, hB2]
  refine call_by (both_spec (f := 51) (by simp) min_spec (r3.mono (m1 h2 k02)) (fun b hb => by have := hF b hb; omega) (q3.mono (m2 h2 k02)) (fun b hb => by have := hG b hb; omega) sa.mn) ?_
  rintro _ h3 ⟨o3, g3, k3, n3⟩
  obtain ⟨a3, c3, hv3⟩ := g3.val
  obtain ⟨l3, hl3⟩ : ∃ m, (List.zipWith min a.mn b.mn).length = m := ⟨_, rfl⟩
  rw [hl3] at hv3
  subst hv3
  have k03 := k02.trans k3 (fun _ _ h => h)
  have hA3 := k3.at hA2 (fun h => h)
  have hB3 := k3.at hB2 (fun h => h)
  have e3 := k3.size
  simp -dsimp [again_cons, hA3, hB3]
  refine call_by (both_spec (f := 52) (by simp) max_spec (r4.mono (m1 h3 k03)) (fun b hb => by have := hF b hb; omega) (q4.mono (m2 h3 k03)) (fun b hb => by have := hG b hb; omega) sa.mx) ?_
  rintro _ h4 ⟨o4, g4, k4, n4⟩
  obtain ⟨a4, c4, hv4⟩ := g4.val
  obtain ⟨l4, hl4⟩ : ∃ m, (List.zipWith max a.mx b.mx).length = m := ⟨_, rfl⟩
  rw [hl4] at hv4
  subst hv4
  have k04 := k03.trans k4 (fun _ _ h => h)
  have hA4 := k4.at hA3 (fun h => h)
  have hB4 := k4.at hB3 (fun h => h)
  have hT4 := k4.at (k3.at (k2.at (k1.at hT0 (fun h => h)) (fun h => h)) (fun h => h)) (fun h => h)
  have e4 := k4.size
  have hset : ∀ o, (h4.setIfInBounds (h.size + 2) o)[h.size + 2]? = some o := fun o => set_same o (by omega)
  simp -dsimp [again_cons, hA4, hB4, hT4, hset]
  generalize hH : h4.setIfInBounds (h.size + 2) _ = h5
  have hz5 : h5.size = h4.size := by rw [← hH]; simp
  have hold : ∀ b, b ≠ h.size + 2 → h5[b]? = h4[b]? := fun b hn => by rw [← hH, set_other _ (fun e => hn e.symm)]
  have p1 := g1.own_lt
  have p2 := g2.own_lt
  have p3 := g3.own_lt
  have p4 := g4.own_lt
  refine hK _ _ ⟨_, fun b => o1 = some b ∨ o2 = some b ∨ o3 = some b ∨ o4 = some b, rfl, ⟨_, _, _, _, rfl, ?_, ?_, ?_, ?_⟩, ⟨by omega, fun b hb _ => by rw [hold b (by omega), k04.blk b hb (fun h => h)]⟩, ?_, ?_⟩
  · exact g1.ints.mono fun b hb => ⟨.inl hb, by
      have := n1 b hb
      have := p1 b hb
      rw [hold b (by omega), k4.blk b (by omega) (fun h => h), k3.blk b (by omega) (fun h => h), k2.blk b (by omega) (fun h => h)]⟩
  · exact g2.ints.mono fun b hb => ⟨.inr (.inl hb), by
      have := n2 b hb
      have := p2 b hb
      rw [hold b (by omega), k4.blk b (by omega) (fun h => h), k3.blk b (by omega) (fun h => h)]⟩
  · exact g3.ints.mono fun b hb => ⟨.inr (.inr (.inl hb)), by
      have := n3 b hb
      have := p3 b hb
      rw [hold b (by omega), k4.blk b (by omega) (fun h => h)]⟩
  · exact g4.ints.mono fun b hb => ⟨.inr (.inr (.inr hb)), by
      have := n4 b hb
      rw [hold b (by omega)]⟩
  · rintro b (hb | hb | hb | hb)
    · have := n1 b hb; have := p1 b hb; omega
    · have := n2 b hb; have := p2 b hb; omega
    · have := n3 b hb; have := p3 b hb; omega
    · have := n4 b hb; have := p4 b hb; omega
  · rintro b (hb | hb | hb | hb)
    · refine (g1.thaw b hb).at ?_
      have := n1 b hb; have := p1 b hb
      rw [hold b (by omega), k4.blk b (by omega) (fun h => h), k3.blk b (by omega) (fun h => h), k2.blk b (by omega) (fun h => h)]
    · refine (g2.thaw b hb).at ?_
      have := n2 b hb; have := p2 b hb
      rw [hold b (by omega), k4.blk b (by omega) (fun h => h), k3.blk b (by omega) (fun h => h)]
    · refine (g3.thaw b hb).at ?_
      have := n3 b hb; have := p3 b hb
      rw [hold b (by omega), k4.blk b (by omega) (fun h => h)]
    · refine (g4.thaw b hb).at ?_
      have := n4 b hb
      rw [hold b (by omega)]
theorem join_spec {F G : Nat → Prop} {h : Heap} {cs ds : List Value} {a b : CellM} (ha : rCell.rep F h cs a) (hF : ∀ b, F b → b < h.size) (sa : CellSmall a) (hb : rCell.rep G h ds b) (hG : ∀ b, G b → b < h.size) :
    CallH Try.prog 37 #[.agg cs.toArray, .agg ds.toArray] h fun r h' => ∃ es E, r = .agg es.toArray ∧ rCell.rep E h' es (joinC a b) ∧ Keep none_ h h' ∧ ∀ b, E b → h.size ≤ b ∧ b < h'.size :=
  (join_th ha hF sa hb hG).mono fun _ _ ⟨ds, G, e, r, k, n, _⟩ => ⟨ds, G, e, r, k, n⟩
end Go.Proofs

/-
  A cell in memory of its own, by way of a group of one.
-/
namespace Go.Proofs
open Go Go.HC

set_option maxRecDepth 10000 in
theorem cloneCell_spec {F : Nat → Prop} {h : Heap} {v : Value} {xs : List CellM} {own : Option Nat} (hg : Grow rCell 39 F h v xs own) (hF : ∀ b, F b → b < h.size) (hn : xs.length < 1000000000) :
    CallH Try.prog 43 #[v] h fun r h' => ∃ own', Grow rCell 39 F h' r xs own' ∧ Keep none_ h h' ∧ ∀ b, own' = some b → h.size ≤ b := by
  refine enter [.tmp 2] Try.func43 rfl rfl (by kernel_rfl) rfl ?_
  have hl := hg.own_lt
  rcases hg with ⟨rfl, rfl, rfl⟩ | ⟨bk, c, arr, cs, rfl, rfl, h1, h2, h3, h4, h5, h6, h7⟩
  · simp -dsimp
    exact ⟨none, .nil _ _ _ _, .refl _ _, fun b hb => by cases hb⟩
  · obtain ⟨cs', _, hq1, hq2, hcel, hel⟩ := (Grow.cells (R := rCell) (.inr ⟨bk, c, arr, cs, rfl, rfl, h1, h2, h3, h4, h5, h6, h7⟩) : ∃ cs, _)
    simp -dsimp
    refine clone_cells (F := F) (F2 := fun b => some bk = some b) cellT hF hl rfl hcel hel (by omega) (by omega) ?_
    intro v' h' own' hg' hk ho hz
    obtain ⟨a', c', rfl⟩ := hg'.val
    simp -dsimp
    exact ⟨own', hg', hk, ho⟩

set_option maxRecDepth 10000 in
theorem searchNil_spec {h : Heap} {cs : List Value} (hl : cs.length = 5) (ho : cs.all Value.oneCell' = true) (fv : Value) :
    CallH Try.prog 66 #[.slice none 0 0, .agg cs.toArray, fv] h fun r h' => r = .tuple #[.int .i64 0, .bool false] ∧ Keep none_ h h' := by
  refine callH_by fun K hK => ?_
  obtain ⟨v0, v1, v2, v3, v4, rfl⟩ : ∃ v0 v1 v2 v3 v4, cs = [v0, v1, v2, v3, v4] := by
    match cs, hl with
    | [a, b, c, d, e], _ => exact ⟨a, b, c, d, e, rfl⟩
  simp only [List.all_cons, List.all_nil, Bool.and_true, Bool.and_eq_true] at ho
  obtain ⟨u0, u1, u2, u3, u4⟩ := ho
  refine enter [.tmp 6, .tmp 7] Try.func66 rfl rfl (by kernel_rfl) rfl ?_
  simp -dsimp [boxS_eq]
  generalize hB : h.push _ = h0
  have k0 : Keep none_ h h0 := by rw [← hB]; exact .push _ _ _
  refine loop' (σ := Unit) (fun _ => [(8, .int .i64 0), (9, .int .i64 0), (10, .int .i64 0)]) (fun _ => []) (fun _ h' => h' = h0) (fun _ => 0) () ?_ rfl rfl (by kernel_rfl) ?_
  · intro p hp
    simp at hp
    rcases hp with rfl | rfl | rfl <;> simp
  · rintro _ h' g rfl
    simp -dsimp
    refine drawn_by [⟨0, true, []⟩, ⟨1, true, []⟩, ⟨2, true, []⟩, ⟨3, true, []⟩, ⟨4, true, []⟩, ⟨5, true, []⟩, ⟨6, true, []⟩, ⟨7, true, []⟩, ⟨8, true, []⟩, ⟨9, true, []⟩, ⟨10, true, []⟩, ⟨11, false, [0]⟩, ⟨12, true, []⟩, ⟨13, true, []⟩, ⟨14, true, []⟩, ⟨15, true, []⟩] (by kernel_rfl) (by kernel_rfl) ?_
    simp -dsimp
    exact hK _ _ ⟨rfl, k0⟩

set_option maxRecDepth 10000 in
theorem insertNil_spec {F : Nat → Prop} {h : Heap} {cs : List Value} {c : CellM} {sb : Nat} (hr : rCell.rep F h cs c) (hF : ∀ b, F b → b < h.size) (hs : h[sb]? = some (.cells cs.toArray 39 (0, 0))) :
    CallH Try.prog 67 #[.slice none 0 0, .int .i64 0, .slice (some ⟨sb, 0, none⟩) 1 1] h fun r h' => ∃ own, Grow rCell 39 F h' r [c] own ∧ Keep none_ h h' ∧ ∀ b, own = some b → h.size ≤ b := by
  refine callH_by fun K hK => ?_
  refine enter [.tmp 6] Try.func67 rfl rfl (by kernel_rfl) rfl ?_
  have hsl : ∀ (K : Value → Heap → Prop) (h : Heap), sliceS Try.prog 29 (.slice none 0 0) (some (.int .i64 0)) none none h K = K (.slice none 0 0) h := fun K h =>
    sliceS_slice (P := Try.prog) (T := 29) (a := none) (n := 0) (c := 0) (lo := some (.int .i64 ((0 : Nat) : Int))) (hi := none) (mx := none) (i := 0) (j := 0) (m := 0) Try.elS29 Try.szS39 (.inl ⟨rfl, rfl⟩) (.inl ⟨rfl, rfl⟩) (.inr ⟨_, rfl⟩) (by omega) (by omega) (by omega)
  simp -dsimp [hsl]
  have hcl := rCell.len hr
  refine append_grow (F := F) (F2 := fun b => b = sb) (ys := [c]) cellT (Grow.nil _ _ _ _) hF rfl (.inr ⟨sb, 0, _, _, _, rfl, rfl, hs, by simp⟩) (.single hr) (by simp) (by simp) ?_
  intro v' h' own' hg hk ho
  obtain ⟨a', c', rfl⟩ := hg.val
  simp -dsimp
  exact hK _ _ ⟨own', hg, ⟨hk.size, fun b hb _ => hk.blk b hb (fun e => by cases e)⟩, fun b hb => (ho b hb).elim (fun e => by cases e) id⟩

set_option maxHeartbeats 4000000 in
set_option maxRecDepth 10000 in
theorem put1_spec {F : Nat → Prop} {h : Heap} {cs : List Value} {c : CellM} {ob : Nat} {fv jv : Value} (hr : rCell.rep F h cs c) (hF : ∀ b, F b → b < h.size) (hFo : ¬ F ob) (_hfv : fv.oneCell' = true) (hs : h[ob]? = some (.cells #[.slice none 0 0, fv] 85 (0, 0))) :
    CallH Try.prog 59 #[.pointer (some ⟨ob, 0, none⟩), .agg cs.toArray, jv] h fun r h' => r = .tuple #[] ∧ ∃ v own, h'[ob]? = some (.cells #[v, fv] 85 (0, 0)) ∧ Grow rCell 39 F h' v [c] own ∧ Keep (fun b => b = ob) h h' ∧ ∀ b, own = some b → h.size ≤ b := by
  refine callH_by fun K hK => ?_
  refine enter [] Try.func59 rfl rfl (by kernel_rfl) rfl ?_
  have hlen := rCell.len hr
  have hone := rCell.one hr
  obtain ⟨v0, v1, v2, v3, v4, rfl⟩ : ∃ v0 v1 v2 v3 v4, cs = [v0, v1, v2, v3, v4] := by
    match cs, hlen with
    | [a, b, c, d, e], _ => exact ⟨a, b, c, d, e, rfl⟩
  have hone' := hone
  simp only [List.all_cons, List.all_nil, Bool.and_true, Bool.and_eq_true] at hone'
  obtain ⟨u0, u1, u2, u3, u4⟩ := hone'
  have hob := lt_of_blk hs
  simp -dsimp [boxS_eq]
  generalize hB : h.push _ = h0
  have k0 : Keep none_ h h0 := by rw [← hB]; exact .push _ _ _
  have hz0 : h0.size = h.size + 1 := by rw [← hB]; simp
  have hc0 : h0[h.size]? = some (.cells #[v0, v1, v2, v3, v4] 39 (0, 0)) := by rw [← hB]; exact push_new _ _
  have hs0 := k0.at hs (fun h => h)
  refine drawn_by [⟨0, true, []⟩, ⟨1, true, []⟩, ⟨2, true, []⟩, ⟨3, true, []⟩, ⟨4, true, []⟩, ⟨5, true, []⟩, ⟨6, true, []⟩, ⟨7, true, []⟩, ⟨8, true, []⟩, ⟨9, false, []⟩, ⟨10, true, []⟩, ⟨11, true, []⟩, ⟨12, true, []⟩, ⟨13, true, []⟩, ⟨14, true, []⟩] (by kernel_rfl) (by kernel_rfl) ?_
  simp -dsimp [hs0, hc0]
  refine call_by (searchNil_spec hlen hone fv) ?_
  rintro _ h1 ⟨rfl, k1⟩
  have k01 := k0.trans k1 (fun _ _ h => h)
  have hs1 := k1.at hs0 (fun h => h)
  have hc1 := k1.at hc0 (fun h => h)
  have e1 := k1.size
  simp -dsimp
  refine drawn_by [⟨0, true, []⟩, ⟨1, true, []⟩, ⟨2, true, []⟩, ⟨3, true, []⟩, ⟨4, true, []⟩, ⟨5, true, []⟩, ⟨6, true, []⟩, ⟨7, false, [0, 1, 2, 3, 4, 5]⟩, ⟨8, false, [0]⟩, ⟨9, true, []⟩, ⟨10, true, []⟩, ⟨11, false, []⟩] (by kernel_rfl) (by kernel_rfl) ?_
  have hs1' := push_at (o := .cells #[v0, v1, v2, v3, v4] 39) hs1
  simp -dsimp [again_cons, hs1, hc1, hs1']
  generalize hB2 : h1.push _ = h2
  have k2 : Keep none_ h1 h2 := by rw [← hB2]; exact .push _ _ _
  have hz2 : h2.size = h1.size + 1 := by rw [← hB2]; simp
  have hc2 : h2[h1.size]? = some (.cells #[v0, v1, v2, v3, v4] 39 (0, 0)) := by rw [← hB2]; exact push_new _ _
  have k02 := k01.trans k2 (fun _ _ h => h)
  have hs2 := k2.at hs1 (fun h => h)
  have hr2 := rCell.mono hr fun b hb => (⟨hb, k02.blk b (hF b hb) (fun h => h)⟩ : F b ∧ h2[b]? = h[b]?)
  refine call_by (insertNil_spec hr2 (fun b hb => by have := hF b hb; omega) hc2) ?_
  rintro _ h3 ⟨own3, hg3, k3, ho3⟩
  obtain ⟨a3, c3, rfl⟩ := hg3.val
  have hs3 := k3.at hs2 (fun h => h)
  have e3 := k3.size
  simp -dsimp [again_cons, hs3]
  generalize hH : h3.setIfInBounds ob _ = h4
  have hz4 : h4.size = h3.size := by rw [← hH]; simp
  have k03 := k02.trans k3 (fun _ _ h => h)
  have hob3 : own3 ≠ some ob := fun e => by have := ho3 ob e; omega
  refine hK _ _ ⟨rfl, _, own3, by rw [← hH]; exact set_same _ (lt_of_blk hs3), hg3.mono (fun b hb => ⟨hb, by rw [← hH]; exact set_other _ (fun e => hFo (e ▸ hb))⟩) fun b hb => ⟨fun hFb => by have := hF b hFb; have := ho3 b hb; omega, by rw [← hH]; exact set_other _ (fun e => hob3 (e ▸ hb))⟩,
      ⟨by omega, fun b hb hn => by rw [← hH, set_other _ (fun e => hn e.symm), k03.blk b hb (fun h => h)]⟩, fun b hb => by have := ho3 b hb; omega⟩

set_option maxHeartbeats 4000000 in
set_option maxRecDepth 10000 in
theorem group1_th {F : Nat → Prop} {h : Heap} {cs : List Value} {c : CellM} {sb : Nat} (hr : rCell.rep F h cs c) (hF : ∀ b, F b → b < h.size) (hc : CellSmall c) (hs : h[sb]? = some (.cells cs.toArray 39 (0, 0))) :
    CallH Try.prog 53 #[.slice (some ⟨sb, 0, none⟩) 1 1] h fun r h' => ∃ E own, Grow rCell 39 E h' r [c] own ∧ Keep none_ h h' ∧ (∀ b, E b → h.size ≤ b ∧ b < h'.size ∧ Thaw h' b) ∧ ∀ b, own = some b → h.size ≤ b := by
  refine callH_by fun K hK => ?_
  refine enter [.tmp 2] Try.func53 rfl rfl (by kernel_rfl) rfl ?_
  have hlen := rCell.len hr
  have hone := rCell.one hr
  obtain ⟨v0, v1, v2, v3, v4, rfl⟩ : ∃ v0 v1 v2 v3 v4, cs = [v0, v1, v2, v3, v4] := by
    match cs, hlen with
    | [a, b, c, d, e], _ => exact ⟨a, b, c, d, e, rfl⟩
  simp only [List.all_cons, List.all_nil, Bool.and_true, Bool.and_eq_true] at hone
  obtain ⟨u0, u1, u2, u3, u4⟩ := hone
  have hsb := lt_of_blk hs
  simp -dsimp
  generalize hB : Array.setIfInBounds _ h.size _ = h0
  have k0 : Keep none_ h h0 := by rw [← hB]; exact ((Keep.refl none_ h).pushed _).setted _ (fun hh => absurd hh (by omega))
  have hz0 : h0.size = h.size + 1 := by rw [← hB]; simp
  have ho0 : h0[h.size]? = some (.cells #[.slice none 0 0, .func (.func 57) #[] #[]] 85 (0, 0)) := by rw [← hB]; exact set_same _ (by simp)
  have hs0 := k0.at hs (fun h => h)
  have hidx : ∀ (K : Value → Heap → Prop) (h : Heap), indexAddrS Try.prog 29 (.slice (some ⟨sb, 0, none⟩) 1 1) (.int .i64 0) h K = K (.pointer (some ⟨sb, 0, none⟩)) h := by
    intro K h
    rw [indexAddrS_slice (i := 0) _ _ _ _ _ (by omega) (by omega) rfl]
    simp [elSz]
  refine loop' (σ := Bool) (fun t => [(3, .pointer (some ⟨h.size, 0, none⟩)), (7, .slice (some ⟨sb, 0, none⟩) 1 1), (8, .int .i64 1), (9, .int .i64 (if t = true then 1 else 0))]) (fun _ => [])
    (fun t h1 => (t = false ∧ h1 = h0) ∨ (t = true ∧ Keep none_ h h1 ∧ ∃ E v own, h1[h.size]? = some (.cells #[v, .func (.func 57) #[] #[]] 85 (0, 0)) ∧ Grow rCell 39 E h1 v [c] own ∧ (∀ b, E b → h.size ≤ b ∧ b < h1.size ∧ Thaw h1 b) ∧ ∀ b, own = some b → h.size ≤ b))
    (fun t => if t = true then 0 else 1) false ?_ rfl (.inl ⟨rfl, rfl⟩) (by kernel_rfl) ?_
  · intro p hp
    simp at hp
    rcases hp with rfl | rfl | rfl | rfl <;> simp
  · rintro t h1 g (⟨rfl, rfl⟩ | ⟨rfl, k1, E, v, own, ho1, hg, hE, ho⟩)
    · simp -dsimp [hidx, hs0, u0, u1, u2, u3, u4]
      generalize hB2 : Array.setIfInBounds _ h1.size _ = h2
      have k2 : Keep none_ h1 h2 := by rw [← hB2]; exact ((Keep.refl none_ h1).pushed _).setted _ (fun hh => absurd hh (by omega))
      have hz2 : h2.size = h1.size + 1 := by rw [← hB2]; simp
      have hc2 : h2[h1.size]? = some (.cells #[v0, v1, v2, v3, v4] 39 (0, 0)) := by rw [← hB2]; exact set_same _ (by simp)
      have k02 := k0.trans k2 (fun _ _ h => h)
      have hr2 := rCell.mono hr fun b hb => (⟨hb, k02.blk b (hF b hb) (fun h => h)⟩ : F b ∧ h2[b]? = h[b]?)
      have ho2 := k2.at ho0 (fun h => h)
      refine call_by (cellOwn_th hr2 (fun b hb => by have := hF b hb; omega) hc) ?_
      rintro _ h3 ⟨ds, E, rfl, hr3, k3, hE, hT⟩
      have ho3 := k3.at ho2 (fun h => h)
      have e3 := k3.size
      simp -dsimp
      refine call_by (put1_spec hr3 (fun b hb => (hE b hb).2) (fun hb => by have := (hE _ hb).1; omega) rfl ho3) ?_
      rintro _ h4 ⟨rfl, v, own, ho4, hg4, k4, ho⟩
      have e4 := k4.size
      have k03 := k02.trans k3 (fun _ _ h => h)
      simp -dsimp
      refine ⟨true, ?_, rfl, .inr ⟨rfl, ⟨by omega, fun b hb _ => by rw [k4.blk b (by omega) (by omega), k03.blk b hb (fun h => h)]⟩, E, v, ho4, own, hg4, fun b hb => by have := hE b hb; exact ⟨by omega, by omega, (hT b hb).at (k4.blk b (by omega) (by omega))⟩, fun b hb => by have := ho b hb; omega⟩, by simp⟩
      intro p hp
      simp at hp
      rcases hp with rfl | rfl | rfl | rfl <;> simp
    · obtain ⟨a, cc, rfl⟩ := hg.val
      simp -dsimp [ho1]
      refine call_by (cloneCell_spec hg (fun b hb => (hE b hb).2.1) (by simp)) ?_
      rintro _ h2 ⟨own2, hg2, k2, ho2⟩
      obtain ⟨a2, c2, rfl⟩ := hg2.val
      have e1 := k1.size
      have e2 := k2.size
      simp -dsimp
      exact hK _ _ ⟨E, own2, hg2, k1.trans k2 (fun _ _ h => h), fun b hb => by have := hE b hb; exact ⟨this.1, by omega, this.2.2.at (k2.blk b this.2.1 (fun h => h))⟩, fun b hb => by have := ho2 b hb; omega⟩

set_option maxHeartbeats 4000000 in
set_option maxRecDepth 10000 in
theorem hashOwn_th {F : Nat → Prop} {h : Heap} {cs : List Value} {c : CellM} (hr : rCell.rep F h cs c) (hF : ∀ b, F b → b < h.size) (hc : CellSmall c) :
    CallH Try.prog 38 #[.agg cs.toArray] h fun r h' => ∃ ds G, r = .agg ds.toArray ∧ rCell.rep G h' ds c ∧ Keep none_ h h' ∧ ∀ b, G b → h.size ≤ b ∧ b < h'.size ∧ Thaw h' b := by
  refine callH_by fun K hK => ?_
  refine enter [.cell 2 39] Try.func38 rfl rfl (by kernel_rfl) rfl ?_
  have hlen := rCell.len hr
  have hone := rCell.one hr
  obtain ⟨v0, v1, v2, v3, v4, rfl⟩ : ∃ v0 v1 v2 v3 v4, cs = [v0, v1, v2, v3, v4] := by
    match cs, hlen with
    | [a, b, c, d, e], _ => exact ⟨a, b, c, d, e, rfl⟩
  simp only [List.all_cons, List.all_nil, Bool.and_true, Bool.and_eq_true] at hone
  obtain ⟨u0, u1, u2, u3, u4⟩ := hone
  simp -dsimp [boxS_eq]
  generalize hB : (h.push _).push _ = h0
  have k0 : Keep none_ h h0 := by rw [← hB]; exact ((Keep.refl none_ h).pushed _).pushed _
  have hz0 : h0.size = h.size + 2 := by rw [← hB]; simp
  have hc0 : h0[h.size]? = some (.cells #[v0, v1, v2, v3, v4] 39 (0, 0)) := by rw [← hB]; exact push_at (push_new _ _)
  have ht0 : h0[h.size + 1]? = some (.cells #[.slice none 0 0, .int .i64 0, .slice none 0 0, .slice none 0 0, .slice none 0 0] 39 (0, 0)) := by
    rw [← hB]
    have : (h.push (.cells #[v0, v1, v2, v3, v4] 39)).size = h.size + 1 := by simp
    rw [← this]; exact push_new _ _
  simp -dsimp [hc0]
  generalize hB2 : h0.push _ = h1
  have k1 : Keep none_ h0 h1 := by rw [← hB2]; exact .push _ _ _
  have hz1 : h1.size = h0.size + 1 := by rw [← hB2]; simp
  have hc1 : h1[h0.size]? = some (.cells #[v0, v1, v2, v3, v4] 39 (0, 0)) := by rw [← hB2]; exact push_new _ _
  have k01 := k0.trans k1 (fun _ _ h => h)
  have ht1 := k1.at ht0 (fun h => h)
  have hr1 := rCell.mono hr fun b hb => (⟨hb, k01.blk b (hF b hb) (fun h => h)⟩ : F b ∧ h1[b]? = h[b]?)
  refine call_by (group1_th hr1 (fun b hb => by have := hF b hb; omega) hc hc1) ?_
  rintro _ h2 ⟨E, own, hg, k2, hE, ho⟩
  obtain ⟨a2, c2, rfl⟩ := hg.val
  obtain ⟨bk, es, rfl, hown, hrr, hce⟩ := hg.elem 0 (by simp)
  have hrr' : rCell.rep E h2 es c := hrr
  have ht2 := k2.at ht1 (fun h => h)
  have e2 := k2.size
  have hlen2 := rCell.len hrr'
  have hone2 := rCell.one hrr'
  obtain ⟨w0, w1, w2, w3, w4, rfl⟩ : ∃ w0 w1 w2 w3 w4, es = [w0, w1, w2, w3, w4] := by
    match es, hlen2 with
    | [a, b, c, d, e], _ => exact ⟨a, b, c, d, e, rfl⟩
  simp only [List.all_cons, List.all_nil, Bool.and_true, Bool.and_eq_true] at hone2
  obtain ⟨z0, z1, z2, z3, z4⟩ := hone2
  have hce' : HC.cellsIn h2[bk]? 0 5 = some [w0, w1, w2, w3, w4] := hce
  have hidx : ∀ (K : Value → Heap → Prop) (h : Heap), indexAddrS Try.prog 29 (.slice (some ⟨bk, 0, none⟩) 1 c2) (.int .i64 0) h K = K (.pointer (some ⟨bk, 0, none⟩)) h := by
    intro K h
    rw [indexAddrS_slice (i := 0) _ _ _ _ _ (by omega) (by omega) rfl]
    simp [elSz]
  have hset : ∀ o, (h2.setIfInBounds (h.size + 1) o)[h.size + 1]? = some o := fun o => set_same o (by omega)
  simp -dsimp [hidx, hce', ht2, hset, z0, z1, z2, z3, z4]
  generalize hH : h2.setIfInBounds (h.size + 1) _ = h3
  have hz3 : h3.size = h2.size := by rw [← hH]; simp
  have hold : ∀ b, b ≠ h.size + 1 → h3[b]? = h2[b]? := fun b hn => by rw [← hH, set_other _ (fun e => hn e.symm)]
  refine hK _ _ ⟨[w0, w1, w2, w3, w4], E, rfl, rCell.mono hrr' fun b hb => ⟨hb, hold b (by have := hE b hb; omega)⟩, ⟨by omega, fun b hb _ => by rw [hold b (by omega), k2.blk b (by omega) (fun h => h), k01.blk b hb (fun h => h)]⟩, fun b hb => by have := hE b hb; exact ⟨by omega, by omega, this.2.2.at (hold b (by omega))⟩⟩
theorem hashOwn_spec {F : Nat → Prop} {h : Heap} {cs : List Value} {c : CellM} (hr : rCell.rep F h cs c) (hF : ∀ b, F b → b < h.size) (hc : CellSmall c) :
    CallH Try.prog 38 #[.agg cs.toArray] h fun r h' => ∃ ds G, r = .agg ds.toArray ∧ rCell.rep G h' ds c ∧ Keep none_ h h' ∧ ∀ b, G b → h.size ≤ b ∧ b < h'.size :=
  (hashOwn_th hr hF hc).mono fun _ _ ⟨ds, G, e, r, k, n⟩ => ⟨ds, G, e, r, k, fun b hb => ⟨(n b hb).1, (n b hb).2.1⟩⟩
end Go.Proofs

/-
  The program's table: made; a cell is put.
-/
namespace Go.HC
theorem zeros_succ (z : Value) (n : Nat) (_hs : 0 < z.cells.size) : (zeros z (n + 1)).toList = z.cells.toList ++ (zeros z n).toList := by
  unfold zeros
  simp only [Array.toList_map, Array.toList_range]
  rw [Nat.succ_mul, Nat.add_comm, List.range_add, List.map_append, List.map_map]
  congr 1
  · apply List.ext_getElem
    · simp
    · intro i h1 h2
      have h3 : i < z.cells.size := by simpa using h2
      simp [Nat.mod_eq_of_lt h3, h3]
  · apply List.map_congr_left
    intro i _
    simp
theorem zeros_elems {α : Type} {R : Rp α} {F : Nat → Prop} {h : Heap} {z : Value} {x : α} (hr : R.rep F h z.cells.toList x) : ∀ (n : Nat), Elems R F h (zeros z n).toList (List.replicate n x)
  | 0 => by simp [zeros, Elems]
  | n + 1 => by
    have hl := R.len hr
    have hp := R.pos
    rw [zeros_succ z n (by simp at hl; omega), List.replicate_succ]
    exact ⟨_, _, rfl, hr, zeros_elems hr n⟩
/-- No row of a stored cell is too long. -/
def TabSmall (T : Tab) : Prop := ∀ (k : Nat) (c : CellM), T[k]? = some (some c) → CellSmall c
theorem joinC_small {a b : CellM} (h : CellSmall a) : CellSmall (joinC a b) :=
  ⟨h.key, by have := h.sum; simp [joinC]; omega, by have := h.mn; simp [joinC]; omega, by have := h.mx; simp [joinC]; omega⟩
theorem put_small {T T' : Tab} {c : CellM} (h : TabSmall T) (hc : CellSmall c) (hp : putM T c = some T') : TabSmall T' := by
  unfold putM at hp
  split at hp
  · cases hp
  · rename_i k hf
    simp only [Option.some.injEq] at hp
    subst hp
    intro m d hd
    rw [List.getElem?_set] at hd
    split at hd
    · split at hd
      · simp only [Option.some.injEq] at hd
        split at hd
        · rename_i e he
          cases hd
          exact joinC_small (h _ _ he)
        · cases hd; exact hc
      · cases hd
    · exact h m d hd
end Go.HC
namespace Go.Proofs
open Go Go.HC

set_option maxRecDepth 10000 in
theorem hnew_spec (n : Nat) (hn : n < 1000000000) (h : Heap) : CallH Try.prog 16 #[.int .i64 n] h fun r h' => ∃ F, TabAt r F h' (newM n) ∧ Keep none_ h h' ∧ ∀ b, F b → h.size ≤ b := by
  refine callH_by fun K hK => ?_
  refine enter [.tmp 2] Try.func16 rfl rfl (by kernel_rfl) rfl ?_
  have hmx : max (n : Int) 0 = n := by omega
  have hms : ∀ (K : Value → Heap → Prop) (h : Heap), makeSliceS Try.prog 60 (.int .i64 (n : Int)) (.int .i64 (n : Int)) h K = K (.slice (some ⟨h.size, 0, none⟩) n n) (h.push (.cells (zeros (.agg #[.slice none 0 0, .int .i64 0, .slice none 0 0, .slice none 0 0, .slice none 0 0, .bool false]) n) 68)) := by
    intro K h
    have := make_slice (P := Try.prog) (K := K) (h := h) (k := .i64) (k' := .i64) (n := (n : Int)) Try.elS60 Try.szS68 Try.byS68 Try.zS68 rfl (by omega) (by omega) (by omega)
    simpa using this
  simp -dsimp [hmx, hms, boxS_eq]
  generalize hH : (h.push _).push _ = h2
  have hp1 : ∀ o, (h.push o).size = h.size + 1 := fun o => by simp
  have hz : h2.size = h.size + 2 := by rw [← hH]; simp
  have hk : Keep none_ h h2 := by rw [← hH]; exact ((Keep.refl none_ h).pushed _).pushed _
  have hb1 : h2[h.size]? = some (.cells (zeros (.agg #[.slice none 0 0, .int .i64 0, .slice none 0 0, .slice none 0 0, .slice none 0 0, .bool false]) n) 68 (0, 0)) := by rw [← hH]; exact push_at (push_new _ _)
  have hb2 : h2[h.size + 1]? = some (.cells #[.slice (some ⟨h.size, 0, none⟩) n n, .int .i64 0] 62 (0, 0)) := by rw [← hH, ← hp1]; exact push_new _ _
  have hel : Elems rSlot none_ h2 (zeros (.agg #[.slice none 0 0, .int .i64 0, .slice none 0 0, .slice none 0 0, .slice none 0 0, .bool false]) n).toList (newM n) := zeros_elems (R := rSlot) (x := none) (show (Value.agg #[.slice none 0 0, .int .i64 0, .slice none 0 0, .slice none 0 0, .slice none 0 0, .bool false]).cells.toList = [.slice none 0 0, .int .i64 0, .slice none 0 0, .slice none 0 0, .slice none 0 0, .bool false] from rfl) n
  have hlen : (newM n).length = n := List.length_replicate
  refine hK _ _ ⟨tfoot (h.size + 1) (some h.size) none_, ⟨h.size + 1, .slice (some ⟨h.size, 0, none⟩) n n, some h.size, none_, rfl, rfl, ?_, ?_, fun b hb => hb.elim, by simp, newM_ok n⟩, hk, ?_⟩
  · rw [newM_taken]; exact hb2
  · refine .inr ⟨h.size, n, _, _, by rw [hlen], rfl, hb1, fun h => h, ?_, by rw [hlen]; exact Nat.le_refl _, by omega, rfl, ?_⟩
    · have := hel.len
      rw [hlen] at this
      simpa using this
    · have hl := hel.len
      rw [List.take_of_length_le (by rw [hl]; exact Nat.le_refl _)]
      exact hel
  · rintro b (rfl | hb | hb)
    · omega
    · cases hb; omega
    · exact hb.elim

theorem TabC.widen {h : Heap} {T : Tab} {bs : Nat} {sv : Value} {os : Option Nat} {R : Nat → Prop} (s : TabC h T bs sv os R) {G : Nat → Prop} (hG : ∀ b, G b → b < h.size ∧ b ≠ bs ∧ os ≠ some b) : TabC h T bs sv os (fun b => R b ∨ G b) where
  str := s.str
  slots := s.slots.mono (fun _ hb => ⟨.inl hb, rfl⟩) fun b hb => ⟨fun hR => hR.elim (fun h => (s.sep b h).2.2 hb) (fun h => (hG b h).2.2 hb), rfl⟩
  sep := fun _ hb => hb.elim (s.sep _) (hG _)
  o1 := s.o1
  ok := s.ok
theorem tfoot_sub {bs n : Nat} {os : Option Nat} {R R' : Nat → Prop} (h3 : ∀ b, R' b → R b ∨ n ≤ b) : ∀ b, tfoot bs os R' b → tfoot bs os R b ∨ n ≤ b := by
  rintro b (rfl | h | h)
  · exact .inl (.inl rfl)
  · exact .inl (.inr (.inl h))
  · exact (h3 b h).imp (fun h => .inr (.inr h)) id

set_option maxHeartbeats 40000000 in
set_option maxRecDepth 10000 in
theorem hput_spec {v : Value} {F G : Nat → Prop} {h : Heap} {T : Tab} (s : TabAt v F h T) (hT : T.length < 1000000000) (hsm : TabSmall T) {cs : List Value} {c : CellM} (hr : rCell.rep G h cs c) (hG : ∀ b, G b → b < h.size) (hc : CellSmall c) :
    CallH Try.prog 18 #[v, .agg cs.toArray] h fun r h' => r = .bool (putM T c).isSome ∧ ∃ F', TabAt v F' h' ((putM T c).getD T) ∧ Keep F h h' ∧ ∀ b, F' b → F b ∨ h.size ≤ b := by
  refine callH_by fun K hK => ?_
  obtain ⟨bs, sv, os, R, rfl, rfl, s⟩ := s
  refine enter [.tmp 4] Try.func18 rfl rfl (by kernel_rfl) rfl ?_
  have hr0 := hr
  obtain ⟨kv, sv1, nv, xv, rfl, r1, r2, r3, r4⟩ := hr
  obtain ⟨ka, kc, rfl, _, _⟩ := r1.val
  obtain ⟨sa, sc, rfl, _, _⟩ := r2.val
  obtain ⟨na, nc, rfl, _, _⟩ := r3.val
  obtain ⟨xa, xc, rfl, _, _⟩ := r4.val
  have hRl : ∀ b, R b → b < h.size := fun b hb => (s.sep b hb).1
  have hol := s.slots.own_lt
  have hbs := lt_of_blk s.str
  simp -dsimp [boxS_eq]
  generalize hB : h.push _ = h0
  have k0 : Keep none_ h h0 := by rw [← hB]; exact .push _ _ _
  have hz0 : h0.size = h.size + 1 := by rw [← hB]; simp
  have hc0 : h0[h.size]? = some (.cells #[.slice ka c.key.length kc, .int .i64 c.count, .slice sa c.sum.length sc, .slice na c.mn.length nc, .slice xa c.mx.length xc] 39 (0, 0)) := by rw [← hB]; exact push_new _ _
  have s0 := s.mono (h' := h0) (by omega) fun b hb => k0.blk b (s.lt b hb) (fun h => h)
  have q1 : SlRep rInt G h0 (.slice ka c.key.length kc) c.key := r1.mono fun b hb => ⟨hb, k0.blk b (hG b hb) (fun h => h)⟩
  refine call_by (find_spec s0.at hT q1 (fun b hb => by have := hG b hb; omega)) ?_
  rintro _ h1 ⟨rfl, k1⟩
  have k01 := k0.trans k1 (fun _ _ h => h)
  have e1 := k1.size
  have s1 := s0.mono (h' := h1) e1 fun b hb => k1.blk b (s0.lt b hb) (fun h => h)
  have hs1 := s1.str
  have hc1 := k1.at hc0 (fun h => h)
  cases hf : findM T c.key with
  | none =>
    have hp : putM T c = none := by unfold putM; rw [hf]
    rw [hp] at hK
    simp -dsimp
    exact hK _ _ ⟨rfl, _, s1.at, k01.none, fun b hb => .inl hb⟩
  | some k =>
    obtain ⟨hk, hor, _⟩ := find_spec_some hf
    have hneg : ¬ ((k : Int) < 0) := by omega
    obtain ⟨ta, tc, rfl⟩ := s.slots.val
    obtain ⟨bk, es, rfl, rfl, hrs, hce⟩ := s1.slots.elem k hk
    obtain ⟨w0, wn, w2, w3, w4, rfl, hkey, u0, u2, u3, u4⟩ := slot_cells hrs
    have hce' : HC.cellsIn h1[bk]? (k * 6) 6 = some [w0, .int .i64 wn, w2, w3, w4, .bool T[k].isSome] := hce
    have hidx : ∀ (K : Value → Heap → Prop) (h : Heap), indexAddrS Try.prog 60 (.slice (some ⟨bk, 0, none⟩) T.length tc) (.int .i64 (k : Int)) h K = K (.pointer (some ⟨bk, k * 6, none⟩)) h := by
      intro K h
      rw [indexAddrS_slice _ _ _ _ _ _ (by omega) (by omega) rfl]
      simp [elSz]
    have hidv : ∀ sz ar kk, idxV sz ar (.slice (some ⟨bk, 0, none⟩) T.length tc) (.int kk (k : Int)) = sz.map fun s => .pointer (some ⟨bk, k * s, none⟩) := by
      intro sz ar kk
      rw [idxV_slice (by omega) (by omega) rfl]
      simp
    simp -dsimp [hneg, hs1, hidx, hce', u0, u2, u3, u4]
    generalize hB2 : Array.setIfInBounds _ h1.size _ = h2
    have k2 : Keep none_ h1 h2 := by rw [← hB2]; exact ((Keep.refl none_ h1).pushed _).setted _ (fun hh => absurd hh (by omega))
    have hz2 : h2.size = h1.size + 1 := by rw [← hB2]; simp
    have hfb : h2[h1.size]? = some (.cells #[w0, .int .i64 wn, w2, w3, w4, .bool T[k].isSome] 68 (0, 0)) := by rw [← hB2]; exact set_same _ (by simp)
    have k02 := k01.trans k2 (fun _ _ h => h)
    have s2 := s1.mono (h' := h2) (by omega) fun b hb => k2.blk b (s1.lt b hb) (fun h => h)
    have hs2 := s2.str
    have hc2 := k2.at hc1 (fun h => h)
    have hsat : T[k]? = some T[k] := List.getElem?_eq_getElem hk
    have hr2 : rCell.rep G h2 [.slice ka c.key.length kc, .int .i64 c.count, .slice sa c.sum.length sc, .slice na c.mn.length nc, .slice xa c.mx.length xc] c := rCell.mono hr0 fun b hb => ⟨hb, k02.blk b (hG b hb) (fun h => h)⟩
    cases hta : T[k] with
    | some d =>
      have hp : putM T c = some (T.set k (some (joinC d c))) := by unfold putM; rw [hf]; simp only; rw [hsat, hta]
      rw [hta] at hfb hrs
      obtain ⟨hok', htk, _⟩ := put_ok s.ok hp
      have htk' : takenM (T.set k (some (joinC d c))) = takenM T := taken_set_old (by rw [hsat, hta])
      rw [hp] at hK
      obtain ⟨ds0, hd1, hd2⟩ := hrs
      have hdl := rCell.len hd1
      obtain rfl : ds0 = [w0, .int .i64 wn, w2, w3, w4] := by
        match ds0, hdl with
        | [a, b, c, d, e], _ =>
          simp at hd2
          obtain ⟨rfl, rfl, rfl, rfl, rfl⟩ := hd2
          rfl
      have hd2' : rCell.rep R h2 [w0, .int .i64 wn, w2, w3, w4] d := rCell.mono hd1 fun b hb => ⟨hb, k2.blk b (by have := hRl b hb; omega) (fun h => h)⟩
      have hds : CellSmall d := hsm k d (by rw [hsat, hta])
      simp -dsimp
      refine drawn_by [⟨0, true, []⟩, ⟨1, true, []⟩, ⟨2, true, []⟩, ⟨3, true, []⟩, ⟨4, true, []⟩, ⟨5, true, []⟩, ⟨6, true, []⟩, ⟨7, true, []⟩, ⟨8, false, [0, 1, 2, 3, 4]⟩, ⟨9, true, []⟩, ⟨10, true, []⟩, ⟨11, false, []⟩] (by kernel_rfl) (by kernel_rfl) ?_
      simp -dsimp [hs2, hc2, hfb]
      refine call_by (join_spec hd2' (fun b hb => by have := hRl b hb; omega) hds hr2 (fun b hb => by have := hG b hb; omega)) ?_
      rintro _ h3 ⟨ds, E, rfl, hr3, k3, hE⟩
      have e3 := k3.size
      have s3 := s2.mono (h' := h3) e3 fun b hb => k3.blk b (s2.lt b hb) (fun h => h)
      have hs3 := s3.str
      have l2 : ∀ b, tfoot bs (some bk) R b → b < h.size := fun b hb => s.lt b hb
      have s3w := s3.widen (G := E) fun b hb => ⟨(hE b hb).2, fun e => by have := (hE b hb).1; omega, fun e => by have := (hE b hb).1; have := l2 b (.inr (.inl e)); omega⟩
      have hlen3 := rCell.len hr3
      have hone3 := rCell.one hr3
      have hr3' : rCell.rep (fun b => R b ∨ E b) h3 ds (joinC d c) := rCell.mono hr3 fun b hb => ⟨.inr hb, rfl⟩
      obtain ⟨z0, z1, z2, z3, z4, rfl⟩ : ∃ z0 z1 z2 z3 z4, ds = [z0, z1, z2, z3, z4] := by
        match ds, hlen3 with
        | [a, b, c, d, e], _ => exact ⟨a, b, c, d, e, rfl⟩
      obtain ⟨bk', tc', o, hv', how, hwr, hg4⟩ := s3w.slots.setF (i := k) (d := 0) (x := some (joinC d c)) (news := [z0, z1, z2, z3, z4]) hk (show 0 + 5 ≤ 6 from by decide) hone3 (by
        rw [hta]
        rintro cs0 ⟨ds1, hq1, rfl⟩
        have hql := rCell.len hq1
        refine ⟨[z0, z1, z2, z3, z4], hr3', ?_⟩
        have h5 : ds1.length = 5 := hql
        simp [h5])
      simp only [List.all_cons, List.all_nil, Bool.and_true, Bool.and_eq_true] at hone3
      obtain ⟨y0, y1, y2, y3, y4⟩ := hone3
      have hbk' : bk = bk' := by simpa using how
      subst hbk'
      have hwr' : writeIn h3[bk]? (k * 6) [z0, z1, z2, z3, z4] = some o := hwr
      have hnb : bk ≠ bs := fun e => s.o1 (by rw [e])
      have hs4 : (h3.setIfInBounds bk o)[bs]? = some (.cells #[.slice (some ⟨bk, 0, none⟩) T.length tc, .int .i64 (takenM T)] 62 (0, 0)) := (set_other _ hnb).trans hs3
      simp -dsimp [again_cons, hs3, hidv, elSz, hwr']
      generalize hH : h3.setIfInBounds bk o = h5 at hs4 hg4 ⊢
      have hz5 : h5.size = h3.size := by rw [← hH]; simp
      have hold : ∀ b, b ≠ bk → h5[b]? = h3[b]? := fun b hn' => by rw [← hH, set_other _ (fun e => hn' e.symm)]
      have hfin : TabC h5 (T.set k (some (joinC d c))) bs (.slice (some ⟨bk, 0, none⟩) T.length tc) (some bk) (fun b => R b ∨ E b) := by
        refine ⟨by rw [htk']; exact hs4, hg4, fun b hb => ⟨by have := (s3w.sep b hb).1; omega, (s3w.sep b hb).2⟩, s.o1, hok'⟩
      refine hK _ _ ⟨rfl, _, hfin.at, ⟨by omega, fun b hb hn => ?_⟩, tfoot_sub fun b hb => hb.imp id fun h => by have := (hE b h).1; omega⟩
      rw [hold b (fun e => hn (.inr (.inl (by rw [e])))), k3.blk b (by omega) (fun h => h), k02.blk b hb (fun h => h)]
    | none =>
      have hp : putM T c = some (T.set k (some c)) := by unfold putM; rw [hf]; simp only; rw [hsat, hta]
      rw [hta] at hfb
      obtain ⟨hok', htk, _⟩ := put_ok s.ok hp
      have htk' : takenM (T.set k (some c)) = takenM T + 1 := taken_set_new (by rw [hsat, hta])
      rw [hp] at hK
      have htl := taken_le T
      have wn1 : IntKind.i64.wrap ((takenM T : Int) + 1) = ((takenM T + 1 : Nat) : Int) := by rw [wrap_i64 (by omega) (by omega)]; rfl
      simp -dsimp
      refine drawn_by [⟨0, true, []⟩, ⟨1, true, []⟩, ⟨2, true, []⟩, ⟨3, true, []⟩, ⟨4, true, []⟩, ⟨5, true, []⟩, ⟨6, false, [0, 1, 2, 3, 4]⟩, ⟨7, false, [0, 1, 2, 3, 4]⟩, ⟨8, true, []⟩, ⟨9, false, []⟩] (by kernel_rfl) (by kernel_rfl) ?_
      simp -dsimp [hs2, hc2]
      refine call_by (hashOwn_spec hr2 (fun b hb => by have := hG b hb; omega) hc) ?_
      rintro _ h3 ⟨ds, E, rfl, hr3, k3, hE⟩
      have e3 := k3.size
      have s3 := s2.mono (h' := h3) e3 fun b hb => k3.blk b (s2.lt b hb) (fun h => h)
      have hs3 := s3.str
      have l2 : ∀ b, tfoot bs (some bk) R b → b < h.size := fun b hb => s.lt b hb
      have s3w := s3.widen (G := E) fun b hb => ⟨(hE b hb).2, fun e => by have := (hE b hb).1; omega, fun e => by have := (hE b hb).1; have := l2 b (.inr (.inl e)); omega⟩
      have hlen3 := rCell.len hr3
      have hone3 := rCell.one hr3
      have hr3' : rCell.rep (fun b => R b ∨ E b) h3 ds c := rCell.mono hr3 fun b hb => ⟨.inr hb, rfl⟩
      obtain ⟨z0, z1, z2, z3, z4, rfl⟩ : ∃ z0 z1 z2 z3 z4, ds = [z0, z1, z2, z3, z4] := by
        match ds, hlen3 with
        | [a, b, c, d, e], _ => exact ⟨a, b, c, d, e, rfl⟩
      simp only [List.all_cons, List.all_nil, Bool.and_true, Bool.and_eq_true] at hone3
      obtain ⟨y0, y1, y2, y3, y4⟩ := hone3
      obtain ⟨bk', tc', o, hv', how, hwr, hg4⟩ := s3w.slots.setE (i := k) (x := some c) (news := [z0, z1, z2, z3, z4, .bool true]) hk ⟨_, hr3', rfl⟩
      have hbk' : bk = bk' := by simpa using how
      subst hbk'
      have hwr' : writeIn h3[bk]? (k * 6) [z0, z1, z2, z3, z4, .bool true] = some o := hwr
      have hnb : bk ≠ bs := fun e => s.o1 (by rw [e])
      have hs4 : (h3.setIfInBounds bk o)[bs]? = some (.cells #[.slice (some ⟨bk, 0, none⟩) T.length tc, .int .i64 (takenM T)] 62 (0, 0)) := (set_other _ hnb).trans hs3
      simp -dsimp [again_cons, hs3, hidv, elSz, hwr', hs4, wn1]
      generalize hH : (h3.setIfInBounds bk o).setIfInBounds bs _ = h5
      have hz5 : h5.size = h3.size := by rw [← hH]; simp
      have hold : ∀ b, b ≠ bs → b ≠ bk → h5[b]? = h3[b]? := fun b hn hn' => by rw [← hH, set_other _ (fun e => hn e.symm), set_other _ (fun e => hn' e.symm)]
      have hfin : TabC h5 (T.set k (some c)) bs (.slice (some ⟨bk, 0, none⟩) T.length tc) (some bk) (fun b => R b ∨ E b) := by
        refine ⟨?_, ?_, ?_, s.o1, hok'⟩
        · rw [htk', ← hH]; exact set_same _ (by have := lt_of_blk hs4; exact this)
        · exact hg4.mono (fun b hb => ⟨hb, by rw [← hH]; exact set_other _ (fun e => (s3w.sep b hb).2.1 e.symm)⟩) fun b hb => ⟨fun hRE => (s3w.sep b hRE).2.2 hb, by
            cases hb
            rw [← hH]; exact set_other _ (fun e => hnb e.symm)⟩
        · exact fun b hb => ⟨by have := (s3w.sep b hb).1; omega, (s3w.sep b hb).2⟩
      refine hK _ _ ⟨rfl, _, hfin.at, ⟨by omega, fun b hb hn => ?_⟩, tfoot_sub fun b hb => hb.imp id fun h => by have := (hE b h).1; omega⟩
      rw [hold b (fun e => hn (.inl e)) (fun e => hn (.inr (.inl (by rw [e])))), k3.blk b (by omega) (fun h => h), k02.blk b hb (fun h => h)]
end Go.Proofs

/-
  The document's table in memory: a key is found, cells are put, told.
-/
namespace Go.HC
def zeroC : CellM := ⟨[], 0, [], [], []⟩
structure RTabC (tT cT bT : Nat) (h : Heap) (T : Tab) (bt bc bi n cc ic : Nat) (D : Nat → Prop) : Prop where
  top : h[bt]? = some (.cells #[.slice (some ⟨bc, 0, none⟩) n cc, .slice (some ⟨bi, 0, none⟩) n ic, .int .i64 (takenM T)] tT (0, 0))
  len : n = T.length
  C : Grow rCell cT D h (.slice (some ⟨bc, 0, none⟩) n cc) (T.map fun s => s.getD zeroC) (some bc)
  I : Grow rBool bT none_ h (.slice (some ⟨bi, 0, none⟩) n ic) (T.map Option.isSome) (some bi)
  ne : bt ≠ bc ∧ bt ≠ bi ∧ bc ≠ bi
  D : ∀ b, D b → b < h.size ∧ b ≠ bt ∧ b ≠ bc ∧ b ≠ bi
def rfoot (bt bc bi : Nat) (D : Nat → Prop) : Nat → Prop := fun b => b = bt ∨ b = bc ∨ b = bi ∨ D b
section
variable {tT cT bT : Nat} {h h' : Heap} {T : Tab} {bt bc bi n cc ic : Nat} {D : Nat → Prop}
theorem RTabC.lt (s : RTabC tT cT bT h T bt bc bi n cc ic D) : ∀ b, rfoot bt bc bi D b → b < h.size := by
  rintro b (rfl | rfl | rfl | hb)
  · exact lt_of_blk s.top
  · exact s.C.own_lt _ rfl
  · exact s.I.own_lt _ rfl
  · exact (s.D b hb).1
theorem RTabC.mono (s : RTabC tT cT bT h T bt bc bi n cc ic D) (hs : h.size ≤ h'.size) (hk : ∀ b, rfoot bt bc bi D b → h'[b]? = h[b]?) : RTabC tT cT bT h' T bt bc bi n cc ic D where
  top := by rw [hk bt (.inl rfl)]; exact s.top
  len := s.len
  C := s.C.mono (fun b hb => ⟨hb, hk b (.inr (.inr (.inr hb)))⟩) fun b hb => ⟨fun hd => by have := (s.D b hd).2.2.1; cases hb; exact this rfl, by cases hb; exact hk _ (.inr (.inl rfl))⟩
  I := s.I.mono (fun _ h => h.elim) fun b hb => ⟨fun h => h, by cases hb; exact hk _ (.inr (.inr (.inl rfl)))⟩
  ne := s.ne
  D := fun b hb => ⟨Nat.lt_of_lt_of_le (s.D b hb).1 hs, (s.D b hb).2⟩
end
/-- A table of the document's. -/
def RTab (tT cT bT : Nat) (v : Value) (G : Nat → Prop) (h : Heap) (T : Tab) : Prop := ∃ bt bc bi n cc ic D, v = .pointer (some ⟨bt, 0, none⟩) ∧ G = rfoot bt bc bi D ∧ RTabC tT cT bT h T bt bc bi n cc ic D
section
variable {tT cT bT : Nat} {v : Value} {G S : Nat → Prop} {h h' : Heap} {T : Tab}
theorem RTab.lt (s : RTab tT cT bT v G h T) : ∀ b, G b → b < h.size := by
  obtain ⟨bt, bc, bi, n, cc, ic, D, rfl, rfl, s⟩ := s
  exact s.lt
theorem RTab.keep (s : RTab tT cT bT v G h T) (k : Keep S h h') (hS : ∀ b, G b → ¬ S b) : RTab tT cT bT v G h' T := by
  have hl := s.lt
  obtain ⟨bt, bc, bi, n, cc, ic, D, rfl, rfl, s⟩ := s
  exact ⟨bt, bc, bi, n, cc, ic, D, rfl, rfl, s.mono k.size fun b hb => k.blk b (hl b hb) (hS b hb)⟩
end
end Go.HC
namespace Go.Proofs
open Go Go.HC

abbrev RTabT := RTab 65 39 4
set_option maxRecDepth 10000 in
theorem rlen_spec {v : Value} {G : Nat → Prop} {h : Heap} {T : Tab} (s : RTabT v G h T) : CallH Try.prog 21 #[v] h fun r h' => r = .int .i64 (takenM T) ∧ h' = h := by
  obtain ⟨bt, bc, bi, n, cc, ic, D, rfl, rfl, s⟩ := s
  refine enter [.tmp 2] Try.func21 rfl rfl (by kernel_rfl) rfl ?_
  simp -dsimp [s.top]

set_option maxHeartbeats 4000000 in
set_option maxRecDepth 10000 in
theorem rfind_spec {v kv : Value} {G : Nat → Prop} {h : Heap} {T : Tab} {key : List Int} (s : RTabT v G h T) (hk : SlRep rInt (Old h) h kv key) (hko : KeyOk key) (hT : 0 < T.length) (hT' : T.length < 1000000000) :
    CallH Try.prog 39 #[v, kv] h fun r h' => r = .int .i64 (match findM T key with | some k => (k : Int) | none => -1) ∧ h' = h := by
  refine callH_by fun K hK => ?_
  obtain ⟨bt, bc, bi, n, cc, ic, D, rfl, rfl, s⟩ := s
  refine enter [.tmp 4] Try.func39 rfl rfl (by kernel_rfl) rfl ?_
  obtain ⟨a0, c0, rfl, hc0, hc0'⟩ := hk.val
  have hlen := s.len
  simp -dsimp [s.top]
  refine call_by (place_spec hk hko n (by omega) (by omega)) ?_
  rintro _ h1 ⟨rfl, hh⟩
  subst h1
  simp -dsimp
  refine loopc (σ := Nat) (fun i => [(0, .pointer (some ⟨bt, 0, none⟩)), (1, .slice a0 key.length c0), (5, .int .i64 n), (6, .int .i64 (placeM key n)), (7, .int .i64 i)])
    (fun i h1 => h1 = h ∧ i ≤ n ∧ ∀ j, j < i → hitM T key (probe key T.length j) = false) (fun i => n - i) 0 0 (fun i _ => i = n) (endR Try.prog [.tmp 4] K).rt (fun _ _ _ h => h) (by simp) ⟨rfl, Nat.zero_le _, fun j hj => by omega⟩ (by kernel_rfl) ?_ ?_
  · rintro i h1 g ⟨rfl, hi, hb⟩
    have wi := wrap_succ (k := i) (by omega)
    by_cases hin : i < n
    · have hpl := placeM_lt key (n := n) (by omega)
      have w1 : IntKind.i64.wrap ((placeM key n : Int) + (i : Int)) = (placeM key n : Int) + (i : Int) := by rw [wrap_i64 (by omega) (by omega)]
      have w2 : ((placeM key n : Int) + (i : Int)).tmod n = ((probe key n i : Nat) : Int) := by
        unfold probe; exact (Int.ofNat_tmod (placeM key n + i) n).symm
      have hne : n ≠ 0 := by omega
      have hp := probe_lt key (n := n) (by omega) i
      obtain ⟨p, ep⟩ : ∃ p, p = probe key n i := ⟨_, rfl⟩
      have hpT : p < T.length := by omega
      obtain ⟨bk, csI, eI, oI, rI, cI⟩ := s.I.elem p (by simpa using hpT)
      obtain ⟨bk2, csC, eC, oC, rC, cC⟩ := s.C.elem p (by simpa using hpT)
      cases eI; cases eC
      have hI : cellIn h1[bi]? p = some (.bool (T[p]).isSome) := by
        have h0 : csI = [.bool (T[p]).isSome] := by simpa [rBool] using rI
        rw [h0] at cI
        have := cellsIn_cell (d := 0) cI (by decide)
        simpa [rBool] using this
      have hpn : p < n := by omega
      rw [← ep] at w2
      cases hTp : T[p] with
      | none =>
        have hf := find_hit (T := T) (key := key) (i := i) (by omega) hb (by rw [← hlen, ← ep]; unfold hitM; rw [List.getElem?_eq_getElem hpT, hTp])
        rw [hTp] at hI
        simp -dsimp [hin, w1, hne, w2, s.top, idxA_nat hpn, hI]
        exact hK _ _ ⟨by rw [hf, ← hlen, ← ep], rfl⟩
      | some c =>
        rw [hTp] at hI
        rw [List.getElem_map, hTp, Option.getD_some] at rC
        obtain ⟨ka, kc, sa, sc, na, nc, xa, xc, rfl, q1, _⟩ := cell_open rC
        have hk0 : cellIn h1[bc]? (p * 5) = some (.slice ka c.key.length kc) := cellsIn_cell (d := 0) cC (by decide)
        simp -dsimp [hin, w1, hne, w2, s.top, idxA_nat hpn, hI, hk0]
        refine call_by (rless_spec q1 hk) ?_
        rintro _ h2 ⟨rfl, hh⟩
        subst h2
        by_cases h0 : lessM c.key key = 0
        · have hf := find_hit (T := T) (key := key) (i := i) (by omega) hb (by rw [← hlen, ← ep]; unfold hitM; rw [List.getElem?_eq_getElem hpT, hTp]; simpa using lessM_zero.1 h0)
          simp -dsimp [h0]
          exact hK _ _ ⟨by rw [hf, ← hlen, ← ep], rfl⟩
        · have h0' : (lessM c.key key == 0) = false := by simpa using h0
          simp -dsimp [h0', wi]
          refine ⟨i + 1, by simp, rfl, ⟨rfl, by omega, fun j hj => ?_⟩, by show n - (i + 1) < n - i; omega⟩
          rcases Nat.lt_or_ge j i with h | h
          · exact hb j h
          · have : j = i := by omega
            rw [this, ← hlen, ← ep]
            unfold hitM
            rw [List.getElem?_eq_getElem hpT, hTp]
            simpa using fun e => h0 (lessM_zero.2 e)
    · simp -dsimp [hin]
      exact ⟨rfl, i, by simp, rfl, ⟨rfl, hi, hb⟩, by omega⟩
  · rintro i h1 g ⟨rfl, hi, hb⟩ hin
    have hin' : i = n := hin
    simp -dsimp
    exact hK _ _ ⟨by rw [find_miss (fun j hj => hb j (by omega))], rfl⟩
end Go.Proofs

/-
  The document's table: a cell is put; a new table.
-/
namespace Go.HC
theorem isSome_set {T : Tab} {k : Nat} {c d : CellM} (h : T[k]? = some (some d)) : (T.set k (some c)).map Option.isSome = T.map Option.isSome := by
  rw [List.map_set]
  apply List.ext_getElem?
  intro i
  rw [List.getElem?_set]
  by_cases e : k = i
  · subst e
    obtain ⟨this, e⟩ := List.getElem?_eq_some_iff.1 h
    simp [this, e]
  · rw [if_neg e]
theorem find_hits {T : Tab} {key : List Int} {k : Nat} (h : findM T key = some k) : k < T.length := (find_spec_some h).1
end Go.HC
namespace Go.Proofs
open Go Go.HC

set_option maxHeartbeats 4000000 in
set_option maxRecDepth 10000 in
theorem rput7_spec {v : Value} {G : Nat → Prop} {h : Heap} {T : Tab} {cs : List Value} {c : CellM} {m : Nat} (s : RTabT v G h T) (hr : rCell.rep (Old h) h cs c) (hko : KeyOk c.key) (hT : 0 < T.length) (hT' : T.length < 1000000000) (hm : m < 1000000000) (hc : Sml m c)
    (hs : ∀ (k : Nat) (d : CellM), T[k]? = some (some d) → Sml m d) :
    CallH Try.prog 19 #[v, .agg cs.toArray] h fun r h' => r = .bool (putM T c).isSome ∧ ∃ G', RTabT v G' h' ((putM T c).getD T) ∧ Keep G h h' ∧ ∀ b, G' b → G b ∨ h.size ≤ b := by
  refine callH_by fun K hK => ?_
  obtain ⟨bt, bc, bi, n, cc, ic, D, rfl, rfl, s⟩ := s
  refine enter [.tmp 4] Try.func19 rfl rfl (by kernel_rfl) rfl ?_
  obtain ⟨ka, kc, sa, sc, na, nc, xa, xc, rfl, r1, r2, r3, r4⟩ := cell_open hr
  simp -dsimp [boxS_eq]
  generalize hB : Array.push h _ = h1
  have kb : Keep none_ h h1 := by rw [← hB]; exact .push _ _ _
  have hz1 : h1.size = h.size + 1 := by rw [← hB]; simp
  have hC : h1[h.size]? = some (.cells #[.slice ka c.key.length kc, .int .i64 c.count, .slice sa c.sum.length sc, .slice na c.mn.length nc, .slice xa c.mx.length xc] 39 (0, 0)) := by rw [← hB]; exact push_new _ _
  have tb := Tr.of kb
  have slt := s.lt
  have s1 := s.mono kb.size fun b hb => kb.blk b (slt b hb) (fun h => h)
  have k1 := r1.mono (tb.ft (Nat.le_refl 0))
  have c1 := rCell.mono hr (tb.ft (Nat.le_refl 0))
  have hlen := s.len
  refine call_by (rfind_spec ⟨bt, bc, bi, n, cc, ic, D, rfl, rfl, s1⟩ k1 hko hT hT') ?_
  rintro _ h1' ⟨rfl, hh⟩
  subst h1'
  cases hf : findM T c.key with
  | none =>
    have hp : putM T c = none := by unfold putM; rw [hf]
    simp -dsimp
    exact hK _ _ ⟨by rw [hp]; rfl, _, ⟨bt, bc, bi, n, cc, ic, D, rfl, rfl, by rw [hp]; exact s1⟩, kb.none, fun b hb => .inl hb⟩
  | some k =>
    have hkT := find_hits hf
    have hkn : k < n := by omega
    have hk0 : ¬ ((k : Int) < 0) := by omega
    obtain ⟨bk, csI, eI, oI, rI, cI⟩ := s1.I.elem k (by simpa using hkT)
    obtain ⟨bk2, csC, eC, oC, rC, cC⟩ := s1.C.elem k (by simpa using hkT)
    cases eI; cases eC
    have hI : cellIn h1[bi]? k = some (.bool (T[k]).isSome) := by
      have h0 : csI = [.bool (T[k]).isSome] := by simpa [rBool] using rI
      rw [h0] at cI
      have := cellsIn_cell (d := 0) cI (by decide)
      simpa [rBool] using this
    have hTk? : T[k]? = some T[k] := List.getElem?_eq_getElem hkT
    cases hTk : T[k] with
    | some d =>
      rw [hTk] at hI hTk?
      have hp : putM T c = some (T.set k (some (joinC d c))) := by unfold putM; rw [hf]; simp only [hTk?]
      rw [List.getElem_map, hTk, Option.getD_some] at rC
      have hd := hs k d hTk?
      obtain ⟨ka1, kc1, sa1, sc1, na1, nc1, xa1, xc1, rfl, _⟩ := cell_open rC
      have hcC : HC.cellsIn h1[bc]? (k * 5) 5 = _ := cC
      simp -dsimp [hk0, s1.top, idxA_nat hkn, hI]
      refine drawn_by [⟨0, true, []⟩, ⟨1, true, []⟩, ⟨2, true, []⟩, ⟨3, true, []⟩, ⟨4, true, []⟩, ⟨5, true, []⟩, ⟨6, true, []⟩, ⟨7, true, []⟩, ⟨8, true, []⟩, ⟨9, true, []⟩, ⟨10, true, []⟩, ⟨11, true, []⟩, ⟨12, true, []⟩, ⟨13, false, [0, 1, 2, 3, 4]⟩, ⟨14, true, []⟩, ⟨15, false, []⟩] (by kernel_rfl) (by kernel_rfl) ?_
      simp -dsimp [s1.top, idxV_nat hkn, elSz_eq, hcC, hC]
      refine call_by (rjoin_spec (rCell.mono rC fun b hb => ⟨⟨nz, (s1.D b hb).1, fun h => h⟩, rfl⟩) (hd.small hm) hd c1 hc) ?_
      rintro _ h2 ⟨es, rfl, re, k2⟩
      have s2 := s1.mono k2.size fun b hb => k2.blk b (s1.lt b hb) (fun h => h)
      obtain ⟨ka5, kc5, sa5, sc5, na5, nc5, xa5, xc5, rfl, _⟩ := cell_open re
      have hD' : ∀ b, Ft h1.size none_ h2 b → b ≠ bt ∧ b ≠ bc ∧ b ≠ bi := fun b hb => by
        have := s1.lt bt (.inl rfl); have := s1.lt bc (.inr (.inl rfl)); have := s1.lt bi (.inr (.inr (.inl rfl))); have := hb.1.1; omega
      have gC := s2.C.mono (F' := fun b => D b ∨ Ft h1.size none_ h2 b) (h' := h2) (fun b hb => ⟨.inl hb, rfl⟩) fun b hb => ⟨by cases hb; exact fun h => h.elim (fun h => (s2.D _ h).2.2.1 rfl) fun h => (hD' _ h).2.1 rfl, rfl⟩
      obtain ⟨bk, c', o', hv, hbk, hw, gC'⟩ := gC.setE (i := k) (x := joinC d c) (by simpa using hkT) (rCell.mono re fun b hb => ⟨.inr hb, rfl⟩)
      cases hbk
      have hw' : writeIn h2[bc]? (k * 5) _ = some o' := hw
      simp -dsimp [again_cons, s2.top, idxV_nat hkn, elSz_eq, hw']
      have hl2 := s2.lt
      refine hK _ _ ⟨by rw [hp]; rfl, rfoot bt bc bi (fun b => D b ∨ Ft h1.size none_ h2 b), ⟨bt, bc, bi, n, cc, ic, _, rfl, rfl, ?_⟩, ?_, ?_⟩
      · rw [hp, Option.getD_some]
        refine ⟨?_, by simpa using hlen, ?_, ?_, s.ne, fun b hb => ?_⟩
        · rw [set_other _ (fun e => s.ne.1 e.symm), taken_set_old hTk?]
          exact s2.top
        · rw [List.map_set]
          exact gC'
        · rw [isSome_set hTk?]
          exact s2.I.mono (fun _ h => h.elim) fun b hb => ⟨fun h => h, by cases hb; exact set_other _ s.ne.2.2⟩
        · rcases hb with hb | hb
          · exact ⟨by simpa using (s2.D b hb).1, (s2.D b hb).2⟩
          · exact ⟨by simpa using hb.2.1, hD' b hb⟩
      · exact ((kb.trans k2 (fun _ _ h => h)).none (S := rfoot bt bc bi D)).setted _ fun _ => .inr (.inl rfl)
      · rintro b (rfl | rfl | rfl | hb | hb)
        · exact .inl (.inl rfl)
        · exact .inl (.inr (.inl rfl))
        · exact .inl (.inr (.inr (.inl rfl)))
        · exact .inl (.inr (.inr (.inr hb)))
        · exact .inr (by have := hb.1.1; omega)
    | none =>
      rw [hTk] at hI hTk?
      have hp : putM T c = some (T.set k (some c)) := by unfold putM; rw [hf]; simp only [hTk?]
      simp -dsimp [hk0, s1.top, idxA_nat hkn, hI]
      refine drawn_by [⟨0, true, []⟩, ⟨1, true, []⟩, ⟨2, true, []⟩, ⟨3, true, []⟩, ⟨4, true, []⟩, ⟨5, true, []⟩, ⟨6, true, []⟩, ⟨7, true, []⟩, ⟨8, true, []⟩, ⟨9, true, []⟩, ⟨10, true, []⟩, ⟨11, false, [0, 1, 2, 3, 4, 5, 6, 7, 8, 9]⟩, ⟨12, true, []⟩, ⟨13, false, [9]⟩, ⟨14, true, []⟩, ⟨15, false, []⟩] (by kernel_rfl) (by kernel_rfl) ?_
      simp -dsimp [s1.top, hC]
      refine call_by (rcopy_new c1 (hc.small hm)) ?_
      rintro _ h2 ⟨es, rfl, re, k2⟩
      have s2 := s1.mono k2.size fun b hb => k2.blk b (s1.lt b hb) (fun h => h)
      obtain ⟨ka5, kc5, sa5, sc5, na5, nc5, xa5, xc5, rfl, _⟩ := cell_open re
      have hD' : ∀ b, Ft h1.size none_ h2 b → b ≠ bt ∧ b ≠ bc ∧ b ≠ bi := fun b hb => by
        have := s1.lt bt (.inl rfl); have := s1.lt bc (.inr (.inl rfl)); have := s1.lt bi (.inr (.inr (.inl rfl))); have := hb.1.1; omega
      have gC := s2.C.mono (F' := fun b => D b ∨ Ft h1.size none_ h2 b) (h' := h2) (fun b hb => ⟨.inl hb, rfl⟩) fun b hb => ⟨by cases hb; exact fun h => h.elim (fun h => (s2.D _ h).2.2.1 rfl) fun h => (hD' _ h).2.1 rfl, rfl⟩
      obtain ⟨bk, c', o', hv, hbk, hw, gC'⟩ := gC.setE (i := k) (x := c) (by simpa using hkT) (rCell.mono re fun b hb => ⟨.inr hb, rfl⟩)
      cases hbk
      have hw' : writeIn h2[bc]? (k * 5) _ = some o' := hw
      have gI := s2.I.mono (F' := none_) (h' := h2.setIfInBounds bc o') (fun _ h => h.elim) fun b hb => ⟨fun h => h, by cases hb; exact set_other _ s.ne.2.2⟩
      obtain ⟨bk, c'', o'', hv', hbk, hwi, gI'⟩ := gI.setE (i := k) (x := true) (news := [.bool true]) (by simpa using hkT) rfl
      cases hbk
      have hwi' : writeIn (h2.setIfInBounds bc o')[bi]? k [.bool true] = some o'' := by simpa [rBool] using hwi
      have htop : ((h2.setIfInBounds bc o').setIfInBounds bi o'')[bt]? = _ := (set_other _ (fun e => s.ne.2.1 e.symm)).trans ((set_other _ (fun e => s.ne.1 e.symm)).trans s2.top)
      have htk : takenM T < 1000000000 := Nat.lt_of_le_of_lt (taken_le T) hT'
      have wt := wrap_succ (k := takenM T) (by omega)
      simp -dsimp [again_cons, s2.top, idxV_nat hkn, elSz_eq, hw', hwi', htop, wt]
      refine hK _ _ ⟨by rw [hp]; rfl, rfoot bt bc bi (fun b => D b ∨ Ft h1.size none_ h2 b), ⟨bt, bc, bi, n, cc, ic, _, rfl, rfl, ?_⟩, ?_, ?_⟩
      · rw [hp, Option.getD_some]
        refine ⟨?_, by simpa using hlen, ?_, ?_, s.ne, fun b hb => ?_⟩
        · rw [taken_set_new hTk?]
          refine set_same _ ?_
          have := s2.lt bt (.inl rfl)
          simpa using this
        · rw [List.map_set]
          exact gC'.mono (fun b hb => ⟨hb, by
            have hnb : b ≠ bt ∧ b ≠ bi := hb.elim (fun h => ⟨(s2.D b h).2.1, (s2.D b h).2.2.2⟩) fun h => ⟨(hD' b h).1, (hD' b h).2.2⟩
            rw [set_other _ (fun e => hnb.1 e.symm), set_other _ (fun e => hnb.2 e.symm)]⟩) fun b hb => ⟨by cases hb; exact fun h => h.elim (fun h => (s2.D _ h).2.2.1 rfl) fun h => (hD' _ h).2.1 rfl, by
            cases hb; rw [set_other _ s.ne.1, set_other _ (fun e => s.ne.2.2 e.symm)]⟩
        · rw [List.map_set]
          exact gI'.mono (fun _ h => h.elim) fun b hb => ⟨fun h => h, by cases hb; exact set_other _ s.ne.2.1⟩
        · rcases hb with hb | hb
          · exact ⟨by simpa using (s2.D b hb).1, (s2.D b hb).2⟩
          · exact ⟨by simpa using hb.2.1, hD' b hb⟩
      · exact ((((kb.trans k2 (fun _ _ h => h)).none (S := rfoot bt bc bi D)).setted _ fun _ => .inr (.inl rfl)).setted _ fun _ => .inr (.inr (.inl rfl))).setted _ fun _ => .inl rfl
      · rintro b (rfl | rfl | rfl | hb | hb)
        · exact .inl (.inl rfl)
        · exact .inl (.inr (.inl rfl))
        · exact .inl (.inr (.inr (.inl rfl)))
        · exact .inl (.inr (.inr (.inr hb)))
        · exact .inr (by have := hb.1.1; omega)
end Go.Proofs

/-
  The program's table: its cells are told; a key's cell is told.
-/
namespace Go.HC
theorem cells_take {T : Tab} {k : Nat} (hk : k < T.length) : cellsM (T.take (k + 1)) = cellsM (T.take k) ++ (match T[k] with | some c => [c] | none => []) := by
  unfold cellsM
  rw [List.take_add_one, List.getElem?_eq_getElem hk, List.filterMap_append]
  cases T[k] <;> rfl
end Go.HC
namespace Go.Proofs
open Go Go.HC

set_option maxHeartbeats 40000000 in
set_option maxRecDepth 10000 in
theorem hcells_th {v : Value} {F : Nat → Prop} {h : Heap} {T : Tab} (s : TabAt v F h T) (hT : T.length < 1000000000) (hsm : TabSmall T) :
    CallH Try.prog 26 #[v] h fun r h' => ∃ E own, Grow rCell 39 E h' r (cellsM T) own ∧ Keep none_ h h' ∧ (∀ b, E b → h.size ≤ b ∧ b < h'.size ∧ Thaw h' b) ∧ ∀ b, own = some b → h.size ≤ b := by
  refine callH_by fun K hK => ?_
  obtain ⟨bs, sv, os, R, rfl, rfl, s⟩ := s
  refine enter [.tmp 2] Try.func26 rfl rfl (by kernel_rfl) rfl ?_
  have hs := s.str
  have hRl : ∀ b, R b → b < h.size := fun b hb => (s.sep b hb).1
  obtain ⟨ta, tc, rfl⟩ := s.slots.val
  simp -dsimp [hs]
  refine loop' (σ := Nat × Value) (fun t => [(3, t.2), (9, .slice ta T.length tc), (10, .int .i64 T.length), (11, .int .i64 t.1)]) (fun _ => [])
    (fun t h1 => Keep none_ h h1 ∧ t.1 ≤ T.length ∧ ∃ E own, Grow rCell 39 E h1 t.2 (cellsM (T.take t.1)) own ∧ (∀ b, E b → h.size ≤ b ∧ b < h1.size ∧ Thaw h1 b) ∧ ∀ b, own = some b → h.size ≤ b)
    (fun t => T.length - t.1) (0, .slice none 0 0) ?_ rfl ⟨.refl _ _, Nat.zero_le _, none_, none, .nil _ _ _ _, (fun b hb => hb.elim), fun b hb => by cases hb⟩ (by kernel_rfl) ?_
  · intro p hp
    simp at hp
    rcases hp with rfl | rfl | rfl | rfl <;> simp
  · rintro ⟨k, tv⟩ h1 g ⟨k1, hk, E, own, hg, hE, ho⟩
    simp only at hk hg
    have e1 := k1.size
    have s1 := s.mono (h' := h1) e1 fun b hb => k1.blk b (s.lt b hb) (fun h => h)
    obtain ⟨va, vc, htv⟩ := hg.val
    obtain ⟨m, hm⟩ : ∃ m, (cellsM (T.take k)).length = m := ⟨_, rfl⟩
    have hmT : m ≤ T.length := by
      rw [← hm, cells_len]
      exact Nat.le_trans (taken_le _) (by simp; omega)
    rw [hm] at htv
    subst htv
    by_cases hkl : k < T.length
    · obtain ⟨bk, es, rfl, hown, hrs, hce⟩ := s1.slots.elem k hkl
      obtain ⟨w0, wn, w2, w3, w4, rfl, hkey, u0, u2, u3, u4⟩ := slot_cells hrs
      have hce' : HC.cellsIn h1[bk]? (k * 6) 6 = some [w0, .int .i64 wn, w2, w3, w4, .bool T[k].isSome] := hce
      have hidx : ∀ (K : Value → Heap → Prop) (h : Heap), indexAddrS Try.prog 60 (.slice (some ⟨bk, 0, none⟩) T.length tc) (.int .i64 (k : Int)) h K = K (.pointer (some ⟨bk, k * 6, none⟩)) h := by
        intro K h
        rw [indexAddrS_slice _ _ _ _ _ _ (by omega) (by omega) rfl]
        simp [elSz]
      have wk : IntKind.i64.wrap ((k : Int) + 1) = ((k + 1 : Nat) : Int) := by rw [wrap_i64 (by omega) (by omega)]; rfl
      have hct := cells_take hkl
      simp -dsimp [hkl, hidx, hce', u0, u2, u3, u4]
      generalize hB2 : Array.setIfInBounds _ h1.size _ = h2
      have k2 : Keep none_ h1 h2 := by rw [← hB2]; exact ((Keep.refl none_ h1).pushed _).setted _ (fun hh => absurd hh (by omega))
      have hz2 : h2.size = h1.size + 1 := by rw [← hB2]; simp
      have hfb : h2[h1.size]? = some (.cells #[w0, .int .i64 wn, w2, w3, w4, .bool T[k].isSome] 68 (0, 0)) := by rw [← hB2]; exact set_same _ (by simp)
      have k02 := k1.trans k2 (fun _ _ h => h)
      have lo := hg.own_lt
      have hg2 : Grow rCell 39 E h2 (.slice va m vc) (cellsM (T.take k)) own := hg.mono (fun b hb => ⟨hb, k2.blk b (hE b hb).2.1 (fun h => h)⟩) fun b hb => ⟨fun hEb => by
        rcases hg with ⟨_, _, rfl⟩ | ⟨_, _, _, _, _, rfl, _, hn, _⟩
        · cases hb
        · cases hb; exact hn hEb, k2.blk b (lo b hb) (fun h => h)⟩
      cases hta : T[k] with
      | none =>
        rw [hta] at hfb hct
        simp only [List.append_nil] at hct
        rw [← hct] at hg2
        simp -dsimp [wk]
        refine ⟨(k + 1, .slice va m vc), ?_, rfl, ⟨k02, by show k + 1 ≤ T.length; omega, E, own, hg2, fun b hb => by have := hE b hb; exact ⟨this.1, by omega, this.2.2.at (k2.blk b this.2.1 (fun h => h))⟩, ho⟩, by show T.length - (k + 1) < T.length - k; omega⟩
        intro p hp
        simp at hp
        rcases hp with rfl | rfl | rfl | rfl <;> simp
      | some d =>
        rw [hta] at hfb hct hrs
        obtain ⟨ds0, hd1, hd2⟩ := hrs
        have hdl := rCell.len hd1
        obtain rfl : ds0 = [w0, .int .i64 wn, w2, w3, w4] := by
          match ds0, hdl with
          | [a, b, c, d, e], _ =>
            simp at hd2
            obtain ⟨rfl, rfl, rfl, rfl, rfl⟩ := hd2
            rfl
        have hd2' : rCell.rep R h2 [w0, .int .i64 wn, w2, w3, w4] d := rCell.mono hd1 fun b hb => ⟨hb, k2.blk b (by have := hRl b hb; omega) (fun h => h)⟩
        have hds : CellSmall d := hsm k d (by rw [List.getElem?_eq_getElem hkl, hta])
        simp -dsimp [hfb]
        refine call_by (hashOwn_th hd2' (fun b hb => by have := hRl b hb; omega) hds) ?_
        rintro _ h3 ⟨ds, E3, rfl, hr3, k3, hE3⟩
        have e3 := k3.size
        have hlen3 := rCell.len hr3
        have hone3 := rCell.one hr3
        obtain ⟨z0, z1, z2, z3, z4, rfl⟩ : ∃ z0 z1 z2 z3 z4, ds = [z0, z1, z2, z3, z4] := by
          match ds, hlen3 with
          | [a, b, c, d, e], _ => exact ⟨a, b, c, d, e, rfl⟩
        simp only [List.all_cons, List.all_nil, Bool.and_true, Bool.and_eq_true] at hone3
        obtain ⟨y0, y1, y2, y3, y4⟩ := hone3
        have lo2 := hg2.own_lt
        have hg3 : Grow rCell 39 (fun b => E b ∨ E3 b) h3 (.slice va m vc) (cellsM (T.take k)) own := hg2.mono (fun b hb => ⟨.inl hb, k3.blk b (by have := (hE b hb).2.1; omega) (fun h => h)⟩) fun b hb => ⟨fun hEb => by
          rcases hEb with hEb | hEb
          · rcases hg with ⟨_, _, rfl⟩ | ⟨_, _, _, _, _, rfl, _, hn, _⟩
            · cases hb
            · cases hb; exact hn hEb
          · have := (hE3 b hEb).1; have := lo2 b hb; omega, k3.blk b (lo2 b hb) (fun h => h)⟩
        have hFF : ∀ b, E b ∨ E3 b → b < h3.size := fun b hb => hb.elim (fun h => by have := (hE b h).2.1; omega) (fun h => (hE3 b h).2.1)
        have hps : (h3.push (.cells #[z0, z1, z2, z3, z4] 39)).size = h3.size + 1 := by simp
        have hr4 : rCell.rep (fun b => E b ∨ E3 b) (h3.push (.cells #[z0, z1, z2, z3, z4] 39)) [z0, z1, z2, z3, z4] d := rCell.mono hr3 fun b hb => ⟨.inr hb, push_old _ (hE3 b hb).2.1⟩
        simp -dsimp
        refine append_grow (F := fun b => E b ∨ E3 b) (F2 := fun b => b = h3.size) (ys := [d]) cellT (hg3.push hFF _) (fun b hb => by have := hFF b hb; omega) rfl
          (.inr ⟨h3.size, 0, _, _, _, rfl, rfl, push_new _ _, rfl⟩) (.single hr4) (by rw [hm]; simp; omega) (by rw [hm]; simp; omega) ?_
        intro tv' h5 own' hg5 kk5 ho5
        rw [hps] at ho5
        have e5 := kk5.size
        rw [hps] at e5
        rw [← hct] at hg5
        simp -dsimp [wk]
        refine ⟨(k + 1, tv'), ?_, rfl, ⟨⟨by omega, fun b hb _ => by rw [kk5.blk b (by omega) (fun e => by have := ho b e; omega), push_old _ (by omega), k3.blk b (by omega) (fun h => h), k02.blk b hb (fun h => h)]⟩, by show k + 1 ≤ T.length; omega, _, own', hg5, fun b hb => hb.elim (fun h => by have := hE b h; exact ⟨this.1, by omega, this.2.2.at (by rw [kk5.blk b (by omega) (fun e => hg.notF b e h), push_old _ (by omega), k3.blk b (by omega) (fun h => h), k2.blk b (by omega) (fun h => h)])⟩) (fun h => by have := hE3 b h; exact ⟨by omega, by omega, this.2.2.at (by rw [kk5.blk b (by omega) (fun e => by have := lo2 b e; omega), push_old _ (by omega)])⟩), fun b hb => (ho5 b hb).elim (ho b) (fun h => by omega)⟩, by show T.length - (k + 1) < T.length - k; omega⟩
        intro p hp
        simp at hp
        rcases hp with rfl | rfl | rfl | rfl <;> simp
    · have hall : T.take k = T := List.take_of_length_le (by omega)
      rw [hall] at hg hm
      simp -dsimp [hkl]
      refine call_by (cloneCell_spec hg (fun b hb => (hE b hb).2.1) (by rw [hm]; omega)) ?_
      rintro _ h2 ⟨own2, hg2, k2, ho2⟩
      obtain ⟨a2, c2, hv2⟩ := hg2.val
      rw [hm] at hv2
      subst hv2
      have e2 := k2.size
      simp -dsimp
      exact hK _ _ ⟨E, own2, hg2, k1.trans k2 (fun _ _ h => h), fun b hb => by have := hE b hb; exact ⟨this.1, by omega, this.2.2.at (k2.blk b this.2.1 (fun h => h))⟩, fun b hb => by have := ho2 b hb; omega⟩
theorem hcells_spec {v : Value} {F : Nat → Prop} {h : Heap} {T : Tab} (s : TabAt v F h T) (hT : T.length < 1000000000) (hsm : TabSmall T) :
    CallH Try.prog 26 #[v] h fun r h' => ∃ E own, Grow rCell 39 E h' r (cellsM T) own ∧ Keep none_ h h' ∧ (∀ b, E b → h.size ≤ b ∧ b < h'.size) ∧ ∀ b, own = some b → h.size ≤ b :=
  (hcells_th s hT hsm).mono fun _ _ ⟨E, own, g, k, n, o⟩ => ⟨E, own, g, k, fun b hb => ⟨(n b hb).1, (n b hb).2.1⟩, o⟩
end Go.Proofs

/-
  The document's table: a new one; what is asked for; all cells.
-/
namespace Go.HC
/-- The first cell of a key. -/
def scanM (T : Tab) (key : List Int) : Option CellM := (cellsM T).find? fun c => decide (c.key = key)
theorem cellsM_mem {T : Tab} {c : CellM} : c ∈ cellsM T ↔ ∃ k : Nat, T[k]? = some (some c) := by
  unfold cellsM
  simp only [List.mem_filterMap, id]
  constructor
  · rintro ⟨x, hx, rfl⟩
    obtain ⟨k, hk⟩ := List.mem_iff_getElem?.1 hx
    exact ⟨k, hk⟩
  · rintro ⟨k, hk⟩
    exact ⟨_, List.mem_of_getElem? hk, rfl⟩
theorem scan_get {T : Tab} (hT : TabOk T) (key : List Int) : scanM T key = getM T key := by
  unfold scanM
  cases hf : (cellsM T).find? (fun c => decide (c.key = key)) with
  | none =>
    rw [List.find?_eq_none] at hf
    unfold getM
    cases hk : findM T key with
    | none => rfl
    | some k =>
      obtain ⟨_, h | ⟨c, h, hc⟩, _⟩ := find_spec_some hk
      · simp [h]
      · exact absurd hc (by simpa using hf c (cellsM_mem.2 ⟨k, h⟩))
  | some c =>
    have hm := List.mem_of_find?_eq_some hf
    have hk := List.find?_some hf
    simp only [decide_eq_true_eq] at hk
    obtain ⟨k, h⟩ := cellsM_mem.1 hm
    have := find_there hT h
    unfold getM
    rw [← hk, this]
    simp [h]
end Go.HC
namespace Go.Proofs
open Go Go.HC

theorem rtab_new {h : Heap} {n bt bc bi : Nat} (hn : n < 1000000000) (ne : bt ≠ bc ∧ bt ≠ bi ∧ bc ≠ bi) (ht : h[bt]? = some (.cells #[.slice (some ⟨bc, 0, none⟩) n n, .slice (some ⟨bi, 0, none⟩) n n, .int .i64 0] 65 (0, 0)))
    (hc : h[bc]? = some (.cells (zeros (.agg #[.slice none 0 0, .int .i64 0, .slice none 0 0, .slice none 0 0, .slice none 0 0]) n) 39 (0, 0))) (hi : h[bi]? = some (.cells (zeros (.bool false) n) 4 (0, 0))) :
    RTabC 65 39 4 h (newM n) bt bc bi n n n none_ := by
  have hl : (newM n).length = n := List.length_replicate
  have ec : Elems rCell none_ h (zeros (.agg #[.slice none 0 0, .int .i64 0, .slice none 0 0, .slice none 0 0, .slice none 0 0]) n).toList (List.replicate n zeroC) := zeros_elems (R := rCell) (x := zeroC) ⟨_, _, _, _, rfl, .nil _ _ _, .nil _ _ _, .nil _ _ _, .nil _ _ _⟩ n
  have ei : Elems rBool none_ h (zeros (.bool false) n).toList (List.replicate n false) := zeros_elems (R := rBool) (x := false) (show (Value.bool false).cells.toList = [.bool false] from rfl) n
  have mc : (newM n).map (fun s => s.getD zeroC) = List.replicate n zeroC := by simp [newM]
  have mi : (newM n).map Option.isSome = List.replicate n false := by simp [newM]
  refine ⟨by rw [newM_taken]; exact ht, hl.symm, ?_, ?_, ne, fun b hb => hb.elim⟩
  · rw [mc]
    have h1 := ec.len
    rw [List.length_replicate] at h1
    refine .inr ⟨bc, n, _, _, by rw [List.length_replicate], rfl, hc, fun h => h, by simpa using h1, by rw [List.length_replicate]; exact Nat.le_refl _, by omega, rfl, ?_⟩
    rw [List.take_of_length_le (by rw [h1, List.length_replicate]; exact Nat.le_refl _)]
    exact ec
  · rw [mi]
    have h1 := ei.len
    rw [List.length_replicate] at h1
    refine .inr ⟨bi, n, _, _, by rw [List.length_replicate], rfl, hi, fun h => h, by simpa using h1, by rw [List.length_replicate]; exact Nat.le_refl _, by omega, rfl, ?_⟩
    rw [List.take_of_length_le (by rw [h1, List.length_replicate]; exact Nat.le_refl _)]
    exact ei

set_option maxHeartbeats 4000000 in
set_option maxRecDepth 10000 in
theorem rnew7_spec (n : Nat) (hn : n < 1000000000) (h : Heap) : CallH Try.prog 17 #[.int .i64 n] h fun r h' => ∃ G, RTabT r G h' (newM n) ∧ Keep none_ h h' ∧ ∀ b, G b → h.size ≤ b := by
  refine callH_by fun K hK => ?_
  refine enter [.tmp 2] Try.func17 rfl rfl (by kernel_rfl) rfl ?_
  have hmc : ∀ (K : Value → Heap → Prop) (h : Heap), makeSliceS Try.prog 29 (.int .i64 (n : Int)) (.int .i64 (n : Int)) h K = K (.slice (some ⟨h.size, 0, none⟩) n n) (h.push (.cells (zeros (.agg #[.slice none 0 0, .int .i64 0, .slice none 0 0, .slice none 0 0, .slice none 0 0]) n) 39)) := by
    intro K h
    have := make_slice (P := Try.prog) (K := K) (h := h) (k := .i64) (k' := .i64) (n := (n : Int)) Try.elS29 Try.szS39 Try.byS39 Try.zS39 rfl (by omega) (by omega) (by omega)
    simpa using this
  have hmi : ∀ (K : Value → Heap → Prop) (h : Heap), makeSliceS Try.prog 63 (.int .i64 (n : Int)) (.int .i64 (n : Int)) h K = K (.slice (some ⟨h.size, 0, none⟩) n n) (h.push (.cells (zeros (.bool false) n) 4)) := by
    intro K h
    have := make_slice (P := Try.prog) (K := K) (h := h) (k := .i64) (k' := .i64) (n := (n : Int)) Try.elS63 Try.szS4 Try.byS4 Try.zS4 rfl (by omega) (by omega) (by omega)
    simpa using this
  simp -dsimp
  refine drawn_by2 1 3 [⟨0, true, []⟩, ⟨2, true, []⟩, ⟨1, false, [2]⟩, ⟨3, false, []⟩, ⟨4, false, []⟩, ⟨5, false, []⟩, ⟨6, true, []⟩] [⟨0, true, []⟩, ⟨2, true, []⟩, ⟨3, false, [0]⟩, ⟨1, false, []⟩, ⟨4, false, []⟩, ⟨5, false, []⟩, ⟨6, true, []⟩] (by kernel_rfl) (by kernel_rfl) ?_ ?_
  · simp -dsimp [hmc, hmi, again_cons, boxS_eq]
    refine hK _ _ ⟨_, ⟨_, _, _, _, _, _, _, rfl, rfl, rtab_new hn ⟨?_, ?_, ?_⟩ (push_get ?_) (push_at (push_at (push_new _ _))) (push_at (push_get ?_))⟩, ((Keep.refl _ _).pushed _).pushed _ |>.pushed _, ?_⟩
    all_goals first | (simp; done) | (simp; omega) | (exact fun b hb => by rcases hb with h | h | h | h <;> first | omega | exact h.elim)
  · simp -dsimp [hmc, hmi, again_cons, boxS_eq]
    refine hK _ _ ⟨_, ⟨_, _, _, _, _, _, _, rfl, rfl, rtab_new hn ⟨?_, ?_, ?_⟩ (push_get ?_) (push_at (push_get ?_)) (push_at (push_at (push_new _ _)))⟩, ((Keep.refl _ _).pushed _).pushed _ |>.pushed _, ?_⟩
    all_goals first | (simp; done) | (simp; omega) | (exact fun b hb => by rcases hb with h | h | h | h <;> first | omega | exact h.elim)

set_option maxHeartbeats 4000000 in
set_option maxRecDepth 10000 in
theorem rget7_spec {v kv : Value} {G : Nat → Prop} {h : Heap} {T : Tab} {key : List Int} {m : Nat} (s : RTabT v G h T) (hk : SlRep rInt (Old h) h kv key) (hT' : T.length < 1000000000) (hm : m < 1000000000)
    (hs : ∀ (k : Nat) (d : CellM), T[k]? = some (some d) → Sml m d) :
    CallH Try.prog 23 #[v, kv] h fun r h' => ∃ ds, r = .tuple #[.agg ds.toArray, .bool (scanM T key).isSome] ∧ rCell.rep (Old h') h' ds ((scanM T key).getD zeroC) ∧ Keep none_ h h' := by
  refine callH_by fun K hK => ?_
  obtain ⟨bt, bc, bi, n, cc, ic, D, rfl, rfl, s⟩ := s
  refine enter [.cell 4 39, .tmp 5] Try.func23 rfl rfl (by kernel_rfl) rfl ?_
  obtain ⟨a0, c0, rfl, hc0, hc0'⟩ := hk.val
  have hlen := s.len
  simp -dsimp
  generalize hB : Array.push h _ = h1
  have kb : Keep none_ h h1 := by rw [← hB]; exact .push _ _ _
  have hZ : h1[h.size]? = some (.cells #[.slice none 0 0, .int .i64 0, .slice none 0 0, .slice none 0 0, .slice none 0 0] 39 (0, 0)) := by rw [← hB]; exact push_new _ _
  have slt := s.lt
  have s1 := s.mono kb.size fun b hb => kb.blk b (slt b hb) (fun h => h)
  have k1 := hk.mono ((Tr.of kb).ft (Nat.le_refl 0))
  have hset : ∀ (h2 : Heap) o, h.size < h2.size → (h2.setIfInBounds h.size o)[h.size]? = some o := fun h2 o hl => set_same _ hl
  refine loopc (σ := Nat) (fun i => [(0, .pointer (some ⟨bt, 0, none⟩)), (1, .slice a0 key.length c0), (4, .pointer (some ⟨h.size, 0, none⟩)), (6, .int .i64 i)])
    (fun i h2 => h2 = h1 ∧ i ≤ n ∧ scanM (T.take i) key = none) (fun i => n - i) 0 0 (fun i _ => i = n) (endR Try.prog [.cell 4 39, .tmp 5] K).rt (fun _ _ _ h => h) (by simp) ⟨rfl, Nat.zero_le _, rfl⟩ (by kernel_rfl) ?_ ?_
  · rintro i h2 g ⟨rfl, hi, hb⟩
    have wi := wrap_succ (k := i) (by omega)
    by_cases hin : i < n
    · have hpT : i < T.length := by omega
      obtain ⟨bk, csI, eI, oI, rI, cI⟩ := s1.I.elem i (by simpa using hpT)
      obtain ⟨bk2, csC, eC, oC, rC, cC⟩ := s1.C.elem i (by simpa using hpT)
      cases eI; cases eC
      have hI : cellIn h2[bi]? i = some (.bool (T[i]).isSome) := by
        have h0 : csI = [.bool (T[i]).isSome] := by simpa [rBool] using rI
        rw [h0] at cI
        have := cellsIn_cell (d := 0) cI (by decide)
        simpa [rBool] using this
      have htk : cellsM (T.take (i + 1)) = cellsM (T.take i) ++ (match T[i] with | some c => [c] | none => []) := cells_take hpT
      cases hTp : T[i] with
      | none =>
        rw [hTp] at hI htk
        simp -dsimp [hin, s1.top, idxA_nat hin, hI, wi]
        refine ⟨i + 1, by simp, rfl, ⟨rfl, by omega, ?_⟩, by show n - (i + 1) < n - i; omega⟩
        unfold scanM; rw [htk, List.append_nil]; exact hb
      | some c =>
        rw [hTp] at hI htk
        rw [List.getElem_map, hTp, Option.getD_some] at rC
        obtain ⟨ka, kc, sa, sc, na, nc, xa, xc, rfl, q1, _⟩ := cell_open rC
        have hk0 : cellIn h2[bc]? (i * 5) = some (.slice ka c.key.length kc) := cellsIn_cell (d := 0) cC (by decide)
        have hcC : HC.cellsIn h2[bc]? (i * 5) 5 = _ := cC
        simp -dsimp [hin, s1.top, idxA_nat hin, hI, hk0]
        refine call_by (rless_spec q1 k1) ?_
        rintro _ h3 ⟨rfl, hh⟩
        subst h3
        by_cases h0 : lessM c.key key = 0
        · have hfull : scanM T key = some c := by
            unfold scanM
            have e1 : cellsM T = cellsM (T.take (i + 1)) ++ cellsM (T.drop (i + 1)) := by
              conv => lhs; rw [← List.take_append_drop (i + 1) T]
              unfold cellsM; rw [List.filterMap_append]
            unfold scanM at hb
            rw [e1, htk, List.find?_append, List.find?_append, hb]
            simp [lessM_zero.1 h0]
          simp -dsimp [h0, s1.top, idxA_nat hin, hcC]
          have hd := hs i c (by rw [List.getElem?_eq_getElem hpT, hTp])
          refine call_by (rcopy_new (rCell.mono rC fun b hb => ⟨⟨nz, (s1.D b hb).1, fun h => h⟩, rfl⟩) (hd.small hm)) ?_
          rintro _ h4 ⟨es, rfl, re, k4⟩
          obtain ⟨ka5, kc5, sa5, sc5, na5, nc5, xa5, xc5, rfl, _⟩ := cell_open re
          have hl4 : h.size < h4.size := Nat.lt_of_lt_of_le (lt_of_blk hZ) k4.size
          simp -dsimp [k4.at hZ (fun h => h), hset _ _ hl4]
          refine hK _ _ ⟨_, by rw [hfull]; rfl, ?_, ⟨by simpa using Nat.le_of_lt hl4, fun b hb _ => by rw [set_other _ (by omega), k4.blk b (by have := kb.size; omega) (fun h => h), kb.blk b hb (fun h => h)]⟩⟩
          rw [hfull, Option.getD_some]
          have hlz := lt_of_blk hZ
          exact rCell.mono re fun b hb => ⟨⟨nz, by simpa using hb.2.1, fun h => h⟩, set_other _ (by have := hb.1.1; omega)⟩
        · have h0' : (lessM c.key key == 0) = false := by simpa using h0
          simp -dsimp [h0', wi]
          refine ⟨i + 1, by simp, rfl, ⟨rfl, by omega, ?_⟩, by show n - (i + 1) < n - i; omega⟩
          unfold scanM at hb ⊢
          rw [htk, List.find?_append, hb]
          simpa using fun e => h0 (lessM_zero.2 e)
    · simp -dsimp [hin, s1.top]
      exact ⟨rfl, i, by simp, rfl, ⟨rfl, hi, hb⟩, by omega⟩
  · rintro i h2 g ⟨rfl, hi, hb⟩ hin
    have hin' : i = n := hin
    have hl4 := lt_of_blk hZ
    simp -dsimp [hZ, hset _ _ hl4]
    rw [List.take_of_length_le (by omega)] at hb
    refine hK _ _ ⟨_, by rw [hb]; rfl, ?_, ⟨by simpa using Nat.le_of_lt hl4, fun b hb _ => by rw [set_other _ (by omega), kb.blk b hb (fun h => h)]⟩⟩
    rw [hb]
    exact ⟨_, _, _, _, rfl, .nil _ _ _, .nil _ _ _, .nil _ _ _, .nil _ _ _⟩

set_option maxHeartbeats 4000000 in
set_option maxRecDepth 10000 in
theorem rcells7_spec {v : Value} {G : Nat → Prop} {h : Heap} {T : Tab} {m : Nat} (s : RTabT v G h T) (hT' : T.length < 1000000) (hm : m < 1000000000)
    (hs : ∀ (k : Nat) (d : CellM), T[k]? = some (some d) → Sml m d) :
    CallH Try.prog 27 #[v] h fun r h' => SlRep rCell (Ft h.size none_ h') h' r (cellsM T) ∧ Keep none_ h h' := by
  refine callH_by fun K hK => ?_
  obtain ⟨bt, bc, bi, n, cc, ic, D, rfl, rfl, s⟩ := s
  refine enter [.tmp 2] Try.func27 rfl rfl (by kernel_rfl) rfl ?_
  have hlen := s.len
  simp -dsimp
  have slt := s.lt
  refine loopc (σ := Nat × Value) (fun t => [(0, .pointer (some ⟨bt, 0, none⟩)), (3, t.2), (4, .int .i64 t.1)])
    (fun t h1 => ∃ M own, Tr none_ M h h1 ∧ (∀ b, own = some b → h.size ≤ b) ∧ t.1 ≤ n ∧ Gr rCell 39 h.size M h1 t.2 (cellsM (T.take t.1)) own)
    (fun t => n - t.1) (0, .slice none 0 0) 0 (fun t _ => t.1 = n) noRet noRet_le (by simp) ⟨none_, none, .start _, (fun _ h => by cases h), Nat.zero_le _, .nil _ _ _ _ _⟩ (by kernel_rfl) ?_ ?_
  · rintro ⟨i, v⟩ h1 g ⟨M, own, t1, ho, hi, g1⟩
    simp only at hi g1
    obtain ⟨va, vn, vc, ev, hvn⟩ := g1.vals
    subst ev
    have wi := wrap_succ (k := i) (by omega)
    have s1 := s.mono t1.size fun b hb => t1.keep.blk b (slt b hb) (fun h => h)
    by_cases hin : i < n
    · have hpT : i < T.length := by omega
      obtain ⟨bk, csI, eI, oI, rI, cI⟩ := s1.I.elem i (by simpa using hpT)
      obtain ⟨bk2, csC, eC, oC, rC, cC⟩ := s1.C.elem i (by simpa using hpT)
      cases eI; cases eC
      have hI : cellIn h1[bi]? i = some (.bool (T[i]).isSome) := by
        have h0 : csI = [.bool (T[i]).isSome] := by simpa [rBool] using rI
        rw [h0] at cI
        have := cellsIn_cell (d := 0) cI (by decide)
        simpa [rBool] using this
      have htk : cellsM (T.take (i + 1)) = cellsM (T.take i) ++ (match T[i] with | some c => [c] | none => []) := cells_take hpT
      cases hTp : T[i] with
      | none =>
        rw [hTp] at hI htk
        simp -dsimp [hin, s1.top, idxA_nat hin, hI, wi]
        refine ⟨(i + 1, .slice va vn vc), by simp, rfl, ⟨M, own, t1, ho, by omega, ?_⟩, by simp; omega⟩
        rw [htk, List.append_nil]; exact g1
      | some c =>
        rw [hTp] at hI htk
        rw [List.getElem_map, hTp, Option.getD_some] at rC
        obtain ⟨ka, kc, sa, sc, na, nc, xa, xc, rfl, q1, _⟩ := cell_open rC
        have hcC : HC.cellsIn h1[bc]? (i * 5) 5 = _ := cC
        simp -dsimp [hin, s1.top, idxA_nat hin, hI, hcC]
        have hd := hs i c (by rw [List.getElem?_eq_getElem hpT, hTp])
        refine call_by (rcopy_new (rCell.mono rC fun b hb => ⟨⟨nz, (s1.D b hb).1, fun h => h⟩, rfl⟩) (hd.small hm)) ?_
        rintro _ h4 ⟨es, rfl, re, k4⟩
        have t4 := t1.call k4
        obtain ⟨ka5, kc5, sa5, sc5, na5, nc5, xa5, xc5, rfl, _⟩ := cell_open re
        simp -dsimp
        have hcl : (cellsM (T.take i)).length ≤ T.length := by
          rw [cells_len]
          exact Nat.le_trans (taken_le _) (by rw [List.length_take]; omega)
        refine gr_app1 rfl cellT (g1.call k4) t4.lt (rCell.mono re (t1.ret t1.size)) rfl (by omega) (by omega) ?_
        intro v5 h5 own5 g5 t5 k5 ho5
        obtain ⟨va5, vn5, vc5, ev5, _⟩ := g5.vals
        subst ev5
        simp -dsimp [wi]
        have hs4 := t4.size
        refine ⟨(i + 1, .slice va5 vn5 vc5), by simp, rfl, ⟨_, own5, t4.trans t5, fun b hb => (ho5 b hb).elim (ho b) (by omega), by omega, ?_⟩, by simp; omega⟩
        rw [htk]; exact g5
    · simp -dsimp [hin, s1.top]
      exact ⟨rfl, (i, .slice va vn vc), by simp, rfl, ⟨M, own, t1, ho, hi, g1⟩, by show i = n; omega⟩
  · rintro ⟨i, v⟩ h1 g ⟨M, own, t1, ho, hi, g1⟩ hin
    simp only at hi g1 hin
    simp -dsimp
    rw [List.take_of_length_le (by omega)] at g1
    exact hK _ _ ⟨g1.rep (Nat.le_refl _) ho, t1.keep⟩
end Go.Proofs

/-
  The library's sort of one cell.
-/
namespace Go.Proofs
open Go Go.HC
set_option maxRecDepth 10000 in
theorem len64_one (h : Heap) : CallH Try.prog 79 #[.int .u64 1] h fun r h' => (∃ z : Int, r = .int .i64 z) ∧ h' = h := by
  refine callH_by fun K hK => ?_
  refine enter [.tmp 2] Try.func79 rfl rfl (by kernel_rfl) rfl ?_
  simp -dsimp
  rw [indexS_string (c := 1) Try.strT9 (by decide) rfl]
  simp -dsimp
  exact hK _ _ ⟨⟨_, rfl⟩, rfl⟩
set_option maxRecDepth 10000 in
theorem len_one (h : Heap) : CallH Try.prog 64 #[.int .u64 1] h fun r h' => (∃ z : Int, r = .int .i64 z) ∧ h' = h := by
  refine callH_by fun K hK => ?_
  refine enter [.tmp 2] Try.func64 rfl rfl (by kernel_rfl) rfl ?_
  simp -dsimp
  refine call_by (len64_one h) ?_
  rintro _ h' ⟨⟨z, rfl⟩, hh⟩
  obtain rfl := hh.symm
  simp -dsimp
  exact hK _ _ ⟨⟨z, rfl⟩, rfl⟩
set_option maxRecDepth 10000 in
theorem insertion1 (v : Value) (fv : Value) (h : Heap) : CallH Try.prog 83 #[v, .int .i64 0, .int .i64 1, fv] h fun r h' => r = .tuple #[] ∧ h' = h := by
  refine callH_by fun K hK => ?_
  refine enter [] Try.func83 rfl rfl (by kernel_rfl) rfl ?_
  have w1 : IntKind.i64.wrap 1 = 1 := by decide
  simp -dsimp [w1]
  refine loop' (σ := Unit) (fun _ => [(2, .int .i64 1), (8, .int .i64 1)]) (fun _ => []) (fun _ h' => h' = h) (fun _ => 0) () ?_ rfl rfl (by kernel_rfl) ?_
  · intro p hp
    simp at hp
    rcases hp with rfl | rfl <;> simp
  · rintro _ h' g rfl
    simp -dsimp
    exact hK _ _ ⟨rfl, rfl⟩
set_option maxHeartbeats 4000000 in
set_option maxRecDepth 10000 in
theorem pdq1 (v : Value) (z : Int) (fv : Value) (h : Heap) : CallH Try.prog 68 #[v, .int .i64 0, .int .i64 1, .int .i64 z, fv] h fun r h' => r = .tuple #[] ∧ h' = h := by
  refine callH_by fun K hK => ?_
  refine enter [] Try.func68 rfl rfl (by kernel_rfl) rfl ?_
  simp -dsimp
  refine loop' (σ := Unit) (fun _ => [(0, v), (1, .int .i64 0), (2, .int .i64 1), (4, fv)]) (fun _ => []) (fun _ h' => h' = h) (fun _ => 0) () ?_ rfl rfl (by kernel_rfl) ?_
  · intro p hp
    simp at hp
    rcases hp with rfl | rfl | rfl | rfl <;> simp
  · rintro _ h' g rfl
    simp -dsimp
    refine call_by (insertion1 v fv h') ?_
    rintro _ h2 ⟨rfl, hh⟩
    obtain rfl := hh.symm
    simp -dsimp
    exact hK _ _ ⟨rfl, rfl⟩
set_option maxRecDepth 10000 in
theorem sort1_spec (a : Option Addr) (c : Nat) (fv : Value) (h : Heap) : CallH Try.prog 61 #[.slice a 1 c, fv] h fun r h' => r = .tuple #[] ∧ h' = h := by
  refine callH_by fun K hK => ?_
  refine enter [] Try.func61 rfl rfl (by kernel_rfl) rfl ?_
  simp -dsimp
  refine call_by (len_one h) ?_
  rintro _ h' ⟨⟨z, rfl⟩, hh⟩
  obtain rfl := hh.symm
  simp -dsimp
  refine call_by (pdq1 _ z fv h) ?_
  rintro _ h' ⟨rfl, hh⟩
  obtain rfl := hh.symm
  simp -dsimp
  exact hK _ _ ⟨rfl, rfl⟩
end Go.Proofs

/-
  The program's group-by of one cell; a key's cell; the law's example.
-/
namespace Go.HC
theorem put_newOne (c : CellM) : putM (newM 1) c = some [some c] := by
  have hf : findM (newM 1) c.key = some 0 := by
    have h0 : probe c.key (newM 1).length 0 = 0 := Nat.mod_one _
    have := find_hit (T := newM 1) (key := c.key) (i := 0) (by decide) (fun j hj => by omega) (by rw [h0]; rfl)
    rw [h0] at this
    exact this
  unfold putM
  rw [hf]
  rfl
end Go.HC
namespace Go.Proofs
open Go Go.HC

set_option maxHeartbeats 40000000 in
set_option maxRecDepth 10000 in
theorem fit1_spec {F : Nat → Prop} {h : Heap} {cs : List Value} {c : CellM} {sb : Nat} (hr : rCell.rep F h cs c) (hF : ∀ b, F b → b < h.size) (hc : CellSmall c) (hs : h[sb]? = some (.cells cs.toArray 39 (0, 0))) :
    CallH Try.prog 54 #[.slice (some ⟨sb, 0, none⟩) 1 1, .int .i64 1] h fun r h' => ∃ E v own, r = .tuple #[v, .bool true] ∧ Grow rCell 39 E h' v [c] own ∧ Keep none_ h h' ∧ (∀ b, E b → h.size ≤ b ∧ b < h'.size) ∧ ∀ b, own = some b → h.size ≤ b := by
  refine callH_by fun K hK => ?_
  have hlen := rCell.len hr
  have hone := rCell.one hr
  obtain ⟨v0, v1, v2, v3, v4, rfl⟩ : ∃ v0 v1 v2 v3 v4, cs = [v0, v1, v2, v3, v4] := by
    match cs, hlen with
    | [a, b, c, d, e], _ => exact ⟨a, b, c, d, e, rfl⟩
  simp only [List.all_cons, List.all_nil, Bool.and_true, Bool.and_eq_true] at hone
  obtain ⟨u0, u1, u2, u3, u4⟩ := hone
  have hsb := lt_of_blk hs
  refine enter [.tmp 4, .tmp 5] Try.func54 rfl rfl (by kernel_rfl) rfl ?_
  have hidx : ∀ (K : Value → Heap → Prop) (h : Heap), indexAddrS Try.prog 29 (.slice (some ⟨sb, 0, none⟩) 1 1) (.int .i64 0) h K = K (.pointer (some ⟨sb, 0, none⟩)) h := by
    intro K h
    rw [indexAddrS_slice (i := 0) _ _ _ _ _ (by omega) (by omega) rfl]
    simp [elSz]
  simp -dsimp
  refine call_by (hnew_spec 1 (by decide) h) ?_
  rintro tv h0 ⟨F0, t0, k0, n0⟩
  have e0 := k0.size
  obtain ⟨bs, htv⟩ : ∃ bs, tv = .pointer (some ⟨bs, 0, none⟩) := by
    obtain ⟨bs, _, _, _, rfl, _⟩ := t0; exact ⟨bs, rfl⟩
  subst htv
  simp -dsimp
  refine loop' (σ := Bool) (fun t => [(6, .pointer (some ⟨bs, 0, none⟩)), (12, .slice (some ⟨sb, 0, none⟩) 1 1), (13, .int .i64 1), (14, .int .i64 (if t = true then 1 else 0))]) (fun _ => [])
    (fun t h1 => (t = false ∧ h1 = h0) ∨ (t = true ∧ Keep none_ h h1 ∧ ∃ F1, TabAt (.pointer (some ⟨bs, 0, none⟩)) F1 h1 [some c] ∧ ∀ b, F1 b → h.size ≤ b))
    (fun t => if t = true then 0 else 1) false ?_ rfl (.inl ⟨rfl, rfl⟩) (by kernel_rfl) ?_
  · intro p hp
    simp at hp
    rcases hp with rfl | rfl | rfl | rfl <;> simp
  · rintro t h1 g (⟨rfl, rfl⟩ | ⟨rfl, k1, F1, t1, n1⟩)
    · have hs0 := k0.at hs (fun h => h)
      simp -dsimp [hidx, hs0, u0, u1, u2, u3, u4]
      generalize hB2 : Array.setIfInBounds _ h1.size _ = h2
      have k2 : Keep none_ h1 h2 := by rw [← hB2]; exact ((Keep.refl none_ h1).pushed _).setted _ (fun hh => absurd hh (by omega))
      have hz2 : h2.size = h1.size + 1 := by rw [← hB2]; simp
      have k02 := k0.trans k2 (fun _ _ h => h)
      have hr2 := rCell.mono hr fun b hb => (⟨hb, k02.blk b (hF b hb) (fun h => h)⟩ : F b ∧ h2[b]? = h[b]?)
      have t2 := t0.keep k2 (fun _ _ h => h)
      have hsm : TabSmall (newM 1) := fun k d hd => by
        unfold newM at hd
        rw [List.getElem?_replicate] at hd
        split at hd <;> cases hd
      refine call_by (hput_spec t2 (by decide) hsm hr2 (fun b hb => by have := hF b hb; omega) hc) ?_
      rintro _ h3 ⟨rfl, F3, t3, k3, n3⟩
      rw [put_newOne] at t3 ⊢
      have e3 := k3.size
      simp -dsimp
      refine ⟨true, ?_, rfl, .inr ⟨rfl, ⟨by omega, fun b hb _ => by rw [k3.blk b (by omega) (fun hf => by have := n0 b hf; omega), k02.blk b hb (fun h => h)]⟩, F3, t3, fun b hb => (n3 b hb).elim (n0 b) (fun h => by omega)⟩, by simp⟩
      intro p hp
      simp at hp
      rcases hp with rfl | rfl | rfl | rfl <;> simp
    · have hsm : TabSmall [some c] := fun k d hd => by
        match k, hd with
        | 0, hd => simp at hd; rw [← hd]; exact hc
        | k + 1, hd => simp at hd
      simp -dsimp
      refine call_by (hcells_spec t1 (show 1 < 1000000000 from by decide) hsm) ?_
      rintro _ h2 ⟨E, own, hg, k2, hE, ho⟩
      have hg' : Grow rCell 39 E h2 _ [c] own := hg
      obtain ⟨a2, c2, rfl⟩ := hg'.val
      have e1 := k1.size
      have hl1 : [c].length = 1 := rfl
      simp -dsimp
      refine call_by (sort1_spec a2 c2 _ h2) ?_
      rintro _ h2' ⟨rfl, hh⟩
      obtain rfl := hh.symm
      simp -dsimp
      exact hK _ _ ⟨E, _, own, rfl, hg', k1.trans k2 (fun _ _ h => h), fun b hb => by have := hE b hb; omega, fun b hb => by have := ho b hb; omega⟩

set_option maxRecDepth 10000 in
theorem hgroup1_spec {F : Nat → Prop} {h : Heap} {cs : List Value} {c : CellM} {sb : Nat} (hr : rCell.rep F h cs c) (hF : ∀ b, F b → b < h.size) (hc : CellSmall c) (hs : h[sb]? = some (.cells cs.toArray 39 (0, 0))) :
    CallH Try.prog 28 #[.slice (some ⟨sb, 0, none⟩) 1 1, .int .i64 1] h fun r h' => ∃ E v own, r = .tuple #[v, .int .i64 1] ∧ Grow rCell 39 E h' v [c] own ∧ Keep none_ h h' ∧ (∀ b, E b → h.size ≤ b ∧ b < h'.size) ∧ ∀ b, own = some b → h.size ≤ b := by
  refine callH_by fun K hK => ?_
  refine enter [.tmp 4, .tmp 5] Try.func28 rfl rfl (by kernel_rfl) rfl ?_
  simp -dsimp
  refine call_by (K' := fun r h' => ∃ E v own, r = .tuple #[v, .int .i64 1] ∧ Grow rCell 39 E h' v [c] own ∧ Keep none_ h h' ∧ (∀ b, E b → h.size ≤ b ∧ b < h'.size) ∧ ∀ b, own = some b → h.size ≤ b) ?_ ?_
  · refine callH_by fun K hK => ?_
    refine enter [.tmp 6, .tmp 7] Try.func44 rfl rfl (by kernel_rfl) rfl ?_
    simp -dsimp
    refine call_by (fit1_spec hr hF hc hs) ?_
    rintro _ h1 ⟨E, v, own, rfl, hg, k1, hE, ho⟩
    simp -dsimp
    exact hK _ _ ⟨E, v, own, rfl, hg, k1, hE, ho⟩
  · rintro _ h1 ⟨E, v, own, rfl, hg, k1, hE, ho⟩
    obtain ⟨a1, c1, rfl⟩ := hg.val
    simp -dsimp
    refine call_by (cloneCell_spec hg (fun b hb => (hE b hb).2) (by simp)) ?_
    rintro _ h2 ⟨own2, hg2, k2, ho2⟩
    obtain ⟨a2, c2, rfl⟩ := hg2.val
    have e1 := k1.size
    have e2 := k2.size
    simp -dsimp
    exact hK _ _ ⟨E, _, own2, rfl, hg2, k1.trans k2 (fun _ _ h => h), fun b hb => by have := hE b hb; omega, fun b hb => by have := ho2 b hb; omega⟩
end Go.Proofs

/-
  The program's table: a key's cell; the law's example.
-/
namespace Go.Proofs
open Go Go.HC

set_option maxHeartbeats 40000000 in
set_option maxRecDepth 10000 in
theorem hget_spec {v : Value} {F G : Nat → Prop} {h : Heap} {T : Tab} (s : TabAt v F h T) (hT : T.length < 1000000000) (hsm : TabSmall T) {kv : Value} {key : List Int} (hk : SlRep rInt G h kv key) (hG : ∀ b, G b → b < h.size) :
    CallH Try.prog 22 #[v, kv] h fun r h' => ∃ ds E, r = .tuple #[.agg ds.toArray, .bool (getM T key).isSome] ∧ rCell.rep E h' ds ((getM T key).getD ⟨[], 0, [], [], []⟩) ∧ Keep none_ h h' ∧ ∀ b, E b → h.size ≤ b ∧ b < h'.size := by
  refine callH_by fun K hK => ?_
  obtain ⟨bs, sv, os, R, rfl, rfl, s⟩ := s
  obtain ⟨ka, kc, rfl, hkc, hkc'⟩ := hk.val
  refine enter [.cell 4 39, .tmp 5] Try.func22 rfl rfl (by kernel_rfl) rfl ?_
  have hRl : ∀ b, R b → b < h.size := fun b hb => (s.sep b hb).1
  obtain ⟨ta, tc, rfl⟩ := s.slots.val
  simp -dsimp
  generalize hB : h.push _ = h0
  have k0 : Keep none_ h h0 := by rw [← hB]; exact .push _ _ _
  have hz0 : h0.size = h.size + 1 := by rw [← hB]; simp
  have hr0 : h0[h.size]? = some (.cells #[.slice none 0 0, .int .i64 0, .slice none 0 0, .slice none 0 0, .slice none 0 0] 39 (0, 0)) := by rw [← hB]; exact push_new _ _
  have s0 := s.mono (h' := h0) (by omega) fun b hb => k0.blk b (s.lt b hb) (fun h => h)
  have q1 : SlRep rInt G h0 (.slice ka key.length kc) key := hk.mono fun b hb => ⟨hb, k0.blk b (hG b hb) (fun h => h)⟩
  refine call_by (find_spec s0.at hT q1 (fun b hb => by have := hG b hb; omega)) ?_
  rintro _ h1 ⟨rfl, k1⟩
  have k01 := k0.trans k1 (fun _ _ h => h)
  have e1 := k1.size
  have s1 := s0.mono (h' := h1) e1 fun b hb => k1.blk b (s0.lt b hb) (fun h => h)
  have hs1 := s1.str
  have hr1 := k1.at hr0 (fun h => h)
  have hset : ∀ o, (h1.setIfInBounds h.size o)[h.size]? = some o := fun o => set_same _ (by omega)
  have nrep : ∀ h', rCell.rep none_ h' [.slice none 0 0, .int .i64 0, .slice none 0 0, .slice none 0 0, .slice none 0 0] ⟨[], 0, [], [], []⟩ := fun h' => ⟨_, _, _, _, rfl, .nil _ _ _, .nil _ _ _, .nil _ _ _, .nil _ _ _⟩
  have kset : ∀ o, Keep none_ h (h1.setIfInBounds h.size o) := fun o => k01.setted _ (fun hh => absurd hh (by omega))
  cases hf : findM T key with
  | none =>
    have hg : getM T key = none := by unfold getM; rw [hf]
    rw [hg] at hK
    simp -dsimp [hr1, hset]
    exact hK _ _ ⟨_, none_, rfl, nrep _, kset _, fun b hb => hb.elim⟩
  | some k =>
    obtain ⟨hkl, hor, _⟩ := find_spec_some hf
    have hneg : ¬ ((k : Int) < 0) := by omega
    obtain ⟨bk, es, rfl, rfl, hrs, hce⟩ := s1.slots.elem k hkl
    obtain ⟨w0, wn, w2, w3, w4, rfl, hkey, u0, u2, u3, u4⟩ := slot_cells hrs
    have hce' : HC.cellsIn h1[bk]? (k * 6) 6 = some [w0, .int .i64 wn, w2, w3, w4, .bool T[k].isSome] := hce
    have hc5 : cellIn h1[bk]? (k * 6 + 5) = some (.bool T[k].isSome) := cellsIn_cell (d := 5) hce' (by decide)
    have hidx : ∀ (K : Value → Heap → Prop) (h : Heap), indexAddrS Try.prog 60 (.slice (some ⟨bk, 0, none⟩) T.length tc) (.int .i64 (k : Int)) h K = K (.pointer (some ⟨bk, k * 6, none⟩)) h := by
      intro K h
      rw [indexAddrS_slice _ _ _ _ _ _ (by omega) (by omega) rfl]
      simp [elSz]
    have hsat : T[k]? = some T[k] := List.getElem?_eq_getElem hkl
    have hgk : getM T key = T[k] := by unfold getM; rw [hf]; simp only; rw [hsat]; rfl
    cases hta : T[k] with
    | none =>
      rw [hta] at hc5 hgk
      rw [hgk] at hK
      simp -dsimp [hneg, hs1, hidx, hc5, hr1, hset]
      exact hK _ _ ⟨_, none_, rfl, nrep _, kset _, fun b hb => hb.elim⟩
    | some d =>
      rw [hta] at hc5 hgk hrs
      rw [hgk] at hK
      obtain ⟨ds0, hd1, hd2⟩ := hrs
      have hdl := rCell.len hd1
      obtain rfl : ds0 = [w0, .int .i64 wn, w2, w3, w4] := by
        match ds0, hdl with
        | [a, b, c, d, e], _ =>
          simp at hd2
          obtain ⟨rfl, rfl, rfl, rfl, rfl⟩ := hd2
          rfl
      have hc05 : HC.cellsIn h1[bk]? (k * 6) 5 = some [w0, .int .i64 wn, w2, w3, w4] := by
        have := hce'
        cases hb : h1[bk]? with
        | none => rw [hb] at this; cases this
        | some o =>
          cases o with
          | cells c e fz =>
            rw [hb, cellsIn_some] at this
            rw [cellsIn_some]
            split at this
            · rename_i hle
              rw [if_pos (by omega)]
              simp only [Option.some.injEq] at this
              have h6 : ((c.toList.drop (k * 6)).take 6).take 5 = (c.toList.drop (k * 6)).take 5 := by rw [List.take_take]; rfl
              rw [← h6, this]; rfl
            · cases this
          | _ => rw [hb] at this; cases this
      have hds : CellSmall d := hsm k d (by rw [hsat, hta])
      simp -dsimp [hneg, hs1, hidx, hc5, hc05]
      refine call_by (hashOwn_spec hd1 (fun b hb => by have := hRl b hb; omega) hds) ?_
      rintro _ h2 ⟨ds, E, rfl, hr2, k2, hE⟩
      have e2 := k2.size
      have hlen3 := rCell.len hr2
      have hone3 := rCell.one hr2
      obtain ⟨z0, z1, z2, z3, z4, rfl⟩ : ∃ z0 z1 z2 z3 z4, ds = [z0, z1, z2, z3, z4] := by
        match ds, hlen3 with
        | [a, b, c, d, e], _ => exact ⟨a, b, c, d, e, rfl⟩
      simp only [List.all_cons, List.all_nil, Bool.and_true, Bool.and_eq_true] at hone3
      obtain ⟨y0, y1, y2, y3, y4⟩ := hone3
      have hr2' := k2.at hr1 (fun h => h)
      have hset2 : ∀ o, (h2.setIfInBounds h.size o)[h.size]? = some o := fun o => set_same _ (by omega)
      simp -dsimp [hr2', hset2, y0, y1, y2, y3, y4]
      generalize hH : h2.setIfInBounds h.size _ = h3
      have hz3 : h3.size = h2.size := by rw [← hH]; simp
      have hold : ∀ b, b ≠ h.size → h3[b]? = h2[b]? := fun b hn => by rw [← hH, set_other _ (fun e => hn e.symm)]
      refine hK _ _ ⟨[z0, z1, z2, z3, z4], E, rfl, rCell.mono hr2 fun b hb => ⟨hb, hold b (by have := (hE b hb).1; omega)⟩, ⟨by omega, fun b hb _ => by rw [hold b (by omega), k2.blk b (by omega) (fun h => h), k01.blk b hb (fun h => h)]⟩, fun b hb => by have := hE b hb; omega⟩
end Go.Proofs

/-
  The law's example; numbers within a bound; keys that are held against each other.
-/
namespace Go.HC
def cell1 (k : Int) : CellM := ⟨[k], 1, [], [], []⟩
theorem cell1_small (k : Int) : CellSmall (cell1 k) := ⟨by simp [cell1], by simp [cell1], by simp [cell1], by simp [cell1]⟩
end Go.HC
namespace Go.Proofs
open Go Go.HC

theorem within_spec (a n : Int) (hn : 0 < n) (hn' : n < 1000000000) (h : Heap) : CallH Try.prog 15 #[.int .i64 a, .int .i64 n] h fun r h' => r = .int .i64 (withinM a n) ∧ h' = h := by
  refine enter [.tmp 4] Try.func15 rfl rfl (by kernel_rfl) rfl ?_
  have h1 := tmod_bound (a := a) hn
  have hne : n ≠ 0 := by omega
  simp -dsimp [hne]
  by_cases hlt : a.tmod n < 0
  · have hw : IntKind.i64.wrap (a.tmod n + n) = a.tmod n + n := wrap_i64 (by omega) (by omega)
    simp -dsimp [hlt, hw, withinM]
  · simp -dsimp [hlt, withinM]

theorem rep_key1 {h : Heap} {b : Nat} {k : Int} {e : TypeId} {fz : Nat × Nat} (hb : h[b]? = some (.cells #[.int .i64 k] e fz)) : SlRep rInt (fun x => x = b) h (.slice (some ⟨b, 0, none⟩) 1 1) [k] :=
  ⟨_, 1, _, rfl, Nat.le_refl _, by decide, .inr ⟨b, 0, _, _, _, rfl, rfl, hb, rfl⟩, ints_map.2 rfl⟩
theorem rep_cell1 {h : Heap} {b : Nat} {k : Int} {e : TypeId} {fz : Nat × Nat} (hb : h[b]? = some (.cells #[.int .i64 k] e fz)) : rCell.rep (fun x => x = b) h [.slice (some ⟨b, 0, none⟩) 1 1, .int .i64 1, .slice none 0 0, .slice none 0 0, .slice none 0 0] (cell1 k) :=
  ⟨_, _, _, _, rfl, rep_key1 hb, .nil _ _ _, .nil _ _ _, .nil _ _ _⟩
theorem new1_small : TabSmall (newM 1) := fun k d hd => by
  unfold newM at hd
  rw [List.getElem?_replicate] at hd
  split at hd <;> cases hd
theorem one_small {c : CellM} (hc : CellSmall c) : TabSmall [some c] := fun k d hd => by
  match k, hd with
  | 0, hd => simp at hd; rw [← hd]; exact hc
  | k + 1, hd => simp at hd

set_option maxHeartbeats 40000000 in
set_option maxRecDepth 10000 in
theorem hknown_spec (h : Heap) : CallH Try.prog 11 #[] h fun r h' => r = .bool true ∧ Keep none_ h h' := by
  refine callH_by fun K hK => ?_
  refine enter [.tmp 0] Try.func11 rfl rfl (by kernel_rfl) rfl ?_
  simp -dsimp
  refine call_by (hnew_spec 1 (by decide) h) ?_
  rintro tv h0 ⟨F0, t0, k0, n0⟩
  have e0 := k0.size
  obtain ⟨bs, htv⟩ : ∃ bs, tv = .pointer (some ⟨bs, 0, none⟩) := by
    obtain ⟨bs, _, _, _, rfl, _⟩ := t0; exact ⟨bs, rfl⟩
  subst htv
  simp -dsimp
  refine call_by (len_spec t0) ?_
  rintro _ h0' ⟨rfl, hh⟩
  obtain rfl := hh.symm
  rw [newM_taken]
  simp -dsimp
  generalize hB : Array.setIfInBounds _ (h0.size + 1) _ = h1
  have hz1 : h1.size = h0.size + 2 := by rw [← hB]; simp
  have k1 : Keep none_ h0 h1 := by rw [← hB]; exact (((Keep.refl none_ h0).pushed _).pushed _).setted _ (fun hh => absurd hh (by omega))
  have hk1 : h1[h0.size]? = some (.cells #[.int .i64 3] 3 (0, 0)) := by rw [← hB, set_other _ (by omega)]; exact push_at (push_new _ _)
  have hc1 : h1[h0.size + 1]? = some (.cells #[.slice (some ⟨h0.size, 0, none⟩) 1 1, .int .i64 1, .slice none 0 0, .slice none 0 0, .slice none 0 0] 39 (0, 0)) := by rw [← hB]; exact set_same _ (by simp)
  have t1 := t0.keep k1 (fun _ _ h => h)
  have l0 := t0.lt
  refine call_by (hput_spec t1 (by decide) new1_small (rep_cell1 hk1) (fun b hb => by omega) (cell1_small 3)) ?_
  rintro _ h2 ⟨rfl, F2, t2, k2, n2⟩
  rw [put_newOne] at t2 ⊢
  replace t2 : TabAt (.pointer (some ⟨bs, 0, none⟩)) F2 h2 [some (cell1 3)] := t2
  have e2 := k2.size
  have hk2 := k2.at hk1 (fun hf => by have := l0 _ hf; omega)
  have hc2 := k2.at hc1 (fun hf => by have := l0 _ hf; omega)
  have k02 : Keep none_ h h2 := ⟨by omega, fun b hb _ => by rw [k2.blk b (by omega) (fun hf => by have := n0 b hf; omega), k1.blk b (by omega) (fun h => h), k0.blk b hb (fun h => h)]⟩
  have n2' : ∀ b, F2 b → h.size ≤ b := fun b hb => (n2 b hb).elim (n0 b) (fun h => by omega)
  simp -dsimp
  generalize hB3 : h2.push _ = h3
  have hz3 : h3.size = h2.size + 1 := by rw [← hB3]; simp
  have k3 : Keep none_ h2 h3 := by rw [← hB3]; exact .push _ _ _
  have hk3 : h3[h2.size]? = some (.cells #[.int .i64 4] 3 (0, 0)) := by rw [← hB3]; exact push_new _ _
  have hc3 := k3.at hc2 (fun h => h)
  have hkk3 := k3.at hk2 (fun h => h)
  have t3 := t2.keep k3 (fun _ _ h => h)
  have l3 := t3.lt
  refine call_by (hput_spec t3 (by decide) (one_small (cell1_small 3)) (rep_cell1 hk3) (fun b hb => by omega) (cell1_small 4)) ?_
  rintro _ h4 ⟨rfl, F4, t4, k4, n4⟩
  have hp4 : putM [some (cell1 3)] (cell1 4) = none := by kernel_rfl
  rw [hp4] at t4 ⊢
  replace t4 : TabAt (.pointer (some ⟨bs, 0, none⟩)) F4 h4 [some (cell1 3)] := t4
  have e4 := k4.size
  have l2 := t2.lt
  have hc4 := k4.at hc3 (fun hf => by
    rcases n2 _ hf with h | h
    · have := l0 _ h; omega
    · omega)
  have hkk4 := k4.at hkk3 (fun hf => by
    rcases n2 _ hf with h | h
    · have := l0 _ h; omega
    · omega)
  have k04 : Keep none_ h h4 := ⟨by omega, fun b hb _ => by rw [k4.blk b (by omega) (fun hf => by have := n2' b hf; omega), k3.blk b (by omega) (fun h => h), k02.blk b hb (fun h => h)]⟩
  simp -dsimp
  generalize hB5 : h4.push _ = h5
  have hz5 : h5.size = h4.size + 1 := by rw [← hB5]; simp
  have k5 : Keep none_ h4 h5 := by rw [← hB5]; exact .push _ _ _
  have hk5 : h5[h4.size]? = some (.cells #[.int .i64 3] 3 (0, 0)) := by rw [← hB5]; exact push_new _ _
  have t5 := t4.keep k5 (fun _ _ h => h)
  have hc5 := k5.at hc4 (fun h => h)
  have hkk5 := k5.at hkk4 (fun h => h)
  refine call_by (hget_spec t5 (by decide) (one_small (cell1_small 3)) (rep_key1 hk5) (fun b hb => by omega)) ?_
  rintro _ h6 ⟨ds, E, rfl, hr6, k6, hE⟩
  have hg6 : getM [some (cell1 3)] [3] = some (cell1 3) := by kernel_rfl
  rw [hg6] at hr6 ⊢
  obtain ⟨kv, sv, nv, xv, rfl, r1, r2, r3, r4⟩ := hr6
  obtain ⟨ka, kc, rfl, _, _⟩ := r1.val
  obtain ⟨sa, sc, rfl, _, _⟩ := r2.val
  obtain ⟨na, nc, rfl, _, _⟩ := r3.val
  obtain ⟨xa, xc, rfl, _, _⟩ := r4.val
  have e6 := k6.size
  have t6 := t5.keep k6 (fun _ _ h => h)
  have hc6 := k6.at hc5 (fun h => h)
  have hkk6 := k6.at hkk5 (fun h => h)
  simp -dsimp
  generalize hB7 : Array.setIfInBounds _ h6.size _ = h7
  have hz7 : h7.size = h6.size + 1 := by rw [← hB7]; simp
  have k7 : Keep none_ h6 h7 := by rw [← hB7]; exact ((Keep.refl none_ h6).pushed _).setted _ (fun hh => absurd hh (by omega))
  have hg7 : h7[h6.size]? = some (.cells #[.slice ka (cell1 3).key.length kc, .int .i64 (cell1 3).count, .slice sa (cell1 3).sum.length sc, .slice na (cell1 3).mn.length nc, .slice xa (cell1 3).mx.length xc] 39 (0, 0)) := by rw [← hB7]; exact set_same _ (by simp)
  have hc7 := k7.at hc6 (fun h => h)
  have hkk7 := k7.at hkk6 (fun h => h)
  have t7 := t6.keep k7 (fun _ _ h => h)
  simp -dsimp [hc7]
  generalize hB8 : h7.push _ = h8
  have hz8 : h8.size = h7.size + 1 := by rw [← hB8]; simp
  have k8 : Keep none_ h7 h8 := by rw [← hB8]; exact .push _ _ _
  have hs8 : h8[h7.size]? = some (.cells #[.slice (some ⟨h0.size, 0, none⟩) 1 1, .int .i64 1, .slice none 0 0, .slice none 0 0, .slice none 0 0] 39 (0, 0)) := by rw [← hB8]; exact push_new _ _
  have hkk8 := k8.at hkk7 (fun h => h)
  have t8 := t7.keep k8 (fun _ _ h => h)
  have hg8 := k8.at hg7 (fun h => h)
  refine call_by (hgroup1_spec (rep_cell1 hkk8) (fun b hb => by omega) (cell1_small 3) hs8) ?_
  rintro _ h9 ⟨E9, u9, own9, rfl, hgg9, k9, hE9, ho9⟩
  have e9 := k9.size
  have hg9 := k9.at hg8 (fun h => h)
  have t9 := t8.keep k9 (fun _ _ h => h)
  have hct : (cell1 3).count = 1 := rfl
  have htk : takenM [some (cell1 3)] = 1 := rfl
  simp -dsimp [hg9, hct]
  refine call_by (len_spec t9) ?_
  rintro _ h9' ⟨rfl, hh⟩
  obtain rfl := hh.symm
  rw [htk]
  simp -dsimp
  exact hK _ _ ⟨rfl, ((((k04.trans k5 (fun _ _ h => h)).trans k6 (fun _ _ h => h)).trans k7 (fun _ _ h => h)).trans k8 (fun _ _ h => h)).trans k9 (fun _ _ h => h)⟩
end Go.Proofs

/-
  Cells of facts; tables that are given the same cells.
-/
namespace Go.HC
theorem pick_mem {s x : Int} : ∀ {xs : List Int} {i : Nat}, x ∈ pickM s i xs → x ∈ xs
  | [], _, h => by cases h
  | y :: ys, i, h => by
    rw [pickM] at h
    split at h
    · rcases List.mem_cons.1 h with rfl | h
      · exact List.mem_cons_self
      · exact List.mem_cons_of_mem _ (pick_mem h)
    · exact List.mem_cons_of_mem _ (pick_mem h)
/-- How many dimensions a set has, of so many. -/
def lvlM (s : Int) : Nat → Nat → Nat
  | _, 0 => 0
  | i, n + 1 => (if bitM s i then 1 else 0) + lvlM s (i + 1) n
theorem pick_len (s : Int) : ∀ (xs : List Int) (i : Nat), (pickM s i xs).length = lvlM s i xs.length
  | [], _ => rfl
  | x :: xs, i => by
    rw [pickM, List.length_cons, lvlM]
    split <;> simp [pick_len s xs (i + 1)] <;> omega
/-- Cells of facts: rows of measures alike long, keys alike long, of few values. -/
structure CellOk (m n : Nat) (c : CellM) : Prop where
  sml : Sml m c
  len : c.key.length = n
  key : ∀ v ∈ c.key, 0 ≤ v ∧ v < 16
theorem CellOk.keyOk {m n : Nat} {c : CellM} (h : CellOk m n c) : KeyOk c.key := fun v hv => by have := h.key v hv; omega
theorem CellOk.join {m n : Nat} {a b : CellM} (ha : CellOk m n a) (hb : CellOk m n b) : CellOk m n (joinC a b) := ⟨ha.sml.join hb.sml, ha.len, ha.key⟩
theorem FactsOk.cell {s : SchM} {rows : List RowM} (h : FactsOk s rows) (a : Int) : ∀ c ∈ rows.map (ofM a), CellOk s.ms.toNat (lvlM a 0 s.cards.length) c := by
  intro c hc
  obtain ⟨r, hr, rfl⟩ := List.mem_map.1 hc
  have hk := h.key r hr
  have hd := h.dims
  refine ⟨?_, ?_, fun v hv => ?_⟩
  · rw [← (h.m r hr).1]; exact .of (by omega)
  · simp only [ofM]; rw [pick_len, hk.1]
  · have hm := pick_mem hv
    obtain ⟨i, hi, rfl⟩ := List.getElem_of_mem hm
    have h1 := hk.2 i hi (by omega)
    have h2 := h.cards _ (List.getElem_mem (show i < s.cards.length by omega))
    omega
theorem put_cells {T T' : Tab} {c : CellM} {p : CellM → Prop} (hT : ∀ (k : Nat) (d : CellM), T[k]? = some (some d) → p d) (hc : p c) (hj : ∀ d, p d → p (joinC d c)) (h : putM T c = some T') : ∀ (k : Nat) (d : CellM), T'[k]? = some (some d) → p d := by
  unfold putM at h
  cases hf : findM T c.key with
  | none => rw [hf] at h; cases h
  | some k =>
    rw [hf] at h
    simp only [Option.some.injEq] at h
    intro j d hd
    rw [← h, List.getElem?_set] at hd
    split at hd
    · split at hd
      · simp only [Option.some.injEq] at hd
        rename_i e1 _
        subst e1
        split at hd
        · rename_i d' hd'
          cases hd
          exact hj d' (hT _ _ hd')
        · cases hd; exact hc
      · cases hd
    · exact hT j d hd
end Go.HC
namespace Go.Proofs
open Go Go.HC

/-- Two tables, the program's and the document's, of the same cells. -/
structure Twin (n0 : Nat) (tv xv : Value) (h : Heap) (T : Tab) (k m n : Nat) (F G : Nat → Prop) : Prop where
  t : TabAt tv F h T
  x : RTabT xv G h T
  ok : TabOk T
  len : T.length = k
  dis : ∀ b, F b → ¬ G b
  newF : ∀ b, F b → n0 ≤ b
  newG : ∀ b, G b → n0 ≤ b
  cells : ∀ (k : Nat) (d : CellM), T[k]? = some (some d) → CellOk m n d
theorem Twin.call {n0 : Nat} {tv xv : Value} {h h' : Heap} {T : Tab} {k m n : Nat} {F G : Nat → Prop} (w : Twin n0 tv xv h T k m n F G) (c : Keep none_ h h') : Twin n0 tv xv h' T k m n F G :=
  { w with t := w.t.keep c (fun _ _ h => h), x := w.x.keep c (fun _ _ h => h) }
theorem Twin.small {n0 : Nat} {tv xv : Value} {h : Heap} {T : Tab} {k m n : Nat} {F G : Nat → Prop} (w : Twin n0 tv xv h T k m n F G) (hm : m < 1000000000) : TabSmall T := fun k d hd => (w.cells k d hd).sml.small hm
end Go.Proofs

/-
  Integers written over: integers they stay.
-/
namespace Go.HC
theorem ints_some : ∀ {cs : List Value}, (∀ v ∈ cs, ∃ x, v = .int .i64 x) → ∃ xs : List Int, cs = xs.map (Value.int .i64)
  | [], _ => ⟨[], rfl⟩
  | v :: cs, h => by
    obtain ⟨x, rfl⟩ := h v List.mem_cons_self
    obtain ⟨xs, rfl⟩ := ints_some fun w hw => h w (List.mem_cons_of_mem _ hw)
    exact ⟨x :: xs, rfl⟩
/-- Integers, one of which is written: integers they stay. -/
theorem SlRep.written {F : Nat → Prop} {h : Heap} {v : Value} {xs : List Int} (hs : SlRep rInt F h v xs) {bk j : Nat} {arr : Array Value} {e : TypeId} {fz : Nat × Nat} (hb : h[bk]? = some (.cells arr e fz)) (y : Int) :
    ∃ ys : List Int, ys.length = xs.length ∧ SlRep rInt F (h.setIfInBounds bk (.cells (arr.setIfInBounds j (.int .i64 y)) e fz)) v ys := by
  obtain ⟨a, c, cs, rfl, h1, h2, h3, h4⟩ := hs
  have hcs := ints_map.1 h4
  have hl : cs.length = xs.length := by rw [hcs, List.length_map]
  rcases h3 with rfl | ⟨b, off, c', e', fz', rfl, hf, hw, ht⟩
  · have : xs = [] := by cases xs with | nil => rfl | cons _ _ => cases hcs
    subst this
    exact ⟨[], rfl, a, c, [], rfl, h1, h2, .inl rfl, rfl⟩
  · by_cases hbb : bk = b
    · subst hbb
      rw [hb] at hw
      cases hw
      have hlt := lt_of_blk hb
      have hz0 : arr.toList.length = arr.size := Array.length_toList
      obtain ⟨ys, hys⟩ : ∃ ys : List Int, (((arr.setIfInBounds j (.int .i64 y)).toList.drop off).take xs.length) = ys.map (Value.int .i64) := by
        refine ints_some fun v hv => ?_
        obtain ⟨i, hi, rfl⟩ := List.mem_iff_getElem.1 hv
        rw [List.getElem_take, List.getElem_drop]
        have hi' : i < xs.length := by rw [List.length_take] at hi; omega
        have hi2 : i < cs.length := by omega
        have hcl : ((arr.toList.drop off).take cs.length).length = xs.length := by rw [ht, hl]
        rw [List.length_take, List.length_drop, hz0] at hcl
        simp only [Array.toList_setIfInBounds, List.getElem_set]
        split
        · exact ⟨y, rfl⟩
        · have e2 : ((arr.toList.drop off).take cs.length)[i]? = cs[i]? := by rw [ht]
          rw [List.getElem?_take, if_pos hi2, List.getElem?_drop, hcs, List.getElem?_map, List.getElem?_eq_getElem hi'] at e2
          have hlt2 : off + i < arr.toList.length := by omega
          rw [List.getElem?_eq_getElem hlt2] at e2
          exact ⟨_, Option.some.inj e2⟩
      have hyl : ys.length = xs.length := by
        have := congrArg List.length hys
        have hz : (arr.setIfInBounds j (.int .i64 y)).toList.length = arr.size := by simp
        have hcl : ((arr.toList.drop off).take cs.length).length = xs.length := by rw [ht, hl]
        rw [List.length_take, List.length_drop, hz0] at hcl
        rw [List.length_take, List.length_drop, hz, List.length_map] at this
        omega
      refine ⟨ys, hyl, _, c, ys.map (Value.int .i64), by rw [hyl], by rw [hyl]; exact h1, h2, .inr ⟨bk, off, _, _, _, rfl, hf, set_same _ hlt, ?_⟩, ints_map.2 rfl⟩
      rw [List.length_map, hyl, hys]
    · exact ⟨xs, rfl, _, c, cs, rfl, h1, h2, .inr ⟨b, off, c', e', fz', rfl, hf, (set_other _ hbb).trans hw, ht⟩, ints_map.2 hcs⟩
/-- Cells alike long. -/
def Like (c d : CellM) : Prop := c.key.length = d.key.length ∧ c.mn.length = d.mn.length ∧ c.mx.length = d.mx.length ∧ c.sum.length = d.sum.length
theorem Like.refl (c : CellM) : Like c c := ⟨rfl, rfl, rfl, rfl⟩
theorem Elems.written {F : Nat → Prop} {h : Heap} {bk j : Nat} {arr : Array Value} {e : TypeId} {fz : Nat × Nat} (hb : h[bk]? = some (.cells arr e fz)) (y : Int) :
    ∀ {l : List CellM} {cs : List Value}, Elems rCell F h cs l → ∃ m : List CellM, m.length = l.length ∧ (∀ (i : Nat) (hi : i < l.length) (hi' : i < m.length), Like m[i] l[i]) ∧ Elems rCell F (h.setIfInBounds bk (.cells (arr.setIfInBounds j (.int .i64 y)) e fz)) cs m
  | [], cs, he => ⟨[], rfl, fun i hi => by simp at hi, he⟩
  | c :: l, cs, ⟨c1, c2, e0, ⟨kv, sv, nv, xv, e1, q1, q2, q3, q4⟩, he⟩ => by
    obtain ⟨m, m1, m2, m3⟩ := Elems.written hb y he
    obtain ⟨k', k1, k2⟩ := q1.written (j := j) hb y
    obtain ⟨s', s1, s2⟩ := q2.written (j := j) hb y
    obtain ⟨n', n1, n2⟩ := q3.written (j := j) hb y
    obtain ⟨x', x1, x2⟩ := q4.written (j := j) hb y
    refine ⟨⟨k', c.count, s', n', x'⟩ :: m, by simp [m1], fun i hi hi' => ?_, c1, c2, e0, ⟨kv, sv, nv, xv, e1, k2, s2, n2, x2⟩, m3⟩
    cases i with
    | zero => exact ⟨k1, n1, x1, s1⟩
    | succ i => exact m2 i (by simpa using hi) (by simpa using hi')
end Go.HC

/-
  Cells in blocks that may be changed are written over.
-/
namespace Go.HC
theorem Elems.setInt {F : Nat → Prop} {h : Heap} (y : Int) : ∀ {l : List CellM} {cs : List Value} {q : Nat} {z : Int}, Elems rCell F h cs l → cs[q]? = some (.int .i64 z) →
    ∃ m : List CellM, m.length = l.length ∧ (∀ (i : Nat) (hi : i < l.length) (hi' : i < m.length), Like m[i] l[i]) ∧ Elems rCell F h (cs.set q (.int .i64 y)) m
  | [], cs, q, z, he, hq => by
    have : cs = [] := he
    subst this
    cases hq
  | c :: l, cs, q, z, ⟨c1, c2, e0, ⟨kv, sv, nv, xv, e1, q1, q2, q3, q4⟩, he⟩, hq => by
    subst e0; subst e1
    obtain ⟨_, _, rfl, _, _⟩ := q1.val
    obtain ⟨_, _, rfl, _, _⟩ := q2.val
    obtain ⟨_, _, rfl, _, _⟩ := q3.val
    obtain ⟨_, _, rfl, _, _⟩ := q4.val
    rcases q with _ | _ | _ | _ | _ | q
    · cases hq
    · exact ⟨⟨c.key, y, c.sum, c.mn, c.mx⟩ :: l, rfl, fun i hi hi' => by cases i with | zero => exact ⟨rfl, rfl, rfl, rfl⟩ | succ i => exact .refl _, _, c2, rfl, ⟨_, _, _, _, rfl, q1, q2, q3, q4⟩, he⟩
    · cases hq
    · cases hq
    · cases hq
    · obtain ⟨m, m1, m2, m3⟩ := Elems.setInt y he (q := q) (z := z) (by simpa using hq)
      exact ⟨c :: m, by simp [m1], fun i hi hi' => by cases i with | zero => exact .refl _ | succ i => exact m2 i (by simpa using hi) (by simpa using hi'), _, _, rfl, ⟨_, _, _, _, rfl, q1, q2, q3, q4⟩, m3⟩
/-- Cells, an integer of whose blocks is written. -/
theorem SlRep.over {F : Nat → Prop} {h : Heap} {v : Value} {l : List CellM} (hs : SlRep rCell F h v l) {bk q : Nat} {arr : Array Value} {e : TypeId} {fz : Nat × Nat} {z : Int} (hb : h[bk]? = some (.cells arr e fz)) (hq : arr[q]? = some (.int .i64 z)) (y : Int) :
    ∃ m : List CellM, m.length = l.length ∧ (∀ (i : Nat) (hi : i < l.length) (hi' : i < m.length), Like m[i] l[i]) ∧ SlRep rCell F (h.setIfInBounds bk (.cells (arr.setIfInBounds q (.int .i64 y)) e fz)) v m := by
  obtain ⟨a, c, cs, rfl, h1, h2, h3, h4⟩ := hs
  obtain ⟨m, m1, m2, m3⟩ := Elems.written (j := q) hb y h4
  rcases h3 with rfl | ⟨b, off, c', e', fz', rfl, hf, hw, ht⟩
  · exact ⟨m, m1, m2, _, c, [], by rw [m1], by rw [m1]; exact h1, h2, .inl rfl, m3⟩
  · by_cases hbb : bk = b
    · subst hbb
      rw [hb] at hw
      cases hw
      have hlt := lt_of_blk hb
      have hc : ((arr.setIfInBounds q (.int .i64 y)).toList.drop off).take cs.length = if q < off then cs else cs.set (q - off) (.int .i64 y) := by
        rw [Array.toList_setIfInBounds, List.drop_set]
        split
        · exact ht
        · rw [List.take_set, ht]
      by_cases hqo : q < off ∨ cs.length ≤ q - off
      · have hc' : ((arr.setIfInBounds q (.int .i64 y)).toList.drop off).take cs.length = cs := by
          rw [hc]
          split
          · rfl
          · exact List.set_eq_of_length_le (by omega)
        exact ⟨m, m1, m2, _, c, cs, by rw [m1], by rw [m1]; exact h1, h2, .inr ⟨bk, off, _, _, _, rfl, hf, set_same _ hlt, hc'⟩, m3⟩
      · have hcq : cs[q - off]? = some (.int .i64 z) := by
          have e2 : ((arr.toList.drop off).take cs.length)[q - off]? = cs[q - off]? := by rw [ht]
          rw [List.getElem?_take, if_pos (by omega), List.getElem?_drop, show off + (q - off) = q by omega, Array.getElem?_toList, hq] at e2
          exact e2.symm
        obtain ⟨m', n1, n2, n3⟩ := Elems.setInt y m3 hcq
        rw [if_neg (by omega)] at hc
        refine ⟨m', by rw [n1, m1], fun i hi hi' => ?_, _, c, cs.set (q - off) (.int .i64 y), by rw [n1, m1], by rw [n1, m1]; exact h1, h2, .inr ⟨bk, off, _, _, _, rfl, hf, set_same _ hlt, by rw [List.length_set]; exact hc⟩, n3⟩
        have a1 := n2 i (by omega) hi'
        have a2 := m2 i hi (by omega)
        exact ⟨a1.1.trans a2.1, a1.2.1.trans a2.2.1, a1.2.2.1.trans a2.2.2.1, a1.2.2.2.trans a2.2.2.2⟩
    · exact ⟨m, m1, m2, _, c, cs, by rw [m1], by rw [m1]; exact h1, h2, .inr ⟨b, off, c', e', fz', rfl, hf, (set_other _ hbb).trans hw, ht⟩, m3⟩
/-- Cells in blocks from lo up to hi, that may be changed; p: of their lengths alone. -/
structure Sh (F : Nat → Prop) (lo hi n : Nat) (p : CellM → Prop) (v : Value) (h0 h : Heap) : Prop where
  ex : ∃ l : List CellM, l.length = n ∧ SlRep rCell F h v l ∧ ∀ c ∈ l, p c
  foot : ∀ b, F b → lo ≤ b ∧ b < hi ∧ Thaw h b
  keep : Keep (fun b => lo ≤ b ∧ b < hi) h0 h
section
variable {F : Nat → Prop} {lo hi n : Nat} {p : CellM → Prop} {v : Value} {h0 h : Heap}
theorem Sh.over (g : Sh F lo hi n p v h0 h) (hp : ∀ c d, Like d c → p c → p d) {bk q : Nat} {z : Int} (hf : F bk) (hc : cellIn h[bk]? q = some (.int .i64 z)) (y : Int) :
    ∃ o, writeIn h[bk]? q [.int .i64 y] = some o ∧ Sh F lo hi n p v h0 (h.setIfInBounds bk o) := by
  obtain ⟨f1, f2, f3⟩ := g.foot bk hf
  cases hb : h[bk]? with
  | none => rw [hb] at hc; cases hc
  | some ob =>
    cases ob with
    | cells arr e' fz =>
      obtain rfl := f3 arr e' fz hb
      rw [hb, cellIn_some] at hc
      have hsz : q < arr.size := by
        rcases Nat.lt_or_ge q arr.size with h | h
        · exact h
        · rw [Array.getElem?_eq_none h] at hc; cases hc
      refine ⟨.cells (arr.setIfInBounds q (.int .i64 y)) e' (0, 0), ?_, ?_, fun b hF => ?_, g.keep.setted _ fun _ => ⟨f1, f2⟩⟩
      · have hfr : frozenIn (0, 0) q [Value.int .i64 y].length = false := by unfold frozenIn; simp
        show (if (List.all [Value.int .i64 y] Value.oneCell' && decide (q + [Value.int .i64 y].length ≤ arr.size) && !frozenIn (0, 0) q [Value.int .i64 y].length) = true then _ else _) = _
        rw [if_pos (show (List.all [Value.int .i64 y] Value.oneCell' && decide (q + [Value.int .i64 y].length ≤ arr.size) && !frozenIn (0, 0) q [Value.int .i64 y].length) = true by rw [hfr]; simp [Value.oneCell']; omega)]
        rfl
      · obtain ⟨l, l1, l2, l3⟩ := g.ex
        obtain ⟨m, m1, m2, m3⟩ := l2.over hb hc y
        refine ⟨m, by rw [m1, l1], m3, fun d hd => ?_⟩
        obtain ⟨i, hi, rfl⟩ := List.mem_iff_getElem.1 hd
        exact hp _ _ (m2 i (by omega) hi) (l3 _ (List.getElem_mem _))
      · obtain ⟨w1, w2, w3⟩ := g.foot b hF
        refine ⟨w1, w2, ?_⟩
        by_cases hbb : bk = b
        · subst hbb
          exact .is (set_same _ (lt_of_blk hb))
        · exact w3.at (set_other _ hbb)
    | _ => rw [hb] at hc; cases hc
/-- An integer of a cell. -/
theorem Sh.int (g : Sh F lo hi n p v h0 h) (hp : ∀ c d, Like d c → p c → p d) {a : Option Addr} {m c : Nat} {xs : List Int} (hs : SlRep rInt F h (.slice a m c) xs) {j : Nat} (hj : j < xs.length) (y : Int) :
    ∃ bk off o, a = some ⟨bk, off, none⟩ ∧ writeIn h[bk]? (off + j) [.int .i64 y] = some o ∧ Sh F lo hi n p v h0 (h.setIfInBounds bk o) := by
  obtain ⟨bk, off, rfl, hf, hc⟩ := hs.int_at j hj
  obtain ⟨o, q1, q2⟩ := g.over hp hf hc y
  exact ⟨bk, off, o, rfl, q1, q2⟩
/-- A cell. -/
theorem Sh.get (g : Sh F lo hi n p v h0 h) {i : Nat} (hi' : i < n) :
    ∃ (bk off c : Nat) (d : CellM) (kv sv nv xv : Value), v = .slice (some ⟨bk, off, none⟩) n c ∧ F bk ∧ cellsIn h[bk]? (off + i * 5) 5 = some [kv, .int .i64 d.count, sv, nv, xv] ∧ p d ∧ SlRep rInt F h kv d.key ∧ SlRep rInt F h sv d.sum ∧ SlRep rInt F h nv d.mn := by
  obtain ⟨l, rfl, l2, l3⟩ := g.ex
  obtain ⟨a, c, rfl, _, _⟩ := l2.val
  obtain ⟨bk, off, cs, rfl, hf, ⟨kv, sv, nv, xv, rfl, w1, w2, w3, w4⟩, q4⟩ := l2.get i hi'
  exact ⟨bk, off, c, l[i], kv, sv, nv, xv, rfl, hf, q4, l3 _ (List.getElem_mem hi'), w1, w2, w3⟩
/-- Its count. -/
theorem Sh.count (g : Sh F lo hi n p v h0 h) (hp : ∀ c d, Like d c → p c → p d) {i : Nat} (hi' : i < n) (y : Int) :
    ∃ bk off c o, v = .slice (some ⟨bk, off, none⟩) n c ∧ writeIn h[bk]? (off + i * 5 + 1) [.int .i64 y] = some o ∧ Sh F lo hi n p v h0 (h.setIfInBounds bk o) := by
  obtain ⟨bk, off, c, d, kv, sv, nv, xv, rfl, hf, hx, _⟩ := g.get hi'
  obtain ⟨o, q1, q2⟩ := g.over hp hf (cellsIn_cell (d := 1) hx (by decide)) y
  exact ⟨bk, off, c, o, rfl, q1, q2⟩
theorem SlRep.shk {l : List CellM} {y : Heap} (hs : SlRep rCell (Ft lo none_ h) h v l) (h0 : 0 < lo) (hp : ∀ c ∈ l, p c) (k : Keep none_ h y) : Sh (Ft lo none_ h) lo h.size l.length p v y y :=
  ⟨⟨l, rfl, hs.mono fun b hb => ⟨hb, k.blk b hb.2.1 (fun h => h)⟩, hp⟩, fun b hb => ⟨hb.1.1, hb.2.1, (hb.1.2 h0).at (k.blk b hb.2.1 (fun h => h))⟩, .refl _ _⟩
theorem SlRep.sh {l : List CellM} (hs : SlRep rCell (Ft lo none_ h) h v l) (h0 : 0 < lo) (hp : ∀ c ∈ l, p c) : Sh (Ft lo none_ h) lo h.size l.length p v h h :=
  ⟨⟨l, rfl, hs, hp⟩, fun b hb => ⟨hb.1.1, hb.2.1, hb.1.2 h0⟩, .refl _ _⟩
end
end Go.HC

/-
  HashPlays: the walk.
-/
namespace Go.Proofs
open Go Go.HC

theorem Twin.put {n0 : Nat} {tv xv : Value} {h h2 h3 : Heap} {T : Tab} {k m n : Nat} {F G F2 G2 : Nat → Prop} {c : CellM} (w : Twin n0 tv xv h T k m n F G) (hc : CellOk m n c) (hn0 : n0 ≤ h.size)
    (t2 : TabAt tv F2 h2 ((putM T c).getD T)) (k2 : Keep F h h2) (n2 : ∀ b, F2 b → F b ∨ h.size ≤ b) (x3 : RTabT xv G2 h3 ((putM T c).getD T)) (k3 : Keep G h2 h3) (n3 : ∀ b, G2 b → G b ∨ h2.size ≤ b) :
    Twin n0 tv xv h3 ((putM T c).getD T) k m n F2 G2 := by
  have hF := w.t.lt
  have hG := w.x.lt
  have hF2 := t2.lt
  have s2 := k2.size
  have dis : ∀ b, F2 b → ¬ G2 b := fun b hb hg => by
    have h1 := hF2 b hb
    rcases n2 b hb with h | h <;> rcases n3 b hg with h' | h'
    · exact w.dis b h h'
    · have := hF b h; omega
    · have := hG b h'; omega
    · omega
  refine ⟨t2.keep k3 fun b hb hg => ?_, x3, ?_, ?_, dis, fun b hb => (n2 b hb).elim (w.newF b) (by omega), fun b hb => (n3 b hb).elim (w.newG b) (by omega), ?_⟩
  · rcases n2 b hb with h | h
    · exact w.dis b h hg
    · have := hG b hg; omega
  · cases hp : putM T c with
    | none => exact w.ok
    | some T' => exact (put_ok w.ok hp).1
  · cases hp : putM T c with
    | none => exact w.len
    | some T' => rw [Option.getD_some, put_len hp]; exact w.len
  · cases hp : putM T c with
    | none => exact w.cells
    | some T' => exact put_cells w.cells hc (fun d hd => hd.join hc) hp
theorem keep_on {n0 : Nat} {h h1 h2 : Heap} {F : Nat → Prop} (k : Keep none_ h h1) (k2 : Keep F h1 h2) (hF : ∀ b, F b → n0 ≤ b) (hn : h.size ≤ n0) : Keep none_ h h2 := k.trans k2 fun b hb hf => by have := hF b hf; omega
theorem hit_getM {T : Tab} (hT : TabOk T) (key : List Int) : scanM T key = getM T key := scan_get hT key

set_option maxHeartbeats 4000000 in
set_option maxRecDepth 10000 in
theorem hashPlays_spec {F1 F2 F3 : Nat → Prop} {h : Heap} {cv nv rv : Value} {cards ns raw : List Int} (dims ms set slots : Int) (hc : SlRep rInt F1 h cv cards) (hF1 : ∀ b, F1 b → b < h.size) (hn : SlRep rInt F2 h nv ns) (hF2 : ∀ b, F2 b → b < h.size) (hw : SlRep rInt F3 h rv raw) (hF3 : ∀ b, F3 b → b < h.size) :
    CallH Try.prog 3 #[.int .i64 dims, cv, .int .i64 ms, nv, .int .i64 set, .int .i64 slots, rv] h fun r h' => r = .bool true ∧ Keep none_ h h' := by
  refine callH_by fun K hK => ?_
  refine enter [.tmp 14] Try.func3 rfl rfl (by kernel_rfl) rfl ?_
  replace hc := hc.mono (F' := Old h) (h' := h) fun b hb => ⟨⟨nz, hF1 b hb, fun h => h⟩, rfl⟩
  replace hn := hn.mono (F' := Old h) (h' := h) fun b hb => ⟨⟨nz, hF2 b hb, fun h => h⟩, rfl⟩
  replace hw := hw.mono (F' := Old h) (h' := h) fun b hb => ⟨⟨nz, hF3 b hb, fun h => h⟩, rfl⟩
  obtain ⟨a0, c0, rfl, _, _⟩ := hc.val
  obtain ⟨a1, c1, rfl, _, _⟩ := hn.val
  obtain ⟨a2, c2, rfl, _, _⟩ := hw.val
  simp -dsimp
  refine call_by (hknown_spec h) ?_
  rintro _ h0 ⟨rfl, k0⟩
  simp -dsimp
  by_cases hraw : 20 < raw.length
  · have : ((20 : Int) < (raw.length : Int)) = True := by simp; omega
    simp -dsimp [this]
    exact hK _ _ ⟨rfl, k0⟩
  have hraw' : ((20 : Int) < (raw.length : Int)) = False := by simp; omega
  have t0 := Tr.of k0
  simp -dsimp [hraw']
  refine call_by (facts1_spec dims ms (hc.mono (t0.ft (Nat.le_refl 0))) (hn.mono (t0.ft (Nat.le_refl 0)))) ?_
  rintro _ h1 ⟨sv, rv, rfl, s1, r1, k1⟩
  have hok := factsM_ok dims cards ms ns
  generalize hfs : (factsM dims cards ms ns).1 = s at *
  generalize hfr : (factsM dims cards ms ns).2 = rows at *
  obtain ⟨sa, sc, rfl, _, _⟩ := s1.val
  obtain ⟨ra, rc, rfl, _, _⟩ := r1.val
  simp -dsimp
  rw [push_set rfl]
  generalize hB : Array.push h1 _ = h2
  have k2 : Keep none_ h1 h2 := by rw [← hB]; exact .push _ _ _
  have hS : h2[h1.size]? = some (.cells #[.slice sa s.cards.length sc, .int .i64 s.ms] 25 (0, 0)) := by rw [← hB]; exact push_new _ _
  have u2 : Keep none_ h h2 := (k0.trans k1 fun _ _ h => h).trans k2 fun _ _ h => h
  have hdim := hok.dims

  refine call_by (set2_spec s.ms set ((s1.mono (Ft.free (Nat.zero_le _))).mono ((Tr.of k2).ft (Nat.le_refl 0))) hdim.2) ?_
  rintro _ h3 ⟨rfl, k3⟩
  obtain ⟨a, ea⟩ : ∃ a, a = withinM set (2 ^ s.cards.length) := ⟨_, rfl⟩
  rw [← ea]
  have u3 := u2.trans k3 fun _ _ h => h
  have k13 := k2.trans k3 fun _ _ h => h
  have hml := hok.ms
  have hlen := hok.len
  simp -dsimp
  refine call_by (make_spec a ((r1.mono (Ft.free (Nat.zero_le _))).mono ((Tr.of k13).ft (Nat.le_refl 0))) (by omega) fun r hr => ⟨by rw [(hok.key r hr).1]; omega, by rw [(hok.m r hr).1]; omega⟩) ?_
  rintro lv h4 ⟨l4, k4⟩
  have hcells := hok.cell a
  obtain ⟨l, el⟩ : ∃ l, l = rows.map (ofM a) := ⟨_, rfl⟩
  rw [← el] at l4 hcells
  have hll : l.length = rows.length := by rw [el]; simp
  obtain ⟨la, lc, rfl, _, _⟩ := l4.val
  have u4 := u3.trans k4 fun _ _ h => h
  simp -dsimp
  refine call_by (within_spec slots 30 (by decide) (by decide) h4) ?_
  rintro _ h4' ⟨rfl, hh⟩
  subst h4'
  have hwk := withinM_bound (a := slots) (n := 30) (by omega)
  obtain ⟨k, ek⟩ : ∃ k : Nat, 1 + withinM slots 30 = k := ⟨(1 + withinM slots 30).toNat, by omega⟩
  have w1 : IntKind.i64.wrap (1 + withinM slots 30) = (k : Int) := by rw [wrap_i64 (by omega) (by omega), ek]
  simp -dsimp [w1]
  refine call_by (hnew_spec k (by omega) h4) ?_
  rintro tv h5 ⟨F, t5, k5, nF⟩
  simp -dsimp
  refine call_by (rnew7_spec k (by omega) h5) ?_
  rintro xv h6 ⟨G, x6, k6, nG⟩
  have hk5 := k5.size
  have hk6 := k6.size
  have hFlt := t5.lt
  have w6 : Twin h4.size tv xv h6 (newM k) k s.ms.toNat (lvlM a 0 s.cards.length) F G :=
    ⟨t5.keep k6 (fun _ _ h => h), x6, newM_ok k, List.length_replicate, fun b hb hg => by have := hFlt b hb; have := nG b hg; omega, nF, fun b hb => by have := nG b hb; omega, fun j d hd => by
      unfold newM at hd; rw [List.getElem?_replicate] at hd; split at hd <;> cases hd⟩
  have v6 : Keep none_ h4 h6 := k5.trans k6 fun _ _ h => h
  obtain ⟨bs, htv⟩ : ∃ bs, tv = .pointer (some ⟨bs, 0, none⟩) := by obtain ⟨bs, _, _, _, e, _⟩ := t5; exact ⟨bs, e⟩
  obtain ⟨bx, hxv⟩ : ∃ bx, xv = .pointer (some ⟨bx, 0, none⟩) := by obtain ⟨bs, _, _, _, _, _, _, e, _⟩ := x6; exact ⟨bs, e⟩
  subst htv; subst hxv
  simp -dsimp
  have hmt : s.ms.toNat < 1000000000 := by omega
  refine loopc (σ := Nat) (fun i => [(6, .slice a2 raw.length c2), (17, .slice la l.length lc), (19, .pointer (some ⟨bs, 0, none⟩)), (20, .pointer (some ⟨bx, 0, none⟩)), (21, .int .i64 i)])
    (fun i h1 => ∃ F G T, Twin h4.size (.pointer (some ⟨bs, 0, none⟩)) (.pointer (some ⟨bx, 0, none⟩)) h1 T k s.ms.toNat (lvlM a 0 s.cards.length) F G ∧ Keep none_ h4 h1 ∧ i ≤ l.length) (fun i => l.length - i) 0 0 (fun i _ => i = l.length)
    (endR Try.prog [.tmp 14] K).rt (fun _ _ _ h => h) (by simp) ⟨F, G, _, w6, v6, Nat.zero_le _⟩ (by kernel_rfl) ?_ ?_
  · rintro i y1 g ⟨F, G, T, w, v1, hi⟩
    have wi := wrap_succ (k := i) (by omega)
    by_cases hil : i < l.length
    · obtain ⟨bl, ol, cs, rfl, hfb, hrep4, hx4⟩ := l4.get i hil
      have hci := hcells l[i] (List.getElem_mem hil)
      obtain ⟨ka, kc, sa', sc', na, nc, xa, xc, rfl, q4, _⟩ := cell_open hrep4
      have hx : ∀ {y : Heap}, Keep none_ h4 y → HC.cellsIn y[bl]? (ol + i * 5) 5 = _ := fun c => (congrArg (fun o => HC.cellsIn o (ol + i * 5) 5) (c.blk bl hfb.2.1 (fun h => h))).trans hx4
      have hk0 : ∀ {y : Heap}, Keep none_ h4 y → cellIn y[bl]? (ol + i * 5) = some (.slice ka l[i].key.length kc) := fun c => cellsIn_cell (d := 0) (hx c) (by decide)
      have hrep : ∀ {y : Heap}, Keep none_ h4 y → rCell.rep (Old y) y _ l[i] := fun c => rCell.mono hrep4 (Tr.of c).old
      have q1 : ∀ {y : Heap}, Keep none_ h4 y → SlRep rInt (Old y) y _ l[i].key := fun c => q4.mono (Tr.of c).old
      simp -dsimp [hil]
      refine drawn_by [⟨0, true, []⟩, ⟨1, true, []⟩, ⟨2, true, []⟩, ⟨3, true, []⟩, ⟨4, true, []⟩, ⟨6, true, []⟩, ⟨7, true, []⟩, ⟨8, true, []⟩, ⟨9, true, []⟩, ⟨10, true, []⟩, ⟨5, false, [6, 7, 8, 9, 10]⟩, ⟨11, false, []⟩, ⟨12, true, []⟩, ⟨13, true, []⟩, ⟨14, true, []⟩, ⟨16, true, []⟩, ⟨15, false, [16]⟩, ⟨17, false, []⟩, ⟨18, true, []⟩, ⟨19, true, []⟩] (by kernel_rfl) (by kernel_rfl) ?_
      simp -dsimp [idxV_nat hil, elSz_eq, hx v1]
      refine call_by (hput_spec w.t (by rw [w.len]; omega) (w.small hmt) (hrep v1) Old.lt (hci.sml.small hmt)) ?_
      rintro _ y2 ⟨rfl, F2, t2, kk2, n2⟩
      have v2 := keep_on v1 kk2 w.newF (Nat.le_refl _)
      simp -dsimp [idxV_nat hil, elSz_eq, hx v2, again_cons]
      have x2 := w.x.keep kk2 fun b hb hf => w.dis b hf hb
      refine call_by (rput7_spec x2 (hrep v2) hci.keyOk (by rw [w.len]; omega) (by rw [w.len]; omega) hmt hci.sml fun k d hd => (w.cells k d hd).sml) ?_
      rintro _ y3 ⟨rfl, G2, x3, kk3, n3⟩
      have v3 := keep_on v2 kk3 w.newG (Nat.le_refl _)
      have w3 := w.put hci v1.size t2 kk2 n2 x3 kk3 n3
      have hb1 : ((putM T l[i]).isSome == (putM T l[i]).isSome) = true := beq_self_eq_true _
      simp -dsimp [again_cons]
      refine call_by (len_spec w3.t) ?_
      rintro _ y3' ⟨rfl, hh⟩
      subst y3'
      simp -dsimp [again_cons]
      refine call_by (rlen_spec w3.x) ?_
      rintro _ y3' ⟨rfl, hh⟩
      subst y3'
      simp -dsimp [idxA_nat hil, hk0 v3]
      generalize hT' : (putM T l[i]).getD T = T' at *
      refine call_by (hget_spec w3.t (by rw [w3.len]; omega) (w3.small hmt) (q1 v3) Old.lt) ?_
      rintro _ y4 ⟨es, E, rfl, re, k4', nE⟩
      have v4 := v3.trans k4' fun _ _ h => h
      have w4 := w3.call k4'
      generalize hc1 : (getM T' l[i].key).getD ⟨[], 0, [], [], []⟩ = d1 at re
      obtain ⟨ea1, ec1, es1, ek1, en1, em1, ex1, ey1, rfl, _⟩ := cell_open re
      simp -dsimp
      rw [push_set rfl]
      generalize hB5 : Array.push y4 _ = y5
      have k5' : Keep none_ y4 y5 := by rw [← hB5]; exact .push _ _ _
      have v5 := v4.trans k5' fun _ _ h => h
      have w5 := w4.call k5'
      have hy5 : y5[y4.size]? = some (.cells #[.slice ea1 d1.key.length ec1, .int .i64 d1.count, .slice es1 d1.sum.length ek1, .slice en1 d1.mn.length em1, .slice ex1 d1.mx.length ey1] 39 (0, 0)) := by rw [← hB5]; exact push_new _ _
      simp -dsimp [idxA_nat hil, hk0 v5]
      refine call_by (rget7_spec w5.x (q1 v5) (by rw [w5.len]; omega) hmt fun k d hd => (w5.cells k d hd).sml) ?_
      rintro _ y6 ⟨fs, rfl, rf, k6'⟩
      have v6 := v5.trans k6' fun _ _ h => h
      have w6' := w5.call k6'
      rw [scan_get w5.ok] at rf
      have hc2 : (getM T' l[i].key).getD zeroC = d1 := hc1
      rw [hc2] at rf
      rw [scan_get w5.ok]
      obtain ⟨fa1, fc1, fs1, fk1, fn1, fm1, fx1, fy1, rfl, _⟩ := cell_open rf
      simp -dsimp
      rw [push_set rfl]
      generalize hB7 : Array.push y6 _ = y7
      have k7' : Keep none_ y6 y7 := by rw [← hB7]; exact .push _ _ _
      have v7 := v6.trans k7' fun _ _ h => h
      have w7 := w6'.call k7'
      have hy7 : y7[y6.size]? = some (.cells #[.slice fa1 d1.key.length fc1, .int .i64 d1.count, .slice fs1 d1.sum.length fk1, .slice fn1 d1.mn.length fm1, .slice fx1 d1.mx.length fy1] 39 (0, 0)) := by rw [← hB7]; exact push_new _ _
      have hy57 := (k6'.trans k7' fun _ _ h => h).at hy5 (fun h => h)
      simp -dsimp [hy7, hy57]
      have re7 := rCell.mono re (F' := Old y7) (h' := y7) fun b hb => ⟨⟨nz, Nat.lt_of_lt_of_le (nE b hb).2 ((k5'.trans k6' fun _ _ h => h).trans k7' fun _ _ h => h).size, fun h => h⟩, ((k5'.trans k6' fun _ _ h => h).trans k7' fun _ _ h => h).blk b (nE b hb).2 (fun h => h)⟩
      have rf7 := rCell.mono rf (Tr.of k7').old
      refine call_by (cellEq_spec re7 Old.lt (rCell.mono rf7 (Ft.free (Nat.le_refl 0))) Old.lt) ?_
      rintro _ y8 ⟨⟨t, rfl, ht⟩, k8'⟩
      have htt : t = true := ht.2 rfl
      subst htt
      simp -dsimp [wi]
      exact ⟨i + 1, by simp, rfl, ⟨_, _, _, w7.call k8', v7.trans k8' fun _ _ h => h, by omega⟩, by show l.length - (i + 1) < l.length - i; omega⟩
    · simp -dsimp [hil]
      exact ⟨rfl, i, by simp, rfl, ⟨F, G, T, w, v1, hi⟩, by omega⟩
  · rintro i y1 g ⟨F, G, T, w, v1, hi⟩ hil
    have hwr : ∀ {y : Heap}, Keep none_ h4 y → SlRep rInt (Old y) y (.slice a2 raw.length c2) raw := fun c => hw.mono ((Tr.of (u4.trans c fun _ _ h => h)).ft (Nat.le_refl 0))
    simp -dsimp
    refine call_by (hget_spec w.t (by rw [w.len]; omega) (w.small hmt) (hwr v1) Old.lt) ?_
    rintro _ y4 ⟨es, E, rfl, re, k4', nE⟩
    have v4 := v1.trans k4' fun _ _ h => h
    have w4 := w.call k4'
    obtain ⟨ea1, ec1, es1, ek1, en1, em1, ex1, ey1, rfl, _⟩ := cell_open re
    simp -dsimp
    rw [push_set rfl]
    generalize hB5 : Array.push y4 _ = y5
    have k5' : Keep none_ y4 y5 := by rw [← hB5]; exact .push _ _ _
    have v5 := v4.trans k5' fun _ _ h => h
    have w5 := w4.call k5'
    refine call_by (rget7_spec w5.x (hwr v5) (by rw [w5.len]; omega) hmt fun k d hd => (w5.cells k d hd).sml) ?_
    rintro _ y6 ⟨fs, rfl, rf, k6'⟩
    have v6 := v5.trans k6' fun _ _ h => h
    have w6' := w5.call k6'
    rw [scan_get w5.ok]
    obtain ⟨fa1, fc1, fs1, fk1, fn1, fm1, fx1, fy1, rfl, _⟩ := cell_open rf
    simp -dsimp
    rw [push_set rfl]
    generalize hB7 : Array.push y6 _ = y7
    have k7' : Keep none_ y6 y7 := by rw [← hB7]; exact .push _ _ _
    have v7 := v6.trans k7' fun _ _ h => h
    have w7 := w6'.call k7'
    refine call_by (hcells_spec w7.t (by rw [w7.len]; omega) (w7.small hmt)) ?_
    rintro lv1 y8 ⟨E8, own8, g8, k8', nE8, no8⟩
    have w8 := w7.call k8'
    simp -dsimp
    refine call_by (rcells7_spec w8.x (by rw [w8.len]; omega) hmt fun k d hd => (w8.cells k d hd).sml) ?_
    rintro lv2 y9 ⟨g9, k9'⟩
    simp -dsimp
    have s8 : SlRep rCell (Old y9) y9 lv1 (cellsM T) := g8.rep.mono fun b hb => by
      have hl : b < y8.size := hb.elim (fun h => (nE8 b h).2) (g8.own_lt b)
      exact ⟨⟨nz, Nat.lt_of_lt_of_le hl k9'.size, fun h => h⟩, k9'.blk b hl (fun h => h)⟩
    refine call_by (rsame_spec s8 (g9.mono (Ft.free (Nat.zero_le _)))) ?_
    rintro _ yA ⟨⟨t, rfl, ht⟩, kA⟩
    have htt : t = true := ht.2 rfl
    subst htt
    simp -dsimp
    exact hK _ _ ⟨rfl, ((u4.trans v7 fun _ _ h => h).trans k8' fun _ _ h => h).trans (k9'.trans kA fun _ _ h => h) fun _ _ h => h⟩
end Go.Proofs

/-
  The bridge from a contract on heaps to a row: what an argument that is a slice of numbers is, in memory.
-/
namespace Go.HC
open Go.ChangeShapes Go.WideShapes Go.ChangeAt Go.RowKit

theorem cells_of {w : World} {a : Addr} {vs : List Value} (hc : ∀ i (hi : i < vs.length), w.cell? (a.add i) = some vs[i]) : Cells (fun b => b < w.heap.size) w.heap (some a) vs := by
  by_cases hne : vs = []
  · exact .inl hne
  · have hpos : 0 < vs.length := List.length_pos_iff.2 hne
    obtain ⟨bk, off, spot⟩ := a
    have h0 := hc 0 hpos
    rw [cellH_eq] at h0
    unfold cellH at h0
    simp only [Addr.add, if_true] at h0
    cases hb : w.heap[bk]? with
    | none => rw [hb] at h0; cases h0
    | some o =>
      rw [hb] at h0
      cases o with
      | cells c e fz =>
        simp only at h0
        have hsp : spot = none := by
          cases spot with
          | none => rfl
          | some s => simp at h0
        subst hsp
        refine .inr ⟨bk, off, c, e, fz, rfl, lt_of_blk hb, hb, ?_⟩
        apply List.ext_getElem?
        intro i
        by_cases hi : i < vs.length
        · have h1 := hc i hi
          rw [cellH_eq] at h1
          unfold cellH at h1
          rw [add_mk] at h1
          simp only [hb, Option.isSome_none, Bool.false_eq_true, if_false] at h1
          rw [List.getElem?_take, if_pos hi, List.getElem?_drop, Array.getElem?_toList, h1, List.getElem?_eq_getElem hi]
        · rw [List.getElem?_take, if_neg hi, List.getElem?_eq_none (by omega)]
      | _ => cases h0

variable {H : Type} {enc : TypeId × Value → H} {P : Program} {W : World} {base : Nat}
theorem open_rep {t e : TypeId} {k : IntKind} {v : Value} {d : DataW H} {p : List MemPlace} (ht : P.underlying t = some (.slice e)) (he : P.underlying e = some (.int k)) (hc : P.cellsOf e = 1)
    (hval : Value.okWide P W .any base t v) (hd : DataW.Trod enc P W 0 (fun _ => true) true t v d p) :
    ∃ (a : Option Addr) (n c : Nat) (zs : List Int), v = .slice a n c ∧ zs.length = n ∧ n ≤ c ∧ c < 9223372036854775808 ∧ Cells (fun b => b < W.heap.size) W.heap a (zs.map (.int k)) ∧ ∀ z ∈ zs, (Lit.int k z).wf = true := by
  obtain ⟨a0, len, cap, rfl⟩ := okWide_slice ht hval
  obtain ⟨fuel, hf⟩ := hd
  rcases open_ints ht he hc hf with ⟨hcs, hx⟩ | ⟨a, len', cap', zs, hcs, _, hl, hm, hz, hx, hcell, hwz⟩
  · simp [Value.cells] at hcs
    obtain ⟨rfl, rfl, rfl⟩ := hcs
    exact ⟨none, 0, 0, [], rfl, rfl, Nat.le_refl _, by decide, .inl rfl, by simp⟩
  · simp [Value.cells] at hcs
    obtain ⟨rfl, rfl, rfl⟩ := hcs
    simp only [if_true] at hz
    have hm' : maxLen = 9223372036854775807 := rfl
    refine ⟨some a, len, cap, zs.take len, rfl, by simp; omega, hl, by omega, cells_of fun i hi => ?_, fun z hz => hwz z (List.mem_of_mem_take hz)⟩
    simp only [List.length_map, List.length_take] at hi
    rw [hcell i (by omega)]
    simp [List.getElem_map, List.getElem_take, List.getD, List.getElem?_eq_getElem (show i < zs.length by omega)]
theorem open_intRep {t e : TypeId} {v : Value} {d : DataW H} {p : List MemPlace} (ht : P.underlying t = some (.slice e)) (he : P.underlying e = some (.int .i64)) (hc : P.cellsOf e = 1)
    (hval : Value.okWide P W .any base t v) (hd : DataW.Trod enc P W 0 (fun _ => true) true t v d p) : ∃ xs : List Int, SlRep rInt (fun b => b < W.heap.size) W.heap v xs := by
  obtain ⟨a, n, c, zs, rfl, rfl, h1, h2, h3, _⟩ := open_rep ht he hc hval hd
  exact ⟨zs, a, c, _, rfl, h1, h2, h3, ints_map.2 rfl⟩
theorem open_byteRep {t e : TypeId} {v : Value} {d : DataW H} {p : List MemPlace} (ht : P.underlying t = some (.slice e)) (he : P.underlying e = some (.int .u8)) (hc : P.cellsOf e = 1)
    (hval : Value.okWide P W .any base t v) (hd : DataW.Trod enc P W 0 (fun _ => true) true t v d p) : ∃ xs : List UInt8, SlRep rByte (fun b => b < W.heap.size) W.heap v xs := by
  obtain ⟨a, n, c, zs, rfl, rfl, h1, h2, h3, h4⟩ := open_rep ht he hc hval hd
  have hl : (zs.map fun z => UInt8.ofNat z.toNat).length = zs.length := by simp
  refine ⟨zs.map fun z => UInt8.ofNat z.toNat, a, c, _, by rw [hl], by rw [hl]; exact h1, h2, h3, bytes_map.2 ?_⟩
  rw [List.map_map]
  apply List.map_congr_left
  intro z hz
  have := h4 z hz
  have e1 : IntKind.u8.min = 0 := rfl
  have e2 : IntKind.u8.max = 255 := rfl
  simp only [Lit.wf, Bool.and_eq_true, decide_eq_true_eq, e1, e2] at this
  simp only [Function.comp_apply, Value.int.injEq, true_and, UInt8.toNat_ofNat']
  omega

/-- A contract, as the row's walk. -/
theorem below_of {w w' : World} (h : Same w w') (k : Keep none_ w.heap w'.heap) : Below w.heap.size w w' :=
  ⟨h.os, h.tape, h.output, k.size, fun i hi => k.blk i hi (fun h => h)⟩
theorem calls_of {f : FuncId} {args : Array Value} {w : World} (h : CallH P f args w.heap fun r h' => r = .bool true ∧ Keep none_ w.heap h') : Calls P f args w fun e w' => e = .returned (.bool true) ∧ Below w.heap.size w w' :=
  (h w rfl).mono fun e w' ⟨v, he, hs, hv, hk⟩ => ⟨by rw [he, hv], below_of hs hk⟩
end Go.HC

/-
  The bridge: arguments that stay as they were, all at once.
-/
namespace Go.HC
open Go.ChangeShapes Go.WideShapes Go.ChangeAt Go.RowKit Go.ChangeMaps
theorem below_trodAll {H : Type} {enc : TypeId × Value → H} {P : Program} (hl : laidOutB P = true) {W W' : World} (hb : Below W.heap.size W W') :
    ∀ {ts : List TypeId} {vs : List Value} {ds : List (DataW H)} {ps : List MemPlace}, (ts.all fun t => P.readableRec t && decide (t < P.types.size)) = true →
      DataW.TrodAll enc P W 0 (fun _ => true) true ts vs ds ps → (∀ x ∈ ps, x.block < W.heap.size) → DataW.TrodAll enc P W' 0 (fun b => decide (b < W.heap.size)) true ts vs ds ps
  | [], vs, ds, ps, _, h, _ => by
    obtain ⟨rfl, rfl, rfl⟩ := trodAll_nil h
    exact trodAll_mk0
  | t :: ts, vs, ds, ps, ht, h, hlt => by
    rw [List.all_cons, Bool.and_eq_true, Bool.and_eq_true] at ht
    obtain ⟨⟨h1, h2⟩, h3⟩ := ht
    obtain ⟨v, vs', d, ds', p, q, rfl, rfl, rfl, hd, hs⟩ := trodAll_cons h
    exact trodAll_cons_mk (Below.trod hl h1 (of_decide_eq_true h2) hd hb fun x hx => hlt x (List.mem_append.2 (.inl hx))) (below_trodAll hl hb h3 hs fun x hx => hlt x (List.mem_append.2 (.inr hx)))
theorem open_u8 {H : Type} {enc : TypeId × Value → H} {P : Program} {W : World} {r : Reach} {b0 : Nat} {t : TypeId} {v : Value} {d : DataW H} {ps : List MemPlace} (ht : P.underlying t = some (.int .u8)) (hval : Value.okWide P W r b0 t v)
    (hd : DataW.Trod enc P W 0 (fun _ => true) true t v d ps) : ∃ c : UInt8, v = .int .u8 c.toNat := by
  obtain ⟨a, rfl, _, _, wa⟩ := open_int ht hval hd
  have e1 : IntKind.u8.min = 0 := rfl
  have e2 : IntKind.u8.max = 255 := rfl
  simp only [Lit.wf, Bool.and_eq_true, decide_eq_true_eq, e1, e2] at wa
  refine ⟨UInt8.ofNat a.toNat, ?_⟩
  simp only [Value.int.injEq, true_and, UInt8.toNat_ofNat']
  omega
theorem open_str {H : Type} {enc : TypeId × Value → H} {P : Program} {W : World} {r : Reach} {b0 : Nat} {t : TypeId} {v : Value} {d : DataW H} {ps : List MemPlace} (ht : P.underlying t = some .string) (hval : Value.okWide P W r b0 t v)
    (hd : DataW.Trod enc P W 0 (fun _ => true) true t v d ps) : ∃ s : ByteArray, v = .string s ∧ s.size ≤ 9223372036854775807 := by
  obtain ⟨s, rfl, _, _, hs⟩ := open_string ht hval hd
  exact ⟨s, rfl, hs⟩
end Go.HC
