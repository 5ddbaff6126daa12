/-
  The names of the program's store: the map's keys, collected, sorted.
-/
import Derived.Test.YtcopaleccjpdjaaS5
namespace Go.Proofs
open Go Go.HC

theorem callS_by {P : Program} {y : Value} {args : Array Value} {h : Heap} {K K' : Value → Heap → Prop} (hc : callV P y args h K') (hk : ∀ v h, K' v h → K v h) : callS P y args h K :=
  hp_mono _ hc fun x h hx => nextK_mono hk x h hx

/-- What the keys' iterator gives: each key once. -/
def keyA (es : Ents Nm) (xs : List Nm) (x : Nm) : Prop := ∃ rest, (es.map (·.1)).Perm (xs ++ x :: rest)

set_option maxRecDepth 10000 in
theorem keys_iter {h0 : Heap} {bx bm : Nat} {es : Ents Nm} {clock : Nat} {fz : Nat × Nat} (hbx : h0[bx]? = some (.cells #[.map (some bm)] 64 fz)) (hm : h0[bm]? = some (.map (entsOf kStr es) clock)) (hok : EntsOk es clock) :
    Iter Try.prog 55 #[] #[.pointer (some ⟨bx, 0, none⟩)] (fun x : Nm => #[.string x]) (keyA es) (fun xs => (es.map (·.1)).Perm xs) (fun b => b = bx ∨ b = bm) h0 := by
  intro y J Z D h ⟨yf, yu, yv', hyf⟩ hy hJ hsz hFp
  subst hyf
  have hbx' : h[bx]? = some (.cells #[.map (some bm)] 64 fz) := (hFp bx (.inl rfl)).2.2.trans hbx
  have hm' : h[bm]? = some (.map (entsOf kStr es) clock) := (hFp bm (.inr rfl)).2.2.trans hm
  have hDbm := (hFp bm (.inr rfl)).2.1
  refine enter [] Try.func55 rfl rfl (by kernel_rfl) rfl ?_
  simp -dsimp [hbx']
  rw [range_map (kt := 9) (et := 71) (by simp) hm']
  simp -dsimp
  refine loop (σ := Ents Nm × Ents Nm) (fun t => [(0, .func yf yu yv'), (5, .pointer (some ⟨h.size, 0, none⟩))]) (fun _ => [])
    (fun t h1 => es.Perm (t.1 ++ t.2) ∧ h1[h.size]? = some (.mapIter (some bm) clock (seenOf t.1) clock) ∧ ∃ D', J (t.1.map (·.1)) D' h1 ∧ Keep D h h1 ∧ (∀ b, D' b → D b ∨ h.size ≤ b) ∧ ¬ D' h.size) (fun t => t.2.length) ([], es) ?_ rfl
    ⟨by simp, push_new _ _, D, hy.mono hJ (by simp) (fun b hb => push_old _ (hy.lt hJ b hb)), .push _ _ _, fun b hb => .inl hb, fun hd => by have := hy.lt hJ _ hd; omega⟩ (by kernel_rfl) ?_
  · intro p hp
    simp at hp
    rcases hp with rfl | rfl <;> simp
  · rintro ⟨done, rest⟩ h1 g ⟨hperm, hit, D', hJ1, hk, hD', hnit⟩
    have hsz1 := hk.size
    have hbm : bm < h.size := lt_of_blk hm'
    have hm1 : h1[bm]? = some (.map (entsOf kStr es) clock) := hk.at hm' hDbm
    simp -dsimp
    refine next_map hok hit hm1 hperm ?_ ?_
    · intro hr
      simp -dsimp
      subst hr
      exact ⟨D', .inl ⟨done.map (·.1), by simpa using hperm.map (·.1), hJ1⟩, hk, hD'⟩
    · intro e rest' hr
      have he : e ∈ es := hperm.mem_iff.2 (List.mem_append_right _ (hr.mem_iff.2 (List.mem_cons_self ..)))
      have hlt : h.size < h1.size := lt_of_blk hit
      simp -dsimp
      generalize hH : h1.setIfInBounds h.size _ = h2
      have hs2 : h2.size = h1.size := by rw [← hH]; simp
      have ho2 : ∀ b, b ≠ h.size → h2[b]? = h1[b]? := fun b hb => by rw [← hH]; exact set_other _ (fun e => hb e.symm)
      have hi2 : h2[h.size]? = some (.mapIter (some bm) clock (seenOf (done ++ [e])) clock) := by rw [← hH]; exact set_same _ hlt
      have hm2 : h2[bm]? = some (.map (entsOf kStr es) clock) := by rw [ho2 _ (by omega)]; exact hm1
      have hJ2 : J (done.map (·.1)) D' h2 := hy.mono hJ1 (by omega) fun b hb => ho2 b (fun e => hnit (e ▸ hb))
      have hk2 : Keep D h h2 := by rw [← hH]; exact hk.setted _ (fun hh => absurd hh (by omega))
      rw [entry_map hok hi2 hm2 he]
      simp -dsimp
      refine callS_by (hy.step (x := e.1) hJ2 ⟨rest'.map (·.1), ?_⟩) ?_
      · have := (hperm.trans (List.Perm.append_left done hr)).map (·.1)
        simpa using this
      · rintro v h3 (⟨rfl, D3, hJ3, hk3, hD3⟩ | ⟨rfl, D3, hZ3, hk3, hD3⟩)
        · have hk03 : Keep D h h3 := hk2.trans hk3 (fun b hb hd => (hD' b hd).elim id (fun h => by omega))
          simp -dsimp
          refine ⟨?_, done ++ [e], rest', ⟨?_, ?_, D3, ?_, hk03, ?_, ?_⟩, ?_⟩
          · intro p hp
            simp at hp
            rcases hp with rfl | rfl <;> simp
          · exact (hperm.trans (List.Perm.append_left done hr)).trans (by simp)
          · exact hk3.at hi2 hnit
          · simpa using hJ3
          · exact fun b hb => (hD3 b hb).elim (hD' b) (fun h => .inr (by omega))
          · exact fun hd => (hD3 _ hd).elim hnit (fun h => by omega)
          · have := hr.length_eq
            simp at this
            omega
        · have hk03 : Keep D h h3 := hk2.trans hk3 (fun b hb hd => (hD' b hd).elim id (fun h => by omega))
          simp -dsimp
          exact ⟨D3, .inr hZ3, hk03, fun b hb => (hD3 b hb).elim (hD' b) (fun h => .inr (by omega))⟩
end Go.Proofs
