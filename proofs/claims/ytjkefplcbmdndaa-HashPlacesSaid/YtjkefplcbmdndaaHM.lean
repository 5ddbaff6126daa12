/-
  Tables of cells by their keys, plainly. No program is in sight.
-/
import Derived.Test.YtjkefplcbmdndaaHC21
namespace Go.HC

structure CellM where
  key : List Int
  count : Int
  sum : List Int
  mn : List Int
  mx : List Int
def joinC (a b : CellM) : CellM :=
  ⟨a.key, IntKind.i64.wrap (a.count + b.count), List.zipWith (fun x y => IntKind.i64.wrap (x + y)) a.sum b.sum, List.zipWith min a.mn b.mn, List.zipWith max a.mx b.mx⟩
/-- A key's hash; its place among n slots. -/
def hashM (key : List Int) : Int := key.foldl (fun h v => (31 * h + v.tmod 1000003 + 1).tmod 1000003) 7
def placeM (key : List Int) (n : Nat) : Nat := (((hashM key).tmod n + n).tmod n).toNat
theorem tmod_bound {a n : Int} (hn : 0 < n) : -n < a.tmod n ∧ a.tmod n < n := by
  have h1 := Int.tmod_lt_of_pos a hn
  have h2 := Int.tmod_lt_of_pos (-a) hn
  rw [Int.neg_tmod] at h2
  omega
theorem placeM_lt (key : List Int) {n : Nat} (hn : 0 < n) : placeM key n < n := by
  unfold placeM
  have h1 := tmod_bound (a := hashM key) (n := n) (by omega)
  have h2 := tmod_bound (a := (hashM key).tmod n + n) (n := n) (by omega)
  have h3 : 0 ≤ ((hashM key).tmod n + n).tmod n := Int.tmod_nonneg _ (by omega)
  omega

abbrev Tab := List (Option CellM)
/-- The key stands here, or may. -/
def hitM (T : Tab) (key : List Int) (k : Nat) : Bool :=
  match T[k]? with
  | some (some c) => decide (c.key = key)
  | _ => true
def probe (key : List Int) (n i : Nat) : Nat := (placeM key n + i) % n
def findM (T : Tab) (key : List Int) : Option Nat := ((List.range T.length).find? fun i => hitM T key (probe key T.length i)).map (probe key T.length)
def takenM (T : Tab) : Nat := T.countP (·.isSome)
def putM (T : Tab) (c : CellM) : Option Tab :=
  match findM T c.key with
  | none => none
  | some k => some (T.set k (match T[k]? with | some (some d) => some (joinC d c) | _ => some c))
def getM (T : Tab) (key : List Int) : Option CellM :=
  match findM T key with
  | none => none
  | some k => (T[k]?).join
def cellsM (T : Tab) : List CellM := T.filterMap id
/-- A cell stands where it is found: all slots from its key's place on are taken, and by other keys. -/
def StandsAt (T : Tab) (i : Nat) (key : List Int) (k : Nat) : Prop := i < T.length ∧ probe key T.length i = k ∧ ∀ j, j < i → ∃ c : CellM, T[probe key T.length j]? = some (some c) ∧ c.key ≠ key
def TabOk (T : Tab) : Prop := ∀ (k : Nat) (c : CellM), T[k]? = some (some c) → ∃ i, StandsAt T i c.key k

theorem probe_lt (key : List Int) {n : Nat} (hn : 0 < n) (i : Nat) : probe key n i < n := Nat.mod_lt _ hn
theorem probe_onto (key : List Int) {n : Nat} (k : Nat) (hk : k < n) : ∃ i, i < n ∧ probe key n i = k := by
  have hp := placeM_lt key (n := n) (by omega)
  unfold probe
  by_cases h : placeM key n ≤ k
  · exact ⟨k - placeM key n, by omega, by rw [Nat.add_sub_cancel' h, Nat.mod_eq_of_lt hk]⟩
  · refine ⟨k + n - placeM key n, by omega, ?_⟩
    have : placeM key n + (k + n - placeM key n) = k + n := by omega
    rw [this, Nat.add_mod_right, Nat.mod_eq_of_lt hk]
theorem find_spec_some {T : Tab} {key : List Int} {k : Nat} (h : findM T key = some k) : k < T.length ∧ (T[k]? = some none ∨ ∃ c, T[k]? = some (some c) ∧ c.key = key) ∧ ∃ i, StandsAt T i key k := by
  unfold findM at h
  rw [Option.map_eq_some_iff] at h
  obtain ⟨i, hi, rfl⟩ := h
  have hmem := List.mem_of_find?_eq_some hi
  have hhit := List.find?_some hi
  rw [List.mem_range] at hmem
  have hlt := probe_lt key (n := T.length) (by omega) i
  refine ⟨hlt, ?_, i, hmem, rfl, fun j hj => ?_⟩
  · unfold hitM at hhit
    rw [List.getElem?_eq_getElem hlt] at hhit ⊢
    cases hc : T[probe key T.length i] with
    | none => exact .inl rfl
    | some c =>
      rw [hc] at hhit
      exact .inr ⟨c, rfl, of_decide_eq_true hhit⟩
  · have hno : hitM T key (probe key T.length j) = false := by
      rw [List.find?_range_eq_some] at hi
      have := hi.2.2 j hj
      simpa using this
    have hlj := probe_lt key (n := T.length) (by omega) j
    unfold hitM at hno
    rw [List.getElem?_eq_getElem hlj] at hno ⊢
    cases hc : T[probe key T.length j] with
    | none => rw [hc] at hno; cases hno
    | some c =>
      rw [hc] at hno
      exact ⟨c, rfl, of_decide_eq_false hno⟩
theorem find_spec_none {T : Tab} {key : List Int} (h : findM T key = none) : ∀ k, k < T.length → ∃ c, T[k]? = some (some c) ∧ c.key ≠ key := by
  intro k hk
  obtain ⟨i, hi, rfl⟩ := probe_onto key (n := T.length) k hk
  unfold findM at h
  rw [Option.map_eq_none_iff, List.find?_eq_none] at h
  have hno := h i (List.mem_range.2 hi)
  unfold hitM at hno
  rw [List.getElem?_eq_getElem hk] at hno ⊢
  cases hc : T[probe key T.length i] with
  | none => rw [hc] at hno; simp at hno
  | some c =>
    rw [hc] at hno
    exact ⟨c, rfl, by simpa using hno⟩
/-- What is there is found. -/
theorem find_there {T : Tab} (hT : TabOk T) {k : Nat} {c : CellM} (h : T[k]? = some (some c)) : findM T c.key = some k := by
  obtain ⟨i, hi, hp, hb⟩ := hT k c h
  unfold findM
  rw [Option.map_eq_some_iff]
  refine ⟨i, ?_, hp⟩
  rw [List.find?_range_eq_some]
  refine ⟨?_, List.mem_range.2 hi, fun j hj => ?_⟩
  · unfold hitM
    rw [hp, h]
    simp
  · obtain ⟨d, hd, hne⟩ := hb j hj
    unfold hitM
    rw [hd]
    simpa using hne
theorem taken_set_new {T : Tab} {k : Nat} {c : CellM} (h : T[k]? = some none) : takenM (T.set k (some c)) = takenM T + 1 := by
  obtain ⟨hk, hv⟩ := List.getElem?_eq_some_iff.1 h
  unfold takenM
  rw [List.countP_set hk, hv]
  simp
theorem taken_set_old {T : Tab} {k : Nat} {c d : CellM} (h : T[k]? = some (some d)) : takenM (T.set k (some c)) = takenM T := by
  obtain ⟨hk, hv⟩ := List.getElem?_eq_some_iff.1 h
  unfold takenM
  rw [List.countP_set hk, hv]
  have : 0 < T.countP (·.isSome) := List.countP_pos_iff.2 ⟨some d, hv ▸ List.getElem_mem hk, rfl⟩
  simp; omega
theorem taken_le (T : Tab) : takenM T ≤ T.length := List.countP_le_length
theorem taken_full {T : Tab} (h : ∀ k, k < T.length → ∃ c, T[k]? = some (some c)) : takenM T = T.length := by
  unfold takenM
  rw [List.countP_eq_length]
  intro x hx
  obtain ⟨k, hk, rfl⟩ := List.getElem_of_mem hx
  obtain ⟨c, hc⟩ := h k hk
  rw [List.getElem?_eq_getElem hk] at hc
  simp only [Option.some.injEq] at hc
  rw [hc]; rfl
theorem cells_len (T : Tab) : (cellsM T).length = takenM T := by
  unfold cellsM takenM
  induction T with
  | nil => rfl
  | cons x T ih =>
    cases x with
    | none => simpa using ih
    | some c => simp [ih]
/-- The keys that are there. -/
def keysM (T : Tab) : List (List Int) := (cellsM T).map (·.key)
theorem mem_keys {T : Tab} {key : List Int} : key ∈ keysM T ↔ ∃ (k : Nat) (c : CellM), T[k]? = some (some c) ∧ c.key = key := by
  unfold keysM cellsM
  simp only [List.mem_map, List.mem_filterMap, id]
  constructor
  · rintro ⟨c, ⟨x, hx, rfl⟩, rfl⟩
    obtain ⟨k, hk⟩ := List.mem_iff_getElem?.1 hx
    exact ⟨k, c, hk, rfl⟩
  · rintro ⟨k, c, h, rfl⟩
    exact ⟨c, ⟨some c, List.mem_of_getElem? h, rfl⟩, rfl⟩
/-- Whether a put goes: the key is there, or there is room. -/
theorem put_goes {T : Tab} (c : CellM) : (putM T c).isSome = true ↔ c.key ∈ keysM T ∨ takenM T < T.length := by
  unfold putM
  cases hf : findM T c.key with
  | none =>
    have hn := find_spec_none hf
    have h1 : takenM T = T.length := taken_full fun k hk => (hn k hk).imp fun c h => h.1
    simp only [Option.isSome_none, Bool.false_eq_true, false_iff, not_or]
    refine ⟨fun hm => ?_, by omega⟩
    obtain ⟨k, d, hd, he⟩ := mem_keys.1 hm
    obtain ⟨hk, _⟩ := List.getElem?_eq_some_iff.1 hd
    obtain ⟨d', hd', hne⟩ := hn k hk
    rw [hd] at hd'
    cases hd'
    exact hne he
  | some k =>
    obtain ⟨hk, hor, _⟩ := find_spec_some hf
    simp only [Option.isSome_some, true_iff]
    rcases hor with h | ⟨d, hd, he⟩
    · right
      have h1 := taken_set_new (c := c) h
      have h2 := taken_le (T.set k (some c))
      rw [List.length_set] at h2
      omega
    · exact .inl (mem_keys.2 ⟨k, d, hd, he⟩)
theorem put_len {T T' : Tab} {c : CellM} (h : putM T c = some T') : T'.length = T.length := by
  unfold putM at h
  split at h
  · cases h
  · simp only [Option.some.injEq] at h
    rw [← h, List.length_set]
/-- Behind a put: the table is right; the keys are those and this. -/
theorem put_ok {T T' : Tab} (hT : TabOk T) {c : CellM} (h : putM T c = some T') :
    TabOk T' ∧ takenM T' = (if c.key ∈ keysM T then takenM T else takenM T + 1) ∧ ∀ key, key ∈ keysM T' ↔ key = c.key ∨ key ∈ keysM T := by
  unfold putM at h
  cases hf : findM T c.key with
  | none => rw [hf] at h; cases h
  | some k =>
    rw [hf] at h
    simp only [Option.some.injEq] at h
    obtain ⟨hk, hor, i, hi, hp, hb⟩ := find_spec_some hf
    have hkey : ∃ d : CellM, T' = T.set k (some d) ∧ d.key = c.key := by
      rcases hor with h0 | ⟨d, hd, he⟩
      · rw [h0] at h; exact ⟨c, h.symm, rfl⟩
      · rw [hd] at h; exact ⟨joinC d c, h.symm, he⟩
    obtain ⟨d, rfl, hdk⟩ := hkey
    have hget : ∀ m, (T.set k (some d))[m]? = if k = m then some (some d) else T[m]? := by
      intro m
      rw [List.getElem?_set]
      by_cases e : k = m
      · subst e; simp [hk]
      · simp [e]
    have hlen : (T.set k (some d)).length = T.length := List.length_set
    -- a probe that met a taken slot of another key meets one
    have hpb : ∀ key j, (∃ e : CellM, T[probe key T.length j]? = some (some e) ∧ e.key ≠ key) → (probe key T.length j = k → c.key ≠ key) → ∃ e : CellM, (T.set k (some d))[probe key T.length j]? = some (some e) ∧ e.key ≠ key := by
      rintro key j ⟨e, he, hne⟩ hk'
      rw [hget]
      by_cases hc : k = probe key T.length j
      · rw [if_pos hc]; exact ⟨d, rfl, by rw [hdk]; exact hk' hc.symm⟩
      · rw [if_neg hc]; exact ⟨e, he, hne⟩
    refine ⟨?_, ?_, ?_⟩
    · intro m e hm
      rw [hget] at hm
      by_cases hkm : k = m
      · rw [if_pos hkm] at hm
        cases hm
        subst hkm
        refine ⟨i, by rw [hlen]; exact hi, by rw [hlen, hdk]; exact hp, fun j hj => ?_⟩
        rw [hlen, hdk]
        obtain ⟨e, he, hne⟩ := hb j hj
        refine hpb c.key j ⟨e, he, hne⟩ fun hpk => ?_
        exfalso
        rcases hor with h0 | ⟨d', hd', he'⟩
        · rw [hpk, h0] at he; cases he
        · rw [hpk, hd'] at he; cases he; exact hne he'
      · rw [if_neg hkm] at hm
        obtain ⟨i', hi', hp', hb'⟩ := hT m e hm
        refine ⟨i', by rw [hlen]; exact hi', by rw [hlen]; exact hp', fun j hj => ?_⟩
        rw [hlen]
        refine hpb e.key j (hb' j hj) fun hpk hce => ?_
        obtain ⟨e2, he2, hne2⟩ := hb' j hj
        rw [hpk] at he2
        rcases hor with h0 | ⟨d', hd', he'⟩
        · rw [h0] at he2; cases he2
        · rw [hd'] at he2; cases he2; exact hne2 (he'.trans hce)
    · rcases hor with h0 | ⟨d', hd', he'⟩
      · have hnot : ¬ c.key ∈ keysM T := by
          intro hm
          obtain ⟨k', d', hd', he'⟩ := mem_keys.1 hm
          have := find_there hT hd'
          rw [he', hf] at this
          cases this
          rw [h0] at hd'; cases hd'
        rw [if_neg hnot, taken_set_new h0]
      · rw [if_pos (mem_keys.2 ⟨k, d', hd', he'⟩), taken_set_old hd']
    · intro key
      rw [mem_keys, mem_keys]
      constructor
      · rintro ⟨m, e, hm, rfl⟩
        rw [hget] at hm
        by_cases hkm : k = m
        · rw [if_pos hkm] at hm; cases hm; exact .inl hdk
        · rw [if_neg hkm] at hm; exact .inr ⟨m, e, hm, rfl⟩
      · rintro (rfl | ⟨m, e, hm, rfl⟩)
        · exact ⟨k, d, by rw [hget, if_pos rfl], hdk⟩
        · by_cases hkm : k = m
          · subst hkm
            rcases hor with h0 | ⟨d', hd', he'⟩
            · rw [h0] at hm; cases hm
            · rw [hd'] at hm; cases hm
              exact ⟨k, d, by rw [hget, if_pos rfl], by rw [hdk, he']⟩
          · exact ⟨m, e, by rw [hget, if_neg hkm]; exact hm, rfl⟩
def newM (n : Nat) : Tab := List.replicate n none
theorem newM_ok (n : Nat) : TabOk (newM n) := by
  intro k c h
  unfold newM at h
  rw [List.getElem?_replicate] at h
  split at h <;> cases h
theorem newM_taken (n : Nat) : takenM (newM n) = 0 := by
  unfold takenM newM
  rw [List.countP_eq_zero]
  intro x hx
  rw [(List.mem_replicate.1 hx).2]; simp
end Go.HC
