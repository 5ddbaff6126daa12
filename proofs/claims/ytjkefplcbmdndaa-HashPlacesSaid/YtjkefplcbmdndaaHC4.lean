/-
  HC, part 4: a region that draws its order: one order that is written out stands for all of them.
-/
import Derived.Test.YtjkefplcbmdndaaHC3
import Derived.Orders
namespace Go.HC

/-- A program of operations that only looks: it gives v and leaves the heap. -/
def Rd (P : Program) (s : Sem Next) (v : Value) (h : Heap) : Prop := hp P s (fun x h' => x = .value v ∧ h' = h) h

/-- An operation of the order that is written out: its number, whether it only looks, which of the looks ahead of it must look the same behind it. -/
structure Di where
  i : Nat
  mv : Bool
  chk : List Nat

def wanted (ops : Array Oper) (o : Oper) (a : Act) : Bool := Region.wanted o (yielded ops a.tmps)

def arun (P : Program) (ops : Array Oper) : List Nat → (Act → Heap → Prop) → Act → Heap → Prop
  | [], K, a, h => K a h
  | i :: rest, K, a, h =>
    match ops[i]? with
    | none => False
    | some o =>
      if wanted ops o a = true then hp P (execOp a.eval o) (nextK P fun v h' => arun P ops rest K (a.put o.dst v) h') h
      else arun P ops rest K (a.put o.dst undef) h

abbrev Pend := List (Nat × Sem Next × Value)

def crun (P : Program) (ops : Array Oper) : List Di → Pend → (Act → Heap → Prop) → Act → Heap → Prop
  | [], _, K, a, h => K a h
  | d :: ds, pend, K, a, h =>
    match ops[d.i]? with
    | none => False
    | some o =>
      if wanted ops o a = true then
        if d.mv = true then ∃ v, Rd P (execOp a.eval o) v h ∧ crun P ops ds ((d.i, execOp a.eval o, v) :: pend) K (a.put o.dst v) h
        else hp P (execOp a.eval o) (nextK P fun v h' => (∀ p ∈ pend, p.1 ∈ d.chk → Rd P p.2.1 p.2.2 h') ∧ crun P ops ds pend K (a.put o.dst v) h') h
      else crun P ops ds pend K (a.put o.dst undef) h

section
variable {P : Program} {ops : Array Oper}

theorem crun_pend {K : Act → Heap → Prop} : ∀ (ds : List Di) {pend pend' : Pend} {a : Act} {h : Heap}, (∀ p ∈ pend', p ∈ pend) → crun P ops ds pend K a h → crun P ops ds pend' K a h := by
  intro ds
  induction ds with
  | nil => exact fun _ h => h
  | cons d ds ih =>
    intro pend pend' a h hp hc
    simp only [crun] at hc ⊢
    cases ho : ops[d.i]? with
    | none => simp [ho] at hc
    | some o =>
      simp only [ho] at hc ⊢
      split
      · rename_i hw
        rw [if_pos hw] at hc
        split
        · rename_i hm
          rw [if_pos hm] at hc
          obtain ⟨v, hr, hc⟩ := hc
          refine ⟨v, hr, ih (fun p hpp => ?_) hc⟩
          rcases List.mem_cons.1 hpp with rfl | hpp
          · exact List.mem_cons_self ..
          · exact List.mem_cons_of_mem _ (hp p hpp)
        · rename_i hm
          rw [if_neg hm] at hc
          exact hp_mono _ hc fun x h' hx => nextK_mono (fun v h'' hh => ⟨fun p hpp hch => hh.1 p (hp p hpp) hch, ih hp hh.2⟩) x h' hx
      · rename_i hw
        rw [if_neg hw] at hc
        exact ih hp hc

theorem Rd.use {s : Sem Next} {v : Value} {h : Heap} (hr : Rd P s v h) {K : Next → Heap → Prop} (hk : K (.value v) h) : hp P s K h :=
  hp_mono _ hr fun x h' ⟨hx, hh⟩ => by subst hx; subst hh; exact hk

/-- Two operations that do not look at what the other one writes. -/
structure Free (ops : Array Oper) (x s : Oper) : Prop where
  xs : ∀ (a : Act) (v : Value), execOp (a.put x.dst v).eval s = execOp a.eval s
  xw : ∀ (a : Act) (v : Value), wanted ops s (a.put x.dst v) = wanted ops s a
  sx : ∀ (a : Act) (v : Value), execOp (a.put s.dst v).eval x = execOp a.eval x
  sw : ∀ (a : Act) (v : Value), wanted ops x (a.put s.dst v) = wanted ops x a
  comm : ∀ (a : Act) (v u : Value), (a.put x.dst v).put s.dst u = (a.put s.dst u).put x.dst v

theorem Free.of_apart {x s : Oper} (hx : ∀ cs b, x.op ≠ .select cs b) (hs : ∀ cs b, s.op ≠ .select cs b) (h : x.apart ops s = true) : Free ops x s := by
  obtain ⟨h1, h2, h3⟩ := Oper.apart_spec h
  exact ⟨fun a v => execOp_put s hs a x.dst v h1, fun a v => wanted_put s a x.dst v h1, fun a v => execOp_put x hx a s.dst v h3, fun a v => wanted_put x a s.dst v h3,
    fun a v u => Act.put_comm a v u h2⟩

/-- What stands ahead of s only looks, and may as well look behind it. -/
structure Ahead (ops : Array Oper) (x s : Di) : Prop where
  mv : x.mv = true
  free : ∀ ox os, ops[x.i]? = some ox → ops[s.i]? = some os → Free ops ox os
  chk : s.mv = false → x.i ∈ s.chk

theorem crun_front {K : Act → Heap → Prop} {s : Di} {os : Oper} (hos : ops[s.i]? = some os) {post : List Di} : ∀ (pre : List Di), (∀ x ∈ pre, Ahead ops x s) →
    ∀ {pend : Pend} {a : Act} {h : Heap}, crun P ops (pre ++ s :: post) pend K a h → crun P ops (s :: (pre ++ post)) pend K a h := by
  intro pre
  induction pre with
  | nil => exact fun _ _ _ _ h => h
  | cons x pre ih =>
    intro hA pend a h hc
    have hx := hA x (List.mem_cons_self ..)
    have ih' := @ih (fun y hy => hA y (List.mem_cons_of_mem _ hy))
    rw [List.cons_append, crun] at hc
    cases hox : ops[x.i]? with
    | none => simp [hox] at hc
    | some ox =>
      have hf := hx.free ox os hox hos
      simp only [hox] at hc
      by_cases hw : wanted ops ox a = true
      · rw [if_pos hw, if_pos hx.mv] at hc
        obtain ⟨v, hr, hc⟩ := hc
        have hc2 := ih' hc
        rw [crun] at hc2 ⊢
        simp only [hos, hf.xw, hf.xs] at hc2 ⊢
        by_cases hws : wanted ops os a = true
        · rw [if_pos hws] at hc2 ⊢
          by_cases hm : s.mv = true
          · rw [if_pos hm] at hc2 ⊢
            obtain ⟨u, hru, hc3⟩ := hc2
            refine ⟨u, hru, ?_⟩
            rw [List.cons_append, crun]
            simp only [hox, hf.sw, hf.sx, if_pos hw, if_pos hx.mv]
            refine ⟨v, hr, ?_⟩
            rw [← hf.comm]
            exact crun_pend _ (fun p hp => by
              simp only [List.mem_cons] at hp ⊢
              rcases hp with h1 | h1 | h1
              · exact .inr (.inl h1)
              · exact .inl h1
              · exact .inr (.inr h1)) hc3
          · rw [if_neg hm] at hc2 ⊢
            refine hp_mono _ hc2 fun y h' hy => nextK_mono (fun u h'' hh => ⟨fun p hp hch => hh.1 p (List.mem_cons_of_mem _ hp) hch, ?_⟩) y h' hy
            rw [List.cons_append, crun]
            simp only [hox, hf.sw, hf.sx, if_pos hw, if_pos hx.mv]
            refine ⟨v, hh.1 (x.i, execOp a.eval ox, v) (List.mem_cons_self ..) (hx.chk (by simpa using hm)), ?_⟩
            rw [← hf.comm]
            exact hh.2
        · rw [if_neg hws] at hc2 ⊢
          rw [List.cons_append, crun]
          simp only [hox, hf.sw, hf.sx, if_pos hw, if_pos hx.mv]
          refine ⟨v, hr, ?_⟩
          rw [← hf.comm]
          exact hc2
      · rw [if_neg hw] at hc
        have hc2 := ih' hc
        rw [crun] at hc2 ⊢
        simp only [hos, hf.xw, hf.xs] at hc2 ⊢
        by_cases hws : wanted ops os a = true
        · rw [if_pos hws] at hc2 ⊢
          by_cases hm : s.mv = true
          · rw [if_pos hm] at hc2 ⊢
            obtain ⟨u, hru, hc3⟩ := hc2
            refine ⟨u, hru, ?_⟩
            rw [List.cons_append, crun]
            simp only [hox, hf.sw, if_neg hw]
            rw [← hf.comm]
            exact hc3
          · rw [if_neg hm] at hc2 ⊢
            refine hp_mono _ hc2 fun y h' hy => nextK_mono (fun u h'' hh => ⟨hh.1, ?_⟩) y h' hy
            rw [List.cons_append, crun]
            simp only [hox, hf.sw, if_neg hw]
            rw [← hf.comm]
            exact hh.2
        · rw [if_neg hws] at hc2 ⊢
          rw [List.cons_append, crun]
          simp only [hox, hf.sw, if_neg hw]
          rw [← hf.comm]
          exact hc2

def depsOf (ops : Array Oper) (s : Nat) : List Nat :=
  match ops[s]? with
  | some o => (o.after.toList.filter fun e => Region.binds .any e).map (·.on)
  | none => []
def anc (ops : Array Oper) : Nat → Nat → Nat → Bool
  | 0, _, _ => false
  | f + 1, x, s => (depsOf ops s).any fun y => y == x || anc ops f x y

def DownC (ops : Array Oper) (E : List Nat) : Prop := ∀ y ∈ E, ∀ z ∈ depsOf ops y, z ∈ E
theorem anc_mem {E : List Nat} (hE : DownC ops E) : ∀ (f x s : Nat), (∀ z ∈ depsOf ops s, z ∈ E) → anc ops f x s = true → x ∈ E := by
  intro f
  induction f with
  | zero => intro x s _ h; simp [anc] at h
  | succ f ih =>
    intro x s hs h
    simp only [anc, List.any_eq_true, Bool.or_eq_true, beq_iff_eq] at h
    obtain ⟨y, hy, hh⟩ := h
    rcases hh with rfl | hh
    · exact hs _ hy
    · exact ih x y (fun z hz => hE y (hs y hy) z hz) hh

def Lin (ops : Array Oper) : List Nat → List Nat → Prop
  | _, [] => True
  | E, s :: σ => (∀ z ∈ depsOf ops s, z ∈ E) ∧ Lin ops (s :: E) σ

def relB (ops : Array Oper) (x s : Di) : Bool :=
  anc ops ops.size x.i s.i ||
  (x.mv && (match ops[x.i]?, ops[s.i]? with | some ox, some os => ox.apart ops os | _, _ => false) && (s.mv || s.chk.contains x.i))

def pairB (ops : Array Oper) : List Di → Bool
  | [] => true
  | d :: ds => ds.all (fun s => relB ops d s) && pairB ops ds

theorem pairB_append {ops : Array Oper} : ∀ {xs ys : List Di}, pairB ops (xs ++ ys) = true → pairB ops xs = true ∧ pairB ops ys = true ∧ ∀ x ∈ xs, ∀ y ∈ ys, relB ops x y = true
  | [], ys, h => ⟨rfl, h, by simp⟩
  | x :: xs, ys, h => by
    simp only [List.cons_append, pairB, Bool.and_eq_true, List.all_eq_true] at h
    obtain ⟨h1, h2⟩ := h
    obtain ⟨p1, p2, p3⟩ := pairB_append h2
    refine ⟨?_, p2, fun z hz y hy => ?_⟩
    · simp only [pairB, Bool.and_eq_true, List.all_eq_true]
      exact ⟨fun s hs => h1 s (List.mem_append_left _ hs), p1⟩
    · rcases List.mem_cons.1 hz with rfl | hz
      · exact h1 y (List.mem_append_right _ hy)
      · exact p3 z hz y hy
theorem pairB_remove {ops : Array Oper} {d : Di} : ∀ {xs ys : List Di}, pairB ops (xs ++ d :: ys) = true → pairB ops (xs ++ ys) = true
  | [], ys, h => by simp only [List.nil_append, pairB, Bool.and_eq_true] at h; exact h.2
  | x :: xs, ys, h => by
    simp only [List.cons_append, pairB, Bool.and_eq_true, List.all_eq_true] at h ⊢
    refine ⟨fun s hs => h.1 s ?_, pairB_remove h.2⟩
    rcases List.mem_append.1 hs with hs | hs
    · exact List.mem_append_left _ hs
    · exact List.mem_append_right _ (List.mem_cons_of_mem _ hs)

theorem arun_of_crun (hsel : Region.noSelect ops = true) {K : Act → Heap → Prop} : ∀ (σ : List Nat) (ds : List Di) (E : List Nat) (pend : Pend) (a : Act) (h : Heap),
    σ.Perm (ds.map (·.i)) → σ.Nodup → (∀ d ∈ ds, (ops[d.i]?).isSome = true) → DownC ops E → Lin ops E σ → (∀ d ∈ ds, d.i ∉ E) → pairB ops ds = true → crun P ops ds pend K a h → arun P ops σ K a h := by
  intro σ
  induction σ with
  | nil =>
    intro ds E pend a h hp _ _ _ _ _ _ hc
    have : ds = [] := by simpa using hp.symm.eq_nil
    subst this
    exact hc
  | cons s σ ih =>
    intro ds E pend a h hp hnd hin hE hlin hnot hpair hc
    have hmem : s ∈ ds.map (·.i) := hp.subset (List.mem_cons_self ..)
    obtain ⟨d, hd, hdi⟩ := List.mem_map.1 hmem
    obtain ⟨pre, post, rfl⟩ := List.append_of_mem hd
    subst hdi
    obtain ⟨o, hod⟩ := Option.isSome_iff_exists.1 (hin d hd)
    simp only [arun, hod]
    have hrel := (pairB_append hpair).2.2
    have hA : ∀ x ∈ pre, Ahead ops x d := by
      intro x hx
      have h1 := hrel x hx d (List.mem_cons_self ..)
      simp only [relB, Bool.or_eq_true, Bool.and_eq_true] at h1
      rcases h1 with h1 | ⟨⟨h1, h2⟩, h3⟩
      · exact absurd (anc_mem hE _ _ _ hlin.1 h1) (hnot x (List.mem_append_left _ hx))
      · refine ⟨h1, fun ox os hox hos => ?_, fun hm => ?_⟩
        · rw [hox, hos] at h2
          exact Free.of_apart (fun cs b => Region.noSelect_spec hsel _ _ cs b hox) (fun cs b => Region.noSelect_spec hsel _ _ cs b hos) h2
        · simpa [hm] using h3
    have hc2 := crun_front hod pre hA hc
    rw [crun] at hc2
    simp only [hod] at hc2
    have hp2 : σ.Perm ((pre ++ post).map (·.i)) := by
      have : (d.i :: σ).Perm (d.i :: (pre ++ post).map (·.i)) := by
        refine hp.trans ?_
        simp only [List.map_append, List.map_cons]
        exact List.perm_middle
      exact (List.perm_cons _).1 this
    have hE2 : DownC ops (d.i :: E) := by
      intro y hy z hz
      rcases List.mem_cons.1 hy with rfl | hy
      · exact List.mem_cons_of_mem _ (hlin.1 z hz)
      · exact List.mem_cons_of_mem _ (hE y hy z hz)
    have sub : ∀ x ∈ pre ++ post, x ∈ pre ++ d :: post := by
      intro x hx
      rcases List.mem_append.1 hx with hx | hx
      · exact List.mem_append_left _ hx
      · exact List.mem_append_right _ (List.mem_cons_of_mem _ hx)
    have hnot2 : ∀ x ∈ pre ++ post, x.i ∉ d.i :: E := by
      intro x hx hmem
      rcases List.mem_cons.1 hmem with he | he
      · have h1 : x.i ∈ σ := hp2.symm.subset (List.mem_map.2 ⟨x, hx, rfl⟩)
        rw [he] at h1
        exact (List.nodup_cons.1 hnd).1 h1
      · exact hnot x (sub x hx) he
    have next : ∀ {pend : Pend} {a : Act} {h : Heap}, crun P ops (pre ++ post) pend K a h → arun P ops σ K a h := fun hc3 =>
      ih (pre ++ post) (d.i :: E) _ _ _ hp2 (List.nodup_cons.1 hnd).2 (fun x hx => hin x (sub x hx)) hE2 hlin.2 hnot2 (pairB_remove hpair) hc3
    by_cases hw : wanted ops o a = true
    · rw [if_pos hw] at hc2 ⊢
      by_cases hm : d.mv = true
      · rw [if_pos hm] at hc2
        obtain ⟨v, hr, hc3⟩ := hc2
        exact hr.use (next hc3)
      · rw [if_neg hm] at hc2
        exact hp_mono _ hc2 fun y h' hy => nextK_mono (fun u h'' hh => next hh.2) y h' hy
    · rw [if_neg hw] at hc2 ⊢
      exact next hc2

/-! ### Every schedule is a linear order -/
def unl (ops : Array Oper) (listed : Array Bool) : List Nat := (List.range ops.size).filter fun i => !listed.getD i true

theorem mem_unl {listed : Array Bool} {i : Nat} : i ∈ unl ops listed ↔ i < ops.size ∧ listed.getD i true = false := by
  simp [unl]

theorem unl_set {listed : Array Bool} {i : Nat} (hs : listed.size = ops.size) (hi : i ∈ unl ops listed) : (i :: unl ops (listed.setIfInBounds i true)).Perm (unl ops listed) := by
  have hlt := (mem_unl.1 hi).1
  have hiu := (mem_unl.1 hi).2
  have hnd : (unl ops listed).Nodup := List.nodup_range.filter _
  have hnd2 : (unl ops (listed.setIfInBounds i true)).Nodup := List.nodup_range.filter _
  refine (List.perm_ext_iff_of_nodup (List.nodup_cons.2 ⟨?_, hnd2⟩) hnd).2 fun j => ?_
  · intro hm
    have := (mem_unl.1 hm).2
    simp [hs ▸ hlt] at this
  · rw [List.mem_cons, mem_unl, mem_unl]
    by_cases hj : i = j
    · subst hj; simp [hlt, hiu]
    · rw [getD_set_ne true hj]
      constructor
      · rintro (h | h)
        · exact absurd h.symm hj
        · exact h
      · exact .inr

def upB (ops : Array Oper) : Bool := (List.range ops.size).all fun i => (depsOf ops i).all fun z => Nat.blt z i

theorem depsOf_spec {i : Nat} {o : Oper} (ho : ops[i]? = some o) (z : Nat) : z ∈ depsOf ops i ↔ ∃ e ∈ o.after, Region.binds .any e = true ∧ e.on = z := by
  simp only [depsOf, ho, List.mem_map, List.mem_filter, Array.mem_toList_iff, and_assoc]

theorem binds_any {md : Region.Mode} {e : Edge} (h : Region.binds .any e = true) : Region.binds md e = true := by
  obtain ⟨on, ground⟩ := e
  cases ground <;> first | rfl | (exfalso; revert h; simp [Region.binds])
def upM (md : Region.Mode) (ops : Array Oper) : Bool :=
  (List.range ops.size).all fun i => match ops[i]? with
    | some o => o.after.toList.all fun e => !Region.binds md e || (Nat.blt e.on ops.size && Nat.blt ((Region.linearise md ops 0).idxOf e.on) ((Region.linearise md ops 0).idxOf i))
    | none => true

theorem sched_go (md : Region.Mode) (r : Nat → Nat) (hup : ∀ i o e, ops[i]? = some o → e ∈ o.after → Region.binds md e = true → e.on < ops.size ∧ r e.on < r i) : ∀ (fuel t : Nat) (listed : Array Bool) (E : List Nat), listed.size = ops.size → (∀ z, listed.getD z false = true ↔ z ∈ E) → (unl ops listed).length ≤ fuel →
    (Region.linearise.go md ops fuel t listed []).Perm (unl ops listed) ∧ Lin ops E (Region.linearise.go md ops fuel t listed []) := by
  intro fuel
  induction fuel with
  | zero =>
    intro t listed E _ _ hl
    have : unl ops listed = [] := List.eq_nil_of_length_eq_zero (by omega)
    simp [Region.linearise.go, this, Lin]
  | succ fuel ih =>
    intro t listed E hs hE hl
    simp only [Region.linearise.go]
    change List.Perm (match (Region.ready md ops listed)[t % (Region.ready md ops listed).length]? with
      | some i => Region.linearise.go md ops fuel (t / (Region.ready md ops listed).length) (listed.setIfInBounds i true) [i]
      | none => [].reverse) _ ∧ Lin ops E (match (Region.ready md ops listed)[t % (Region.ready md ops listed).length]? with
      | some i => Region.linearise.go md ops fuel (t / (Region.ready md ops listed).length) (listed.setIfInBounds i true) [i]
      | none => [].reverse)
    cases hi : (Region.ready md ops listed)[t % (Region.ready md ops listed).length]? with
    | none =>
      have hnil : Region.ready md ops listed = [] := by
        cases hr : Region.ready md ops listed with
        | nil => rfl
        | cons x xs =>
          rw [hr] at hi
          have hlt : t % (x :: xs).length < (x :: xs).length := Nat.mod_lt _ (by simp)
          simp at hi
          simp at hlt
          omega
      have hu : unl ops listed = [] := by
        -- the least that is not listed would be ready
        refine Classical.byContradiction fun hne => ?_
        have key : ∀ m i, r i < m → i ∉ unl ops listed := by
          intro m
          induction m with
          | zero => intro i h; omega
          | succ m ihm =>
            intro i him hmem
            have hin := mem_unl.1 hmem
            obtain ⟨o, ho⟩ : ∃ o, ops[i]? = some o := ⟨ops[i]'hin.1, by simp [hin.1]⟩
            have : i ∈ Region.ready md ops listed := by
              refine mem_ready.2 ⟨hin.2, o, ho, fun e he hb => ?_⟩
              obtain ⟨hsz, hlt⟩ := hup i o e ho he hb
              have hnot := ihm e.on (by omega)
              rw [mem_unl] at hnot
              have hsz2 : e.on < listed.size := by omega
              have : ¬ listed.getD e.on true = false := fun hf => hnot ⟨hsz, hf⟩
              simp [hsz2] at this ⊢
              exact this
            rw [hnil] at this
            cases this
        obtain ⟨i, hi⟩ := List.exists_mem_of_ne_nil _ hne
        exact key (r i + 1) i (by omega) hi
      simp [hu, Lin]
    | some i =>
      simp only []
      have hr : i ∈ Region.ready md ops listed := List.mem_of_getElem? hi
      obtain ⟨hun, o, ho, hall⟩ := mem_ready.1 hr
      have hmem : i ∈ unl ops listed := mem_unl.2 ⟨(Array.getElem?_eq_some_iff.1 ho).1, hun⟩
      have hperm := unl_set hs hmem
      have hlen := hperm.length_eq
      have hE2 : ∀ z, (listed.setIfInBounds i true).getD z false = true ↔ z ∈ i :: E := by
        intro z
        by_cases hz : i = z
        · subst hz
          have : i < listed.size := by rw [hs]; exact (Array.getElem?_eq_some_iff.1 ho).1
          simp [this]
        · rw [getD_set_ne false hz, hE, List.mem_cons]
          constructor
          · exact .inr
          · rintro (h | h)
            · exact absurd h.symm hz
            · exact h
      obtain ⟨hp, hlin⟩ := ih (t / (Region.ready md ops listed).length) (listed.setIfInBounds i true) (i :: E) (by simp [hs]) hE2 (by simp at hlen; omega)
      rw [linearise_go_acc, List.reverse_singleton, List.singleton_append]
      refine ⟨(hp.cons i).trans hperm, fun z hz => ?_, hlin⟩
      obtain ⟨e, he, hb, rfl⟩ := (depsOf_spec ho z).1 hz
      exact (hE _).1 (hall e he (binds_any hb))

theorem sched_md (md : Region.Mode) (r : Nat → Nat) (hup : ∀ i o e, ops[i]? = some o → e ∈ o.after → Region.binds md e = true → e.on < ops.size ∧ r e.on < r i) (t : Nat) :
    (Region.linearise md ops t).Perm (List.range ops.size) ∧ Lin ops [] (Region.linearise md ops t) := by
  have h := sched_go (ops := ops) md r hup ops.size t (Array.replicate ops.size false) [] (by simp) (by intro z; by_cases hz : z < ops.size <;> simp [hz]) (by
    unfold unl
    exact Nat.le_trans (List.length_filter_le _ _) (by simp))
  have hu : unl ops (Array.replicate ops.size false) = List.range ops.size := by
    unfold unl
    rw [List.filter_eq_self]
    intro i hi
    simp at hi
    simp [hi]
  rw [hu] at h
  exact h
theorem upB_spec (hup : upB ops = true) : ∀ i o e, ops[i]? = some o → e ∈ o.after → Region.binds .any e = true → e.on < ops.size ∧ e.on < i := by
  intro i o e ho he hb
  have hi : i < ops.size := (Array.getElem?_eq_some_iff.1 ho).1
  have hz : e.on ∈ depsOf ops i := (depsOf_spec ho e.on).2 ⟨e, he, hb, rfl⟩
  have h1 := List.all_eq_true.1 (List.all_eq_true.1 hup i (List.mem_range.2 hi)) _ hz
  have h2 : e.on < i := by simpa using h1
  exact ⟨by omega, h2⟩
theorem upM_spec {md : Region.Mode} (hup : upM md ops = true) : ∀ i o e, ops[i]? = some o → e ∈ o.after → Region.binds md e = true → e.on < ops.size ∧ (Region.linearise md ops 0).idxOf e.on < (Region.linearise md ops 0).idxOf i := by
  intro i o e ho he hb
  have hi : i < ops.size := (Array.getElem?_eq_some_iff.1 ho).1
  have h1 := List.all_eq_true.1 hup i (List.mem_range.2 hi)
  simp only [ho] at h1
  have h2 := List.all_eq_true.1 h1 e (by simpa using he)
  simpa [hb] using h2
/-- Every order that may be drawn. -/
theorem sched_all {mixed : Bool} (hd : (!Region.departs ops || (upM .text ops && upM .gc ops)) = true) (hup : upB ops = true) (t : Nat) :
    (Region.schedule mixed ops t).Perm (List.range ops.size) ∧ Lin ops [] (Region.schedule mixed ops t) := by
  unfold Region.schedule
  split
  · exact sched_md .any id (upB_spec hup) t
  · rename_i hm
    have hdp : Region.departs ops = true := by
      cases hx : Region.departs ops with
      | true => rfl
      | false => simp [hx] at hm
    simp only [hdp, Bool.not_true, Bool.false_or, Bool.and_eq_true] at hd
    split
    · exact sched_md .text (fun z => (Region.linearise .text ops 0).idxOf z) (upM_spec hd.1) _
    · exact sched_md .gc (fun z => (Region.linearise .gc ops 0).idxOf z) (upM_spec hd.2) _

/-! ### The rule -/
/-- The operations that may be taken for looks. -/
def valOp : Op → Bool
  | .move _ | .assign _ | .pick .. | .load .. | .nilCheck _ | .binOp .. | .unOp .. | .convert .. | .makeFunc .. | .slice .. | .fieldAddr .. | .field .. | .indexAddr .. | .index .. | .lookup .. | .extract .. | .build .. => true
  | .call { callee := .builtin .len, .. } | .call { callee := .builtin .cap, .. } | .call { callee := .builtin .min, .. } | .call { callee := .builtin .max, .. } => true
  | _ => false

def drawOk (ops : Array Oper) (ds : List Di) : Bool :=
  (!Region.departs ops || (upM .text ops && upM .gc ops)) && upB ops && Region.noSelect ops && pairB ops ds && (ds.map (·.i)).isPerm (List.range ops.size) &&
  ds.all fun d => !d.mv || (match ops[d.i]? with | some o => valOp o.op | none => false)

def dsem (P : Program) (ops : Array Oper) : List Di → List (Nat × (Heap → Prop)) → (L → Base → Heap → Prop) → L → Base → Heap → Prop
  | [], _, K, l, b, h => K l b h
  | d :: ds, pend, K, l, b, h =>
    match ops[d.i]? with
    | none => False
    | some o =>
      if guardB o ops l b = true then
        if d.mv = true then ∃ v, osem P o l b h (fun v' h' => v' = v ∧ h' = h) ∧
          dsem P ops ds ((d.i, fun h' => osem P o l b h' (fun v' h'' => v' = v ∧ h'' = h')) :: pend) K (putl o.dst v l) b h
        else osem P o l b h (fun v h' => (∀ p ∈ pend, p.1 ∈ d.chk → p.2 h') ∧ dsem P ops ds pend K (putl o.dst v l) b h')
      else dsem P ops ds pend K (putl o.dst undef l) b h

theorem valOp_rd {o : Oper} {ρ : Operand → Value} {v : Value} {h : Heap} (hv : valOp o.op = true)
    (hh : hp P (execOp ρ o) (nextK P (fun v' h' => v' = v ∧ h' = h)) h) : Rd P (execOp ρ o) v h := by
  obtain ⟨dst, op, type, pos, after, guard⟩ := o
  unfold Rd
  cases op
  case call c =>
    obtain ⟨cal, args, ats⟩ := c
    cases cal
    case builtin bi =>
      cases bi <;> simp only [valOp, Bool.false_eq_true] at hv <;>
        simp only [execOp, resolve, invoke, builtin, hp_bind, hp_pure] at hh ⊢ <;>
        exact hp_mono _ hh fun x h' hx => by simpa [nextK] using hx
    all_goals simp [valOp] at hv
  case nilCheck x =>
    simp only [execOp] at hh ⊢
    split at hh
    · simp [runtimePanic] at hh
    · simp [runtimePanic] at hh
    · simp [runtimePanic] at hh
    · split at hh
      · simp [runtimePanic] at hh
      · simp only [hp_bind, hp_program] at hh ⊢
        refine hp_mono _ hh fun x h' hx => ?_
        split at hx
        · simp at hx
        · rename_i hne
          simp only [hp_pure, nextK] at hx
          simp only [hne]
          simpa using hx
      · simpa [nextK] using hh
    · simpa [nextK] using hh
  all_goals first
    | (simp [valOp] at hv; done)
    | (simp only [execOp, hp_bind, hp_pure] at hh ⊢; exact hp_mono _ hh fun x h' hx => by simpa [nextK] using hx)
    | (simp only [execOp, hp_pure, nextK] at hh ⊢; exact ⟨by rw [hh.1], hh.2⟩)

theorem crun_of_dsem {n : Nat} {b : Base} (hok : opsOk n ops = true) {K : L → Base → Heap → Prop} : ∀ (ds : List Di) {pl : List (Nat × (Heap → Prop))} {pa : Pend} {a : Act} {l : L} {h : Heap},
    ds.all (fun d => !d.mv || (match ops[d.i]? with | some o => valOp o.op | none => false)) = true →
    (∀ p ∈ pa, ∃ q ∈ pl, q.1 = p.1 ∧ ∀ h', q.2 h' → Rd P p.2.1 p.2.2 h') → IsFr n a l b → dsem P ops ds pl K l b h →
    crun P ops ds pa (fun a' h' => ∃ l', IsFr n a' l' b ∧ K l' b h') a h := by
  intro ds
  induction ds with
  | nil => exact fun _ _ hfr hd => ⟨_, hfr, hd⟩
  | cons d ds ih =>
    intro pl pa a l h hv hp hfr hd
    simp only [List.all_cons, Bool.and_eq_true] at hv
    simp only [dsem] at hd
    simp only [crun]
    cases ho : ops[d.i]? with
    | none => simp [ho] at hd
    | some o =>
      simp only [ho] at hd ⊢
      have hw : wanted ops o a = guardB o ops l b := by unfold wanted; rw [gval_eq hfr]; rfl
      rw [hw]
      by_cases hg : guardB o ops l b = true
      · rw [if_pos hg] at hd ⊢
        by_cases hm : d.mv = true
        · rw [if_pos hm] at hd ⊢
          obtain ⟨v, hr, hd⟩ := hd
          have hvo : valOp o.op = true := by simpa [hm, ho] using hv.1
          refine ⟨v, by rw [hfr.eval]; exact valOp_rd hvo hr, ih hv.2 (fun p hpp => ?_) (hfr.put (opsOk_spec hok ho) v) hd⟩
          rcases List.mem_cons.1 hpp with rfl | hpp
          · exact ⟨_, List.mem_cons_self .., rfl, fun h' hh => by rw [hfr.eval]; exact valOp_rd hvo hh⟩
          · obtain ⟨q, hq, h1, h2⟩ := hp p hpp
            exact ⟨q, List.mem_cons_of_mem _ hq, h1, h2⟩
        · rw [if_neg hm] at hd ⊢
          rw [hfr.eval]
          refine hp_mono _ hd fun x h' hx => nextK_mono (fun v h'' hh => ⟨fun p hpp hch => ?_, ih hv.2 hp (hfr.put (opsOk_spec hok ho) v) hh.2⟩) x h' hx
          obtain ⟨q, hq, h1, h2⟩ := hp p hpp
          exact h2 _ (hh.1 q hq (by rw [h1]; exact hch))
      · rw [if_neg hg] at hd ⊢
        exact ih hv.2 hp (hfr.put (opsOk_spec hok ho) undef) hd

theorem steps_arun {n : Nat} {d : List Nat} (hok : opsOk n ops = true) {fr : Frame} {k : List Item} {cs : List Frame} {K : Act → Heap → Prop} : ∀ (σ : List Nat) {a : Act} {w : World},
    a.tmps.size = n → a.defers = d.map markOf → arun P ops σ K a w.heap → ∃ a' w', Same w w' ∧ K a' w'.heap ∧ Steps P (lone (fr.atR a (.inRegion ops σ :: k)) cs w) (lone (fr.atR a' k) cs w') := by
  intro σ
  induction σ with
  | nil => exact fun _ _ h => ⟨_, _, .refl _, h, .one stepR_region_end⟩
  | cons i σ ih =>
    intro a w hsz hd h
    have hfr : IsFr n a [] ⟨fun t => a.tmps.getD t undef, d⟩ := ⟨hsz, fun _ => rfl, hd⟩
    simp only [arun] at h
    cases ho : ops[i]? with
    | none => simp [ho] at h
    | some o =>
      simp only [ho] at h
      have hw : wanted ops o a = guardB o ops [] ⟨fun t => a.tmps.getD t undef, d⟩ := by unfold wanted; rw [gval_eq hfr]; rfl
      rw [hw] at h
      by_cases hg : guardB o ops [] ⟨fun t => a.tmps.getD t undef, d⟩ = true
      · rw [if_pos hg, hfr.eval] at h
        obtain ⟨v, w', hs, hk, hst⟩ := step_osem (fr := fr) (k := k) (cs := cs) (rest := σ) ho hfr hg h
        have hfr' := hfr.put (opsOk_spec hok ho) v
        obtain ⟨a', w'', hs', hk', hst'⟩ := ih hfr'.size hfr'.defers hk
        exact ⟨a', w'', hs.trans hs', hk', hst.trans hst'⟩
      · rw [if_neg hg] at h
        have hfr' := hfr.put (opsOk_spec hok ho) undef
        obtain ⟨a', w'', hs', hk', hst'⟩ := ih hfr'.size hfr'.defers h
        exact ⟨a', w'', hs', hk', (step_skipped ho hfr hg).trans hst'⟩

theorem draw_rule {n : Nat} {ro : Option Nat} {id : Nat} {κ : Kont} {l : L} {b : Base} {h : Heap} (ds : List Di) (hd : drawOk ops ds = true) (hok : opsOk n ops = true)
    (hc : dsem P ops ds [] κ.nx l b h) : gsem P n ro (.region id ops true) κ l b h := by
  intro a w hw hfr fr k cs hkd hro
  subst hw
  unfold drawOk at hd
  rw [Bool.and_eq_true, Bool.and_eq_true, Bool.and_eq_true, Bool.and_eq_true, Bool.and_eq_true] at hd
  obtain ⟨⟨⟨⟨⟨hdep, hup⟩, hsel⟩, hpair⟩, hperm⟩, hval⟩ := hd
  have hperm := List.isPerm_iff.1 hperm
  have hcr := crun_of_dsem (P := P) hok ds (pa := []) hval (by simp) hfr hc
  let t := w.tape w.drawn (.order fr.fn id)
  obtain ⟨hp1, hlin⟩ := sched_all (mixed := P.follows .mixedOrders) hdep hup t
  have har : arun P ops (Region.schedule (P.follows .mixedOrders) ops t) (fun a' h' => ∃ l', IsFr n a' l' b ∧ κ.nx l' b h') a w.heap := by
    refine arun_of_crun hsel _ ds [] [] a _ (hp1.trans hperm.symm) (hp1.symm.nodup List.nodup_range) (fun d hd => ?_) (fun y hy => by cases hy) hlin (fun d _ => by simp) hpair hcr
    have : d.i ∈ List.range ops.size := hperm.subset (List.mem_map.2 ⟨d, hd, rfl⟩)
    simp at this
    simp [this]
  obtain ⟨a', w', hs, ⟨l', hfr', hk⟩, hst⟩ := steps_arun (P := P) (d := b.d) (fr := fr) (k := k) (cs := cs) hok _ (w := { w with drawn := w.drawn + 1 }) hfr.size hfr.defers har
  exact ⟨.nx, a', w', l', b, ⟨hs.os, hs.tape, hs.output⟩, hfr', hk, .head stepR_region_draw hst⟩
end
end Go.HC
