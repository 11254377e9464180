/- A verified evaluator for closed calls, part 2: abstract worlds and their relation to worlds. -/
import Derived.Test.YtkpnmedaonmlaaaGreatDoorEv1
import Derived.Deep.MidRow
import Derived.Deep.AppendSrc
namespace Go.Ev
open Go.RowKit

/-- the state of a loop over a function: ready, in a round, left by a jump -/
inductive LSt where
  | ready
  | busy
  | done (j : Code)
inductive AO where
  | cells (cs : List Value)
  | map (es : List MapEntry) (clock : Nat)
  | iter (m : Option Nat) (since : Nat) (seen : List Nat) (stepped : Nat)
  | loop (st : LSt) (fr : T Value) (n : Nat) (ps : List Nat) (a b : Code)
  | dfr
/-- a type that is not known -/
def ANY : Nat := 4294967295
structure Blk where
  obj : AO
  es : Nat
  exact : Bool
  ro : Bool
  ty : TypeId
structure AW where
  heap : T (Option Blk)
  next : Nat

noncomputable def AW.get (A : AW) (B : Nat) : Option Blk := A.heap.get none B
noncomputable def AW.put (A : AW) (B : Nat) (o : Option Blk) : AW := ⟨A.heap.set B o, A.next⟩
noncomputable def AW.add (A : AW) (blk : Blk) : AW := ⟨A.heap.set A.next (some blk), Nat.add A.next 1⟩

def ERel (β : Ren) (e e' : MapEntry) : Prop := e.born = e'.born ∧ VRel β e.key e'.key ∧ VRel β e.val e'.val

def BRel (β : Ren) (l : Loc) (blk : Blk) (o : Option Obj) : Prop :=
  match blk.obj with
  | .cells cs => ∃ cur e fz, o = some (.cells cur e fz) ∧ cur.size = l.sz ∧ l.d + cs.length ≤ l.sz ∧ (∀ (i : Nat) (v : Value), cs[i]? = some v → ∃ v', cur[l.d + i]? = some v' ∧ VRel β v v') ∧
      (blk.ro = false → fz = (0, 0)) ∧ (blk.exact = true → l.d = 0 ∧ l.d + cs.length = l.sz) ∧ l.es = blk.es ∧ (blk.ty ≠ ANY → e = blk.ty)
  | .map es ck => ∃ es', o = some (.map es' ck) ∧ es.length = es'.size ∧ ∀ (i : Nat) e e', es[i]? = some e → es'[i]? = some e' → ERel β e e'
  | .iter m since seen st => l.d = 0 ∧ ∃ m', o = some (.mapIter m' since ⟨seen⟩ st) ∧ ((m = none ∧ m' = none) ∨ ∃ B lb, m = some B ∧ β B = some lb ∧ m' = some lb.b)
  | .loop st fr n ps a b => ∃ r, o = some (.loop r) ∧ r.state = (match st with | .ready => .ready | .busy => .busy | .done _ => .done) ∧ r.pending = (match st with | .done j => some j | _ => none) ∧ r.params = ⟨ps⟩ ∧ r.assign = a ∧ r.body = b ∧ r.tmps.size = n ∧ ∀ t, VRel β (fr.get J t) (r.tmps.getD t undef)
  | .dfr => o = some (.deferred (some []))

theorem BRel.mono {β β' : Ren} (hb : β.le β') {l : Loc} {blk : Blk} {o : Option Obj} (h : BRel β l blk o) : BRel β' l blk o := by
  unfold BRel at *
  cases hk : blk.obj with
  | cells cs =>
    simp only [hk] at h ⊢
    obtain ⟨cur, e, fz, h1, h2, h3, h4, h5, h6, h7⟩ := h
    exact ⟨cur, e, fz, h1, h2, h3, fun i v hv => (h4 i v hv).imp fun v' ⟨a, b⟩ => ⟨a, b.mono hb⟩, h5, h6, h7⟩
  | map es ck =>
    simp only [hk] at h ⊢
    obtain ⟨es', h1, h2, h3⟩ := h
    exact ⟨es', h1, h2, fun i e e' a b => ⟨(h3 i e e' a b).1, (h3 i e e' a b).2.1.mono hb, (h3 i e e' a b).2.2.mono hb⟩⟩
  | iter m since seen st =>
    simp only [hk] at h ⊢
    obtain ⟨h0, m', h1, h2⟩ := h
    exact ⟨h0, m', h1, h2.imp id fun ⟨B, lb, a, b, c⟩ => ⟨B, lb, a, hb _ _ b, c⟩⟩
  | loop bz fr n ps a b =>
    simp only [hk] at h ⊢
    obtain ⟨r, h1, h2, h3, h4, h5, h6, h7, h8⟩ := h
    exact ⟨r, h1, h2, h3, h4, h5, h6, h7, fun t => (h8 t).mono hb⟩
  | dfr =>
    simp only [hk] at h ⊢
    exact h

structure Inv (w0 : World) (G : Nat) (β : Ren) (A : AW) (w : World) : Prop where
  below : Below w0.heap.size w0 w
  dom : ∀ B l, β B = some l → B < A.next
  nxt : ∀ B, A.next ≤ B → A.get B = none
  loc : ∀ B l, β B = some l → l.b < w.heap.size ∧ (B < G ∨ w0.heap.size ≤ l.b)
  inj : ∀ B B' l l', β B = some l → β B' = some l' → l.b = l'.b → (A.get B).isSome = true → (A.get B').isSome = true → B = B'
  cont : ∀ B blk l, A.get B = some blk → β B = some l → BRel β l blk w.heap[l.b]?
  glob : ∀ g, g < G → ∃ l, β g = some l ∧ l.b = g ∧ l.d = 0

def Ren.put (β : Ren) (B : Nat) (l : Loc) : Ren := fun X => if X = B then some l else β X
/-- what was known stays as it is -/
def Ren.grow (β β' : Ren) (n : Nat) : Prop := ∀ B, B < n → β' B = β B
theorem Ren.grow_refl (β : Ren) (n : Nat) : β.grow β n := fun _ _ => rfl
theorem Ren.grow_trans {a b c : Ren} {n m : Nat} (h : a.grow b n) (k : b.grow c m) (hm : n ≤ m) : a.grow c n := fun B hB => (k B (by omega)).trans (h B hB)
theorem Ren.grow_put (β : Ren) (n : Nat) (l : Loc) : β.grow (β.put n l) n := fun B hB => by unfold Ren.put; rw [if_neg (by omega)]
theorem Ren.grow.le {β β' : Ren} {n : Nat} (h : β.grow β' n) (hd : ∀ B l, β B = some l → B < n) : β.le β' := fun B l e => (h B (hd B l e)).trans e

section
variable {w0 w : World} {G : Nat} {β : Ren} {A : AW}

theorem AW.get_add (A : AW) (blk : Blk) (h : A.get A.next = none) (B : Nat) : (A.add blk).get B = some blk ∧ B = A.next ∨ (A.add blk).get B = A.get B := by
  by_cases hB : A.next = B
  · subst hB
    rcases T.get_set_or none A.heap A.next (some blk) with e | e
    · exact .inl ⟨e, rfl⟩
    · exact .inr (e.1.trans h.symm)
  · exact .inr (T.get_set_ne none A.heap _ _ _ hB)
theorem AW.get_put (A : AW) (B : Nat) (o : Option Blk) (C : Nat) : (A.put B o).get C = o ∧ C = B ∨ (A.put B o).get C = none ∧ C = B ∨ (A.put B o).get C = A.get C ∧ C ≠ B := by
  by_cases hB : B = C
  · subst hB
    rcases T.get_set_or none A.heap B o with e | e
    · exact .inl ⟨e, rfl⟩
    · exact .inr (.inl ⟨e.1, rfl⟩)
  · exact .inr (.inr ⟨T.get_set_ne none A.heap _ _ _ hB, Ne.symm hB⟩)

theorem Inv.drew (h : Inv w0 G β A w) (n : Nat) : Inv w0 G β A { w with drawn := n } :=
  ⟨⟨h.below.os, h.below.tape, h.below.output, h.below.size, h.below.block⟩, h.dom, h.nxt, h.loc, h.inj, h.cont, h.glob⟩

theorem Inv.new (h : Inv w0 G β A w) (blk : Blk) (o : Obj) (l : Loc) (hl : l.b = w.heap.size) (hb : BRel (β.put A.next l) l blk (some o)) :
    Inv w0 G (β.put A.next l) (A.add blk) (w.alloc o) ∧ β.grow (β.put A.next l) A.next := by
  have hle : β.le (β.put A.next l) := (Ren.grow_put β A.next l).le h.dom
  have hn : A.get A.next = none := h.nxt _ (Nat.le_refl _)
  have hsz : (w.alloc o).heap.size = w.heap.size + 1 := by simp
  have hput : ∀ B lb, β.put A.next l B = some lb → (B = A.next ∧ lb = l) ∨ (B ≠ A.next ∧ β B = some lb) := fun B lb e => by
    unfold Ren.put at e
    split at e
    · cases e; exact .inl ⟨by assumption, rfl⟩
    · exact .inr ⟨by assumption, e⟩
  refine ⟨⟨h.below.alloc h.below.size o, fun B lb e => ?_, fun B hB => ?_, fun B lb e => ?_, fun B B' lb lb' e e' hbb ha ha' => ?_, fun B k lb hk e => ?_, fun g hg => ?_⟩, Ren.grow_put β A.next l⟩
  · show B < A.next + 1
    rcases hput B lb e with ⟨rfl, _⟩ | ⟨_, e⟩
    · omega
    · exact Nat.lt_succ_of_lt (h.dom B lb e)
  · have hB' : A.next + 1 ≤ B := hB
    rcases A.get_add blk hn B with ⟨_, e⟩ | e
    · omega
    · exact e.trans (h.nxt B (by omega))
  · rw [hsz]
    rcases hput B lb e with ⟨rfl, rfl⟩ | ⟨_, e⟩
    · exact ⟨by omega, .inr (by rw [hl]; exact h.below.size)⟩
    · exact ⟨Nat.lt_succ_of_lt (h.loc B lb e).1, (h.loc B lb e).2⟩
  · have old : ∀ B, B ≠ A.next → ((A.add blk).get B).isSome = true → (A.get B).isSome = true := fun B hB hs => by
      rcases A.get_add blk hn B with ⟨_, e⟩ | e
      · exact absurd e hB
      · rw [e] at hs; exact hs
    rcases hput B lb e with ⟨h1, h2⟩ | ⟨hB, f⟩ <;> rcases hput B' lb' e' with ⟨h1', h2'⟩ | ⟨hB', f'⟩
    · rw [h1, h1']
    · have := (h.loc B' lb' f').1; rw [h2, hl] at hbb; omega
    · have := (h.loc B lb f).1; rw [h2', hl] at hbb; omega
    · exact h.inj B B' lb lb' f f' hbb (old B hB ha) (old B' hB' ha')
  · rcases hput B lb e with ⟨rfl, rfl⟩ | ⟨hB, e⟩
    · rcases A.get_add blk hn A.next with ⟨e2, _⟩ | e2
      · rw [e2] at hk; cases hk
        rw [hl, heap_alloc_new]
        exact hb
      · rw [e2, hn] at hk; cases hk
    · rcases A.get_add blk hn B with ⟨_, e2⟩ | e2
      · exact absurd e2 hB
      · rw [e2] at hk
        rw [Below.heap_alloc w o _ (h.loc B lb e).1]
        exact (h.cont B k lb hk e).mono hle
  · obtain ⟨lg, a, b, c⟩ := h.glob g hg
    exact ⟨lg, hle _ _ a, b, c⟩

/-- one block is written, in the abstract and in the world -/
theorem Inv.write (h : Inv w0 G β A w) {w' : World} (B : Nat) (l : Loc) (blk blk' : Blk) (hg : A.get B = some blk) (hB : β B = some l) (hG : G ≤ B)
    (hw : w.grownBy w' (some l.b)) (hsz : w'.heap.size = w.heap.size) (hb : BRel β l blk' w'.heap[l.b]?) : Inv w0 G β (A.put B (some blk')) w' := by
  obtain ⟨hl1, hl2⟩ := h.loc B l hB
  have hl3 : w0.heap.size ≤ l.b := hl2.resolve_left (by omega)
  have alive : ∀ C, ((A.put B (some blk')).get C).isSome = true → (A.get C).isSome = true := fun C hs => by
    rcases A.get_put B (some blk') C with ⟨_, e⟩ | ⟨e, _⟩ | ⟨e, _⟩
    · rw [e, hg]; rfl
    · rw [e] at hs; cases hs
    · rw [e] at hs; exact hs
  refine ⟨h.below.grown hw h.below.size (fun k hk => by cases hk; exact hl3), h.dom, fun C hC => ?_, fun C lc e => ?_, fun C C' lc lc' e e' hbb ha ha' => h.inj C C' lc lc' e e' hbb (alive C ha) (alive C' ha'), fun C k lc hk e => ?_, h.glob⟩
  · have hC' : A.next ≤ C := hC
    rcases A.get_put B (some blk') C with ⟨_, e⟩ | ⟨e, _⟩ | ⟨e, _⟩
    · have := h.dom B l hB; omega
    · exact e
    · exact e.trans (h.nxt C hC)
  · rw [hsz]; exact h.loc C lc e
  · rcases A.get_put B (some blk') C with ⟨e2, rfl⟩ | ⟨e2, _⟩ | ⟨e2, hne⟩
    · rw [e2] at hk; cases hk
      rw [hB] at e; cases e
      exact hb
    · rw [e2] at hk; cases hk
    · rw [e2] at hk
      have hb2 : lc.b ≠ l.b := fun hbb => hne (h.inj C B lc l e hB hbb (by rw [hk]; rfl) (by rw [hg]; rfl))
      rw [hw.block lc.b (h.loc C lc e).1 (fun e3 => hb2 (Option.some.inj e3))]
      exact h.cont C k lc hk e

/-- one block is forgotten -/
theorem Inv.kill (h : Inv w0 G β A w) (B : Nat) : Inv w0 G β (A.put B none) w := by
  have alive : ∀ C k, (A.put B none).get C = some k → A.get C = some k := fun C k hs => by
    rcases A.get_put B none C with ⟨e, _⟩ | ⟨e, _⟩ | ⟨e, _⟩
    · rw [e] at hs; cases hs
    · rw [e] at hs; cases hs
    · rw [e] at hs; exact hs
  have alive' : ∀ C, ((A.put B none).get C).isSome = true → (A.get C).isSome = true := fun C hs => by
    cases hk : (A.put B none).get C with
    | none => rw [hk] at hs; cases hs
    | some k => rw [alive C k hk]; rfl
  refine ⟨h.below, h.dom, fun C hC => ?_, h.loc, fun C C' lc lc' e e' hbb ha ha' => h.inj C C' lc lc' e e' hbb (alive' C ha) (alive' C' ha'), fun C k lc hk e => h.cont C k lc (alive C k hk) e, h.glob⟩
  cases hk : (A.put B none).get C with
  | none => rfl
  | some k => have := h.nxt C hC; rw [alive C k hk] at this; cases this

/-- one block is written in the world, and forgotten in the abstract -/
theorem Inv.forget (h : Inv w0 G β A w) {w' : World} (B : Nat) (l : Loc) (blk : Blk) (hg : A.get B = some blk) (hB : β B = some l) (hG : G ≤ B)
    (hw : w.grownBy w' (some l.b)) (hsz : w'.heap.size = w.heap.size) : Inv w0 G β (A.put B none) w' := by
  obtain ⟨hl1, hl2⟩ := h.loc B l hB
  have hl3 : w0.heap.size ≤ l.b := hl2.resolve_left (by omega)
  have alive : ∀ C k, (A.put B none).get C = some k → C ≠ B ∧ A.get C = some k := fun C k hs => by
    rcases A.get_put B none C with ⟨e, _⟩ | ⟨e, _⟩ | ⟨e, hne⟩
    · rw [e] at hs; cases hs
    · rw [e] at hs; cases hs
    · rw [e] at hs; exact ⟨hne, hs⟩
  have alive' : ∀ C, ((A.put B none).get C).isSome = true → (A.get C).isSome = true := fun C hs => by
    cases hk : (A.put B none).get C with
    | none => rw [hk] at hs; cases hs
    | some k => rw [(alive C k hk).2]; rfl
  refine ⟨h.below.grown hw h.below.size (fun k hk => by cases hk; exact hl3), h.dom, fun C hC => ?_, fun C lc e => ?_, fun C C' lc lc' e e' hbb ha ha' => h.inj C C' lc lc' e e' hbb (alive' C ha) (alive' C' ha'), fun C k lc hk e => ?_, h.glob⟩
  · cases hk : (A.put B none).get C with
    | none => rfl
    | some k => have := h.nxt C hC; rw [(alive C k hk).2] at this; cases this
  · rw [hsz]; exact h.loc C lc e
  · obtain ⟨hne, hk⟩ := alive C k hk
    have hb2 : lc.b ≠ l.b := fun hbb => hne (h.inj C B lc l e hB hbb (by rw [hk]; rfl) (by rw [hg]; rfl))
    rw [hw.block lc.b (h.loc C lc e).1 (fun e3 => hb2 (Option.some.inj e3))]
    exact h.cont C k lc hk e
end
end Go.Ev
