/- A verified evaluator for closed calls, part 18: quiet and fresh operations; equal values; names kept for later. -/
import Derived.Test.YtkpnmedaonmlaaaGreatDoorEv17
namespace Go.Ev
open Go.RowKit

def pureOp (op : Op) : Bool :=
  match op with
  | .move _ => true
  | .assign _ => true
  | .pick _ _ _ => true
  | .build _ _ => true
  | .nilCheck _ => true
  | .binOp _ _ _ _ _ => true
  | .unOp _ _ _ => true
  | .makeFunc _ _ _ => true
  | .fieldAddr _ _ _ => true
  | .field _ _ _ => true
  | .indexAddr _ _ _ => true
  | .index _ _ _ => true
  | .extract _ _ => true
  | _ => false
/-- 0: leaves memory alone; 1: makes one block; 2: anything -/
noncomputable def kindOf (E : Env) (op : Op) : Nat :=
  match op with
  | .load _ _ => 0
  | .convert _ d _ => match E.ti.get none d with | some ⟨.slice _, _, _, _, _⟩ => 2 | _ => 0
  | .slice _ _ _ _ _ => 0
  | .call ⟨.builtin .len, _, _⟩ => 0
  | .alloc _ => 1
  | .box _ _ => 1
  | .buildSlice _ _ _ => 1
  | .makeSlice _ _ _ => 1
  | op => bif pureOp op then 0 else 2

section
variable {P : Program} {E : Env} (ok : E.Ok P) {sq : List (Nat × List IntKind)} {w0 w : World} {β : Ren} {A : AW}

theorem pure_any {A2 : AW} {g : Gt} {op : Op} {v : Value} {A' : AW} (hp : pureOp op = true) (h : opA E sq A g op = .val v A') : A' = A ∧ opA E sq A2 g op = .val v A2 := by
  cases op <;> try (cases hp; done)
  case makeFunc fn p q =>
    obtain ⟨p⟩ := p
    obtain ⟨q⟩ := q
    cases fn <;> simp only [opA] at h ⊢ <;> cases h
    exact ⟨rfl, rfl⟩
  case build t ps =>
    obtain ⟨ps⟩ := ps
    simp only [opA] at h ⊢
    obtain ⟨h1, rfl⟩ := ofV_val h
    exact ⟨rfl, by rw [h1]; rfl⟩
  all_goals
    simp only [opA] at h ⊢
    first
    | (cases h; exact ⟨rfl, rfl⟩)
    | (obtain ⟨h1, rfl⟩ := ofV_val h
       exact ⟨rfl, by rw [h1]; rfl⟩)
theorem quiet_same {g : Gt} {op : Op} {v : Value} {A' : AW} (hk : kindOf E op = 0) (h : opA E sq A g op = .val v A') : A' = A := by
  cases hp : pureOp op with
  | true => exact (pure_any (A2 := A) hp h).1
  | false =>
    cases op <;> simp only [kindOf, hp] at hk <;> try (cases hk; done)
    case load t x => simp only [opA] at h; exact (ofV_val h).2
    case slice t x lo hi mx => simp only [opA] at h; exact (ofV_val h).2
    case convert s d x =>
      simp only [opA, convA] at h
      split at h
      · cases h; rfl
      · split at h
        · cases h; rfl
        · have h2 := ofP_val h
          unfold bytesV at h2
          split at h2
          · rename_i hd _
            rw [hd] at hk
            cases hk
          · cases h2
    case call c =>
      obtain ⟨callee, ⟨args⟩, ⟨tys⟩⟩ := c
      cases callee with
      | value f => cases hk
      | invoke r m => cases hk
      | builtin b =>
        simp only [opA, builtinA] at h
        split at h
        · exact (ofV_val h).2
        all_goals first
          | (cases hk; done)
          | (cases h; done)
theorem calm_no_call {g : Gt} {op : Op} {f : Tgt} {args : List Value} (hk : kindOf E op ≤ 1) : opA E sq A g op ≠ .call f args := by
  intro h
  cases op
  case call c =>
    obtain ⟨callee, ⟨as⟩, ⟨tys⟩⟩ := c
    cases callee with
    | value f => simp only [kindOf, pureOp, cond_false] at hk; omega
    | invoke r m => simp only [opA] at h; cases h
    | builtin b =>
      simp only [opA, builtinA] at h
      split at h
      all_goals first
        | cases h
        | (unfold ofV at h; split at h <;> cases h)
        | (unfold ofP at h; split at h <;> cases h)
  case build t ps => obtain ⟨ps⟩ := ps; simp only [opA] at h; unfold ofV at h; split at h <;> cases h
  case next it b =>
    cases b
    · simp only [opA] at h; unfold ofN at h; split at h <;> cases h
    · simp only [opA] at h; cases h
  case buildSlice t n ps => obtain ⟨ps⟩ := ps; simp only [opA] at h; unfold ofP at h; split at h <;> cases h
  case makeFunc fn p q => obtain ⟨p⟩ := p; obtain ⟨q⟩ := q; cases fn <;> simp only [opA] at h <;> cases h
  all_goals
    simp only [opA] at h
    first
    | (cases h; done)
    | (unfold ofV at h; split at h <;> cases h)
    | (unfold ofP at h; split at h <;> cases h)
    | (unfold ofA at h; split at h <;> cases h)
    | (unfold ofN at h; split at h <;> cases h)
    | (unfold convA at h
       split at h
       · cases h
       · split at h
         · cases h
         · unfold ofP at h; split at h <;> cases h)

include ok in
theorem fresh_ok {A2 : AW} (inv : Inv w0 E.G β A2 w) {n : Nat} {g : Gt} {a : Act} (hf : FRel β n g a.tmps) {o : Oper} {v : Value} {A' : AW} (hk : kindOf E o.op = 1) (h : opA E sq A g o.op = .val v A') :
    ∃ cs es cs' e v', A' = A.add ⟨.cells cs, es, true, false, e⟩ ∧ (execOp a.eval o).run P w = .ok (.value v') (w.alloc (.cells ⟨cs'⟩ e)) ∧ LRel β cs cs' ∧ ∀ β' : Ren, β' A.next = some ⟨w.heap.size, 0, es, cs'.length⟩ → VRel β' v v' := by
  obtain ⟨dst, op, type, pos, after, guard⟩ := o
  have E1 := ev_rel (a := a) inv hf
  simp only at hk h
  cases hp : pureOp op with
  | true => cases op <;> simp only [kindOf, pureOp] at hk hp <;> first | (cases hp; done) | (cases hk; done)
  | false =>
    cases op <;> simp only [kindOf, hp] at hk <;> try (cases hk; done)
    case convert s d x => split at hk <;> cases hk
    case alloc t =>
      simp only [opA] at h
      obtain ⟨cs, es, e, rfl, cs', v', h1, h2, h3⟩ := alloc_fr (P := P) ok (ofP_val h) β w
      exact ⟨cs, es, cs', e, v', rfl, by simp [execOp, h1], h2, h3⟩
    case box t x =>
      simp only [opA] at h
      obtain ⟨cs, es, e, rfl, cs', v', h1, h2, h3⟩ := box_fr (P := P) (t := t) (ofP_val h) (E1 x) w
      exact ⟨cs, es, cs', e, v', rfl, by simp [execOp, h1], h2, h3⟩
    case buildSlice t len ps =>
      obtain ⟨ps⟩ := ps
      simp only [opA] at h
      obtain ⟨cs, es, e, rfl, cs', v', h1, h2, h3⟩ := buildSlice_fr (P := P) ok (ofP_val h) (PRel_map hf inv ps) w
      refine ⟨cs, es, cs', e, v', rfl, ?_, h2, h3⟩
      have : (Instr.buildSlice t len (Array.map (fun (p : Nat × Operand) => (p.1, a.eval p.2)) ⟨ps⟩)).run P w = .ok v' (w.alloc (.cells ⟨cs'⟩ e)) := by simpa using h1
      show (do pure (Next.value (← Instr.buildSlice t len (Array.map (fun (p : Nat × Operand) => (p.1, a.eval p.2)) ⟨ps⟩))) : Sem Next).run P w = _
      simp only [Sem.run_bind, this]
      rfl
    case makeSlice t x y =>
      simp only [opA] at h
      obtain ⟨cs, es, e, rfl, cs', v', h1, h2, h3⟩ := makeSlice_fr (P := P) ok (ofP_val h) (E1 x) (E1 y) w
      exact ⟨cs, es, cs', e, v', rfl, by simp [execOp, h1], h2, h3⟩
    case call c =>
      obtain ⟨callee, args, tys⟩ := c
      cases callee <;> simp only [kindOf, pureOp] at hk <;> try (cases hk; done)
      rename_i b
      cases b <;> simp only [kindOf, pureOp] at hk <;> cases hk

/-- a name is kept for a block that is not there yet -/
theorem Inv.reserve (h : Inv w0 E.G β A w) (blk : Blk) : Inv w0 E.G β (A.add blk) w := by
  have hn : A.get A.next = none := h.nxt _ (Nat.le_refl _)
  have hb : β A.next = none := by
    cases hc : β A.next with
    | none => rfl
    | some l => exact absurd (h.dom _ l hc) (Nat.lt_irrefl _)
  have old : ∀ B l, β B = some l → (A.add blk).get B = A.get B := fun B l e => by
    rcases A.get_add blk hn B with ⟨_, e2⟩ | e2
    · rw [e2, hb] at e; cases e
    · exact e2
  refine ⟨h.below, fun B l e => Nat.lt_succ_of_lt (h.dom B l e), fun B hB => ?_, h.loc, fun B B' l l' e e' hbb ha ha' => ?_, fun B k l hk e => ?_, h.glob⟩
  · have hB' : A.next + 1 ≤ B := hB
    rcases A.get_add blk hn B with ⟨_, e2⟩ | e2
    · omega
    · exact e2.trans (h.nxt B (by omega))
  · rw [old B l e] at ha; rw [old B' l' e'] at ha'; exact h.inj B B' l l' e e' hbb ha ha'
  · rw [old B l e] at hk; exact h.cont B k l hk e
/-- the block of a name that was kept -/
theorem Inv.map (h : Inv w0 E.G β A w) (N : Nat) (hN : N < A.next) (hb : β N = none) (o : Obj) (l : Loc) (hl : l.b = w.heap.size) (hrel : ∀ blk, A.get N = some blk → BRel (β.put N l) l blk (some o)) :
    Inv w0 E.G (β.put N l) A (w.alloc o) := by
  have hput : ∀ B lb, β.put N l B = some lb → (B = N ∧ lb = l) ∨ (B ≠ N ∧ β B = some lb) := fun B lb e => by
    unfold Ren.put at e
    split at e
    · cases e; exact .inl ⟨by assumption, rfl⟩
    · exact .inr ⟨by assumption, e⟩
  have hle : β.le (β.put N l) := fun B lb e => by
    unfold Ren.put
    rw [if_neg (fun e2 => by rw [e2, hb] at e; cases e)]
    exact e
  have hsz : (w.alloc o).heap.size = w.heap.size + 1 := by simp
  refine ⟨h.below.alloc h.below.size o, fun B lb e => ?_, h.nxt, fun B lb e => ?_, fun B B' lb lb' e e' hbb ha ha' => ?_, fun B k lb hk e => ?_, fun g hg => ?_⟩
  · rcases hput B lb e with ⟨e1, _⟩ | ⟨_, e⟩
    · omega
    · exact h.dom B lb e
  · rw [hsz]
    rcases hput B lb e with ⟨_, e2⟩ | ⟨_, e⟩
    · rw [e2]; exact ⟨by omega, .inr (by rw [hl]; exact h.below.size)⟩
    · exact ⟨Nat.lt_succ_of_lt (h.loc B lb e).1, (h.loc B lb e).2⟩
  · rcases hput B lb e with ⟨h1, h2⟩ | ⟨hB, f⟩ <;> rcases hput B' lb' e' with ⟨h1', h2'⟩ | ⟨hB', f'⟩
    · rw [h1, h1']
    · have := (h.loc B' lb' f').1; rw [h2, hl] at hbb; omega
    · have := (h.loc B lb f).1; rw [h2', hl] at hbb; omega
    · exact h.inj B B' lb lb' f f' hbb ha ha'
  · rcases hput B lb e with ⟨h1, h2⟩ | ⟨hB, f⟩
    · rw [h1] at hk
      rw [h2, hl, heap_alloc_new]
      exact hrel k hk
    · rw [Below.heap_alloc w o _ (h.loc B lb f).1]
      exact (h.cont B k lb hk f).mono hle
  · obtain ⟨lg, a, b, c⟩ := h.glob g hg
    exact ⟨lg, hle _ _ a, b, c⟩
end

/-! ### equal values -/
noncomputable def veq1 (a b : Value) : Bool :=
  match a, b with
  | .bool x, .bool y => bs x y (not y)
  | .int k x, .int j y => keq k j && ieq x y
  | .string ⟨⟨x⟩⟩, .string ⟨⟨y⟩⟩ => beqL x y
  | .pointer none, .pointer none => true
  | .pointer (some ⟨B, o, none⟩), .pointer (some ⟨B', o', none⟩) => Nat.beq B B' && Nat.beq o o'
  | .slice none n c, .slice none n' c' => Nat.beq n n' && Nat.beq c c'
  | .slice (some ⟨B, o, none⟩) n c, .slice (some ⟨B', o', none⟩) n' c' => Nat.beq B B' && Nat.beq o o' && Nat.beq n n' && Nat.beq c c'
  | .map none, .map none => true
  | .map (some x), .map (some y) => Nat.beq x y
  | .nilFunc, .nilFunc => true
  | .nilIface, .nilIface => true
  | .func (.func f) ⟨[]⟩ ⟨[]⟩, .func (.func f') ⟨[]⟩ ⟨[]⟩ => Nat.beq f f'
  | .chan (some x), .chan (some y) => Nat.beq x y
  | _, _ => false
noncomputable def veqL (a : List Value) : List Value → Bool :=
  List.rec (motive := fun _ => List Value → Bool) (fun b => List.rec (motive := fun _ => Bool) true (fun _ _ _ => false) b)
    (fun x _ ih b => List.rec (motive := fun _ => Bool) false (fun y t _ => bs (veq1 x y) (ih t) false) b) a
noncomputable def veq (a b : Value) : Bool :=
  match a, b with
  | .agg ⟨x⟩, .agg ⟨y⟩ => veqL x y
  | .tuple ⟨x⟩, .tuple ⟨y⟩ => veqL x y
  | .func (.func f) ⟨p⟩ ⟨q⟩, .func (.func f') ⟨p'⟩ ⟨q'⟩ => Nat.beq f f' && veqL p p' && veqL q q'
  | a, b => veq1 a b
theorem veq1_eq {a b : Value} (h : veq1 a b = true) : a = b := by
  unfold veq1 at h
  split at h <;> (try simp only [Bool.and_eq_true] at h)
  · rename_i x y; cases x <;> cases y <;> first | rfl | cases h
  · obtain ⟨h1, h2⟩ := h
    rw [ieq_eq] at h2
    rw [keq_eq h1, of_decide_eq_true h2]
  · rw [beqL_eq] at h; rw [of_decide_eq_true h]
  · rfl
  · rw [Nat.eq_of_beq_eq_true h.1, Nat.eq_of_beq_eq_true h.2]
  · rw [Nat.eq_of_beq_eq_true h.1, Nat.eq_of_beq_eq_true h.2]
  · rw [Nat.eq_of_beq_eq_true h.1.1.1, Nat.eq_of_beq_eq_true h.1.1.2, Nat.eq_of_beq_eq_true h.1.2, Nat.eq_of_beq_eq_true h.2]
  · rfl
  · rw [Nat.eq_of_beq_eq_true h]
  · rfl
  · rfl
  · rw [Nat.eq_of_beq_eq_true h]
  · rw [Nat.eq_of_beq_eq_true h]
  · cases h
theorem veqL_eq : ∀ (a b : List Value), veqL a b = true → a = b
  | [], [], _ => rfl
  | [], _ :: _, h => by cases h
  | _ :: _, [], h => by cases h
  | x :: a, y :: b, h => by
    have h' : bs (veq1 x y) (veqL a b) false = true := h
    cases hb : veq1 x y with
    | false => rw [hb] at h'; cases h'
    | true =>
      rw [hb, bs_true] at h'
      rw [veq1_eq hb, veqL_eq a b h']
theorem veq_eq {a b : Value} (h : veq a b = true) : a = b := by
  unfold veq at h
  split at h
  · rw [veqL_eq _ _ h]
  · rw [veqL_eq _ _ h]
  · simp only [Bool.and_eq_true] at h
    rw [Nat.eq_of_beq_eq_true h.1.1, veqL_eq _ _ h.1.2, veqL_eq _ _ h.2]
  · exact veq1_eq h
noncomputable def blkEq (a b : Blk) : Bool :=
  match a, b with
  | ⟨.cells x, e, ex, ro, ty⟩, ⟨.cells y, e', ex', ro', ty'⟩ => veqL x y && Nat.beq e e' && bs ex ex' (not ex') && bs ro ro' (not ro') && Nat.beq ty ty'
  | _, _ => false
theorem blkEq_eq {a b : Blk} (h : blkEq a b = true) : a = b := by
  unfold blkEq at h
  split at h
  · rename_i x e ex ro ty y e' ex' ro' ty'
    simp only [Bool.and_eq_true] at h
    rw [veqL_eq _ _ h.1.1.1.1, Nat.eq_of_beq_eq_true h.1.1.1.2, Nat.eq_of_beq_eq_true h.2]
    have h1 : ex = ex' := by have := h.1.1.2; cases ex <;> cases ex' <;> first | rfl | cases this
    have h2 : ro = ro' := by have := h.1.2; cases ro <;> cases ro' <;> first | rfl | cases this
    rw [h1, h2]
  · cases h
end Go.Ev
