/- A verified evaluator for closed calls, part 17: kinds of operations; equal values; names kept for later. -/
import Derived.Test.YtkpnmedaonmlaaaGreatDoorEv16
namespace Go.Ev
open Go.RowKit

/-! ### the operands alone matter -/
theorem lmap_congr {α γ : Type} {f g : α → γ} : ∀ {l : List α}, (∀ x ∈ l, f x = g x) → lmap f l = lmap g l
  | [], _ => rfl
  | a :: l, h => by
    show f a :: lmap f l = g a :: lmap g l
    rw [h a List.mem_cons_self, lmap_congr (fun x hx => h x (List.mem_cons_of_mem _ hx))]
theorem opA_congr {E : Env} {sq : List (Nat × List IntKind)} {A : AW} {g g' : Gt} {op : Op} (h : ∀ x ∈ op.operands, ev E g x = ev E g' x) : opA E sq A g op = opA E sq A g' op := by
  cases op
  case move x => simp only [opA]; rw [h x (by simp [Op.operands])]
  case assign x => simp only [opA]; rw [h x (by simp [Op.operands])]
  case pick c a b => simp only [opA]; rw [h c (by simp [Op.operands]), h a (by simp [Op.operands]), h b (by simp [Op.operands])]
  case box t x => simp only [opA]; rw [h x (by simp [Op.operands])]
  case build t ps =>
    obtain ⟨ps⟩ := ps
    simp only [opA]
    rw [lmap_congr (fun p hp => by rw [h p.2 (by simp only [Op.operands, List.mem_toArray, List.mem_map]; exact ⟨p, hp, rfl⟩)])]
  case buildSlice t n ps =>
    obtain ⟨ps⟩ := ps
    simp only [opA]
    rw [lmap_congr (fun p hp => by rw [h p.2 (by simp only [Op.operands, List.mem_toArray, List.mem_map]; exact ⟨p, hp, rfl⟩)])]
  case load t a => simp only [opA]; rw [h a (by simp [Op.operands])]
  case store t a v => simp only [opA]; rw [h a (by simp [Op.operands]), h v (by simp [Op.operands])]
  case nilCheck x => simp only [opA]; rw [h x (by simp [Op.operands])]
  case binOp o t x y ty => simp only [opA]; rw [h x (by simp [Op.operands]), h y (by simp [Op.operands])]
  case unOp o t x => simp only [opA]; rw [h x (by simp [Op.operands])]
  case convert s d x => simp only [opA]; rw [h x (by simp [Op.operands])]
  case makeFunc fn p q =>
    obtain ⟨p⟩ := p
    obtain ⟨q⟩ := q
    cases fn <;> simp only [opA]
    rw [lmap_congr (fun x hx => h x (by simp [Op.operands, hx])), lmap_congr (l := q) (fun x hx => h x (by simp [Op.operands, hx]))]
  case makeSlice t l c => simp only [opA]; rw [h l (by simp [Op.operands]), h c (by simp [Op.operands])]
  case slice t x lo hi mx =>
    simp only [opA]
    rw [h x (by simp [Op.operands])]
    have e1 : lo.map (ev E g) = lo.map (ev E g') := by cases lo with | none => rfl | some y => exact congrArg some (h y (by simp [Op.operands]))
    have e2 : hi.map (ev E g) = hi.map (ev E g') := by cases hi with | none => rfl | some y => exact congrArg some (h y (by simp [Op.operands]))
    have e3 : mx.map (ev E g) = mx.map (ev E g') := by cases mx with | none => rfl | some y => exact congrArg some (h y (by simp [Op.operands]))
    rw [e1, e2, e3]
  case fieldAddr t x f => simp only [opA]; rw [h x (by simp [Op.operands])]
  case field t x f => simp only [opA]; rw [h x (by simp [Op.operands])]
  case indexAddr t x i => simp only [opA]; rw [h x (by simp [Op.operands]), h i (by simp [Op.operands])]
  case index t x i => simp only [opA]; rw [h x (by simp [Op.operands]), h i (by simp [Op.operands])]
  case extract x i => simp only [opA]; rw [h x (by simp [Op.operands])]
  case call c =>
    obtain ⟨callee, ⟨args⟩, tys⟩ := c
    have hargs : ∀ x ∈ args, ev E g x = ev E g' x := fun x hx => h x (by simp [Op.operands, Call.operands, hx])
    cases callee with
    | value f =>
      simp only [opA]
      rw [h f (by simp [Op.operands, Call.operands]), lmap_congr hargs]
    | invoke r m => simp only [opA]
    | builtin b =>
      obtain ⟨tys⟩ := tys
      simp only [opA]
      rw [lmap_congr hargs]
  case makeMap t r =>
    simp only [opA]
    have e1 : r.map (ev E g) = r.map (ev E g') := by cases r with | none => rfl | some y => exact congrArg some (h y (by simp [Op.operands]))
    rw [e1]
  case lookup t x k b => simp only [opA]; rw [h x (by simp [Op.operands]), h k (by simp [Op.operands])]
  case mapUpdate t m k x => simp only [opA]; rw [h m (by simp [Op.operands]), h k (by simp [Op.operands]), h x (by simp [Op.operands])]
  case insert t m k x => simp only [opA]; rw [h m (by simp [Op.operands]), h k (by simp [Op.operands]), h x (by simp [Op.operands])]
  case mapEntry t m k => simp only [opA]; rw [h m (by simp [Op.operands]), h k (by simp [Op.operands])]
  case entryStore t m k x => simp only [opA]; rw [h m (by simp [Op.operands]), h k (by simp [Op.operands]), h x (by simp [Op.operands])]
  case range t x => simp only [opA]; rw [h x (by simp [Op.operands])]
  case next it b =>
    cases b
    · simp only [opA]; rw [h it (by simp [Op.operands])]
    · simp only [opA]
  case entry it => simp only [opA]; rw [h it (by simp [Op.operands])]
  all_goals simp only [opA]

theorem ev_congr {E : Env} {g g' : Gt} {x : Operand} (h : ∀ t, x = .tmp t → g t = g' t) : ev E g x = ev E g' x := by
  cases x with
  | tmp t => exact h t rfl
  | _ => rfl
end Go.Ev
