/- A verified evaluator for closed calls, part 13: tables of a program. -/
import Derived.Test.YtkpnmedaonmlaaaGreatDoorEv12
namespace Go.Ev
open Go.RowKit
section
variable {α : Type}
noncomputable def alt (l : List α) : Bool → List α :=
  List.rec (motive := fun _ => Bool → List α) (fun _ => []) (fun a _ ih b => bs b (a :: ih false) (ih true)) l
noncomputable def ofL (k : Nat) : List α → T (Option α) :=
  Nat.rec (motive := fun _ => List α → T (Option α)) (fun _ => .nil) (fun _ ih l => List.rec (motive := fun _ => T (Option α)) .nil (fun a r _ => .node (ih (alt r true)) (some a) (ih (alt r false))) l) k
theorem alt_get (l : List α) : ∀ (b : Bool) (m : Nat), (alt l b)[m]? = l[2 * m + (if b then 0 else 1)]? := by
  induction l with
  | nil => intro b m; simp [alt]
  | cons a l ih =>
    intro b m
    cases b with
    | true =>
      show (a :: alt l false)[m]? = _
      cases m with
      | zero => simp
      | succ m => rw [List.getElem?_cons_succ, ih false m, if_pos rfl, Nat.add_zero, show 2 * (m + 1) = (2 * m + 1) + 1 by omega, List.getElem?_cons_succ]; simp
    | false =>
      show (alt l true)[m]? = _
      rw [ih true m]
      simp
theorem ofL_get : ∀ (k : Nat) (l : List α) (i : Nat) (x : α), (ofL k l).get none i = some x → l[i]? = some x
  | 0, l, i, x, h => by cases h
  | k + 1, [], i, x, h => by cases h
  | k + 1, a :: r, i, x, h => by
    have h' : (T.node (ofL k (alt r true)) (some a) (ofL k (alt r false))).get none i = some x := h
    rw [T.get_node] at h'
    split at h'
    · rename_i h0; subst h0; simpa using h'
    · split at h'
      · have := ofL_get k _ _ _ h'
        rw [alt_get] at this
        rw [show i = 2 * (i / 2) + 1 by omega, List.getElem?_cons_succ]
        simpa using this
      · have := ofL_get k _ _ _ h'
        rw [alt_get] at this
        rw [show i = (2 * (i / 2 - 1) + 1) + 1 by omega, List.getElem?_cons_succ]
        simpa using this
end

/-- a type's row, out of the list of types -/
noncomputable def rowD (ts : List TypeInfo) (d : TypeDesc) : Option TypeDesc :=
  match d with
  | .named _ u => match nth ts u with | some i => some i.desc | none => none
  | d => some d
noncomputable def rowZ (d : TypeDesc) (z : Option Value) : List Value × Bool :=
  match z with
  | some (.agg ⟨l⟩) => bs (isRowD d) (l, true) ([], false)
  | some (.tuple _) => ([], false)
  | some v => bs (isRowD d) ([], false) ([v], true)
  | none => ([], false)
noncomputable def rowOf (ts : List TypeInfo) (i : TypeInfo) : Option Row :=
  match rowD ts i.desc with
  | some d => some ⟨d, i.size, i.bytes, (rowZ d i.zero).1, (rowZ d i.zero).2⟩
  | none => none
noncomputable def join (t : T (Option (Option Row))) : T (Option Row) :=
  T.rec (motive := fun _ => T (Option Row)) .nil (fun _ v _ l r => .node l (match v with | some x => x | none => none) r) t
noncomputable def mkEnv (P : Program) (G : Nat) (ne : List Nat) (lay : List (Nat × Nat × Nat)) : Env where
  ti := join (ofL 11 (lmap (rowOf P.types.toList) P.types.toList))
  fn := ofL 10 P.funcs.toList
  ne := ne
  lay := lay
  G := G
end Go.Ev
