/- A verified evaluator for closed calls, part 24: the tables of a program are right. -/
import Derived.Test.YtkpnmedaonmlaaaGreatDoorEv23
import Derived.Test.YtkpnmedaonmlaaaGreatDoorEv13
namespace Go.Ev
open Go.RowKit

theorem join_get : ∀ (t : T (Option (Option Row))) (i : Nat) (r : Row), (join t).get none i = some r → t.get none i = some (some r)
  | .nil, i, r, h => by cases h
  | .node l v q, i, r, h => by
    have hgo : ∀ x : Option Row, (T.node (join l) x (join q)).get none i = some r → (i = 0 ∧ x = some r) ∨ (i ≠ 0 ∧ (T.node l v q).get none i = some (some r)) := fun x hx => by
      rw [T.get_node] at hx
      rw [T.get_node]
      split at hx
      · rename_i h0; exact .inl ⟨h0, hx⟩
      · rename_i h0
        refine .inr ⟨h0, ?_⟩
        rw [if_neg h0]
        split at hx
        · rename_i h1
          rw [if_pos h1]; exact join_get l _ r hx
        · rename_i h1
          rw [if_neg h1]; exact join_get q _ r hx
    cases v with
    | none =>
      rcases hgo none h with ⟨_, h2⟩ | ⟨_, h2⟩
      · cases h2
      · exact h2
    | some x =>
      rcases hgo x h with ⟨h1, h2⟩ | ⟨_, h2⟩
      · rw [T.get_node, if_pos h1, h2]
      · exact h2

variable {P : Program}
theorem info_at {t : TypeId} {i : TypeInfo} (h : P.types.toList[t]? = some i) : P.info? t = some i := by
  rw [Array.getElem?_toList] at h
  have hl := (Array.getElem?_eq_some_iff.1 h).1
  show P.toTables.info? t = some i
  unfold Tables.info?
  rw [if_pos hl]
  exact h
theorem row_at {t : TypeId} {r : Row} {k : Nat} (h : (join (ofL k (lmap (rowOf P.types.toList) P.types.toList))).get none t = some r) :
    ∃ i d, P.info? t = some i ∧ rowD P.types.toList i.desc = some d ∧ r = ⟨d, i.size, i.bytes, (rowZ d i.zero).1, (rowZ d i.zero).2⟩ ∧ P.underlying t = some d := by
  have h1 := ofL_get _ _ _ _ (join_get _ _ _ h)
  rw [lmap_eq, List.getElem?_map] at h1
  obtain ⟨i, hi, hr⟩ := Option.map_eq_some_iff.1 h1
  unfold rowOf at hr
  split at hr
  · rename_i d hd
    cases hr
    have hinfo := info_at hi
    refine ⟨i, d, hinfo, hd, rfl, ?_⟩
    unfold Program.underlying
    rw [hinfo]
    unfold rowD at hd
    obtain ⟨ds, _⟩ := i
    cases ds with
    | named nm u =>
      simp only [nth_eq] at hd
      split at hd
      · rename_i j hj
        cases hd
        simp only [info_at hj, Option.map_some]
      · cases hd
    | _ => cases hd; rfl
  · cases hr
theorem mkEnv_ok {G : Nat} {ne : List Nat} {lay : List (Nat × Nat × Nat)} (hm : P.follows .mixedOrders = true) (hn : ∀ fn ∈ P.funcs.toList, (fn.name == "runtime.NumGoroutine") = false)
    (hne : ∀ f, f ∈ ne → ∀ (x : Value) (w : World), (callFunc f #[x]).run P w = .ok (.value x) w)
    (hl : ∀ e u o, (e, u, o) ∈ lay → liesAt P P.depth e 1 o u 1 = true) (ha : Nat.ble P.types.toList.length ANY = true) : (mkEnv P G ne lay).Ok P := by
  refine ⟨hm, fun t r h => ?_, fun f fn h => ?_, fun t r i z h hi hz hiz => ?_, hne, hl, fun r h => ?_⟩
  · obtain ⟨i, d, h1, h2, rfl, h4⟩ := row_at h
    refine ⟨h4, i, h1, rfl, rfl, fun hz => ?_⟩
    simp only at hz ⊢
    unfold rowZ at hz ⊢
    split at hz
    · rename_i l hzz
      refine ⟨_, hzz, ?_⟩
      cases hd : isRowD d with
      | true => rfl
      | false => rw [hd] at hz; cases hz
    · cases hz
    · rename_i v hna hnt hzz
      refine ⟨_, hzz, ?_⟩
      cases hd : isRowD d with
      | true => rw [hd] at hz; cases hz
      | false => cases v <;> first | rfl | (exfalso; exact hna _ rfl) | (exfalso; exact hnt _ rfl)
    · cases hz
  · have h1 := ofL_get _ _ _ _ (show (ofL 10 P.funcs.toList).get none f = some fn from h)
    exact ⟨by rw [Array.getElem?_toList] at h1; exact h1, hn fn (List.mem_of_getElem? h1)⟩
  · obtain ⟨i2, d, h1, h2, rfl, h4⟩ := row_at h
    rw [hi] at h1; cases h1
    simp only at hz ⊢
    rw [hiz] at hz ⊢
    unfold rowZ at hz ⊢
    split at hz
    · rename_i l hzz
      cases hzz
      cases d <;> first | (cases hz; done) | exact ⟨rfl, fun e => by cases e⟩
    · cases hz
    · rename_i v hna hnt hzz
      cases hzz
      cases d <;> first | (cases hz; done) | (cases z <;> first | exact ⟨rfl, fun _ => ⟨_, rfl⟩⟩ | (exfalso; exact hna _ rfl) | (exfalso; exact hnt _ rfl))
    · cases hz
  · have h1 := ofL_get _ _ _ _ (join_get _ _ _ (show (join (ofL 11 (lmap (rowOf P.types.toList) P.types.toList))).get none ANY = some r from h))
    have h2 := (List.getElem?_eq_some_iff.1 h1).1
    rw [lmap_eq, List.length_map] at h2
    have := Nat.le_of_ble_eq_true ha
    omega
end Go.Ev
