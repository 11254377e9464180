/- A verified evaluator for closed calls, part 27: rows of integers that come in. -/
import Derived.Test.YtanilhkjfdagpaaGreatDoorEv26
namespace Go.Ev
open Go.RowKit
section
variable {P : Program}
theorem trod_kinds {H : Type} {enc : TypeId × Value → H} {w : World} {base : Nat} {spare : Nat → Bool} {held : Bool} : ∀ (fuel m : Nat) (t : TypeId) (cs : List Value) (x : DataW H × List MemPlace) (ks : List IntKind),
    DataW.trod enc P w base spare held fuel t cs = some x → flatK P m t = some ks → ks.length = P.cellsOf t → ∃ ns, ns.length = ks.length ∧ cs = List.zipWith Value.int ks ns
  | 0, m, t, cs, x, ks, h, hk, hl => by cases h
  | fuel + 1, 0, t, cs, x, ks, h, hk, hl => by cases hk
  | fuel + 1, m + 1, t, cs, x, ks, h, hk, hl => by
    unfold flatK at hk
    cases hu : P.underlying t with
    | none => unfold DataW.trod at h; rw [hu] at h; simp at h
    | some kd =>
      rw [hu] at hk
      cases kd with
      | int k =>
        cases hk
        unfold DataW.trod at h
        rw [hu] at h
        split at h <;> first | (simp at *; done) | skip
        all_goals (first | (simp at *; done) | skip)
        all_goals (first | (rename_i a0 a1 a2 a3 a4 a5; injection a5 with a5; injection a5 with a5; split at h; (rename_i hq; exact ⟨[a4], rfl, by rw [hq.1, ← a5]; rfl⟩); (cases h)) | (simp_all; done))
      | struct fs =>
        simp only at hk
        split at hk
        · unfold DataW.trod at h
          rw [hu] at h
          simp only at h
          split at h
          · rename_i hlen
            obtain ⟨xs, hx, _⟩ := Option.map_eq_some_iff.1 h
            have go : ∀ (L : List Field) (o : Nat) (xs : List (DataW H × List MemPlace)) (ks : List IntKind), L.mapM (fun f => DataW.trod enc P w base spare held fuel f.type ((cs.drop f.offset).take (P.cellsOf f.type))) = some xs →
                flatFs P (flatK P m) o L = some ks → ∃ ns, ns.length = ks.length ∧ (cs.drop o).take ks.length = List.zipWith Value.int ks ns := by
              intro L
              induction L with
              | nil => intro o xs ks h1 h2; cases h2; exact ⟨[], rfl, by simp⟩
              | cons f L ih =>
                intro o xs ks h1 h2
                obtain ⟨b, r', e1, e2, rfl⟩ := mapM_cons_some h1
                unfold flatFs at h2
                split at h2
                · rename_i hc
                  split at h2
                  · rename_i ks1 hk1
                    split at h2
                    · rename_i hl1
                      split at h2
                      · rename_i ks2 hk2
                        cases h2
                        obtain ⟨n1, q1, q2⟩ := trod_kinds fuel m _ _ _ _ e1 hk1 hl1
                        obtain ⟨n2, q3, q4⟩ := ih _ _ _ e2 hk2
                        refine ⟨n1 ++ n2, by simp [q1, q3], ?_⟩
                        rw [List.length_append, take_two, q4, hl1, ← hc.1, q2, List.zipWith_append q1.symm]
                      · cases h2
                    · cases h2
                  · cases h2
                · cases h2
            obtain ⟨ns, h1, h2⟩ := go fs.toList 0 xs ks hx hk
            refine ⟨ns, h1, ?_⟩
            rw [List.drop_zero, hl, ← hlen, List.take_length] at h2
            exact h2
          · cases h
        · cases hk
      | array n e =>
        simp only at hk
        split at hk
        · rename_i ks1 hk1
          split at hk
          · rename_i hl1
            cases hk
            unfold DataW.trod at h
            rw [hu] at h
            simp only at h
            split at h
            · rename_i hlen
              obtain ⟨xs, hx, _⟩ := Option.map_eq_some_iff.1 h
              have go : ∀ (n s : Nat) (xs : List (DataW H × List MemPlace)), (List.range' s n).mapM (fun i => DataW.trod enc P w base spare held fuel e ((cs.drop (i * P.cellsOf e)).take (P.cellsOf e))) = some xs →
                  ∃ ns, ns.length = (List.replicate n ks1).flatten.length ∧ (cs.drop (s * P.cellsOf e)).take (List.replicate n ks1).flatten.length = List.zipWith Value.int (List.replicate n ks1).flatten ns := by
                intro n
                induction n with
                | zero => intro s xs _; exact ⟨[], rfl, by simp⟩
                | succ n ih =>
                  intro s xs h1
                  rw [List.range'_succ] at h1
                  obtain ⟨b, r', e1, e2, rfl⟩ := mapM_cons_some h1
                  obtain ⟨n1, q1, q2⟩ := trod_kinds fuel m _ _ _ _ e1 hk1 hl1
                  obtain ⟨n2, q3, q4⟩ := ih _ _ e2
                  refine ⟨n1 ++ n2, by rw [List.replicate_succ, List.flatten_cons, List.length_append, List.length_append, q1, q3], ?_⟩
                  rw [Nat.succ_mul] at q4
                  rw [List.replicate_succ, List.flatten_cons, List.length_append, take_two, hl1, q4, q2, List.zipWith_append q1.symm]
              rw [List.range_eq_range'] at hx
              obtain ⟨ns, h1, h2⟩ := go n 0 xs hx
              refine ⟨ns, h1, ?_⟩
              rw [Nat.zero_mul, List.drop_zero, hl, ← hlen, List.take_length] at h2
              exact h2
            · cases h
          · cases hk
        · cases hk
      | _ => cases hk
end
end Go.Ev
