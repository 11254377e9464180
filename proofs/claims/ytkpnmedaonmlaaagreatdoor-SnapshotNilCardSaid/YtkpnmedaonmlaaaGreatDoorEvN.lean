/- A verified evaluator for closed calls: operations on maps. -/
import Derived.Test.YtkpnmedaonmlaaaGreatDoorEvM
namespace Go.Ev
open Go.RowKit
section
variable {P : Program} {E : Env} (ok : E.Ok P) {sq : List (Nat × List IntKind)} (sok : E.Seq P sq) {w0 w : World} {β : Ren} {A : AW} (inv : Inv w0 E.G β A w)

noncomputable def zeroOf (E : Env) (t : TypeId) : Option Value :=
  match E.ti.get none t with
  | some r => bs r.zok (bs (isRowD r.desc) (some (.agg ⟨lmap san1 r.zero⟩)) (match r.zero with | [c] => some (san1 c) | _ => none)) none
  | none => none
include ok in
theorem zero_ok {t : TypeId} {v : Value} (h : zeroOf E t = some v) (w : World) : ∃ v', (zeroValue t).run P w = .ok v' w ∧ ∀ β : Ren, VRel β v v' := by
  unfold zeroOf at h
  split at h
  · rename_i r hr
    replace h := bs_some h
    rcases h with ⟨hz, h⟩ | ⟨_, h⟩
    · obtain ⟨_, i, hi, _, _, hz2⟩ := ok.ti t r hr
      obtain ⟨z, hz3, hz4⟩ := hz2 hz
      obtain ⟨e1, e2⟩ := ok.zr t r i z hr hi hz hz3
      have hrun : (zeroValue t).run P w = .ok z w := by simp [zeroValue, typeInfo, hi, hz3]
      refine ⟨z, hrun, fun β => ?_⟩
      replace h := bs_some h
      rcases h with ⟨hd, h⟩ | ⟨hd, h⟩
      · cases h
        have : z = .agg ⟨r.zero⟩ := by
          rw [e1]
          cases hde : r.desc <;> rw [hde] at hd <;> first | (cases hd; done) | rfl
        rw [this]
        exact VRel.agg_of (lmap_san1 β _)
      · split at h
        · rename_i c hc
          cases h
          have : z = c := by
            rw [e1]
            cases hde : r.desc <;> rw [hde] at hd <;> first | (cases hd; done) | (simp only [hc])
          rw [this]
          exact san1_rel β c
        · cases h
    · cases h
  · cases h

noncomputable def mapAt (A : AW) (B : Nat) : Option (List MapEntry × Nat) := match A.get B with | some ⟨.map es ck, _, _, _, _⟩ => some (es, ck) | _ => none
include inv in
theorem map_rel {B : Nat} {es : List MapEntry} {ck : Nat} (h : mapAt A B = some (es, ck)) {l : Loc} (hl : β B = some l) : ∃ es', w.heap[l.b]? = some (.map ⟨es'⟩ ck) ∧ MRel β es es' := by
  unfold mapAt at h
  split at h
  · rename_i hg
    cases h
    obtain ⟨es', h1, h2, h3⟩ := inv.cont B _ l hg hl
    obtain ⟨es'⟩ := es'
    exact ⟨es', h1, by simpa using h2, fun i e e' a b => h3 i e e' a (by simpa using b)⟩
  · cases h
noncomputable def mapPut (A : AW) (B : Nat) (es : List MapEntry) (ck : Nat) : AW := match A.get B with | some ⟨_, a, b, c, d⟩ => A.put B (some ⟨.map es ck, a, b, c, d⟩) | none => A
include inv in
theorem map_put {B : Nat} {es es2 : List MapEntry} {ck ck2 : Nat} (h : mapAt A B = some (es, ck)) (hG : E.G ≤ B) {l : Loc} (hl : β B = some l) {es2' : List MapEntry} (hm : MRel β es2 es2') :
    (setObj l.b (.map ⟨es2'⟩ ck2)).run P w = .ok () { w with heap := w.heap.setIfInBounds l.b (.map ⟨es2'⟩ ck2) } ∧ Inv w0 E.G β (mapPut A B es2 ck2) { w with heap := w.heap.setIfInBounds l.b (.map ⟨es2'⟩ ck2) } := by
  obtain ⟨es', h1, _⟩ := map_rel inv h hl
  have hlt : l.b < w.heap.size := (Array.getElem?_eq_some_iff.1 h1).1
  unfold mapAt at h
  split at h
  · rename_i e0 c0 a b c d hg
    refine ⟨by simp [setObj, Sem.run, h1], ?_⟩
    unfold mapPut
    rw [hg]
    refine inv.write B l _ _ hg hl hG ⟨rfl, rfl, rfl, by simp, fun k hk hne => ?_⟩ (by simp) ?_
    · show (w.heap.setIfInBounds l.b _)[k]? = _
      rw [Array.getElem?_setIfInBounds_ne (fun e => hne (by rw [e]))]
    · show BRel β l _ ((w.heap.setIfInBounds l.b _)[l.b]?)
      rw [Array.getElem?_setIfInBounds_self_of_lt hlt]
      exact ⟨⟨es2'⟩, rfl, by simpa using hm.1, fun i e e' a b => hm.2 i e e' a (by simpa using b)⟩
  · cases h
theorem mapPut_next (B : Nat) (es : List MapEntry) (ck : Nat) : (mapPut A B es ck).next = A.next := by
  unfold mapPut
  split <;> rfl
theorem MRel.set {es es' : List MapEntry} (h : MRel β es es') (i : Nat) {e e' : MapEntry} (he : ERel β e e') : MRel β (es.set i e) (es'.set i e') := by
  refine ⟨by simp [h.1], fun k a b ha hb => ?_⟩
  rw [List.getElem?_set] at ha hb
  by_cases hk : i = k
  · rw [if_pos hk] at ha hb
    split at ha
    · rw [if_pos (by rw [← h.1]; assumption)] at hb
      cases ha; cases hb; exact he
    · cases ha
  · rw [if_neg hk] at ha hb
    exact h.2 k a b ha hb
theorem MRel.snoc {es es' : List MapEntry} (h : MRel β es es') {e e' : MapEntry} (he : ERel β e e') : MRel β (es ++ [e]) (es' ++ [e']) := by
  refine ⟨by simp [h.1], fun k a b ha hb => ?_⟩
  by_cases hk : k < es.length
  · rw [List.getElem?_append_left hk] at ha
    rw [List.getElem?_append_left (by rw [← h.1]; exact hk)] at hb
    exact h.2 k a b ha hb
  · rw [List.getElem?_append_right (by omega)] at ha
    rw [List.getElem?_append_right (by rw [← h.1]; omega), ← h.1] at hb
    cases hq : k - es.length with
    | zero => rw [hq] at ha hb; simp at ha hb; subst ha; subst hb; exact he
    | succ q => rw [hq] at ha; simp at ha

/-! lookup -/
noncomputable def lookupV (E : Env) (sq : List (Nat × List IntKind)) (A : AW) (t : TypeId) (x k : Value) (ck : Bool) : Option Value :=
  match E.ti.get none t with
  | some ⟨.map kt et, _, _, _, _⟩ =>
    match (match x with | .map none => some [] | .map (some B) => (match mapAt A B with | some (es, _) => some es | none => none) | _ => none) with
    | none => none
    | some es => bs (keyOkB E sq kt k) (match findE E sq kt k es 0 with
      | none => none
      | some (some (_, v)) => some (bs ck (.tuple ⟨[v, .bool true]⟩) v)
      | some none => match zeroOf E et with
        | some v => some (bs ck (.tuple ⟨[v, .bool false]⟩) v)
        | none => none) none
  | _ => none
include ok sok inv in
theorem lookup_ok {t : TypeId} {x x' k k' v : Value} {ck : Bool} (h : lookupV E sq A t x k ck = some v) (hx : VRel β x x') (hk : VRel β k k') : ∃ v', (Instr.lookup t x' k' ck).run P w = .ok v' w ∧ VRel β v v' := by
  unfold lookupV at h
  split at h
  · rename_i kt et _ _ _ _ hr
    have hu := (ok.ti t _ hr).1
    split at h
    · cases h
    · rename_i es hes
      replace h := bs_some h
      rcases h with ⟨hkb, h⟩ | ⟨_, h⟩
      · have hes' : ∃ es', MRel β es es' ∧ ((x' = .map none ∧ es' = []) ∨ ∃ r c0, x' = .map (some r) ∧ w.heap[r]? = some (.map ⟨es'⟩ c0)) := by
          split at hes
          · cases hes; cases hx; exact ⟨[], ⟨rfl, fun i e e' h => by simp at h⟩, .inl ⟨rfl, rfl⟩⟩
          · rename_i B
            cases hx with
            | map _ l hl =>
              split at hes
              · rename_i es0 ck0 hm
                cases hes
                obtain ⟨es', h1, h2⟩ := map_rel inv hm hl
                exact ⟨es', h2, .inr ⟨l.b, ck0, rfl, h1⟩⟩
              · cases hes
          · cases hes
        obtain ⟨es', hm, hx'⟩ := hes'
        clear hes hx
        have fin : ∀ r, findE E sq kt k es 0 = some r → _ := fun r hfr => find_ok ok sok hkb hk hfr hm w
        split at h
        · cases h
        · rename_i j0 v0 hf
          cases h
          obtain ⟨⟨r', f1, f2⟩, f3, -⟩ := fin _ hf
          rcases f2 with ⟨e, _⟩ | ⟨j1, v1, v1', e1, e2, hv⟩
          · cases e
          · cases e1
            subst e2
            cases ck with
            | true => exact ⟨.tuple #[v1', .bool true], by rcases hx' with ⟨e1, e2⟩ | ⟨r, c0, e1, hh⟩ <;> first | (subst e1; subst e2; simp [Instr.lookup, run_underlying hu, f3, f1]; done) | (subst e1; simp [Instr.lookup, run_underlying hu, f3, f1, getObj, Sem.run, hh]), VRel.tuple_of ((LRel.nil β).cons (.bool true) |>.cons hv)⟩
            | false => exact ⟨v1', by rcases hx' with ⟨e1, e2⟩ | ⟨r, c0, e1, hh⟩ <;> first | (subst e1; subst e2; simp [Instr.lookup, run_underlying hu, f3, f1]; done) | (subst e1; simp [Instr.lookup, run_underlying hu, f3, f1, getObj, Sem.run, hh]), hv⟩
        · rename_i hf
          split at h
          · rename_i z hz
            cases h
            obtain ⟨z', hz1, hz2⟩ := zero_ok (P := P) ok hz w
            obtain ⟨⟨r', f1, f2⟩, f3, -⟩ := fin _ hf
            rcases f2 with ⟨_, e⟩ | ⟨j1, v1, v1', e1, _⟩
            · subst e
              cases ck with
              | true => exact ⟨.tuple #[z', .bool false], by rcases hx' with ⟨e1, e2⟩ | ⟨r, c0, e1, hh⟩ <;> first | (subst e1; subst e2; simp [Instr.lookup, run_underlying hu, f3, f1, hz1]; done) | (subst e1; simp [Instr.lookup, run_underlying hu, f3, f1, hz1, getObj, Sem.run, hh]), VRel.tuple_of ((LRel.nil β).cons (.bool false) |>.cons (hz2 β))⟩
              | false => exact ⟨z', by rcases hx' with ⟨e1, e2⟩ | ⟨r, c0, e1, hh⟩ <;> first | (subst e1; subst e2; simp [Instr.lookup, run_underlying hu, f3, f1, hz1]; done) | (subst e1; simp [Instr.lookup, run_underlying hu, f3, f1, hz1, getObj, Sem.run, hh]), hz2 β⟩
            · cases e1
          · cases h
      · cases h
  · cases h
end
end Go.Ev
