/- A verified evaluator for closed calls: the entry that an iteration stands at; maps with a hint. -/
import Derived.Test.YtkpnmedaonmlaaaGreatDoorEvS
namespace Go.Ev
open Go.RowKit
section
variable {P : Program} {E : Env} (ok : E.Ok P) {w0 w : World} {β : Ren} {A : AW} (inv : Inv w0 E.G β A w)

noncomputable def mkMapV (E : Env) (A : AW) (t : TypeId) (r : Option Value) : Option (Value × AW) :=
  match r with
  | none => some (makeMapV A)
  | some (.int _ _) => match E.ti.get none t with
    | some ⟨.map _ _, _, _, _, _⟩ => some (makeMapV A)
    | _ => none
  | _ => none
theorem mkMapV_next {t : TypeId} {r : Option Value} {v : Value} {A' : AW} (h : mkMapV E A t r = some (v, A')) : A.next ≤ A'.next := by
  unfold mkMapV at h
  split at h
  · cases h; exact Nat.le_succ _
  · split at h
    · cases h; exact Nat.le_succ _
    · cases h
  · cases h
include ok inv in
theorem mkMap_ok {t : TypeId} {r r' : Option Value} {v : Value} {A' : AW} (h : mkMapV E A t r = some (v, A')) (hr : ORel β r r') : Does w0 E.G β A ((Instr.makeMap t r').run P w) v A' := by
  unfold mkMapV at h
  split at h
  · cases r' with
    | none => cases h; exact makeMap_ok inv t
    | some x => exact absurd hr (by simp [ORel])
  · rename_i k n
    cases r' with
    | none => exact absurd hr (by simp [ORel])
    | some x =>
      have hx : VRel β (.int k n) x := hr
      cases hx
      split at h
      · rename_i hti
        have hu := (ok.ti t _ hti).1
        cases h
        have := makeMap_ok (P := P) inv t
        obtain ⟨β', v', w', h1, h2⟩ := this
        refine ⟨β', v', w', ?_, h2⟩
        rw [← h1]
        simp [Instr.makeMap, run_underlying hu, asInt, asIntOf]
      · cases h
  · cases h

noncomputable def lastOf (l : List Nat) : Option Nat := List.rec (motive := fun _ => Option Nat) none (fun a _ ih => match ih with | some x => some x | none => some a) l
theorem lastOf_eq : ∀ (l : List Nat), lastOf l = l.getLast?
  | [] => rfl
  | [a] => rfl
  | a :: b :: l => by
    show (match lastOf (b :: l) with | some x => some x | none => some a) = _
    rw [lastOf_eq (b :: l), List.getLast?_cons_cons]
    rw [List.getLast?_eq_some_getLast (by simp)]
noncomputable def stampE (s : Nat) (es : List MapEntry) : Option MapEntry := List.rec (motive := fun _ => Option MapEntry) none (fun e _ ih => bs (Nat.beq e.born s) (some e) ih) es
theorem stampE_ok {s : Nat} {e : MapEntry} : ∀ {es es' : List MapEntry}, stampE s es = some e → MRel β es es' → ∃ e', es'.find? (·.born == s) = some e' ∧ ERel β e e'
  | [], es', h, _ => by cases h
  | a :: es, es', h, hm => by
    obtain ⟨a', l', rfl, h1, h2⟩ := hm.inv_cons
    have h' : bs (Nat.beq a.born s) (some a) (stampE s es) = some e := h
    replace h' := bs_some h'
    rcases h' with ⟨hb, h'⟩ | ⟨hb, h'⟩
    · cases h'
      have hb' := Nat.eq_of_beq_eq_true hb
      refine ⟨a', ?_, h1⟩
      rw [List.find?_cons_of_pos]
      rw [← h1.1, hb']; simp
    · obtain ⟨e', he', hr⟩ := stampE_ok h' h2
      refine ⟨e', ?_, hr⟩
      rw [List.find?_cons_of_neg]
      · exact he'
      · rw [← h1.1]
        intro hc
        have : a.born = s := by simpa using hc
        rw [this] at hb
        simp at hb
noncomputable def itEntV (A : AW) (it : Value) : Option Value :=
  match it with
  | .pointer (some ⟨R, 0, none⟩) => match iterAt A R with
    | some (some B, _, seen, st) => match lastOf seen, mapAt A B with
      | some s, some (es, ck) => bs (Nat.beq ck st) (match stampE s es with | some e => some (.tuple ⟨[e.key, e.val]⟩) | none => none) none
      | _, _ => none
    | _ => none
  | _ => none
theorem entry_first {r b since ck : Nat} (sn : Array Nat) (es : Array MapEntry) {s : Nat} {e' : MapEntry} (hgo : (getObj r).run P w = .ok (.mapIter (some b) since sn ck) w) (hgo2 : (getObj b).run P w = .ok (.map es ck) w) (hb : sn.back? = some s) (hf : es.find? (·.born == s) = some e') :
    (Instr.entry (.pointer (some ⟨r, 0, none⟩))).run P w = .ok (.tuple #[e'.key, e'.val]) w := by
  simp [Instr.entry, hgo, hgo2, hb, hf]
include inv in
theorem itEnt_ok {it it' v : Value} (h : itEntV A it = some v) (hi : VRel β it it') : ∃ v', (Instr.entry it').run P w = .ok v' w ∧ VRel β v v' := by
  unfold itEntV at h
  split at h
  · rename_i R
    cases hi with
    | ptr _ _ lr hlr =>
      split at h
      · rename_i B since seen st hit
        split at h
        · rename_i s es ck hs hat
          replace h := bs_some h
          rcases h with ⟨hb, h⟩ | ⟨_, h⟩
          · have hb' := Nat.eq_of_beq_eq_true hb
            subst hb'
            split at h
            · rename_i e he
              cases h
              obtain ⟨hd0, m', h1, h2⟩ := iter_rel inv hit hlr
              rcases h2 with ⟨e0, _⟩ | ⟨B2, lb, e0, hlb, rfl⟩
              · cases e0
              · cases e0
                obtain ⟨es', hheap, hmr⟩ := map_rel inv hat hlb
                obtain ⟨e', he', hr⟩ := stampE_ok he hmr
                have hgo : (getObj lr.b).run P w = .ok (.mapIter (some lb.b) since ⟨seen⟩ ck) w := by simp [getObj, Sem.run, h1]
                have hgo2 : (getObj lb.b).run P w = .ok (.map ⟨es'⟩ ck) w := by simp [getObj, Sem.run, hheap]
                have hback : (⟨seen⟩ : Array Nat).back? = some s := by rw [lastOf_eq] at hs; simpa using hs
                refine ⟨.tuple #[e'.key, e'.val], ?_, VRel.tuple_of (((LRel.nil β).cons hr.2.2).cons hr.2.1)⟩
                have he2 : (⟨es'⟩ : Array MapEntry).find? (·.born == s) = some e' := by rw [← he']; simp
                rw [hd0]
                exact entry_first _ _ hgo hgo2 hback he2
            · cases h
          · cases h
        · cases h
      · cases h
  · cases h
end
end Go.Ev
