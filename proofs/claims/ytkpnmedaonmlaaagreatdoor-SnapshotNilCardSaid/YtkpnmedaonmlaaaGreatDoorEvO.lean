/- A verified evaluator for closed calls: stores into maps. -/
import Derived.Test.YtkpnmedaonmlaaaGreatDoorEvN
namespace Go.Ev
open Go.RowKit
section
variable {P : Program} {E : Env} (ok : E.Ok P) {sq : List (Nat × List IntKind)} (sok : E.Seq P sq) {w0 w : World} {β : Ren} {A : AW} (inv : Inv w0 E.G β A w)

theorem findE_at {kt : TypeId} {k : Value} : ∀ (es : List MapEntry) (i j : Nat) (v : Value), findE E sq kt k es i = some (some (j, v)) → i ≤ j ∧ ∃ e, es[j - i]? = some e ∧ keyEq E sq kt k e.key = some true ∧ e.val = v
  | [], i, j, v, h => by cases h
  | e :: es, i, j, v, h => by
    have h' : (match keyEq E sq kt k e.key with
      | none => none
      | some true => some (some (i, e.val))
      | some false => findE E sq kt k es (i + 1)) = some (some (j, v)) := h
    clear h
    split at h'
    · cases h'
    · rename_i hq
      cases h'
      exact ⟨Nat.le_refl _, e, by simp, hq, rfl⟩
    · obtain ⟨h1, e2, h2, h3⟩ := findE_at es (i + 1) j v h'
      refine ⟨by omega, e2, ?_, h3⟩
      rw [show j - i = (j - (i + 1)) + 1 by omega, List.getElem?_cons_succ]
      exact h2
theorem arr_modify {es : List MapEntry} {j : Nat} {e : MapEntry} (h : es[j]? = some e) (f : MapEntry → MapEntry) : (⟨es⟩ : Array MapEntry).modify j f = ⟨es.set j (f e)⟩ := by
  apply Array.ext_getElem?
  intro i
  rw [Array.getElem?_modify]
  have hlt := (List.getElem?_eq_some_iff.1 h).1
  by_cases hi : j = i
  · subst hi
    have h2 : (⟨es⟩ : Array MapEntry)[j]? = some e := by simpa using h
    have h3 : (⟨es.set j (f e)⟩ : Array MapEntry)[j]? = some (f e) := by simp [hlt]
    rw [h2, h3]
    simp
  · rw [if_neg hi]
    have h3 : (⟨es.set j (f e)⟩ : Array MapEntry)[i]? = es[i]? := by simp [List.getElem?_set_ne hi]
    rw [h3]
    simp
theorem MRel.get {es es' : List MapEntry} (h : MRel β es es') {i : Nat} {e : MapEntry} (he : es[i]? = some e) : ∃ e', es'[i]? = some e' ∧ ERel β e e' := by
  have hi : i < es'.length := h.1 ▸ (List.getElem?_eq_some_iff.1 he).1
  exact ⟨es'[i], by simp [hi], h.2 i e _ he (by simp [hi])⟩

noncomputable def updV (E : Env) (sq : List (Nat × List IntKind)) (A : AW) (t : TypeId) (m k v : Value) : Option AW :=
  match E.ti.get none t, m with
  | some ⟨.map kt _, _, _, _, _⟩, .map (some B) => match mapAt A B with
    | some (es, ck) => bs (Nat.ble E.G B && keyOkB E sq kt k) (match findE E sq kt k es 0 with
      | none => none
      | some none => some (mapPut A B (lapp es [⟨k, v, ck⟩]) (Nat.add ck 1))
      | some (some (i, _)) => match nth es i with
        | some e => some (mapPut A B (lset es i ⟨k, v, e.born⟩) ck)
        | none => none) none
    | none => none
  | _, _ => none
theorem updV_next {t : TypeId} {m k v : Value} {A' : AW} (h : updV E sq A t m k v = some A') : A.next ≤ A'.next := by
  unfold updV at h
  split at h
  · split at h
    · replace h := bs_some h
      rcases h with ⟨_, h⟩ | ⟨_, h⟩
      · split at h
        · cases h
        · cases h; rw [mapPut_next]; exact Nat.le_refl _
        · split at h
          · cases h; rw [mapPut_next]; exact Nat.le_refl _
          · cases h
      · cases h
    · cases h
  · cases h
include ok sok inv in
theorem upd_ok {t : TypeId} {m m' k k' v v' : Value} {A' : AW} (h : updV E sq A t m k v = some A') (hm : VRel β m m') (hk : VRel β k k') (hv : VRel β v v') : ∃ w', (Instr.mapUpdate t m' k' v').run P w = .ok () w' ∧ Inv w0 E.G β A' w' := by
  unfold updV at h
  split at h
  · rename_i kt et _ _ _ _ B hr
    have hu := (ok.ti t _ hr).1
    split at h
    · rename_i es ck hat
      replace h := bs_some h
      rcases h with ⟨hb, h⟩ | ⟨_, h⟩
      · rw [Bool.and_eq_true] at hb
        have hG := Nat.le_of_ble_eq_true hb.1
        cases hm with
        | map _ l hl =>
          obtain ⟨es', hheap, hmr⟩ := map_rel inv hat hl
          have fin : ∀ r, findE E sq kt k es 0 = some r → _ := fun r hfr => find_ok ok sok hb.2 hk hfr hmr w
          split at h
          · cases h
          · rename_i hf
            cases h
            obtain ⟨⟨r', f1, f2⟩, f3, f4, _⟩ := fin _ hf
            rcases f2 with ⟨_, e⟩ | ⟨_, _, _, e1, _⟩
            · subst e
              have hm2 : MRel β (es ++ [⟨k, v, ck⟩]) (es' ++ [⟨k', v', ck⟩]) := hmr.snoc ⟨rfl, hk, hv⟩
              obtain ⟨hrun, hinv⟩ := map_put (P := P) (ck2 := ck + 1) inv hat hG hl hm2
              rw [lapp_eq]
              refine ⟨_, ?_, hinv⟩
              have hgo : (getObj l.b).run P w = .ok (.map ⟨es'⟩ ck) w := by simp [getObj, Sem.run, hheap]
              have hpush : (⟨es'⟩ : Array MapEntry).push ⟨k', v', ck⟩ = ⟨es' ++ [⟨k', v', ck⟩]⟩ := by apply Array.ext'; simp
              simp only [Instr.mapUpdate, Sem.run_bind, run_underlying hu, hgo, f3, f1, Result.andThen_ok]
              rw [hpush]
              exact hrun
            · cases e1
          · rename_i j0 v0 hf
            split at h
            · rename_i e0 he0
              rw [nth_eq] at he0
              cases h
              obtain ⟨⟨r', f1, f2⟩, f3, f4, f5, f6⟩ := fin _ hf
              rcases f2 with ⟨e, _⟩ | ⟨j1, v1, v1', e1, e2, hv1⟩
              · cases e
              · cases e1
                subst e2
                obtain ⟨_, e9, h9, h10, _⟩ := findE_at (E := E) (sq := sq) es 0 j0 v0 hf
                rw [Nat.sub_zero, he0] at h9
                cases h9
                obtain ⟨e', he', hb', hk', hv'⟩ := hmr.get he0
                have hkey : e'.key = k := f6 _ _ h10 hk'
                have hm2 : MRel β (es.set j0 ⟨k, v, e0.born⟩) (es'.set j0 ⟨k', v', e'.born⟩) := hmr.set j0 ⟨hb', hk, hv⟩
                obtain ⟨hrun, hinv⟩ := map_put (P := P) (ck2 := ck) inv hat hG hl hm2
                rw [lset_eq]
                refine ⟨_, ?_, hinv⟩
                have hgo : (getObj l.b).run P w = .ok (.map ⟨es'⟩ ck) w := by simp [getObj, Sem.run, hheap]
                have hmod := arr_modify he' (fun e => { e with key := k', val := v' })
                have hkt : (Instr.keyThatStays ((((⟨es'⟩ : Array MapEntry)[j0]?).map (·.key)).getD k') k').run P w = .ok k' w := by
                  have : (((⟨es'⟩ : Array MapEntry)[j0]?).map (·.key)).getD k' = k := by simp [he', hkey]
                  rw [this, f4]
                  simp [Instr.keyThatStays, f5]
                simp only [Instr.mapUpdate, Sem.run_bind, run_underlying hu, hgo, f3, f1, Result.andThen_ok, hkt]
                rw [hmod]
                exact hrun
            · cases h
      · cases h
    · cases h
  · cases h

noncomputable def entryV (E : Env) (sq : List (Nat × List IntKind)) (A : AW) (t : TypeId) (m k : Value) : Option (Value × AW) :=
  match E.ti.get none t, m with
  | some ⟨.map kt et, _, _, _, _⟩, .map (some B) => match mapAt A B with
    | some (es, ck) => bs (Nat.ble E.G B && keyOkB E sq kt k) (match findE E sq kt k es 0 with
      | none => none
      | some none => (match zeroOf E et with
        | some z => some (.tuple ⟨[z, .int .i64 (.ofNat ck)]⟩, mapPut A B (lapp es [⟨k, z, ck⟩]) (Nat.add ck 1))
        | none => none)
      | some (some (i, v)) => match nth es i with
        | some e => some (.tuple ⟨[v, .int .i64 (.ofNat e.born)]⟩, mapPut A B (lset es i ⟨k, e.val, e.born⟩) ck)
        | none => none) none
    | none => none
  | _, _ => none
theorem entryV_next {t : TypeId} {m k v : Value} {A' : AW} (h : entryV E sq A t m k = some (v, A')) : A.next ≤ A'.next := by
  unfold entryV at h
  split at h
  · split at h
    · replace h := bs_some h
      rcases h with ⟨_, h⟩ | ⟨_, h⟩
      · split at h
        · cases h
        · split at h
          · cases h; rw [mapPut_next]; exact Nat.le_refl _
          · cases h
        · split at h
          · cases h; rw [mapPut_next]; exact Nat.le_refl _
          · cases h
      · cases h
    · cases h
  · cases h
include ok sok inv in
theorem entry_ok {t : TypeId} {m m' k k' v : Value} {A' : AW} (h : entryV E sq A t m k = some (v, A')) (hm : VRel β m m') (hk : VRel β k k') : Does w0 E.G β A ((Instr.mapEntry t m' k').run P w) v A' := by
  unfold entryV at h
  split at h
  · rename_i kt et _ _ _ _ B hr
    have hu := (ok.ti t _ hr).1
    split at h
    · rename_i es ck hat
      replace h := bs_some h
      rcases h with ⟨hb, h⟩ | ⟨_, h⟩
      · rw [Bool.and_eq_true] at hb
        have hG := Nat.le_of_ble_eq_true hb.1
        cases hm with
        | map _ l hl =>
          obtain ⟨es', hheap, hmr⟩ := map_rel inv hat hl
          have fin : ∀ r, findE E sq kt k es 0 = some r → _ := fun r hfr => find_ok ok sok hb.2 hk hfr hmr w
          have hgo : (getObj l.b).run P w = .ok (.map ⟨es'⟩ ck) w := by simp [getObj, Sem.run, hheap]
          split at h
          · cases h
          · rename_i hf
            split at h
            · rename_i z hz
              cases h
              obtain ⟨⟨r', f1, f2⟩, f3, f4, _⟩ := fin _ hf
              obtain ⟨z', hz1, hz2⟩ := zero_ok (P := P) ok hz w
              rcases f2 with ⟨_, e⟩ | ⟨_, _, _, e1, _⟩
              · subst e
                have hm2 : MRel β (es ++ [⟨k, z, ck⟩]) (es' ++ [⟨k', z', ck⟩]) := hmr.snoc ⟨rfl, hk, hz2 β⟩
                obtain ⟨hrun, hinv⟩ := map_put (P := P) (ck2 := ck + 1) inv hat hG hl hm2
                rw [lapp_eq]
                refine ⟨β, .tuple #[z', goInt ck], _, ?_, VRel.tuple_of ((LRel.nil β).cons (.int .i64 ck) |>.cons (hz2 β)), hinv, Ren.grow_refl _ _⟩
                have hpush : (⟨es'⟩ : Array MapEntry).push ⟨k', z', ck⟩ = ⟨es' ++ [⟨k', z', ck⟩]⟩ := by apply Array.ext'; simp
                simp only [Instr.mapEntry, Sem.run_bind, run_underlying hu, hgo, f3, f1, Result.andThen_ok, hz1]
                rw [hpush, hrun]
                rfl
              · cases e1
            · cases h
          · rename_i j0 v0 hf
            split at h
            · rename_i e0 he0
              rw [nth_eq] at he0
              cases h
              obtain ⟨⟨r', f1, f2⟩, f3, f4, f5, f6⟩ := fin _ hf
              rcases f2 with ⟨e, _⟩ | ⟨j1, v1, v1', e1, e2, hv1⟩
              · cases e
              · cases e1
                subst e2
                obtain ⟨_, e9, h9, h10, _⟩ := findE_at (E := E) (sq := sq) es 0 j0 v0 hf
                rw [Nat.sub_zero, he0] at h9
                cases h9
                obtain ⟨e', he', hb', hk', hv'⟩ := hmr.get he0
                have hkey : e'.key = k := f6 _ _ h10 hk'
                have hm2 : MRel β (es.set j0 ⟨k, e0.val, e0.born⟩) (es'.set j0 ⟨k', e'.val, e'.born⟩) := hmr.set j0 ⟨hb', hk, hv'⟩
                obtain ⟨hrun, hinv⟩ := map_put (P := P) (ck2 := ck) inv hat hG hl hm2
                rw [lset_eq]
                refine ⟨β, .tuple #[v1', goInt e0.born], _, ?_, VRel.tuple_of ((LRel.nil β).cons (.int .i64 e0.born) |>.cons hv1), hinv, Ren.grow_refl _ _⟩
                have hmod := arr_modify he' (fun e => { e with key := k' })
                have hkt : (Instr.keyThatStays ((((⟨es'⟩ : Array MapEntry)[j0]?).map (·.key)).getD k') k').run P w = .ok k' w := by
                  have : (((⟨es'⟩ : Array MapEntry)[j0]?).map (·.key)).getD k' = k := by simp [he', hkey]
                  rw [this, f4]
                  simp [Instr.keyThatStays, f5]
                have hbn : (((⟨es'⟩ : Array MapEntry)[j0]?).map (fun x => (x.born : Int))).getD 0 = (e0.born : Int) := by simp [he', hb']
                simp only [Instr.mapEntry, Sem.run_bind, run_underlying hu, hgo, f3, f1, Result.andThen_ok, hkt, hbn]
                rw [hmod, hrun]
                rfl
            · cases h
      · cases h
    · cases h
  · cases h

noncomputable def bornAt (b : Nat) (es : List MapEntry) : Nat → Option Nat := List.rec (motive := fun _ => Nat → Option Nat) (fun _ => none) (fun e _ ih i => bs (Nat.beq e.born b) (some i) (ih (Nat.add i 1))) es
noncomputable def estoreV (E : Env) (A : AW) (m s v : Value) : Option AW :=
  match m, s with
  | .map (some B), .int _ (.ofNat b) => match mapAt A B with
    | some (es, ck) => bs (Nat.ble E.G B) (match bornAt b es 0 with
      | some i => (match nth es i with | some e => some (mapPut A B (lset es i ⟨e.key, v, e.born⟩) ck) | none => none)
      | none => none) none
    | none => none
  | _, _ => none
theorem estoreV_next {m k v : Value} {A' : AW} (h : estoreV E A m k v = some A') : A.next ≤ A'.next := by
  unfold estoreV at h
  split at h
  · split at h
    · replace h := bs_some h
      rcases h with ⟨_, h⟩ | ⟨_, h⟩
      · split at h
        · split at h
          · cases h; rw [mapPut_next]; exact Nat.le_refl _
          · cases h
        · cases h
      · cases h
    · cases h
  · cases h
theorem born_ok {b : Nat} : ∀ (es es' : List MapEntry) (i j : Nat), bornAt b es i = some j → MRel β es es' → i ≤ j ∧ es'.findIdx? (fun e => (e.born : Int) == (b : Int)) = some (j - i)
  | [], _, _, _, h, _ => by cases h
  | e :: es, es', i, j, h, hm => by
    obtain ⟨e', es'', rfl, ⟨hb, _, _⟩, hm'⟩ := hm.inv_cons
    have h' : bs (Nat.beq e.born b) (some i) (bornAt b es (i + 1)) = some j := h
    clear h
    rw [nbeq] at h'
    by_cases hq : e.born = b
    · rw [decide_eq_true hq, bs_true] at h'
      cases h'
      refine ⟨Nat.le_refl _, ?_⟩
      rw [List.findIdx?_cons]
      simp [← hb, hq]
    · rw [decide_eq_false hq, bs_false] at h'
      obtain ⟨h1, h2⟩ := born_ok es es'' (i + 1) j h' hm'
      refine ⟨by omega, ?_⟩
      rw [List.findIdx?_cons, h2]
      have : ¬ ((e'.born : Int) = (b : Int)) := by rw [← hb]; omega
      simp [this]
      omega
include inv in
theorem estore_ok {t : TypeId} {m m' s s' v v' : Value} {A' : AW} (h : estoreV E A m s v = some A') (hm : VRel β m m') (hs : VRel β s s') (hv : VRel β v v') : ∃ w', (Instr.entryStore t m' s' v').run P w = .ok () w' ∧ Inv w0 E.G β A' w' := by
  unfold estoreV at h
  split at h
  · rename_i B k0 b
    split at h
    · rename_i es ck hat
      replace h := bs_some h
      rcases h with ⟨hG, h⟩ | ⟨_, h⟩
      · have hG' := Nat.le_of_ble_eq_true hG
        cases hm with
        | map _ l hl =>
          cases hs
          obtain ⟨es', hheap, hmr⟩ := map_rel inv hat hl
          split at h
          · rename_i i hi
            split at h
            · rename_i e he
              rw [nth_eq] at he
              cases h
              obtain ⟨_, hidx⟩ := born_ok es es' 0 i hi hmr
              rw [Nat.sub_zero] at hidx
              obtain ⟨e', he', hb', hk', hv'⟩ := hmr.get he
              have hm2 : MRel β (es.set i ⟨e.key, v, e.born⟩) (es'.set i ⟨e'.key, v', e'.born⟩) := hmr.set i ⟨hb', hk', hv⟩
              obtain ⟨hrun, hinv⟩ := map_put (P := P) (ck2 := ck) inv hat hG' hl hm2
              rw [lset_eq]
              refine ⟨_, ?_, hinv⟩
              have hgo : (getObj l.b).run P w = .ok (.map ⟨es'⟩ ck) w := by simp [getObj, Sem.run, hheap]
              have hmod := arr_modify he' (fun e => { e with val := v' })
              have hidx2 : (⟨es'⟩ : Array MapEntry).findIdx? (fun e => (e.born : Int) == (Int.ofNat b)) = some i := by simpa using hidx
              simp only [Instr.entryStore, Sem.run_bind, hgo, Result.andThen_ok, asInt, asIntOf, Sem.run_pure, hidx2]
              rw [hmod]
              exact hrun
            · cases h
          · cases h
      · cases h
    · cases h
  · cases h
end
end Go.Ev
