/- A verified evaluator for closed calls: maps. -/
import Derived.Test.YtkpnmedaonmlaaaGreatDoorEv10
namespace Go.Ev
open Go.RowKit

theorem ba_beq (a b : List UInt8) : ((⟨⟨a⟩⟩ : ByteArray) == ⟨⟨b⟩⟩) = decide (a = b) := by
  show (BEq.beq (⟨a⟩ : Array UInt8) ⟨b⟩) = _
  by_cases e : a = b
  · subst e; simp
  · rw [decide_eq_false e]
    simp [e]
theorem leqT_true : ∀ (ks : List IntKind) (a b : List Value), leqT ks a b = some true → a = b
  | [], a, b, h => by
    have h' : leq0 a b = some true := h
    clear h
    unfold leq0 at h'
    split at h'
    · rfl
    · cases h'
  | k :: ks, a, b, h => by
    have h' : leq1 k (leqT ks) a b = some true := h
    clear h
    unfold leq1 at h'
    split at h'
    · rename_i j m a j' n b
      replace h' := bs_some h'
      rcases h' with ⟨hk, h'⟩ | ⟨_, h'⟩
      · rw [Bool.and_eq_true] at hk
        split at h'
        · rename_i r hr
          have h2 := Option.some.inj h'
          replace h2 := bs_some h2
          rcases h2 with ⟨hi, h2⟩ | ⟨_, h2⟩
          · subst h2
            rw [ieq_eq] at hi
            rw [keq_eq hk.1, keq_eq hk.2, of_decide_eq_true hi, leqT_true ks a b hr]
          · cases h2
        · cases h'
      · cases h'
    · cases h'
theorem leqT_bits : ∀ (ks : List IntKind) (a b : List Value), leqT ks a b = some true → ∀ n, (a.zip b).all (fun p => Instr.sameBits (n + 1) p.1 p.2) = true
  | [], a, b, h, n => by
    have h' : leq0 a b = some true := h
    clear h
    unfold leq0 at h'
    split at h'
    · rfl
    · cases h'
  | k :: ks, a, b, h, n => by
    have h' : leq1 k (leqT ks) a b = some true := h
    clear h
    unfold leq1 at h'
    split at h'
    · rename_i j m a1 j' n' b1
      replace h' := bs_some h'
      rcases h' with ⟨hk, h'⟩ | ⟨_, h'⟩
      · rw [Bool.and_eq_true] at hk
        split at h'
        · rename_i r hr
          have h2 := Option.some.inj h'
          replace h2 := bs_some h2
          rcases h2 with ⟨hi, h2⟩ | ⟨_, h2⟩
          · subst h2
            rw [ieq_eq] at hi
            have ih := leqT_bits ks a1 b1 hr n
            rw [List.zip_cons_cons, List.all_cons, Bool.and_eq_true]
            refine ⟨?_, ih⟩
            rw [keq_eq hk.1, keq_eq hk.2, of_decide_eq_true hi]
            simp [Instr.sameBits]
          · cases h2
        · cases h'
      · cases h'
    · cases h'
noncomputable def keyEq (E : Env) (sq : List (Nat × List IntKind)) (kt : TypeId) (k k2 : Value) : Option Bool :=
  match k, k2 with
  | .int j a, .int j' b => match E.ti.get none kt with | some ⟨.int _, _, _, _, _⟩ => bs (keq j j') (some (ieq a b)) none | _ => none
  | .string ⟨⟨a⟩⟩, .string ⟨⟨b⟩⟩ => match E.ti.get none kt with | some ⟨.string, _, _, _, _⟩ => some (beqL a b) | _ => none
  | .agg ⟨a⟩, .agg ⟨b⟩ => match seqOf sq kt with | some ks => leqT ks a b | none => none
  | _, _ => none
noncomputable def findE (E : Env) (sq : List (Nat × List IntKind)) (kt : TypeId) (k : Value) (es : List MapEntry) : Nat → Option (Option (Nat × Value)) :=
  List.rec (motive := fun _ => Nat → Option (Option (Nat × Value))) (fun _ => some none) (fun e _ ih i => match keyEq E sq kt k e.key with
    | none => none
    | some true => some (some (i, e.val))
    | some false => ih (Nat.add i 1)) es
noncomputable def keyOkB (E : Env) (sq : List (Nat × List IntKind)) (kt : TypeId) (k : Value) : Bool :=
  match keyEq E sq kt k k with
  | some true => true
  | _ => false

def MRel (β : Ren) (es es' : List MapEntry) : Prop := es.length = es'.length ∧ ∀ (i : Nat) e e', es[i]? = some e → es'[i]? = some e' → ERel β e e'
theorem MRel.mono {β β' : Ren} (hb : β.le β') {es es' : List MapEntry} (h : MRel β es es') : MRel β' es es' := ⟨h.1, fun i e e' a b => ⟨(h.2 i e e' a b).1, (h.2 i e e' a b).2.1.mono hb, (h.2 i e e' a b).2.2.mono hb⟩⟩
theorem MRel.inv_cons {β : Ren} {e : MapEntry} {es r : List MapEntry} (h : MRel β (e :: es) r) : ∃ e' es', r = e' :: es' ∧ ERel β e e' ∧ MRel β es es' := by
  cases r with
  | nil => exact absurd h.1 (by simp)
  | cons e' l' => exact ⟨e', l', rfl, h.2 0 e e' rfl rfl, by have := h.1; simpa using this, fun i a b ha hb => h.2 (i + 1) a b (by simpa using ha) (by simpa using hb)⟩
theorem MRel.inv_nil {β : Ren} {r : List MapEntry} (h : MRel β [] r) : r = [] := by
  cases r with
  | nil => rfl
  | cons _ _ => exact absurd h.1 (by simp)

/-- what is found -/
def RRel (β : Ren) (es' : List MapEntry) (r r' : Option (Nat × Value)) : Prop :=
  (r = none ∧ r' = none) ∨ ∃ j v v', r = some (j, v) ∧ r' = some (j, v') ∧ VRel β v v'

section
variable {P : Program} {E : Env} (ok : E.Ok P) {sq : List (Nat × List IntKind)} (sok : E.Seq P sq) {w0 w : World} {β : Ren} {A : AW}

theorem findNow_ok {kt : TypeId} {d : TypeDesc} {k k' : Value} (hs : ∀ k2 k2' b, keyEq E sq kt k k2 = some b → VRel β k2 k2' → Instr.sameNow d k' k2' = some b) : ∀ (es es' : List MapEntry) (i : Nat) (r : Option (Nat × Value)), findE E sq kt k es i = some r → MRel β es es' →
    ∃ r', Instr.findNow d k' es' i = some r' ∧ RRel β es' r r'
  | [], es', i, r, h, hm => by
    rw [hm.inv_nil]
    cases h
    exact ⟨none, rfl, .inl ⟨rfl, rfl⟩⟩
  | e :: es, es', i, r, h, hm => by
    obtain ⟨e', es'', rfl, ⟨hb, hk, hv⟩, hm'⟩ := hm.inv_cons
    have h' : (match keyEq E sq kt k e.key with
      | none => none
      | some true => some (some (i, e.val))
      | some false => findE E sq kt k es (i + 1)) = some r := h
    clear h
    split at h'
    · cases h'
    · rename_i hq
      cases h'
      exact ⟨some (i, e'.val), by simp [Instr.findNow, hs _ _ _ hq hk], .inr ⟨i, e.val, e'.val, rfl, rfl, hv⟩⟩
    · rename_i hq
      obtain ⟨r', h1, h2⟩ := findNow_ok hs es es'' (i + 1) r h' hm'
      exact ⟨r', by simp [Instr.findNow, hs _ _ _ hq hk, h1], h2⟩
theorem findAsking_ok {kt : TypeId} {k k' : Value} (hs : ∀ k2 k2' b, keyEq E sq kt k k2 = some b → VRel β k2 k2' → (Op.equal kt k' k2').run P w = .ok b w) : ∀ (es es' : List MapEntry) (i : Nat) (r : Option (Nat × Value)), findE E sq kt k es i = some r → MRel β es es' →
    ∃ r', (Instr.findAsking kt k' es' i).run P w = .ok r' w ∧ RRel β es' r r'
  | [], es', i, r, h, hm => by
    rw [hm.inv_nil]
    cases h
    exact ⟨none, by simp [Instr.findAsking], .inl ⟨rfl, rfl⟩⟩
  | e :: es, es', i, r, h, hm => by
    obtain ⟨e', es'', rfl, ⟨hb, hk, hv⟩, hm'⟩ := hm.inv_cons
    have h' : (match keyEq E sq kt k e.key with
      | none => none
      | some true => some (some (i, e.val))
      | some false => findE E sq kt k es (i + 1)) = some r := h
    clear h
    split at h'
    · cases h'
    · rename_i hq
      cases h'
      exact ⟨some (i, e'.val), by simp [Instr.findAsking, hs _ _ _ hq hk], .inr ⟨i, e.val, e'.val, rfl, rfl, hv⟩⟩
    · rename_i hq
      obtain ⟨r', h1, h2⟩ := findAsking_ok hs es es'' (i + 1) r h' hm'
      exact ⟨r', by simp [Instr.findAsking, hs _ _ _ hq hk, h1], h2⟩

include ok sok in
theorem find_ok {kt : TypeId} {k k' : Value} (hk : keyOkB E sq kt k = true) (hkr : VRel β k k') {es es' : List MapEntry} {r : Option (Nat × Value)} (h : findE E sq kt k es 0 = some r) (hm : MRel β es es') (w : World) :
    (∃ r', (Instr.findKey kt k' es').run P w = .ok r' w ∧ RRel β es' r r') ∧ (∀ em, (Instr.checkKey em 10000 kt k').run P w = .ok () w) ∧ k' = k ∧ Instr.sameBits 10000 k k = true ∧ (∀ k2 k2', keyEq E sq kt k k2 = some true → VRel β k2 k2' → k2' = k) := by
  unfold keyOkB at hk
  split at hk
  · rename_i hkk
    cases k with
    | int j a =>
      have hkk' := hkk
      simp only [keyEq] at hkk'
      split at hkk'
      · rename_i kd _ _ _ _ hr
        cases hkr
        have hu := (ok.ti kt _ hr).1
        have hs : ∀ k2 k2' b, keyEq E sq kt (.int j a) k2 = some b → VRel β k2 k2' → Instr.sameNow (.int kd) (.int j a) k2' = some b ∧ (b = true → k2' = .int j a) := fun k2 k2' b hq hv => by
          cases k2 <;> simp only [keyEq] at hq <;> try (cases hq; done)
          rename_i j2 a2
          rw [hr] at hq
          simp only at hq
          replace hq := bs_some hq
          rcases hq with ⟨hj, hq⟩ | ⟨_, hq⟩
          · have hj' := keq_eq hj
            subst hj'
            cases hq
            cases hv
            rw [ieq_eq]
            refine ⟨by simp [Instr.sameNow]; rfl, fun hb => ?_⟩
            rw [of_decide_eq_true hb]
          · cases hq
        obtain ⟨r', h1, h2⟩ := findNow_ok (fun k2 k2' b hq hv => (hs k2 k2' b hq hv).1) es es' 0 r h hm
        refine ⟨⟨r', by simp [Instr.findKey, run_underlying hu, h1], h2⟩, fun em => ?_, rfl, by simp [Instr.sameBits], fun k2 k2' hq hv => (hs k2 k2' true hq hv).2 rfl⟩
        rw [show (10000 : Nat) = 9999 + 1 from rfl, Instr.checkKey]
        simp [run_underlying hu]
      · cases hkk'
    | string b =>
      obtain ⟨⟨a⟩⟩ := b
      have hkk' := hkk
      simp only [keyEq] at hkk'
      split at hkk'
      · rename_i _ _ _ _ hr
        cases hkr
        have hu := (ok.ti kt _ hr).1
        have hs : ∀ k2 k2' b, keyEq E sq kt (.string ⟨⟨a⟩⟩) k2 = some b → VRel β k2 k2' → Instr.sameNow .string (.string ⟨⟨a⟩⟩) k2' = some b ∧ (b = true → k2' = .string ⟨⟨a⟩⟩) := fun k2 k2' b hq hv => by
          cases k2 <;> simp only [keyEq] at hq <;> try (cases hq; done)
          rename_i s2
          obtain ⟨⟨a2⟩⟩ := s2
          rw [hr] at hq
          simp only at hq
          cases hq
          cases hv
          rw [beqL_eq]
          refine ⟨?_, fun hb => by rw [of_decide_eq_true hb]⟩
          simp only [Instr.sameNow]
          congr 1
          exact ba_beq a a2
        obtain ⟨r', h1, h2⟩ := findNow_ok (fun k2 k2' b hq hv => (hs k2 k2' b hq hv).1) es es' 0 r h hm
        refine ⟨⟨r', by simp [Instr.findKey, run_underlying hu, h1], h2⟩, fun em => ?_, rfl, by simp only [Instr.sameBits]; rw [ba_beq]; exact decide_eq_true rfl, fun k2 k2' hq hv => (hs k2 k2' true hq hv).2 rfl⟩
        rw [show (10000 : Nat) = 9999 + 1 from rfl, Instr.checkKey]
        simp [run_underlying hu]
      · cases hkk'
    | agg b =>
      obtain ⟨a⟩ := b
      have hkk' := hkk
      simp only [keyEq] at hkk'
      split at hkk'
      · rename_i ks hks
        have hk' : k' = .agg ⟨a⟩ := by
          cases hkr with
          | agg _ p' hp h1 => obtain ⟨rfl, _⟩ := leqT_same ks a a p' p' true hkk' ⟨hp, h1⟩ ⟨hp, h1⟩; rfl
        subst hk'
        have hs : ∀ k2 k2' b, keyEq E sq kt (.agg ⟨a⟩) k2 = some b → VRel β k2 k2' → (Op.equal kt (.agg ⟨a⟩) k2').run P w = .ok b w ∧ (b = true → k2' = .agg ⟨a⟩) := fun k2 k2' b hq hv => by
          cases k2 <;> simp only [keyEq] at hq <;> try (cases hq; done)
          rename_i s2
          obtain ⟨a2⟩ := s2
          rw [hks] at hq
          simp only at hq
          cases hv with
          | agg _ p' hp h1 =>
            cases hkr with
            | agg _ q' hq' h2 =>
              obtain ⟨_, rfl⟩ := leqT_same ks a a2 a p' b hq ⟨hq', h2⟩ ⟨hp, h1⟩
              refine ⟨sok.eq kt ks a _ b hks hq w, fun hb => ?_⟩
              subst hb
              rw [leqT_true ks a _ hq]
        obtain ⟨r', h1, h2⟩ := findAsking_ok (P := P) (w := w) (fun k2 k2' b hq hv => (hs k2 k2' b hq hv).1) es es' 0 r h hm
        refine ⟨⟨r', ?_, h2⟩, fun em => sok.key kt ks a hks hkk' em w, rfl, ?_, fun k2 k2' hq hv => (hs k2 k2' true hq hv).2 rfl⟩
        · obtain ⟨d, hd⟩ := sok.und kt ks hks
          cases es' with
          | nil =>
            have : r' = none := by simp [Instr.findAsking] at h1; exact h1.symm
            subst this
            simp [Instr.findKey, run_underlying hd, Instr.findNow]
          | cons e' es'' =>
            have hsn : Instr.sameNow d (.agg ⟨a⟩) e'.key = none := by
              cases d <;> rfl
            simp [Instr.findKey, run_underlying hd, Instr.findNow, hsn, h1]
        · have := leqT_bits ks a a hkk' 9998
          rw [show (10000 : Nat) = 9999 + 1 from rfl, Instr.sameBits]
          simpa using this
      · cases hkk'
    | _ => simp only [keyEq] at hkk; cases hkk
  · cases hk
end
end Go.Ev
