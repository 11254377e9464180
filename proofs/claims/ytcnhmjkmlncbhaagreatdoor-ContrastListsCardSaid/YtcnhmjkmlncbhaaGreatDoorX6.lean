/- A verified evaluator of Go functions on partly symbolic values, part 6 of 17. -/
import Derived.Test.YtcnhmjkmlncbhaaGreatDoorX5
namespace Go.Ex
open Go.RowKit

theorem ba_beq (a b : List UInt8) : ((⟨⟨a⟩⟩ : ByteArray) == ⟨⟨b⟩⟩) = decide (a = b) := by
  show (BEq.beq (⟨a⟩ : Array UInt8) ⟨b⟩) = _
  by_cases e : a = b
  · subst e; simp
  · rw [decide_eq_false e]
    simp [e]
theorem leqT_true : ∀ (ks : List IntKind) (a b : List Value), leqT ks a b = some true → a = b
  | [], a, b, h => by
    have h' : leq0 a b = some true := h
    clear h
    unfold leq0 at h'
    split at h'
    · rfl
    · cases h'
  | k :: ks, a, b, h => by
    have h' : leq1 k (leqT ks) a b = some true := h
    clear h
    unfold leq1 at h'
    split at h'
    · rename_i j m a j' n b
      replace h' := bs_some h'
      rcases h' with ⟨hk, h'⟩ | ⟨_, h'⟩
      · rw [Bool.and_eq_true] at hk
        split at h'
        · rename_i r hr
          have h2 := Option.some.inj h'
          replace h2 := bs_some h2
          rcases h2 with ⟨hi, h2⟩ | ⟨_, h2⟩
          · subst h2
            rw [ieq_eq] at hi
            rw [keq_eq hk.1, keq_eq hk.2, of_decide_eq_true hi, leqT_true ks a b hr]
          · cases h2
        · cases h'
      · cases h'
    · cases h'
theorem leqT_bits : ∀ (ks : List IntKind) (a b : List Value), leqT ks a b = some true → ∀ n, (a.zip b).all (fun p => Instr.sameBits (n + 1) p.1 p.2) = true
  | [], a, b, h, n => by
    have h' : leq0 a b = some true := h
    clear h
    unfold leq0 at h'
    split at h'
    · rfl
    · cases h'
  | k :: ks, a, b, h, n => by
    have h' : leq1 k (leqT ks) a b = some true := h
    clear h
    unfold leq1 at h'
    split at h'
    · rename_i j m a1 j' n' b1
      replace h' := bs_some h'
      rcases h' with ⟨hk, h'⟩ | ⟨_, h'⟩
      · rw [Bool.and_eq_true] at hk
        split at h'
        · rename_i r hr
          have h2 := Option.some.inj h'
          replace h2 := bs_some h2
          rcases h2 with ⟨hi, h2⟩ | ⟨_, h2⟩
          · subst h2
            rw [ieq_eq] at hi
            have ih := leqT_bits ks a1 b1 hr n
            rw [List.zip_cons_cons, List.all_cons, Bool.and_eq_true]
            refine ⟨?_, ih⟩
            rw [keq_eq hk.1, keq_eq hk.2, of_decide_eq_true hi]
            simp [Instr.sameBits]
          · cases h2
        · cases h'
      · cases h'
    · cases h'
noncomputable def keyEq (E : Env) (sq : List (Nat × List IntKind)) (kt : TypeId) (k k2 : Value) : Option Bool :=
  match k, k2 with
  | .int j a, .int j' b => match E.ti.get none kt with | some ⟨.int _, _, _, _, _⟩ => bs (keq j j') (some (ieq a b)) none | _ => none
  | .string ⟨⟨a⟩⟩, .string ⟨⟨b⟩⟩ => match E.ti.get none kt with | some ⟨.string, _, _, _, _⟩ => some (beqL a b) | _ => none
  | .agg ⟨a⟩, .agg ⟨b⟩ => match seqOf sq kt with | some ks => leqT ks a b | none => none
  | _, _ => none
noncomputable def findE (E : Env) (sq : List (Nat × List IntKind)) (kt : TypeId) (k : Value) (es : List MapEntry) : Nat → Option (Option (Nat × Value)) :=
  List.rec (motive := fun _ => Nat → Option (Option (Nat × Value))) (fun _ => some none) (fun e _ ih i => match keyEq E sq kt k e.key with
    | none => none
    | some true => some (some (i, e.val))
    | some false => ih (Nat.add i 1)) es
noncomputable def keyOkB (E : Env) (sq : List (Nat × List IntKind)) (kt : TypeId) (k : Value) : Bool :=
  match keyEq E sq kt k k with
  | some true => true
  | _ => false

def MRel (β : Ren) (es es' : List MapEntry) : Prop := es.length = es'.length ∧ ∀ (i : Nat) e e', es[i]? = some e → es'[i]? = some e' → ERel β e e'
theorem MRel.mono {β β' : Ren} (hb : β.le β') {es es' : List MapEntry} (h : MRel β es es') : MRel β' es es' := ⟨h.1, fun i e e' a b => ⟨(h.2 i e e' a b).1, (h.2 i e e' a b).2.1.mono hb, (h.2 i e e' a b).2.2.mono hb⟩⟩
theorem MRel.inv_cons {β : Ren} {e : MapEntry} {es r : List MapEntry} (h : MRel β (e :: es) r) : ∃ e' es', r = e' :: es' ∧ ERel β e e' ∧ MRel β es es' := by
  cases r with
  | nil => exact absurd h.1 (by simp)
  | cons e' l' => exact ⟨e', l', rfl, h.2 0 e e' rfl rfl, by have := h.1; simpa using this, fun i a b ha hb => h.2 (i + 1) a b (by simpa using ha) (by simpa using hb)⟩
theorem MRel.inv_nil {β : Ren} {r : List MapEntry} (h : MRel β [] r) : r = [] := by
  cases r with
  | nil => rfl
  | cons _ _ => exact absurd h.1 (by simp)

/-- what is found -/
def RRel (β : Ren) (es' : List MapEntry) (r r' : Option (Nat × Value)) : Prop :=
  (r = none ∧ r' = none) ∨ ∃ j v v', r = some (j, v) ∧ r' = some (j, v') ∧ VRel β v v'

section
variable {P : Program} {E : Env} (ok : E.Ok P) {sq : List (Nat × List IntKind)} (sok : E.Seq P sq) {w0 w : World} {β : Ren} {A : AW}

theorem findNow_ok {kt : TypeId} {d : TypeDesc} {k k' : Value} (hs : ∀ k2 k2' b, keyEq E sq kt k k2 = some b → VRel β k2 k2' → Instr.sameNow d k' k2' = some b) : ∀ (es es' : List MapEntry) (i : Nat) (r : Option (Nat × Value)), findE E sq kt k es i = some r → MRel β es es' →
    ∃ r', Instr.findNow d k' es' i = some r' ∧ RRel β es' r r'
  | [], es', i, r, h, hm => by
    rw [hm.inv_nil]
    cases h
    exact ⟨none, rfl, .inl ⟨rfl, rfl⟩⟩
  | e :: es, es', i, r, h, hm => by
    obtain ⟨e', es'', rfl, ⟨hb, hk, hv⟩, hm'⟩ := hm.inv_cons
    have h' : (match keyEq E sq kt k e.key with
      | none => none
      | some true => some (some (i, e.val))
      | some false => findE E sq kt k es (i + 1)) = some r := h
    clear h
    split at h'
    · cases h'
    · rename_i hq
      cases h'
      exact ⟨some (i, e'.val), by simp [Instr.findNow, hs _ _ _ hq hk], .inr ⟨i, e.val, e'.val, rfl, rfl, hv⟩⟩
    · rename_i hq
      obtain ⟨r', h1, h2⟩ := findNow_ok hs es es'' (i + 1) r h' hm'
      exact ⟨r', by simp [Instr.findNow, hs _ _ _ hq hk, h1], h2⟩
theorem findAsking_ok {kt : TypeId} {k k' : Value} (hs : ∀ k2 k2' b, keyEq E sq kt k k2 = some b → VRel β k2 k2' → (Op.equal kt k' k2').run P w = .ok b w) : ∀ (es es' : List MapEntry) (i : Nat) (r : Option (Nat × Value)), findE E sq kt k es i = some r → MRel β es es' →
    ∃ r', (Instr.findAsking kt k' es' i).run P w = .ok r' w ∧ RRel β es' r r'
  | [], es', i, r, h, hm => by
    rw [hm.inv_nil]
    cases h
    exact ⟨none, by simp [Instr.findAsking], .inl ⟨rfl, rfl⟩⟩
  | e :: es, es', i, r, h, hm => by
    obtain ⟨e', es'', rfl, ⟨hb, hk, hv⟩, hm'⟩ := hm.inv_cons
    have h' : (match keyEq E sq kt k e.key with
      | none => none
      | some true => some (some (i, e.val))
      | some false => findE E sq kt k es (i + 1)) = some r := h
    clear h
    split at h'
    · cases h'
    · rename_i hq
      cases h'
      exact ⟨some (i, e'.val), by simp [Instr.findAsking, hs _ _ _ hq hk], .inr ⟨i, e.val, e'.val, rfl, rfl, hv⟩⟩
    · rename_i hq
      obtain ⟨r', h1, h2⟩ := findAsking_ok hs es es'' (i + 1) r h' hm'
      exact ⟨r', by simp [Instr.findAsking, hs _ _ _ hq hk, h1], h2⟩

include ok sok in
theorem find_ok {kt : TypeId} {k k' : Value} (hk : keyOkB E sq kt k = true) (hkr : VRel β k k') {es es' : List MapEntry} {r : Option (Nat × Value)} (h : findE E sq kt k es 0 = some r) (hm : MRel β es es') (w : World) :
    (∃ r', (Instr.findKey kt k' es').run P w = .ok r' w ∧ RRel β es' r r') ∧ (∀ em, (Instr.checkKey em 10000 kt k').run P w = .ok () w) ∧ k' = k ∧ Instr.sameBits 10000 k k = true ∧ (∀ k2 k2', keyEq E sq kt k k2 = some true → VRel β k2 k2' → k2' = k) := by
  unfold keyOkB at hk
  split at hk
  · rename_i hkk
    cases k with
    | int j a =>
      have hkk' := hkk
      simp only [keyEq] at hkk'
      split at hkk'
      · rename_i kd _ _ _ _ hr
        cases hkr
        have hu := (ok.ti kt _ hr).1
        have hs : ∀ k2 k2' b, keyEq E sq kt (.int j a) k2 = some b → VRel β k2 k2' → Instr.sameNow (.int kd) (.int j a) k2' = some b ∧ (b = true → k2' = .int j a) := fun k2 k2' b hq hv => by
          cases k2 <;> simp only [keyEq] at hq <;> try (cases hq; done)
          rename_i j2 a2
          rw [hr] at hq
          simp only at hq
          replace hq := bs_some hq
          rcases hq with ⟨hj, hq⟩ | ⟨_, hq⟩
          · have hj' := keq_eq hj
            subst hj'
            cases hq
            cases hv
            rw [ieq_eq]
            refine ⟨by simp [Instr.sameNow]; rfl, fun hb => ?_⟩
            rw [of_decide_eq_true hb]
          · cases hq
        obtain ⟨r', h1, h2⟩ := findNow_ok (fun k2 k2' b hq hv => (hs k2 k2' b hq hv).1) es es' 0 r h hm
        refine ⟨⟨r', by simp [Instr.findKey, run_underlying hu, h1], h2⟩, fun em => ?_, rfl, by simp [Instr.sameBits], fun k2 k2' hq hv => (hs k2 k2' true hq hv).2 rfl⟩
        rw [show (10000 : Nat) = 9999 + 1 from rfl, Instr.checkKey]
        simp [run_underlying hu]
      · cases hkk'
    | string b =>
      obtain ⟨⟨a⟩⟩ := b
      have hkk' := hkk
      simp only [keyEq] at hkk'
      split at hkk'
      · rename_i _ _ _ _ hr
        cases hkr
        have hu := (ok.ti kt _ hr).1
        have hs : ∀ k2 k2' b, keyEq E sq kt (.string ⟨⟨a⟩⟩) k2 = some b → VRel β k2 k2' → Instr.sameNow .string (.string ⟨⟨a⟩⟩) k2' = some b ∧ (b = true → k2' = .string ⟨⟨a⟩⟩) := fun k2 k2' b hq hv => by
          cases k2 <;> simp only [keyEq] at hq <;> try (cases hq; done)
          rename_i s2
          obtain ⟨⟨a2⟩⟩ := s2
          rw [hr] at hq
          simp only at hq
          cases hq
          cases hv
          rw [beqL_eq]
          refine ⟨?_, fun hb => by rw [of_decide_eq_true hb]⟩
          simp only [Instr.sameNow]
          congr 1
          exact ba_beq a a2
        obtain ⟨r', h1, h2⟩ := findNow_ok (fun k2 k2' b hq hv => (hs k2 k2' b hq hv).1) es es' 0 r h hm
        refine ⟨⟨r', by simp [Instr.findKey, run_underlying hu, h1], h2⟩, fun em => ?_, rfl, by simp only [Instr.sameBits]; rw [ba_beq]; exact decide_eq_true rfl, fun k2 k2' hq hv => (hs k2 k2' true hq hv).2 rfl⟩
        rw [show (10000 : Nat) = 9999 + 1 from rfl, Instr.checkKey]
        simp [run_underlying hu]
      · cases hkk'
    | agg b =>
      obtain ⟨a⟩ := b
      have hkk' := hkk
      simp only [keyEq] at hkk'
      split at hkk'
      · rename_i ks hks
        have hk' : k' = .agg ⟨a⟩ := by
          cases hkr with
          | agg _ p' hp h1 => obtain ⟨rfl, _⟩ := leqT_same ks a a p' p' true hkk' ⟨hp, h1⟩ ⟨hp, h1⟩; rfl
        subst hk'
        have hs : ∀ k2 k2' b, keyEq E sq kt (.agg ⟨a⟩) k2 = some b → VRel β k2 k2' → (Op.equal kt (.agg ⟨a⟩) k2').run P w = .ok b w ∧ (b = true → k2' = .agg ⟨a⟩) := fun k2 k2' b hq hv => by
          cases k2 <;> simp only [keyEq] at hq <;> try (cases hq; done)
          rename_i s2
          obtain ⟨a2⟩ := s2
          rw [hks] at hq
          simp only at hq
          cases hv with
          | agg _ p' hp h1 =>
            cases hkr with
            | agg _ q' hq' h2 =>
              obtain ⟨_, rfl⟩ := leqT_same ks a a2 a p' b hq ⟨hq', h2⟩ ⟨hp, h1⟩
              refine ⟨sok.eq kt ks a _ b hks hq w, fun hb => ?_⟩
              subst hb
              rw [leqT_true ks a _ hq]
        obtain ⟨r', h1, h2⟩ := findAsking_ok (P := P) (w := w) (fun k2 k2' b hq hv => (hs k2 k2' b hq hv).1) es es' 0 r h hm
        refine ⟨⟨r', ?_, h2⟩, fun em => sok.key kt ks a hks hkk' em w, rfl, ?_, fun k2 k2' hq hv => (hs k2 k2' true hq hv).2 rfl⟩
        · obtain ⟨d, hd⟩ := sok.und kt ks hks
          cases es' with
          | nil =>
            have : r' = none := by simp [Instr.findAsking] at h1; exact h1.symm
            subst this
            simp [Instr.findKey, run_underlying hd, Instr.findNow]
          | cons e' es'' =>
            have hsn : Instr.sameNow d (.agg ⟨a⟩) e'.key = none := by
              cases d <;> rfl
            simp [Instr.findKey, run_underlying hd, Instr.findNow, hsn, h1]
        · have := leqT_bits ks a a hkk' 9998
          rw [show (10000 : Nat) = 9999 + 1 from rfl, Instr.sameBits]
          simpa using this
      · cases hkk'
    | _ => simp only [keyEq] at hkk; cases hkk
  · cases hk
end
end Go.Ex
namespace Go.Ex
open Go.RowKit
section
variable {P : Program} {E : Env} (ok : E.Ok P) {sq : List (Nat × List IntKind)} (sok : E.Seq P sq) {w0 w : World} {β : Ren} {A : AW} (inv : Inv w0 E.G β A w)

noncomputable def zeroOf (E : Env) (t : TypeId) : Option Value :=
  match E.ti.get none t with
  | some r => bs r.zok (bs (isRowD r.desc) (some (.agg ⟨lmap san1 r.zero⟩)) (match r.zero with | [c] => some (san1 c) | _ => none)) none
  | none => none
include ok in
theorem zero_ok {t : TypeId} {v : Value} (h : zeroOf E t = some v) (w : World) : ∃ v', (zeroValue t).run P w = .ok v' w ∧ ∀ β : Ren, VRel β v v' := by
  unfold zeroOf at h
  split at h
  · rename_i r hr
    replace h := bs_some h
    rcases h with ⟨hz, h⟩ | ⟨_, h⟩
    · obtain ⟨_, i, hi, _, _, hz2⟩ := ok.ti t r hr
      obtain ⟨z, hz3, hz4⟩ := hz2 hz
      obtain ⟨e1, e2⟩ := ok.zr t r i z hr hi hz hz3
      have hrun : (zeroValue t).run P w = .ok z w := by simp [zeroValue, typeInfo, hi, hz3]
      refine ⟨z, hrun, fun β => ?_⟩
      replace h := bs_some h
      rcases h with ⟨hd, h⟩ | ⟨hd, h⟩
      · cases h
        have : z = .agg ⟨r.zero⟩ := by
          rw [e1]
          cases hde : r.desc <;> rw [hde] at hd <;> first | (cases hd; done) | rfl
        rw [this]
        exact VRel.agg_of (lmap_san1 β _)
      · split at h
        · rename_i c hc
          cases h
          have : z = c := by
            rw [e1]
            cases hde : r.desc <;> rw [hde] at hd <;> first | (cases hd; done) | (simp only [hc])
          rw [this]
          exact san1_rel β c
        · cases h
    · cases h
  · cases h

noncomputable def mapAt (A : AW) (B : Nat) : Option (List MapEntry × Nat) := match A.get B with | some ⟨.map es ck, _, _, _, _⟩ => some (es, ck) | _ => none
include inv in
theorem map_rel {B : Nat} {es : List MapEntry} {ck : Nat} (h : mapAt A B = some (es, ck)) {l : Loc} (hl : β B = some l) : ∃ es', w.heap[l.b]? = some (.map ⟨es'⟩ ck) ∧ MRel β es es' := by
  unfold mapAt at h
  split at h
  · rename_i hg
    cases h
    obtain ⟨es', h1, h2, h3⟩ := inv.cont B _ l hg hl
    obtain ⟨es'⟩ := es'
    exact ⟨es', h1, by simpa using h2, fun i e e' a b => h3 i e e' a (by simpa using b)⟩
  · cases h
noncomputable def mapPut (A : AW) (B : Nat) (es : List MapEntry) (ck : Nat) : AW := match A.get B with | some ⟨_, a, b, c, d⟩ => A.put B (some ⟨.map es ck, a, b, c, d⟩) | none => A
include inv in
theorem map_put {B : Nat} {es es2 : List MapEntry} {ck ck2 : Nat} (h : mapAt A B = some (es, ck)) (hG : E.G.n ≤ B) {l : Loc} (hl : β B = some l) {es2' : List MapEntry} (hm : MRel β es2 es2') :
    (setObj l.b (.map ⟨es2'⟩ ck2)).run P w = .ok () { w with heap := w.heap.setIfInBounds l.b (.map ⟨es2'⟩ ck2) } ∧ Inv w0 E.G β (mapPut A B es2 ck2) { w with heap := w.heap.setIfInBounds l.b (.map ⟨es2'⟩ ck2) } := by
  obtain ⟨es', h1, _⟩ := map_rel inv h hl
  have hlt : l.b < w.heap.size := (Array.getElem?_eq_some_iff.1 h1).1
  unfold mapAt at h
  split at h
  · rename_i e0 c0 a b c d hg
    refine ⟨by simp [setObj, Sem.run, h1], ?_⟩
    unfold mapPut
    rw [hg]
    refine inv.write B l _ _ hg hl hG ⟨rfl, rfl, rfl, by simp, fun k hk hne => ?_⟩ (by simp) ?_
    · show (w.heap.setIfInBounds l.b _)[k]? = _
      rw [Array.getElem?_setIfInBounds_ne (fun e => hne (by rw [e]))]
    · show BRel β l _ ((w.heap.setIfInBounds l.b _)[l.b]?)
      rw [Array.getElem?_setIfInBounds_self_of_lt hlt]
      exact ⟨⟨es2'⟩, rfl, by simpa using hm.1, fun i e e' a b => hm.2 i e e' a (by simpa using b)⟩
  · cases h
theorem mapPut_next (B : Nat) (es : List MapEntry) (ck : Nat) : (mapPut A B es ck).next = A.next := by
  unfold mapPut
  split <;> rfl
theorem MRel.set {es es' : List MapEntry} (h : MRel β es es') (i : Nat) {e e' : MapEntry} (he : ERel β e e') : MRel β (es.set i e) (es'.set i e') := by
  refine ⟨by simp [h.1], fun k a b ha hb => ?_⟩
  rw [List.getElem?_set] at ha hb
  by_cases hk : i = k
  · rw [if_pos hk] at ha hb
    split at ha
    · rw [if_pos (by rw [← h.1]; assumption)] at hb
      cases ha; cases hb; exact he
    · cases ha
  · rw [if_neg hk] at ha hb
    exact h.2 k a b ha hb
theorem MRel.snoc {es es' : List MapEntry} (h : MRel β es es') {e e' : MapEntry} (he : ERel β e e') : MRel β (es ++ [e]) (es' ++ [e']) := by
  refine ⟨by simp [h.1], fun k a b ha hb => ?_⟩
  by_cases hk : k < es.length
  · rw [List.getElem?_append_left hk] at ha
    rw [List.getElem?_append_left (by rw [← h.1]; exact hk)] at hb
    exact h.2 k a b ha hb
  · rw [List.getElem?_append_right (by omega)] at ha
    rw [List.getElem?_append_right (by rw [← h.1]; omega), ← h.1] at hb
    cases hq : k - es.length with
    | zero => rw [hq] at ha hb; simp at ha hb; subst ha; subst hb; exact he
    | succ q => rw [hq] at ha; simp at ha

/-! lookup -/
noncomputable def lookupV (E : Env) (sq : List (Nat × List IntKind)) (A : AW) (t : TypeId) (x k : Value) (ck : Bool) : Option Value :=
  match E.ti.get none t with
  | some ⟨.map kt et, _, _, _, _⟩ =>
    match (match x with | .map none => some [] | .map (some B) => (match mapAt A B with | some (es, _) => some es | none => none) | _ => none) with
    | none => none
    | some es => bs (keyOkB E sq kt k) (match findE E sq kt k es 0 with
      | none => none
      | some (some (_, v)) => some (bs ck (.tuple ⟨[v, .bool true]⟩) v)
      | some none => match zeroOf E et with
        | some v => some (bs ck (.tuple ⟨[v, .bool false]⟩) v)
        | none => none) none
  | _ => none
include ok sok inv in
theorem lookup_ok {t : TypeId} {x x' k k' v : Value} {ck : Bool} (h : lookupV E sq A t x k ck = some v) (hx : VRel β x x') (hk : VRel β k k') : ∃ v', (Instr.lookup t x' k' ck).run P w = .ok v' w ∧ VRel β v v' := by
  unfold lookupV at h
  split at h
  · rename_i kt et _ _ _ _ hr
    have hu := (ok.ti t _ hr).1
    split at h
    · cases h
    · rename_i es hes
      replace h := bs_some h
      rcases h with ⟨hkb, h⟩ | ⟨_, h⟩
      · have hes' : ∃ es', MRel β es es' ∧ ((x' = .map none ∧ es' = []) ∨ ∃ r c0, x' = .map (some r) ∧ w.heap[r]? = some (.map ⟨es'⟩ c0)) := by
          split at hes
          · cases hes; cases hx; exact ⟨[], ⟨rfl, fun i e e' h => by simp at h⟩, .inl ⟨rfl, rfl⟩⟩
          · rename_i B
            cases hx with
            | map _ l hl =>
              split at hes
              · rename_i es0 ck0 hm
                cases hes
                obtain ⟨es', h1, h2⟩ := map_rel inv hm hl
                exact ⟨es', h2, .inr ⟨l.b, ck0, rfl, h1⟩⟩
              · cases hes
          · cases hes
        obtain ⟨es', hm, hx'⟩ := hes'
        clear hes hx
        have fin : ∀ r, findE E sq kt k es 0 = some r → _ := fun r hfr => find_ok ok sok hkb hk hfr hm w
        split at h
        · cases h
        · rename_i j0 v0 hf
          cases h
          obtain ⟨⟨r', f1, f2⟩, f3, -⟩ := fin _ hf
          rcases f2 with ⟨e, _⟩ | ⟨j1, v1, v1', e1, e2, hv⟩
          · cases e
          · cases e1
            subst e2
            cases ck with
            | true => exact ⟨.tuple #[v1', .bool true], by rcases hx' with ⟨e1, e2⟩ | ⟨r, c0, e1, hh⟩ <;> first | (subst e1; subst e2; simp [Instr.lookup, run_underlying hu, f3, f1]; done) | (subst e1; simp [Instr.lookup, run_underlying hu, f3, f1, getObj, Sem.run, hh]), VRel.tuple_of ((LRel.nil β).cons (.bool true) |>.cons hv)⟩
            | false => exact ⟨v1', by rcases hx' with ⟨e1, e2⟩ | ⟨r, c0, e1, hh⟩ <;> first | (subst e1; subst e2; simp [Instr.lookup, run_underlying hu, f3, f1]; done) | (subst e1; simp [Instr.lookup, run_underlying hu, f3, f1, getObj, Sem.run, hh]), hv⟩
        · rename_i hf
          split at h
          · rename_i z hz
            cases h
            obtain ⟨z', hz1, hz2⟩ := zero_ok (P := P) ok hz w
            obtain ⟨⟨r', f1, f2⟩, f3, -⟩ := fin _ hf
            rcases f2 with ⟨_, e⟩ | ⟨j1, v1, v1', e1, _⟩
            · subst e
              cases ck with
              | true => exact ⟨.tuple #[z', .bool false], by rcases hx' with ⟨e1, e2⟩ | ⟨r, c0, e1, hh⟩ <;> first | (subst e1; subst e2; simp [Instr.lookup, run_underlying hu, f3, f1, hz1]; done) | (subst e1; simp [Instr.lookup, run_underlying hu, f3, f1, hz1, getObj, Sem.run, hh]), VRel.tuple_of ((LRel.nil β).cons (.bool false) |>.cons (hz2 β))⟩
              | false => exact ⟨z', by rcases hx' with ⟨e1, e2⟩ | ⟨r, c0, e1, hh⟩ <;> first | (subst e1; subst e2; simp [Instr.lookup, run_underlying hu, f3, f1, hz1]; done) | (subst e1; simp [Instr.lookup, run_underlying hu, f3, f1, hz1, getObj, Sem.run, hh]), hz2 β⟩
            · cases e1
          · cases h
      · cases h
  · cases h
end
end Go.Ex
namespace Go.Ex
open Go.RowKit
section
variable {P : Program} {E : Env} (ok : E.Ok P) {sq : List (Nat × List IntKind)} (sok : E.Seq P sq) {w0 w : World} {β : Ren} {A : AW} (inv : Inv w0 E.G β A w)

theorem findE_at {kt : TypeId} {k : Value} : ∀ (es : List MapEntry) (i j : Nat) (v : Value), findE E sq kt k es i = some (some (j, v)) → i ≤ j ∧ ∃ e, es[j - i]? = some e ∧ keyEq E sq kt k e.key = some true ∧ e.val = v
  | [], i, j, v, h => by cases h
  | e :: es, i, j, v, h => by
    have h' : (match keyEq E sq kt k e.key with
      | none => none
      | some true => some (some (i, e.val))
      | some false => findE E sq kt k es (i + 1)) = some (some (j, v)) := h
    clear h
    split at h'
    · cases h'
    · rename_i hq
      cases h'
      exact ⟨Nat.le_refl _, e, by simp, hq, rfl⟩
    · obtain ⟨h1, e2, h2, h3⟩ := findE_at es (i + 1) j v h'
      refine ⟨by omega, e2, ?_, h3⟩
      rw [show j - i = (j - (i + 1)) + 1 by omega, List.getElem?_cons_succ]
      exact h2
theorem arr_modify {es : List MapEntry} {j : Nat} {e : MapEntry} (h : es[j]? = some e) (f : MapEntry → MapEntry) : (⟨es⟩ : Array MapEntry).modify j f = ⟨es.set j (f e)⟩ := by
  apply Array.ext_getElem?
  intro i
  rw [Array.getElem?_modify]
  have hlt := (List.getElem?_eq_some_iff.1 h).1
  by_cases hi : j = i
  · subst hi
    have h2 : (⟨es⟩ : Array MapEntry)[j]? = some e := by simpa using h
    have h3 : (⟨es.set j (f e)⟩ : Array MapEntry)[j]? = some (f e) := by simp [hlt]
    rw [h2, h3]
    simp
  · rw [if_neg hi]
    have h3 : (⟨es.set j (f e)⟩ : Array MapEntry)[i]? = es[i]? := by simp [List.getElem?_set_ne hi]
    rw [h3]
    simp
theorem MRel.get {es es' : List MapEntry} (h : MRel β es es') {i : Nat} {e : MapEntry} (he : es[i]? = some e) : ∃ e', es'[i]? = some e' ∧ ERel β e e' := by
  have hi : i < es'.length := h.1 ▸ (List.getElem?_eq_some_iff.1 he).1
  exact ⟨es'[i], by simp [hi], h.2 i e _ he (by simp [hi])⟩

noncomputable def updV (E : Env) (sq : List (Nat × List IntKind)) (A : AW) (t : TypeId) (m k v : Value) : Option AW :=
  match E.ti.get none t, m with
  | some ⟨.map kt _, _, _, _, _⟩, .map (some B) => match mapAt A B with
    | some (es, ck) => bs (Nat.ble E.G.n B && keyOkB E sq kt k) (match findE E sq kt k es 0 with
      | none => none
      | some none => some (mapPut A B (lapp es [⟨k, v, ck⟩]) (Nat.add ck 1))
      | some (some (i, _)) => match nth es i with
        | some e => some (mapPut A B (lset es i ⟨k, v, e.born⟩) ck)
        | none => none) none
    | none => none
  | _, _ => none
theorem updV_next {t : TypeId} {m k v : Value} {A' : AW} (h : updV E sq A t m k v = some A') : A.next ≤ A'.next := by
  unfold updV at h
  split at h
  · split at h
    · replace h := bs_some h
      rcases h with ⟨_, h⟩ | ⟨_, h⟩
      · split at h
        · cases h
        · cases h; rw [mapPut_next]; exact Nat.le_refl _
        · split at h
          · cases h; rw [mapPut_next]; exact Nat.le_refl _
          · cases h
      · cases h
    · cases h
  · cases h
include ok sok inv in
theorem upd_ok {t : TypeId} {m m' k k' v v' : Value} {A' : AW} (h : updV E sq A t m k v = some A') (hm : VRel β m m') (hk : VRel β k k') (hv : VRel β v v') : ∃ w', (Instr.mapUpdate t m' k' v').run P w = .ok () w' ∧ Inv w0 E.G β A' w' := by
  unfold updV at h
  split at h
  · rename_i kt et _ _ _ _ B hr
    have hu := (ok.ti t _ hr).1
    split at h
    · rename_i es ck hat
      replace h := bs_some h
      rcases h with ⟨hb, h⟩ | ⟨_, h⟩
      · rw [Bool.and_eq_true] at hb
        have hG := Nat.le_of_ble_eq_true hb.1
        cases hm with
        | map _ l hl =>
          obtain ⟨es', hheap, hmr⟩ := map_rel inv hat hl
          have fin : ∀ r, findE E sq kt k es 0 = some r → _ := fun r hfr => find_ok ok sok hb.2 hk hfr hmr w
          split at h
          · cases h
          · rename_i hf
            cases h
            obtain ⟨⟨r', f1, f2⟩, f3, f4, _⟩ := fin _ hf
            rcases f2 with ⟨_, e⟩ | ⟨_, _, _, e1, _⟩
            · subst e
              have hm2 : MRel β (es ++ [⟨k, v, ck⟩]) (es' ++ [⟨k', v', ck⟩]) := hmr.snoc ⟨rfl, hk, hv⟩
              obtain ⟨hrun, hinv⟩ := map_put (P := P) (ck2 := ck + 1) inv hat hG hl hm2
              rw [lapp_eq]
              refine ⟨_, ?_, hinv⟩
              have hgo : (getObj l.b).run P w = .ok (.map ⟨es'⟩ ck) w := by simp [getObj, Sem.run, hheap]
              have hpush : (⟨es'⟩ : Array MapEntry).push ⟨k', v', ck⟩ = ⟨es' ++ [⟨k', v', ck⟩]⟩ := by apply Array.ext'; simp
              simp only [Instr.mapUpdate, Sem.run_bind, run_underlying hu, hgo, f3, f1, Result.andThen_ok]
              rw [hpush]
              exact hrun
            · cases e1
          · rename_i j0 v0 hf
            split at h
            · rename_i e0 he0
              rw [nth_eq] at he0
              cases h
              obtain ⟨⟨r', f1, f2⟩, f3, f4, f5, f6⟩ := fin _ hf
              rcases f2 with ⟨e, _⟩ | ⟨j1, v1, v1', e1, e2, hv1⟩
              · cases e
              · cases e1
                subst e2
                obtain ⟨_, e9, h9, h10, _⟩ := findE_at (E := E) (sq := sq) es 0 j0 v0 hf
                rw [Nat.sub_zero, he0] at h9
                cases h9
                obtain ⟨e', he', hb', hk', hv'⟩ := hmr.get he0
                have hkey : e'.key = k := f6 _ _ h10 hk'
                have hm2 : MRel β (es.set j0 ⟨k, v, e0.born⟩) (es'.set j0 ⟨k', v', e'.born⟩) := hmr.set j0 ⟨hb', hk, hv⟩
                obtain ⟨hrun, hinv⟩ := map_put (P := P) (ck2 := ck) inv hat hG hl hm2
                rw [lset_eq]
                refine ⟨_, ?_, hinv⟩
                have hgo : (getObj l.b).run P w = .ok (.map ⟨es'⟩ ck) w := by simp [getObj, Sem.run, hheap]
                have hmod := arr_modify he' (fun e => { e with key := k', val := v' })
                have hkt : (Instr.keyThatStays ((((⟨es'⟩ : Array MapEntry)[j0]?).map (·.key)).getD k') k').run P w = .ok k' w := by
                  have : (((⟨es'⟩ : Array MapEntry)[j0]?).map (·.key)).getD k' = k := by simp [he', hkey]
                  rw [this, f4]
                  simp [Instr.keyThatStays, f5]
                simp only [Instr.mapUpdate, Sem.run_bind, run_underlying hu, hgo, f3, f1, Result.andThen_ok, hkt]
                rw [hmod]
                exact hrun
            · cases h
      · cases h
    · cases h
  · cases h

noncomputable def entryV (E : Env) (sq : List (Nat × List IntKind)) (A : AW) (t : TypeId) (m k : Value) : Option (Value × AW) :=
  match E.ti.get none t, m with
  | some ⟨.map kt et, _, _, _, _⟩, .map (some B) => match mapAt A B with
    | some (es, ck) => bs (Nat.ble E.G.n B && keyOkB E sq kt k) (match findE E sq kt k es 0 with
      | none => none
      | some none => (match zeroOf E et with
        | some z => some (.tuple ⟨[z, .int .i64 (.ofNat ck)]⟩, mapPut A B (lapp es [⟨k, z, ck⟩]) (Nat.add ck 1))
        | none => none)
      | some (some (i, v)) => match nth es i with
        | some e => some (.tuple ⟨[v, .int .i64 (.ofNat e.born)]⟩, mapPut A B (lset es i ⟨k, e.val, e.born⟩) ck)
        | none => none) none
    | none => none
  | _, _ => none
theorem entryV_next {t : TypeId} {m k v : Value} {A' : AW} (h : entryV E sq A t m k = some (v, A')) : A.next ≤ A'.next := by
  unfold entryV at h
  split at h
  · split at h
    · replace h := bs_some h
      rcases h with ⟨_, h⟩ | ⟨_, h⟩
      · split at h
        · cases h
        · split at h
          · cases h; rw [mapPut_next]; exact Nat.le_refl _
          · cases h
        · split at h
          · cases h; rw [mapPut_next]; exact Nat.le_refl _
          · cases h
      · cases h
    · cases h
  · cases h
include ok sok inv in
theorem entry_ok {t : TypeId} {m m' k k' v : Value} {A' : AW} (h : entryV E sq A t m k = some (v, A')) (hm : VRel β m m') (hk : VRel β k k') : Does w0 E.G β A ((Instr.mapEntry t m' k').run P w) v A' := by
  unfold entryV at h
  split at h
  · rename_i kt et _ _ _ _ B hr
    have hu := (ok.ti t _ hr).1
    split at h
    · rename_i es ck hat
      replace h := bs_some h
      rcases h with ⟨hb, h⟩ | ⟨_, h⟩
      · rw [Bool.and_eq_true] at hb
        have hG := Nat.le_of_ble_eq_true hb.1
        cases hm with
        | map _ l hl =>
          obtain ⟨es', hheap, hmr⟩ := map_rel inv hat hl
          have fin : ∀ r, findE E sq kt k es 0 = some r → _ := fun r hfr => find_ok ok sok hb.2 hk hfr hmr w
          have hgo : (getObj l.b).run P w = .ok (.map ⟨es'⟩ ck) w := by simp [getObj, Sem.run, hheap]
          split at h
          · cases h
          · rename_i hf
            split at h
            · rename_i z hz
              cases h
              obtain ⟨⟨r', f1, f2⟩, f3, f4, _⟩ := fin _ hf
              obtain ⟨z', hz1, hz2⟩ := zero_ok (P := P) ok hz w
              rcases f2 with ⟨_, e⟩ | ⟨_, _, _, e1, _⟩
              · subst e
                have hm2 : MRel β (es ++ [⟨k, z, ck⟩]) (es' ++ [⟨k', z', ck⟩]) := hmr.snoc ⟨rfl, hk, hz2 β⟩
                obtain ⟨hrun, hinv⟩ := map_put (P := P) (ck2 := ck + 1) inv hat hG hl hm2
                rw [lapp_eq]
                refine ⟨β, .tuple #[z', goInt ck], _, ?_, VRel.tuple_of ((LRel.nil β).cons (.int .i64 ck) |>.cons (hz2 β)), hinv, Ren.grow_refl _ _⟩
                have hpush : (⟨es'⟩ : Array MapEntry).push ⟨k', z', ck⟩ = ⟨es' ++ [⟨k', z', ck⟩]⟩ := by apply Array.ext'; simp
                simp only [Instr.mapEntry, Sem.run_bind, run_underlying hu, hgo, f3, f1, Result.andThen_ok, hz1]
                rw [hpush, hrun]
                rfl
              · cases e1
            · cases h
          · rename_i j0 v0 hf
            split at h
            · rename_i e0 he0
              rw [nth_eq] at he0
              cases h
              obtain ⟨⟨r', f1, f2⟩, f3, f4, f5, f6⟩ := fin _ hf
              rcases f2 with ⟨e, _⟩ | ⟨j1, v1, v1', e1, e2, hv1⟩
              · cases e
              · cases e1
                subst e2
                obtain ⟨_, e9, h9, h10, _⟩ := findE_at (E := E) (sq := sq) es 0 j0 v0 hf
                rw [Nat.sub_zero, he0] at h9
                cases h9
                obtain ⟨e', he', hb', hk', hv'⟩ := hmr.get he0
                have hkey : e'.key = k := f6 _ _ h10 hk'
                have hm2 : MRel β (es.set j0 ⟨k, e0.val, e0.born⟩) (es'.set j0 ⟨k', e'.val, e'.born⟩) := hmr.set j0 ⟨hb', hk, hv'⟩
                obtain ⟨hrun, hinv⟩ := map_put (P := P) (ck2 := ck) inv hat hG hl hm2
                rw [lset_eq]
                refine ⟨β, .tuple #[v1', goInt e0.born], _, ?_, VRel.tuple_of ((LRel.nil β).cons (.int .i64 e0.born) |>.cons hv1), hinv, Ren.grow_refl _ _⟩
                have hmod := arr_modify he' (fun e => { e with key := k' })
                have hkt : (Instr.keyThatStays ((((⟨es'⟩ : Array MapEntry)[j0]?).map (·.key)).getD k') k').run P w = .ok k' w := by
                  have : (((⟨es'⟩ : Array MapEntry)[j0]?).map (·.key)).getD k' = k := by simp [he', hkey]
                  rw [this, f4]
                  simp [Instr.keyThatStays, f5]
                have hbn : (((⟨es'⟩ : Array MapEntry)[j0]?).map (fun x => (x.born : Int))).getD 0 = (e0.born : Int) := by simp [he', hb']
                simp only [Instr.mapEntry, Sem.run_bind, run_underlying hu, hgo, f3, f1, Result.andThen_ok, hkt, hbn]
                rw [hmod, hrun]
                rfl
            · cases h
      · cases h
    · cases h
  · cases h

noncomputable def bornAt (b : Nat) (es : List MapEntry) : Nat → Option Nat := List.rec (motive := fun _ => Nat → Option Nat) (fun _ => none) (fun e _ ih i => bs (Nat.beq e.born b) (some i) (ih (Nat.add i 1))) es
noncomputable def estoreV (E : Env) (A : AW) (m s v : Value) : Option AW :=
  match m, s with
  | .map (some B), .int _ (.ofNat b) => match mapAt A B with
    | some (es, ck) => bs (Nat.ble E.G.n B) (match bornAt b es 0 with
      | some i => (match nth es i with | some e => some (mapPut A B (lset es i ⟨e.key, v, e.born⟩) ck) | none => none)
      | none => none) none
    | none => none
  | _, _ => none
theorem estoreV_next {m k v : Value} {A' : AW} (h : estoreV E A m k v = some A') : A.next ≤ A'.next := by
  unfold estoreV at h
  split at h
  · split at h
    · replace h := bs_some h
      rcases h with ⟨_, h⟩ | ⟨_, h⟩
      · split at h
        · split at h
          · cases h; rw [mapPut_next]; exact Nat.le_refl _
          · cases h
        · cases h
      · cases h
    · cases h
  · cases h
theorem born_ok {b : Nat} : ∀ (es es' : List MapEntry) (i j : Nat), bornAt b es i = some j → MRel β es es' → i ≤ j ∧ es'.findIdx? (fun e => (e.born : Int) == (b : Int)) = some (j - i)
  | [], _, _, _, h, _ => by cases h
  | e :: es, es', i, j, h, hm => by
    obtain ⟨e', es'', rfl, ⟨hb, _, _⟩, hm'⟩ := hm.inv_cons
    have h' : bs (Nat.beq e.born b) (some i) (bornAt b es (i + 1)) = some j := h
    clear h
    rw [nbeq] at h'
    by_cases hq : e.born = b
    · rw [decide_eq_true hq, bs_true] at h'
      cases h'
      refine ⟨Nat.le_refl _, ?_⟩
      rw [List.findIdx?_cons]
      simp [← hb, hq]
    · rw [decide_eq_false hq, bs_false] at h'
      obtain ⟨h1, h2⟩ := born_ok es es'' (i + 1) j h' hm'
      refine ⟨by omega, ?_⟩
      rw [List.findIdx?_cons, h2]
      have : ¬ ((e'.born : Int) = (b : Int)) := by rw [← hb]; omega
      simp [this]
      omega
include inv in
theorem estore_ok {t : TypeId} {m m' s s' v v' : Value} {A' : AW} (h : estoreV E A m s v = some A') (hm : VRel β m m') (hs : VRel β s s') (hv : VRel β v v') : ∃ w', (Instr.entryStore t m' s' v').run P w = .ok () w' ∧ Inv w0 E.G β A' w' := by
  unfold estoreV at h
  split at h
  · rename_i B k0 b
    split at h
    · rename_i es ck hat
      replace h := bs_some h
      rcases h with ⟨hG, h⟩ | ⟨_, h⟩
      · have hG' := Nat.le_of_ble_eq_true hG
        cases hm with
        | map _ l hl =>
          cases hs
          obtain ⟨es', hheap, hmr⟩ := map_rel inv hat hl
          split at h
          · rename_i i hi
            split at h
            · rename_i e he
              rw [nth_eq] at he
              cases h
              obtain ⟨_, hidx⟩ := born_ok es es' 0 i hi hmr
              rw [Nat.sub_zero] at hidx
              obtain ⟨e', he', hb', hk', hv'⟩ := hmr.get he
              have hm2 : MRel β (es.set i ⟨e.key, v, e.born⟩) (es'.set i ⟨e'.key, v', e'.born⟩) := hmr.set i ⟨hb', hk', hv⟩
              obtain ⟨hrun, hinv⟩ := map_put (P := P) (ck2 := ck) inv hat hG' hl hm2
              rw [lset_eq]
              refine ⟨_, ?_, hinv⟩
              have hgo : (getObj l.b).run P w = .ok (.map ⟨es'⟩ ck) w := by simp [getObj, Sem.run, hheap]
              have hmod := arr_modify he' (fun e => { e with val := v' })
              have hidx2 : (⟨es'⟩ : Array MapEntry).findIdx? (fun e => (e.born : Int) == (Int.ofNat b)) = some i := by simpa using hidx
              simp only [Instr.entryStore, Sem.run_bind, hgo, Result.andThen_ok, asInt, asIntOf, Sem.run_pure, hidx2]
              rw [hmod]
              exact hrun
            · cases h
          · cases h
      · cases h
    · cases h
  · cases h
end
end Go.Ex
