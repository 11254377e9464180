/- A verified evaluator for closed calls, part 19: regions that draw their order: the plan and the phases (definitions). -/
import Derived.Test.YtkpnmedaonmlaaaGreatDoorEv18
namespace Go.Ev
open Go.RowKit

structure Ent where
  i : Nat
  o : Oper
  g : Gt
  v : Value
  wanted : Bool
  nb : Option (Nat × Blk)

noncomputable def stab (E : Env) (sq : List (Nat × List IntKind)) (A : AW) (e : Ent) : Bool :=
  bs e.wanted (match e.nb with
    | some (N, blk) => (match A.get N with | none => true | some b => blkEq b blk)
    | none => bs (pureOp e.o.op) true (match opD e.o.op E sq A e.g with | .val v _ => veq v e.v | _ => false)) true
noncomputable def phase1 {ρ : Type} (E : Env) (sq : List (Nat × List IntKind)) (call : Tgt → List Value → AW → Out Value) (ops : List Oper) (ih : List Ent → Gt → AW → List Tr → Option ρ) (i : Nat) (pend : List Ent) (g : Gt) (A : AW) (tr : List Tr) : Option ρ :=
  match nth ops i with
  | none => none
  | some o => match wantA ops g o with
    | none => none
    | some wd =>
      bs (Nat.ble 2 (kindOf E o.op))
        (bs (lall (stab E sq A) pend)
          (bs wd
            (match opD o.op E sq A g with
            | .val v A' => forceV v (fun v => forceA A' (fun A' => ih (lfilter (fun e => not (bit (bfs ops i) e.i)) pend) (updO g o.dst v) A' (⟨i, o.dst, v⟩ :: tr)))
            | .call f args => (match call f args A with
              | some [(v, A')] => ih (lfilter (fun e => not (bit (bfs ops i) e.i)) pend) (updO g o.dst v) A' (⟨i, o.dst, v⟩ :: tr)
              | _ => none)
            | .fail => none
            | .nd _ => none)
            (ih (lfilter (fun e => not (bit (bfs ops i) e.i)) pend) (updO g o.dst undef) A (⟨i, o.dst, undef⟩ :: tr))) none)
        (bs wd
          (match opD o.op E sq A g with
          | .val v A' => forceV v (fun v => forceA A' (fun A' =>
              bs (Nat.beq (kindOf E o.op) 1)
                (match A'.get A.next with
                | some b => ih (⟨i, o, g, v, true, some (A.next, b)⟩ :: pend) (updO g o.dst v) A' (⟨i, o.dst, v⟩ :: tr)
                | none => none)
                (ih (⟨i, o, g, v, true, none⟩ :: pend) (updO g o.dst v) A' (⟨i, o.dst, v⟩ :: tr))))
          | _ => none)
          (ih (⟨i, o, g, undef, false, none⟩ :: pend) (updO g o.dst undef) A (⟨i, o.dst, undef⟩ :: tr)))
noncomputable def phaseA {ρ : Type} (E : Env) (sq : List (Nat × List IntKind)) (call : Tgt → List Value → AW → Out Value) (ops : List Oper) (fin : List Ent → Gt → AW → List Tr → Option ρ) (L : List Nat) : List Ent → Gt → AW → List Tr → Option ρ :=
  List.rec (motive := fun _ => List Ent → Gt → AW → List Tr → Option ρ) fin (fun i _ ih => phase1 E sq call ops ih i) L
/-- every operation is in the plan -/
noncomputable def finAll (E : Env) (sq : List (Nat × List IntKind)) (pend : List Ent) (_ : Gt) (A : AW) (tr : List Tr) : Option (List Tr × AW) := bs (lall (stab E sq A) pend) (some (tr, A)) none

/-! the plan -/
noncomputable def readyB (mask : Nat) (o : Oper) : Bool := lall (fun e => bs (Region.binds .any e) (bit mask e.on) true) o.after.toList
noncomputable def chk1 (E : Env) (ops : List Oper) (ih : Nat → Option Nat → Bool) (i mask : Nat) (last : Option Nat) : Bool :=
  match nth ops i with
  | none => false
  | some o => not (bit mask i) && readyB mask o && (match last with | none => true | some e => bit (bfs ops i) e) && ih (Nat.lor mask (Nat.pow 2 i)) (bs (Nat.ble 2 (kindOf E o.op)) (some i) last)
noncomputable def chkL (E : Env) (ops : List Oper) (L : List Nat) : Nat → Option Nat → Bool :=
  List.rec (motive := fun _ => Nat → Option Nat → Bool) (fun _ _ => true) (fun i _ ih => chk1 E ops ih i) L
noncomputable def lallI {α : Type} (f : Nat → α → Bool) (l : List α) : Nat → Bool :=
  List.rec (motive := fun _ => Nat → Bool) (fun _ => true) (fun a _ ih i => bs (f i a) (ih (Nat.add i 1)) false) l
theorem lallI_eq {α : Type} (f : Nat → α → Bool) : ∀ (l : List α) (k : Nat), lallI f l k = true → ∀ i a, l[i]? = some a → f (k + i) a = true
  | [], _, _, i, a, h => by simp at h
  | b :: l, k, h, i, a, hi => by
    have h' : bs (f k b) (lallI f l (k + 1)) false = true := h
    cases hb : f k b with
    | false => rw [hb] at h'; cases h'
    | true =>
      rw [hb, bs_true] at h'
      cases i with
      | zero => simp at hi; subst hi; exact hb
      | succ i =>
        have := lallI_eq f l (k + 1) h' i a (by simpa using hi)
        rw [show k + (i + 1) = k + 1 + i by omega]
        exact this
noncomputable def slotB (ops : List Oper) (i : Nat) (oi : Oper) (j : Nat) (oj : Oper) : Bool :=
  match oj.dst with
  | none => true
  | some t => bs ((oi.looksAt ⟨ops⟩).contains t) (Nat.beq j i || bit (bfs ops i) j || bit (bfs ops j) i) true && (match oi.dst with | some t' => bs (Nat.beq t' t) (Nat.beq i j) true | none => true)
noncomputable def lfind {α : Type} (f : α → Bool) (l : List α) : Option α := List.rec (motive := fun _ => Option α) none (fun a _ ih => bs (f a) (some a) ih) l
noncomputable def planB (E : Env) (n : Nat) (ops : List Oper) (L : List Nat) : Bool :=
  chkL E ops L 0 none && lallI (fun i _ => lin i L) ops 0 && lallI (fun i oi => lallI (fun j oj => slotB ops i oi j oj) ops 0) ops 0 && lall (fun o => match o.dst with | some d => Nat.blt d n | none => true) ops && Region.noSelect ⟨ops⟩
theorem slots_ok {ops : List Oper} (h : lallI (fun i oi => lallI (fun j oj => slotB ops i oi j oj) ops 0) ops 0 = true) : Slots ops := by
  have key : ∀ (i : Nat) (oi : Oper) (j : Nat) (oj : Oper), ops[i]? = some oi → ops[j]? = some oj → slotB ops i oi j oj = true := fun i oi j oj hi hj => by
    have h1 := lallI_eq _ ops 0 h i oi hi
    rw [Nat.zero_add] at h1
    have h2 := lallI_eq _ ops 0 h1 j oj hj
    rwa [Nat.zero_add] at h2
  refine ⟨fun i oi j oj t hi hj ht hd => ?_, fun i oi j oj t hi hj hd1 hd2 => ?_⟩
  · have hb := key i oi j oj hi hj
    unfold slotB at hb
    rw [hd] at hb
    simp only [Bool.and_eq_true] at hb
    have hc : (oi.looksAt ⟨ops⟩).contains t = true := by simpa using ht
    rw [hc, bs_true] at hb
    simp only [Bool.or_eq_true] at hb
    rcases hb.1 with (e | e) | e
    · exact .inl (Nat.eq_of_beq_eq_true e)
    · exact .inr (.inl e)
    · exact .inr (.inr e)
  · have hb := key i oi j oj hi hj
    unfold slotB at hb
    rw [hd2] at hb
    simp only [Bool.and_eq_true, hd1] at hb
    have : Nat.beq t t = true := by rw [nbeq]; simp
    rw [this, bs_true] at hb
    exact Nat.eq_of_beq_eq_true hb.2

noncomputable def pickR (E : Env) (ops : List Oper) (mask : Nat) (calm : Bool) (rest : List Nat) : Option Nat :=
  lfind (fun i => match nth ops i with | some o => readyB mask o && (not calm || Nat.blt (kindOf E o.op) 2) | none => false) rest
noncomputable def orderF (E : Env) (ops : List Oper) (fuel : Nat) : Nat → List Nat → List Nat :=
  Nat.rec (motive := fun _ => Nat → List Nat → List Nat) (fun _ _ => [])
    (fun _ ih mask rest => match pickR E ops mask true rest with
      | some i => i :: ih (Nat.lor mask (Nat.pow 2 i)) (lfilter (fun j => not (Nat.beq j i)) rest)
      | none => match pickR E ops mask false rest with
        | some i => i :: ih (Nat.lor mask (Nat.pow 2 i)) (lfilter (fun j => not (Nat.beq j i)) rest)
        | none => []) fuel
noncomputable def orderOf (E : Env) (ops : List Oper) : List Nat := orderF E ops (llen ops) 0 (lgen (fun i => i) (llen ops) [])

noncomputable def treeOf (n : Nat) (fr : Fr) (tr : List Tr) : Option Fr :=
  List.rec (motive := fun _ => Option Fr) (some fr) (fun x _ ih => match ih with
    | none => none
    | some fr' => match x.dst with
      | none => some fr'
      | some d => bs (Nat.blt d n) (some (fr'.set d x.v)) none) tr
theorem treeOf_get {n : Nat} {fr : Fr} : ∀ (tr : List Tr) (fr' : Fr), treeOf n fr tr = some fr' → ∀ t, fr'.get J t = gv (fun _ => True) tr (fr.get J) t ∨ fr'.get J t = J
  | [], fr', h, t => by cases h; exact .inl rfl
  | x :: tr, fr', h, t => by
    have h' : (match treeOf n fr tr with
      | none => none
      | some fr' => match x.dst with
        | none => some fr'
        | some d => bs (Nat.blt d n) (some (fr'.set d x.v)) none) = some fr' := h
    clear h
    rw [gv_all_cons, updO_get]
    split at h'
    · cases h'
    · rename_i f1 hf1
      have ih := treeOf_get tr f1 hf1 t
      split at h'
      · rename_i hd
        cases h'
        rw [if_neg (by rw [hd]; simp)]
        exact ih
      · rename_i d hd
        replace h' := bs_some h'
        rcases h' with ⟨_, h'⟩ | ⟨_, h'⟩
        · cases h'
          by_cases hdt : d = t
          · subst hdt
            rw [if_pos hd]
            rcases T.get_set_or J f1 d x.v with e | e
            · exact .inl e
            · exact .inr e.1
          · rw [if_neg (by rw [hd]; intro e; exact hdt (Option.some.inj e)), T.get_set_ne J f1 d t x.v hdt]
            exact ih
        · cases h'

/-! the same with frames that are trees, for the kernel -/
noncomputable def T.has {α : Type} (t : T α) : Nat → Bool :=
  T.rec (motive := fun _ => Nat → Bool) (fun _ => false)
    (fun _ _ _ gl gr n => Nat.rec (motive := fun _ => Bool) true (fun p _ => Nat.rec (motive := fun _ => Bool) (gl (Nat.div p 2)) (fun _ _ => gr (Nat.div p 2)) (Nat.mod p 2)) n) t
theorem T.has_node {α : Type} (l r : T α) (v : α) (n : Nat) : T.has (.node l v r) n = if n = 0 then true else if n % 2 = 1 then l.has (n / 2) else r.has (n / 2 - 1) := by
  cases n with
  | zero => rfl
  | succ p =>
    show Nat.rec (motive := fun _ => Bool) (l.has (p / 2)) (fun _ _ => r.has (p / 2)) (Nat.mod p 2) = _
    rw [par, if_neg (show ¬ p + 1 = 0 by omega)]
    by_cases h : p % 2 = 0
    · rw [if_pos h, if_pos (by omega), show (p + 1) / 2 = p / 2 by omega]
    · rw [if_neg h, if_neg (by omega), show (p + 1) / 2 - 1 = p / 2 by omega]
theorem T.get_set_has {α : Type} (d : α) : ∀ (t : T α) (i : Nat) (x : α), t.has i = true → (t.set i x).get d i = x
  | .nil, _, _, h => by cases h
  | .node l v r, i, x, h => by
    rw [T.has_node] at h
    rw [T.set_node]
    by_cases h0 : i = 0
    · subst h0; rw [if_pos rfl, T.get_node, if_pos rfl]
    · rw [if_neg h0] at h ⊢
      by_cases h1 : i % 2 = 1
      · rw [if_pos h1] at h ⊢
        rw [T.get_node, if_neg h0, if_pos h1]; exact T.get_set_has d l _ x h
      · rw [if_neg h1] at h ⊢
        rw [T.get_node, if_neg h0, if_neg h1]; exact T.get_set_has d r _ x h
noncomputable def putT {ρ : Type} (fr : Fr) (dst : Option Tmp) (v : Value) (k : Fr → Option ρ) : Option ρ :=
  Option.rec (motive := fun _ => Fr → Value → (Fr → Option ρ) → Option ρ) (fun fr _ k => k fr)
    (fun d fr v k => Bool.rec (motive := fun _ => Option ρ) none (fr.setK d v k) (fr.has d)) dst fr v k
theorem putT_ok {ρ : Type} {fr : Fr} {dst : Option Tmp} {v : Value} {k : Fr → Option ρ} {res : ρ} (h : putT fr dst v k = some res) : ∃ fr' : Fr, k fr' = some res ∧ fr'.get J = updO (fr.get J) dst v := by
  cases dst with
  | none => exact ⟨fr, h, rfl⟩
  | some d =>
    have h' : Bool.rec (motive := fun _ => Option ρ) none (fr.setK d v k) (fr.has d) = some res := h
    cases hd : fr.has d with
    | false => rw [hd] at h'; cases h'
    | true =>
      rw [hd] at h'
      have h2 : fr.setK d v k = some res := h'
      rw [T.setK_eq] at h2
      refine ⟨fr.set d v, h2, funext fun t => ?_⟩
      rw [updO_get]
      by_cases ht : d = t
      · subst ht; rw [if_pos rfl]; exact T.get_set_has J fr d v hd
      · rw [if_neg (fun e => ht (Option.some.inj e))]; exact T.get_set_ne J fr d t v ht
noncomputable def phase1T {ρ : Type} (E : Env) (sq : List (Nat × List IntKind)) (call : Tgt → List Value → AW → Out Value) (ops : List Oper) (ih : List Ent → Fr → AW → List Tr → Option ρ) (i : Nat) (pend : List Ent) (fr : Fr) (A : AW) (tr : List Tr) : Option ρ :=
  match nth ops i with
  | none => none
  | some o => match wantA ops (fr.get J) o with
    | none => none
    | some wd =>
      bs (Nat.ble 2 (kindOf E o.op))
        (bs (lall (stab E sq A) pend)
          (bs wd
            (match opD o.op E sq A (fr.get J) with
            | .val v A' => forceV v (fun v => forceA A' (fun A' => putT fr o.dst v (fun fr => ih (lfilter (fun e => not (bit (bfs ops i) e.i)) pend) fr A' (⟨i, o.dst, v⟩ :: tr))))
            | .call f args => (match call f args A with
              | some [(v, A')] => putT fr o.dst v (fun fr => ih (lfilter (fun e => not (bit (bfs ops i) e.i)) pend) fr A' (⟨i, o.dst, v⟩ :: tr))
              | _ => none)
            | .fail => none
            | .nd _ => none)
            (putT fr o.dst undef (fun fr => ih (lfilter (fun e => not (bit (bfs ops i) e.i)) pend) fr A (⟨i, o.dst, undef⟩ :: tr)))) none)
        (bs wd
          (match opD o.op E sq A (fr.get J) with
          | .val v A' => forceV v (fun v => forceA A' (fun A' =>
              bs (Nat.beq (kindOf E o.op) 1)
                (match A'.get A.next with
                | some b => putT fr o.dst v (fun fr2 => ih (⟨i, o, fr.get J, v, true, some (A.next, b)⟩ :: pend) fr2 A' (⟨i, o.dst, v⟩ :: tr))
                | none => none)
                (putT fr o.dst v (fun fr2 => ih (⟨i, o, fr.get J, v, true, none⟩ :: pend) fr2 A' (⟨i, o.dst, v⟩ :: tr)))))
          | _ => none)
          (putT fr o.dst undef (fun fr2 => ih (⟨i, o, fr.get J, undef, false, none⟩ :: pend) fr2 A (⟨i, o.dst, undef⟩ :: tr))))
noncomputable def phaseT {ρ : Type} (E : Env) (sq : List (Nat × List IntKind)) (call : Tgt → List Value → AW → Out Value) (ops : List Oper) (fin : List Ent → Gt → AW → List Tr → Option ρ) (L : List Nat) : List Ent → Fr → AW → List Tr → Option ρ :=
  List.rec (motive := fun _ => List Ent → Fr → AW → List Tr → Option ρ) (fun pend fr A tr => fin pend (fr.get J) A tr) (fun i _ ih => phase1T E sq call ops ih i) L
theorem phaseT_ok {ρ : Type} {E : Env} {sq : List (Nat × List IntKind)} {call : Tgt → List Value → AW → Out Value} {ops : List Oper} {fin : List Ent → Gt → AW → List Tr → Option ρ} {res : ρ} :
    ∀ (L : List Nat) (pend : List Ent) (fr : Fr) (A : AW) (tr : List Tr), phaseT E sq call ops fin L pend fr A tr = some res → phaseA E sq call ops fin L pend (fr.get J) A tr = some res
  | [], pend, fr, A, tr, h => h
  | i :: L, pend, fr, A, tr, h => by
    have h' : phase1T E sq call ops (phaseT E sq call ops fin L) i pend fr A tr = some res := h
    show phase1 E sq call ops (phaseA E sq call ops fin L) i pend (fr.get J) A tr = some res
    clear h
    have put : ∀ (dst : Option Tmp) (v : Value) (p : List Ent) (A' : AW) (t : List Tr), putT fr dst v (fun fr => phaseT E sq call ops fin L p fr A' t) = some res → phaseA E sq call ops fin L p (updO (fr.get J) dst v) A' t = some res := fun dst v p A' t hp => by
      obtain ⟨fr', h1, h2⟩ := putT_ok hp
      rw [← h2]
      exact phaseT_ok L p fr' A' t h1
    unfold phase1T at h'
    unfold phase1
    cases ho : nth ops i with
    | none => rw [ho] at h'; cases h'
    | some o =>
      rw [ho] at h'
      simp only at h' ⊢
      cases hw : wantA ops (fr.get J) o with
      | none => rw [hw] at h'; cases h'
      | some wd =>
        rw [hw] at h'
        simp only at h' ⊢
        cases hk : Nat.ble 2 (kindOf E o.op) with
        | true =>
          rw [hk, bs_true] at h'
          rw [bs_true]
          cases hs : lall (stab E sq A) pend with
          | false => rw [hs, bs_false] at h'; cases h'
          | true =>
            rw [hs, bs_true] at h'
            rw [bs_true]
            cases wd with
            | false => rw [bs_false] at h'; rw [bs_false]; exact put _ _ _ _ _ h'
            | true =>
              rw [bs_true] at h'
              rw [bs_true]
              cases hop : opD o.op E sq A (fr.get J) with
              | fail => rw [hop] at h'; cases h'
              | nd q => rw [hop] at h'; cases h'
              | val v A' =>
                rw [hop] at h'
                simp only [forceV_eq, forceA_eq] at h' ⊢
                exact put _ _ _ _ _ h'
              | call f args =>
                rw [hop] at h'
                simp only at h' ⊢
                split at h'
                · rename_i v A' hc
                  exact put _ _ _ _ _ h'
                · cases h'
        | false =>
          rw [hk, bs_false] at h'
          rw [bs_false]
          cases wd with
          | false => rw [bs_false] at h'; rw [bs_false]; exact put _ _ _ _ _ h'
          | true =>
            rw [bs_true] at h'
            rw [bs_true]
            cases hop : opD o.op E sq A (fr.get J) with
            | fail => rw [hop] at h'; cases h'
            | nd q => rw [hop] at h'; cases h'
            | call f args => rw [hop] at h'; cases h'
            | val v A' =>
              rw [hop] at h'
              simp only [forceV_eq, forceA_eq] at h' ⊢
              cases hb : Nat.beq (kindOf E o.op) 1 with
              | true =>
                rw [hb, bs_true] at h'
                rw [bs_true]
                split at h'
                · rename_i b hg
                  exact put _ _ _ _ _ h'
                · cases h'
              | false =>
                rw [hb, bs_false] at h'
                rw [bs_false]
                exact put _ _ _ _ _ h'
end Go.Ev
