/- A verified evaluator of Go functions on partly symbolic values, part 14 of 17. -/
import Derived.Test.YtcnhmjkmlncbhaaGreatDoorX13
namespace Go.Ex
open Go.RowKit

structure Ent where
  i : Nat
  o : Oper
  g : Gt
  v : Value
  wanted : Bool
  nb : Option (Nat × Blk)
  sy : Option Node

noncomputable def stab (E : Env) (sq : List (Nat × List IntKind)) (A : AW) (e : Ent) : Bool :=
  bs e.wanted (match e.sy with
    | some _ => true
    | none => match e.nb with
      | some (N, blk) => (match A.get N with | none => true | some b => blkEq b blk)
      | none => bs (pureOp e.o.op) true (match opD e.o.op E sq A e.g with | .val v _ => veq v e.v | _ => false)) true
noncomputable def phase1 {ρ : Type} (E : Env) (sq : List (Nat × List IntKind)) (call : Tgt → List Value → AW → Out Value) (ops : List Oper) (ih : List Ent → Gt → AW → List Tr → Option ρ) (i : Nat) (pend : List Ent) (g : Gt) (A : AW) (tr : List Tr) : Option ρ :=
  match nth ops i with
  | none => none
  | some o => match wantA ops g o with
    | none => none
    | some wd =>
      bs (Nat.ble 2 (kindOf E o.op))
        (bs (lall (stab E sq A) pend)
          (bs wd
            (match opT E sq A g o.op with
            | .val v A' => forceV v (fun v => forceA A' (fun A' => ih (lfilter (fun e => not (bit (bfs ops i) e.i)) pend) (updO g o.dst v) A' (⟨i, o.dst, v⟩ :: tr)))
            | .call f args => (match call f args A with
              | some [(v, A')] => ih (lfilter (fun e => not (bit (bfs ops i) e.i)) pend) (updO g o.dst v) A' (⟨i, o.dst, v⟩ :: tr)
              | _ => none)
            | .fail => none
            | .nd _ => none)
            (ih (lfilter (fun e => not (bit (bfs ops i) e.i)) pend) (updO g o.dst undef) A (⟨i, o.dst, undef⟩ :: tr))) none)
        (bs wd
          (match opD o.op E sq A g with
          | .val v A' => forceV v (fun v => forceA A' (fun A' =>
              bs (Nat.beq (kindOf E o.op) 1)
                (match A'.get A.next with
                | some b => ih (⟨i, o, g, v, true, some (A.next, b), none⟩ :: pend) (updO g o.dst v) A' (⟨i, o.dst, v⟩ :: tr)
                | none => none)
                (ih (⟨i, o, g, v, true, none, none⟩ :: pend) (updO g o.dst v) A' (⟨i, o.dst, v⟩ :: tr))))
          | .fail => (match A.tape with
            | [] => none
            | nd :: r => match symV E sq g o.op nd with
              | some v => ih (⟨i, o, g, v, true, none, some nd⟩ :: pend) (updO g o.dst v) (A.pop r) (⟨i, o.dst, v⟩ :: tr)
              | none => none)
          | _ => none)
          (ih (⟨i, o, g, undef, false, none, none⟩ :: pend) (updO g o.dst undef) A (⟨i, o.dst, undef⟩ :: tr)))
noncomputable def phaseA {ρ : Type} (E : Env) (sq : List (Nat × List IntKind)) (call : Tgt → List Value → AW → Out Value) (ops : List Oper) (fin : List Ent → Gt → AW → List Tr → Option ρ) (L : List Nat) : List Ent → Gt → AW → List Tr → Option ρ :=
  List.rec (motive := fun _ => List Ent → Gt → AW → List Tr → Option ρ) fin (fun i _ ih => phase1 E sq call ops ih i) L
/-- every operation is in the plan -/
noncomputable def finAll (E : Env) (sq : List (Nat × List IntKind)) (pend : List Ent) (_ : Gt) (A : AW) (tr : List Tr) : Option (List Tr × AW) := bs (lall (stab E sq A) pend) (some (tr, A)) none

/-! the plan -/
noncomputable def readyB (mask : Nat) (o : Oper) : Bool := lall (fun e => bs (Region.binds .any e) (bit mask e.on) true) o.after.toList
noncomputable def chk1 (E : Env) (ops : List Oper) (ih : Nat → Option Nat → Bool) (i mask : Nat) (last : Option Nat) : Bool :=
  match nth ops i with
  | none => false
  | some o => not (bit mask i) && readyB mask o && (match last with | none => true | some e => bit (bfs ops i) e) && ih (Nat.lor mask (Nat.pow 2 i)) (bs (Nat.ble 2 (kindOf E o.op)) (some i) last)
noncomputable def chkL (E : Env) (ops : List Oper) (L : List Nat) : Nat → Option Nat → Bool :=
  List.rec (motive := fun _ => Nat → Option Nat → Bool) (fun _ _ => true) (fun i _ ih => chk1 E ops ih i) L
noncomputable def lallI {α : Type} (f : Nat → α → Bool) (l : List α) : Nat → Bool :=
  List.rec (motive := fun _ => Nat → Bool) (fun _ => true) (fun a _ ih i => bs (f i a) (ih (Nat.add i 1)) false) l
theorem lallI_eq {α : Type} (f : Nat → α → Bool) : ∀ (l : List α) (k : Nat), lallI f l k = true → ∀ i a, l[i]? = some a → f (k + i) a = true
  | [], _, _, i, a, h => by simp at h
  | b :: l, k, h, i, a, hi => by
    have h' : bs (f k b) (lallI f l (k + 1)) false = true := h
    cases hb : f k b with
    | false => rw [hb] at h'; cases h'
    | true =>
      rw [hb, bs_true] at h'
      cases i with
      | zero => simp at hi; subst hi; exact hb
      | succ i =>
        have := lallI_eq f l (k + 1) h' i a (by simpa using hi)
        rw [show k + (i + 1) = k + 1 + i by omega]
        exact this
noncomputable def slotB (ops : List Oper) (i : Nat) (oi : Oper) (j : Nat) (oj : Oper) : Bool :=
  match oj.dst with
  | none => true
  | some t => bs ((oi.looksAt ⟨ops⟩).contains t) (Nat.beq j i || bit (bfs ops i) j || bit (bfs ops j) i) true && (match oi.dst with | some t' => bs (Nat.beq t' t) (Nat.beq i j) true | none => true)
noncomputable def lfind {α : Type} (f : α → Bool) (l : List α) : Option α := List.rec (motive := fun _ => Option α) none (fun a _ ih => bs (f a) (some a) ih) l
noncomputable def planB (E : Env) (n : Nat) (ops : List Oper) (L : List Nat) : Bool :=
  chkL E ops L 0 none && lallI (fun i _ => lin i L) ops 0 && lallI (fun i oi => lallI (fun j oj => slotB ops i oi j oj) ops 0) ops 0 && lall (fun o => match o.dst with | some d => Nat.blt d n | none => true) ops && Region.noSelect ⟨ops⟩
theorem slots_ok {ops : List Oper} (h : lallI (fun i oi => lallI (fun j oj => slotB ops i oi j oj) ops 0) ops 0 = true) : Slots ops := by
  have key : ∀ (i : Nat) (oi : Oper) (j : Nat) (oj : Oper), ops[i]? = some oi → ops[j]? = some oj → slotB ops i oi j oj = true := fun i oi j oj hi hj => by
    have h1 := lallI_eq _ ops 0 h i oi hi
    rw [Nat.zero_add] at h1
    have h2 := lallI_eq _ ops 0 h1 j oj hj
    rwa [Nat.zero_add] at h2
  refine ⟨fun i oi j oj t hi hj ht hd => ?_, fun i oi j oj t hi hj hd1 hd2 => ?_⟩
  · have hb := key i oi j oj hi hj
    unfold slotB at hb
    rw [hd] at hb
    simp only [Bool.and_eq_true] at hb
    have hc : (oi.looksAt ⟨ops⟩).contains t = true := by simpa using ht
    rw [hc, bs_true] at hb
    simp only [Bool.or_eq_true] at hb
    rcases hb.1 with (e | e) | e
    · exact .inl (Nat.eq_of_beq_eq_true e)
    · exact .inr (.inl e)
    · exact .inr (.inr e)
  · have hb := key i oi j oj hi hj
    unfold slotB at hb
    rw [hd2] at hb
    simp only [Bool.and_eq_true, hd1] at hb
    have : Nat.beq t t = true := by rw [nbeq]; simp
    rw [this, bs_true] at hb
    exact Nat.eq_of_beq_eq_true hb.2

noncomputable def pickR (E : Env) (ops : List Oper) (mask : Nat) (calm : Bool) (rest : List Nat) : Option Nat :=
  lfind (fun i => match nth ops i with | some o => readyB mask o && (not calm || Nat.blt (kindOf E o.op) 2) | none => false) rest
noncomputable def orderF (E : Env) (ops : List Oper) (fuel : Nat) : Nat → List Nat → List Nat :=
  Nat.rec (motive := fun _ => Nat → List Nat → List Nat) (fun _ _ => [])
    (fun _ ih mask rest => match pickR E ops mask true rest with
      | some i => i :: ih (Nat.lor mask (Nat.pow 2 i)) (lfilter (fun j => not (Nat.beq j i)) rest)
      | none => match pickR E ops mask false rest with
        | some i => i :: ih (Nat.lor mask (Nat.pow 2 i)) (lfilter (fun j => not (Nat.beq j i)) rest)
        | none => []) fuel
noncomputable def orderOf (E : Env) (ops : List Oper) : List Nat := orderF E ops (llen ops) 0 (lgen (fun i => i) (llen ops) [])

noncomputable def treeOf (n : Nat) (fr : Fr) (tr : List Tr) : Option Fr :=
  List.rec (motive := fun _ => Option Fr) (some fr) (fun x _ ih => match ih with
    | none => none
    | some fr' => match x.dst with
      | none => some fr'
      | some d => bs (Nat.blt d n) (some (fr'.set d x.v)) none) tr
theorem treeOf_get {n : Nat} {fr : Fr} : ∀ (tr : List Tr) (fr' : Fr), treeOf n fr tr = some fr' → ∀ t, fr'.get J t = gv (fun _ => True) tr (fr.get J) t ∨ fr'.get J t = J
  | [], fr', h, t => by cases h; exact .inl rfl
  | x :: tr, fr', h, t => by
    have h' : (match treeOf n fr tr with
      | none => none
      | some fr' => match x.dst with
        | none => some fr'
        | some d => bs (Nat.blt d n) (some (fr'.set d x.v)) none) = some fr' := h
    clear h
    rw [gv_all_cons, updO_get]
    split at h'
    · cases h'
    · rename_i f1 hf1
      have ih := treeOf_get tr f1 hf1 t
      split at h'
      · rename_i hd
        cases h'
        rw [if_neg (by rw [hd]; simp)]
        exact ih
      · rename_i d hd
        replace h' := bs_some h'
        rcases h' with ⟨_, h'⟩ | ⟨_, h'⟩
        · cases h'
          by_cases hdt : d = t
          · subst hdt
            rw [if_pos hd]
            rcases T.get_set_or J f1 d x.v with e | e
            · exact .inl e
            · exact .inr e.1
          · rw [if_neg (by rw [hd]; intro e; exact hdt (Option.some.inj e)), T.get_set_ne J f1 d t x.v hdt]
            exact ih
        · cases h'

/-! the same with frames that are trees, for the kernel -/
noncomputable def T.has {α : Type} (t : T α) : Nat → Bool :=
  T.rec (motive := fun _ => Nat → Bool) (fun _ => false)
    (fun _ _ _ gl gr n => Nat.rec (motive := fun _ => Bool) true (fun p _ => Nat.rec (motive := fun _ => Bool) (gl (Nat.div p 2)) (fun _ _ => gr (Nat.div p 2)) (Nat.mod p 2)) n) t
theorem T.has_node {α : Type} (l r : T α) (v : α) (n : Nat) : T.has (.node l v r) n = if n = 0 then true else if n % 2 = 1 then l.has (n / 2) else r.has (n / 2 - 1) := by
  cases n with
  | zero => rfl
  | succ p =>
    show Nat.rec (motive := fun _ => Bool) (l.has (p / 2)) (fun _ _ => r.has (p / 2)) (Nat.mod p 2) = _
    rw [par, if_neg (show ¬ p + 1 = 0 by omega)]
    by_cases h : p % 2 = 0
    · rw [if_pos h, if_pos (by omega), show (p + 1) / 2 = p / 2 by omega]
    · rw [if_neg h, if_neg (by omega), show (p + 1) / 2 - 1 = p / 2 by omega]
theorem T.get_set_has {α : Type} (d : α) : ∀ (t : T α) (i : Nat) (x : α), t.has i = true → (t.set i x).get d i = x
  | .nil, _, _, h => by cases h
  | .node l v r, i, x, h => by
    rw [T.has_node] at h
    rw [T.set_node]
    by_cases h0 : i = 0
    · subst h0; rw [if_pos rfl, T.get_node, if_pos rfl]
    · rw [if_neg h0] at h ⊢
      by_cases h1 : i % 2 = 1
      · rw [if_pos h1] at h ⊢
        rw [T.get_node, if_neg h0, if_pos h1]; exact T.get_set_has d l _ x h
      · rw [if_neg h1] at h ⊢
        rw [T.get_node, if_neg h0, if_neg h1]; exact T.get_set_has d r _ x h
noncomputable def putT {ρ : Type} (fr : Fr) (dst : Option Tmp) (v : Value) (k : Fr → Option ρ) : Option ρ :=
  Option.rec (motive := fun _ => Fr → Value → (Fr → Option ρ) → Option ρ) (fun fr _ k => k fr)
    (fun d fr v k => Bool.rec (motive := fun _ => Option ρ) none (fr.setK d v k) (fr.has d)) dst fr v k
theorem putT_ok {ρ : Type} {fr : Fr} {dst : Option Tmp} {v : Value} {k : Fr → Option ρ} {res : ρ} (h : putT fr dst v k = some res) : ∃ fr' : Fr, k fr' = some res ∧ fr'.get J = updO (fr.get J) dst v := by
  cases dst with
  | none => exact ⟨fr, h, rfl⟩
  | some d =>
    have h' : Bool.rec (motive := fun _ => Option ρ) none (fr.setK d v k) (fr.has d) = some res := h
    cases hd : fr.has d with
    | false => rw [hd] at h'; cases h'
    | true =>
      rw [hd] at h'
      have h2 : fr.setK d v k = some res := h'
      rw [T.setK_eq] at h2
      refine ⟨fr.set d v, h2, funext fun t => ?_⟩
      rw [updO_get]
      by_cases ht : d = t
      · subst ht; rw [if_pos rfl]; exact T.get_set_has J fr d v hd
      · rw [if_neg (fun e => ht (Option.some.inj e))]; exact T.get_set_ne J fr d t v ht
noncomputable def phase1T {ρ : Type} (E : Env) (sq : List (Nat × List IntKind)) (call : Tgt → List Value → AW → Out Value) (ops : List Oper) (ih : List Ent → Fr → AW → List Tr → Option ρ) (i : Nat) (pend : List Ent) (fr : Fr) (A : AW) (tr : List Tr) : Option ρ :=
  match nth ops i with
  | none => none
  | some o => match wantA ops (fr.get J) o with
    | none => none
    | some wd =>
      bs (Nat.ble 2 (kindOf E o.op))
        (bs (lall (stab E sq A) pend)
          (bs wd
            (match opT E sq A (fr.get J) o.op with
            | .val v A' => forceV v (fun v => forceA A' (fun A' => putT fr o.dst v (fun fr => ih (lfilter (fun e => not (bit (bfs ops i) e.i)) pend) fr A' (⟨i, o.dst, v⟩ :: tr))))
            | .call f args => (match call f args A with
              | some [(v, A')] => putT fr o.dst v (fun fr => ih (lfilter (fun e => not (bit (bfs ops i) e.i)) pend) fr A' (⟨i, o.dst, v⟩ :: tr))
              | _ => none)
            | .fail => none
            | .nd _ => none)
            (putT fr o.dst undef (fun fr => ih (lfilter (fun e => not (bit (bfs ops i) e.i)) pend) fr A (⟨i, o.dst, undef⟩ :: tr)))) none)
        (bs wd
          (match opD o.op E sq A (fr.get J) with
          | .val v A' => forceV v (fun v => forceA A' (fun A' =>
              bs (Nat.beq (kindOf E o.op) 1)
                (match A'.get A.next with
                | some b => putT fr o.dst v (fun fr2 => ih (⟨i, o, fr.get J, v, true, some (A.next, b), none⟩ :: pend) fr2 A' (⟨i, o.dst, v⟩ :: tr))
                | none => none)
                (putT fr o.dst v (fun fr2 => ih (⟨i, o, fr.get J, v, true, none, none⟩ :: pend) fr2 A' (⟨i, o.dst, v⟩ :: tr)))))
          | .fail => (match A.tape with
            | [] => none
            | nd :: r => match symV E sq (fr.get J) o.op nd with
              | some v => putT fr o.dst v (fun fr2 => ih (⟨i, o, fr.get J, v, true, none, some nd⟩ :: pend) fr2 (A.pop r) (⟨i, o.dst, v⟩ :: tr))
              | none => none)
          | _ => none)
          (putT fr o.dst undef (fun fr2 => ih (⟨i, o, fr.get J, undef, false, none, none⟩ :: pend) fr2 A (⟨i, o.dst, undef⟩ :: tr))))
noncomputable def phaseT {ρ : Type} (E : Env) (sq : List (Nat × List IntKind)) (call : Tgt → List Value → AW → Out Value) (ops : List Oper) (fin : List Ent → Gt → AW → List Tr → Option ρ) (L : List Nat) : List Ent → Fr → AW → List Tr → Option ρ :=
  List.rec (motive := fun _ => List Ent → Fr → AW → List Tr → Option ρ) (fun pend fr A tr => fin pend (fr.get J) A tr) (fun i _ ih => phase1T E sq call ops ih i) L
theorem phaseT_ok {ρ : Type} {E : Env} {sq : List (Nat × List IntKind)} {call : Tgt → List Value → AW → Out Value} {ops : List Oper} {fin : List Ent → Gt → AW → List Tr → Option ρ} {res : ρ} :
    ∀ (L : List Nat) (pend : List Ent) (fr : Fr) (A : AW) (tr : List Tr), phaseT E sq call ops fin L pend fr A tr = some res → phaseA E sq call ops fin L pend (fr.get J) A tr = some res
  | [], pend, fr, A, tr, h => h
  | i :: L, pend, fr, A, tr, h => by
    have h' : phase1T E sq call ops (phaseT E sq call ops fin L) i pend fr A tr = some res := h
    show phase1 E sq call ops (phaseA E sq call ops fin L) i pend (fr.get J) A tr = some res
    clear h
    have put : ∀ (dst : Option Tmp) (v : Value) (p : List Ent) (A' : AW) (t : List Tr), putT fr dst v (fun fr => phaseT E sq call ops fin L p fr A' t) = some res → phaseA E sq call ops fin L p (updO (fr.get J) dst v) A' t = some res := fun dst v p A' t hp => by
      obtain ⟨fr', h1, h2⟩ := putT_ok hp
      rw [← h2]
      exact phaseT_ok L p fr' A' t h1
    unfold phase1T at h'
    unfold phase1
    cases ho : nth ops i with
    | none => rw [ho] at h'; cases h'
    | some o =>
      rw [ho] at h'
      simp only at h' ⊢
      cases hw : wantA ops (fr.get J) o with
      | none => rw [hw] at h'; cases h'
      | some wd =>
        rw [hw] at h'
        simp only at h' ⊢
        cases hk : Nat.ble 2 (kindOf E o.op) with
        | true =>
          rw [hk, bs_true] at h'
          rw [bs_true]
          cases hs : lall (stab E sq A) pend with
          | false => rw [hs, bs_false] at h'; cases h'
          | true =>
            rw [hs, bs_true] at h'
            rw [bs_true]
            cases wd with
            | false => rw [bs_false] at h'; rw [bs_false]; exact put _ _ _ _ _ h'
            | true =>
              rw [bs_true] at h'
              rw [bs_true]
              cases hop : opT E sq A (fr.get J) o.op with
              | fail => rw [hop] at h'; cases h'
              | nd q => rw [hop] at h'; cases h'
              | val v A' =>
                rw [hop] at h'
                simp only [forceV_eq, forceA_eq] at h' ⊢
                exact put _ _ _ _ _ h'
              | call f args =>
                rw [hop] at h'
                simp only at h' ⊢
                split at h'
                · rename_i v A' hc
                  exact put _ _ _ _ _ h'
                · cases h'
        | false =>
          rw [hk, bs_false] at h'
          rw [bs_false]
          cases wd with
          | false => rw [bs_false] at h'; rw [bs_false]; exact put _ _ _ _ _ h'
          | true =>
            rw [bs_true] at h'
            rw [bs_true]
            cases hop : opD o.op E sq A (fr.get J) with
            | fail =>
              rw [hop] at h'
              simp only at h' ⊢
              split at h'
              · cases h'
              · split at h'
                · exact put _ _ _ _ _ h'
                · cases h'
            | nd q => rw [hop] at h'; cases h'
            | call f args => rw [hop] at h'; cases h'
            | val v A' =>
              rw [hop] at h'
              simp only [forceV_eq, forceA_eq] at h' ⊢
              cases hb : Nat.beq (kindOf E o.op) 1 with
              | true =>
                rw [hb, bs_true] at h'
                rw [bs_true]
                split at h'
                · rename_i b hg
                  exact put _ _ _ _ _ h'
                · cases h'
              | false =>
                rw [hb, bs_false] at h'
                rw [bs_false]
                exact put _ _ _ _ _ h'
end Go.Ex
namespace Go.Ex
open Go.RowKit

theorem gv_put {ops : List Oper} (hs : Slots ops) {tr : List Tr} (hw : WfTr ops tr) {x0 : Tr} (hx : x0 ∈ tr) {D : Nat → Prop} (hD : ¬ D x0.i) (g0 : Gt) (t : Nat) :
    gv (fun j => D j ∨ j = x0.i) tr g0 t = updO (gv D tr g0) x0.dst x0.v t := by
  rw [updO_get]
  obtain ⟨o0, ho0, hd0⟩ := hw.op x0 hx
  have same : ∀ x ∈ tr, ∀ y ∈ tr, x.dst = some t → y.dst = some t → x = y := fun x hx y hy h1 h2 => by
    obtain ⟨ox, hox, hdx⟩ := hw.op x hx
    obtain ⟨oy, hoy, hdy⟩ := hw.op y hy
    exact hw.uniq x hx y hy (hs.2 _ _ _ _ t hox hoy (hdx ▸ h1) (hdy ▸ h2))
  by_cases hd : x0.dst = some t
  · rw [if_pos hd]
    rcases gv_spec (fun j => D j ∨ j = x0.i) g0 t tr with ⟨x, hx1, _, hxt, hv⟩ | ⟨hno, _⟩
    · rw [hv, same x hx1 x0 hx hxt hd]
    · exact absurd hd (hno x0 hx (.inr rfl))
  · rw [if_neg hd]
    rcases gv_spec (fun j => D j ∨ j = x0.i) g0 t tr with ⟨x, hx1, hDx, hxt, hv⟩ | ⟨hno, hv⟩
    · have hDx' : D x.i := hDx.resolve_right (fun e => hd (by rw [← hw.uniq x hx1 x0 hx e]; exact hxt))
      rcases gv_spec D g0 t tr with ⟨y, hy, _, hyt, hv2⟩ | ⟨hno2, _⟩
      · rw [hv, hv2, same x hx1 y hy hxt hyt]
      · exact absurd hxt (hno2 x hx1 hDx')
    · rcases gv_spec D g0 t tr with ⟨y, hy, hDy, hyt, _⟩ | ⟨_, hv2⟩
      · exact absurd hyt (hno y hy (.inl hDy))
      · rw [hv, hv2]
theorem FRel.updO {β : Ren} {n : Nat} {g : Gt} {a : Act} (h : FRel β n g a.tmps) {dst : Option Tmp} (hd : ∀ d, dst = some d → d < n) {v v' : Value} (hv : VRel β v v') : FRel β n (Go.Ex.updO g dst v) (a.put dst v').tmps := by
  cases dst with
  | none => exact h
  | some d =>
    have hdn := hd d rfl
    refine ⟨by simp [Act.put, h.1], fun t => ?_⟩
    rw [updO_get]
    show VRel β _ ((a.tmps.setIfInBounds d v').getD t undef)
    by_cases hdt : d = t
    · subst hdt
      have hs : d < a.tmps.size := by rw [h.1]; exact hdn
      rw [if_pos rfl]
      have : (a.tmps.setIfInBounds d v').getD d undef = v' := by simp [hs]
      rw [this]; exact hv
    · rw [if_neg (fun e => hdt (Option.some.inj e))]
      have : (a.tmps.setIfInBounds d v').getD t undef = a.tmps.getD t undef := by simp [Array.getElem?_setIfInBounds_ne hdt]
      rw [this]; exact h.2 t
theorem FRel.ext {β : Ren} {n : Nat} {g g' : Gt} {tmps : Array Value} (h : FRel β n g tmps) (e : ∀ t, g' t = g t) : FRel β n g' tmps := ⟨h.1, fun t => by rw [e t]; exact h.2 t⟩

theorem wantA_congr {ops : List Oper} {g g' : Gt} {o : Oper} (h : ∀ t ∈ o.looksAt ⟨ops⟩, g t = g' t) : wantA ops g o = wantA ops g' o := by
  unfold wantA
  split
  · rfl
  · rename_i j want hg
    rw [nth_eq]
    cases hj : ops[j]? with
    | none => rfl
    | some og =>
      cases hd : og.dst with
      | none => simp only [hd]
      | some t =>
        simp only [hd]
        rw [h t (by
          unfold Oper.looksAt
          rw [hg]
          refine List.mem_append_right _ ?_
          simp [hj, hd])]
theorem opnds_congr {E : Env} {ops : List Oper} {g g' : Gt} {o : Oper} (h : ∀ t ∈ o.looksAt ⟨ops⟩, g t = g' t) : ∀ x ∈ o.op.operands, ev E g x = ev E g' x := fun x hx => ev_congr fun t ht => h t (by
  unfold Oper.looksAt
  refine List.mem_append_left _ (List.mem_filterMap.2 ⟨x, by simpa using hx, by rw [ht]⟩))

structure PE (E : Env) (sq : List (Nat × List IntKind)) (δ : Nat → Option D) (ops : List Oper) (g0 : Gt) (tr : List Tr) (e : Ent) : Prop where
  ex : ∃ pre x0 tl, tr = pre ++ x0 :: tl ∧ x0.i = e.i ∧ x0.v = e.v ∧ WfTr ops (x0 :: tl) ∧ e.g = gv (fun _ => True) tl g0
  op : ops[e.i]? = some e.o
  kind : kindOf E e.o.op ≤ 1
  want : wantA ops e.g e.o = some e.wanted
  unw : e.wanted = false → e.v = undef
  qt : e.wanted = true → e.nb = none → e.sy = none → kindOf E e.o.op = 0 ∧ ∃ A1, opA E sq A1 e.g e.o.op = .val e.v A1
  fr : e.wanted = true → ∀ N blk, e.nb = some (N, blk) → kindOf E e.o.op = 1 ∧ ∃ A1 A2, A1.next = N ∧ A1.get N = none ∧ opA E sq A1 e.g e.o.op = .val e.v A2 ∧ A2.get N = some blk
  sy : ∀ nd, e.sy = some nd → e.nb = none ∧ e.wanted = true ∧ symV E sq e.g e.o.op nd = some e.v ∧ OpQ δ nd
theorem PE.cons {E : Env} {sq : List (Nat × List IntKind)} {δ : Nat → Option D} {ops : List Oper} {g0 : Gt} {tr : List Tr} {e : Ent} (h : PE E sq δ ops g0 tr e) (x : Tr) : PE E sq δ ops g0 (x :: tr) e := by
  obtain ⟨pre, x0, tl, h1, h2⟩ := h.ex
  exact ⟨⟨x :: pre, x0, tl, by rw [h1]; rfl, h2⟩, h.op, h.kind, h.want, h.unw, h.qt, h.fr, h.sy⟩

structure PJ (w0 : World) (E : Env) (n : Nat) (ops : List Oper) (g0 : Gt) (β0 : Ren) (A0 : AW) (ds : List Deferred) (D : Nat → Prop) (β : Ren) (A : AW) (pend : List Ent) (tr : List Tr) (a : Act) (w : World) : Prop where
  clo : Clo ops D
  effs : ∀ x ∈ tr, ∀ o, ops[x.i]? = some o → 2 ≤ kindOf E o.op → D x.i
  un : ∀ x ∈ tr, ¬ D x.i → ∃ e ∈ pend, e.i = x.i
  only : ∀ j, D j → ∃ x ∈ tr, x.i = j
  frame : FRel β n (gv D tr g0) a.tmps
  inv : Inv w0 E.G β A w
  fresh : ∀ e ∈ pend, ¬ D e.i → ∀ N blk, e.nb = some (N, blk) → β N = none ∧ N < A.next ∧ A0.next ≤ N
  grow : β0.grow β A0.next
  nxt : A0.next ≤ A.next
  defers : a.defers = ds

section
variable {P : Program} {E : Env} (ok : E.Ok P) {sq : List (Nat × List IntKind)} (sok : E.Seq P sq) {w0 : World} {n : Nat} {ops : List Oper} (hs : Slots ops) (hdst : ∀ o ∈ ops, ∀ d, o.dst = some d → d < n) {g0 : Gt} {β0 : Ren} {A0 : AW} {ds : List Deferred} {ro : Option Nat}
include ok sok hs hdst

theorem calm_step {D : Nat → Prop} {β : Ren} {A : AW} {pend : List Ent} {tr : List Tr} {a : Act} {w : World} (hw : WfTr ops tr) (j : PJ w0 E n ops g0 β0 A0 ds D β A pend tr a w) (hpe : ∀ e ∈ pend, PE E sq β0.d ops g0 tr e) (hnb : ∀ e ∈ pend, ∀ e' ∈ pend, ∀ N b b', e.nb = some (N, b) → e'.nb = some (N, b') → e.i = e'.i)
    {e : Ent} (he : e ∈ pend) (hst : stab E sq A e = true) (hn : ¬ D e.i) (hr : ∀ ed ∈ e.o.after.toList, Region.binds .any ed = true → D ed.on) {Q : Exit → Act → World → Prop} {K : Act → World → Prop}
    (hK : ∀ β' a' w', PJ w0 E n ops g0 β0 A0 ds (fun x => D x ∨ x = e.i) β' A pend tr a' w' → K a' w') : wpOpIn (wideR ro) 0 P ⟨ops⟩ Q e.i K a w := by
  have pe := hpe e he
  obtain ⟨pre, x0, tl, htr, hx0, hxv, hw0, hg⟩ := pe.ex
  have hx0m : x0 ∈ tr := by rw [htr]; exact List.mem_append_right _ List.mem_cons_self
  have hx0d : x0.dst = e.o.dst := by
    obtain ⟨o1, ho1, hd1⟩ := hw.op x0 hx0m
    rw [hx0, pe.op] at ho1; cases ho1; exact hd1
  have ag : ∀ t ∈ e.o.looksAt ⟨ops⟩, gv D tr g0 t = e.g t := fun t ht => by rw [hg]; exact agree hs j.clo pe.op hr hn htr hx0 hw hw0 g0 ht
  have hom : e.o ∈ ops := List.mem_of_getElem? pe.op
  have hclo : Clo ops (fun x => D x ∨ x = e.i) := fun i oi hi hd ed hed hb => by
    rcases hd with hd | hd
    · exact .inl (j.clo i oi hi hd ed hed hb)
    · subst hd; rw [pe.op] at hi; cases hi; exact .inl (hr ed hed hb)
  have mk : ∀ β' v' w', VRel β' e.v v' → Inv w0 E.G β' A w' → β.le β' → (∀ B, B < A.next → (∀ N b, e.nb = some (N, b) → B ≠ N) → β' B = β B) → β0.grow β' A0.next → PJ w0 E n ops g0 β0 A0 ds (fun x => D x ∨ x = e.i) β' A pend tr (a.put e.o.dst v') w' := fun β' v' w' hv hinv hle hgrow hg0 => by
    refine ⟨hclo, fun x hx o ho hk => .inl (j.effs x hx o ho hk), fun x hx hnx => j.un x hx (fun h => hnx (.inl h)), fun i hi => ?_, ?_, hinv, fun e' he' hne' N blk hnb' => ?_, hg0, j.nxt, ?_⟩
    · rcases hi with hi | hi
      · exact j.only i hi
      · exact ⟨x0, hx0m, hx0.trans hi.symm⟩
    · have h1 := (j.frame.mono hle).updO (dst := e.o.dst) (fun d hd => hdst e.o hom d hd) hv
      refine h1.ext (fun t => ?_)
      have h2 := gv_put hs hw hx0m (D := D) (by rw [hx0]; exact hn) g0 t
      rw [hx0, hx0d, hxv] at h2
      exact h2
    · obtain ⟨h1, h2, h3⟩ := j.fresh e' he' (fun h => hne' (.inl h)) N blk hnb'
      refine ⟨?_, h2, h3⟩
      rw [hgrow N h2 (fun N2 b2 hb2 hNN => by subst hNN; exact hne' (.inr (hnb e' he' e he N blk b2 hnb' hb2)))]
      exact h1
    · cases e.o.dst <;> exact j.defers
  unfold wpOpIn
  have hop : (⟨ops⟩ : Array Oper)[e.i]? = some e.o := by simpa using pe.op
  simp only [hop]
  have hwant := want_ok (a := a) (by rw [wantA_congr ag]; exact pe.want) j.frame
  rw [hwant]
  cases hwd : e.wanted with
  | false =>
    rw [if_neg (by simp)]
    refine ⟨fun _ _ => trivial, hK β _ w (mk β undef w ?_ j.inv (Ren.le_refl _) (fun _ _ _ => rfl) j.grow)⟩
    rw [pe.unw hwd]; exact VRel.undef
  | true =>
    rw [if_pos rfl]
    unfold Oper.wpIn
    refine ⟨fun _ _ => trivial, ?_⟩
    have oc : ∀ A1, opA E sq A1 (gv D tr g0) e.o.op = opA E sq A1 e.g e.o.op := fun A1 => opA_congr (opnds_congr ag)
    cases hsy : e.sy with
    | some nd =>
      obtain ⟨h1, _, h2, h3⟩ := pe.sy nd hsy
      obtain ⟨v', hrun, hv⟩ := sym_ok ok sok j.inv j.frame ((symV_congr (opnds_congr ag) nd).trans h2) (by rw [j.grow.d]; exact h3)
      have hop2 : opT E sq (⟨A.heap, A.next, [nd]⟩ : AW) (gv D tr g0) e.o.op ≠ .fail := by
        rcases opT_cases E sq (⟨A.heap, A.next, [nd]⟩ : AW) (gv D tr g0) e.o.op with ⟨h5, h6⟩ | ⟨_, h5⟩
        · rw [h5]; exact h6
        · rw [h5]
          have : symR E sq (⟨A.heap, A.next, [nd]⟩ : AW) (gv D tr g0) e.o.op = .val e.v (AW.pop ⟨A.heap, A.next, [nd]⟩ []) := by
            unfold symR
            simp only [(symV_congr (opnds_congr ag) nd).trans h2]
          rw [this]
          simp
      rw [semAt_of rfl hop2, hrun]
      exact hK β _ w (mk β v' w hv j.inv (Ren.le_refl _) (fun _ _ _ => rfl) j.grow)
    | none =>
    cases hnbe : e.nb with
    | none =>
      obtain ⟨hk0, A1, hA1⟩ := pe.qt hwd hnbe hsy
      have hnow : opA E sq A (gv D tr g0) e.o.op = .val e.v A := by
        rw [oc]
        unfold stab at hst
        rw [hwd, bs_true, hsy, hnbe] at hst
        simp only [opD_eq] at hst
        cases hp : pureOp e.o.op with
        | true => exact (pure_any hp hA1).2
        | false =>
          rw [hp, bs_false] at hst
          split at hst
          · rename_i v2 A3 h3
            have := quiet_same hk0 h3
            subst this
            rw [h3, veq_eq hst]
          · cases hst
      obtain ⟨β', v', w', hrun, hv, hinv, hgr, _⟩ := op_ok ok sok j.inv j.frame hnow
      have res := hK β' _ w' (mk β' v' w' hv hinv (j.inv.le_of_grow hgr) (fun B hB _ => hgr.f B hB) (Ren.grow_trans j.grow hgr j.nxt))
      rw [semAt_of (opT_of hnow (by simp)) (by simp)]
      rcases hrun with hr1 | ⟨hr1, rfl⟩
      · rw [hr1]; exact res
      · rw [hr1]; exact res
    | some nb =>
      obtain ⟨N, blk⟩ := nb
      obtain ⟨hk1, A1, A2, hN1, hN0, hA1, hA2⟩ := pe.fr hwd N blk hnbe
      obtain ⟨cs, es, cs', ty, v', hadd, hrun, hcs, hv⟩ := fresh_ok (A := A1) ok j.inv j.frame hk1 ((oc A1).trans hA1)
      have hblk : blk = ⟨.cells cs, es, true, false, ty⟩ := by
        rw [hadd] at hA2
        rcases A1.get_add ⟨.cells cs, es, true, false, ty⟩ (by rw [hN1]; exact hN0) N with ⟨e1, _⟩ | e1
        · rw [e1] at hA2; cases hA2; rfl
        · rw [e1, hN0] at hA2; cases hA2
      obtain ⟨hbN, hNlt, hN0'⟩ := j.fresh e he hn N blk hnbe
      have hle : β.le (β.put N ⟨w.heap.size, 0, es, cs'.length⟩) := ⟨fun B lb eb => by
        rw [Ren.put_f]
        rw [if_neg (fun e2 => by rw [e2, hbN] at eb; cases eb)]
        exact eb, fun _ _ h => h, fun _ _ h => h, rfl, rfl⟩
      have hinv := j.inv.map N hNlt hbN (.cells ⟨cs'⟩ ty) ⟨w.heap.size, 0, es, cs'.length⟩ rfl (fun b hb => by
        unfold stab at hst
        rw [hwd, bs_true, hsy, hnbe] at hst
        simp only [hb] at hst
        have := blkEq_eq hst
        subst this
        rw [hblk]
        have hcs2 := hcs.mono hle
        refine ⟨⟨cs'⟩, ty, (0, 0), rfl, rfl, by simp [hcs2.1], fun i v hv => ?_, fun _ => rfl, fun _ => by simp [hcs2.1], rfl, fun _ => rfl⟩
        obtain ⟨v2, hv2, hr2⟩ := hcs2.get hv
        exact ⟨v2, by simpa using hv2, hr2⟩)
      rw [semAt_of (opT_of hA1 (by simp)) (by simp), hrun]
      refine hK _ _ _ (mk _ v' _ (hv _ (by rw [hN1]; exact put_self _ _ _)) hinv hle (fun B hB hne => ?_) ⟨fun B hB => ?_, j.grow.z, j.grow.o, j.grow.d, j.grow.x⟩)
      · rw [Ren.put_f]
        rw [if_neg (hne N blk hnbe)]
      · rw [Ren.put_f]
        by_cases hBN : B = N
        · omega
        · rw [if_neg hBN]; exact j.grow.f B hB
end
end Go.Ex
namespace Go.Ex
open Go.RowKit

theorem gv_ext {D D' : Nat → Prop} {g0 : Gt} : ∀ {tr : List Tr}, (∀ x ∈ tr, D x.i ↔ D' x.i) → gv D tr g0 = gv D' tr g0
  | [], _ => rfl
  | x :: tr, h => by
    have ih := gv_ext (g0 := g0) (tr := tr) (fun y hy => h y (List.mem_cons_of_mem _ hy))
    rw [gv, gv, ih]
    by_cases hD : D x.i
    · rw [if_pos hD, if_pos ((h x List.mem_cons_self).1 hD)]
    · rw [if_neg hD, if_neg (fun e => hD ((h x List.mem_cons_self).2 e))]
theorem gv_cons_in {D : Nat → Prop} {g0 : Gt} {x : Tr} {tr : List Tr} (h : D x.i) : gv D (x :: tr) g0 = updO (gv D tr g0) x.dst x.v := by rw [gv, if_pos h]
theorem gv_cons_out {D : Nat → Prop} {g0 : Gt} {x : Tr} {tr : List Tr} (h : ¬ D x.i) : gv D (x :: tr) g0 = gv D tr g0 := by rw [gv, if_neg h]

def PN (A : AW) (pend : List Ent) : Prop := (∀ e ∈ pend, ∀ N b, e.nb = some (N, b) → N < A.next) ∧ ∀ e ∈ pend, ∀ e' ∈ pend, ∀ N b b', e.nb = some (N, b) → e'.nb = some (N, b') → e.i = e'.i

theorem first_open {ops : List Oper} {D : Nat → Prop} : ∀ {tr : List Tr}, WfTr ops tr → (∃ x ∈ tr, ¬ D x.i) → ∃ x ∈ tr, ¬ D x.i ∧ ∃ o, ops[x.i]? = some o ∧ ∀ e ∈ o.after.toList, Region.binds .any e = true → D e.on
  | [], _, ⟨x, hx, _⟩ => by cases hx
  | y :: tr, ⟨h1, h2, o, ho, hd, he⟩, ⟨x, hx, hn⟩ => by
    by_cases hex : ∃ z ∈ tr, ¬ D z.i
    · obtain ⟨z, hz, h⟩ := first_open h1 hex
      exact ⟨z, List.mem_cons_of_mem _ hz, h⟩
    · have all : ∀ z ∈ tr, D z.i := fun z hz => Classical.byContradiction fun h => hex ⟨z, hz, h⟩
      cases hx with
      | head =>
        refine ⟨y, List.mem_cons_self, hn, o, ho, fun e hee hb => ?_⟩
        obtain ⟨z, hz, hzi⟩ := he e hee hb
        exact hzi ▸ all z hz
      | tail _ hx => exact absurd (all x hx) hn

theorem chk_rest {E : Env} {ops : List Oper} : ∀ (L : List Nat) (mask e0 : Nat), chkL E ops L mask (some e0) = true → bit mask e0 = true → ∀ i ∈ L, ∃ e, (e = e0 ∨ e ∈ L) ∧ e ≠ i ∧ bit (bfs ops i) e = true
  | [], _, _, _, _, i, hi => by cases hi
  | k :: L, mask, e0, h, he0, i, hi => by
    have h' : chk1 E ops (chkL E ops L) k mask (some e0) = true := h
    clear h
    unfold chk1 at h'
    split at h'
    · cases h'
    · rename_i o ho
      simp only [Bool.and_eq_true, Bool.not_eq_true'] at h'
      obtain ⟨⟨⟨hk, hrd⟩, hb⟩, hrest⟩ := h'
      have hne : e0 ≠ k := fun e => by rw [e] at he0; rw [he0] at hk; cases hk
      cases hi with
      | head => exact ⟨e0, .inl rfl, hne, hb⟩
      | tail _ hi =>
        have hbit : ∀ q, bit (Nat.lor mask (Nat.pow 2 k)) q = (bit mask q || decide (k = q)) := fun q => by
          rw [bit_eq, bit_eq]
          show (mask ||| 2 ^ k).testBit q = _
          rw [Nat.testBit_or, Nat.testBit_two_pow]
        cases hkk : Nat.ble 2 (kindOf E o.op) with
        | true =>
          rw [hkk, bs_true] at hrest
          obtain ⟨e, h1, h2, h3⟩ := chk_rest L _ k hrest (by rw [hbit]; simp) i hi
          refine ⟨e, .inr ?_, h2, h3⟩
          rcases h1 with rfl | h1
          · exact List.mem_cons_self
          · exact List.mem_cons_of_mem _ h1
        | false =>
          rw [hkk, bs_false] at hrest
          obtain ⟨e, h1, h2, h3⟩ := chk_rest L _ e0 hrest (by rw [hbit, he0]; rfl) i hi
          refine ⟨e, ?_, h2, h3⟩
          rcases h1 with h1 | h1
          · exact .inl h1
          · exact .inr (List.mem_cons_of_mem _ h1)

section
variable {P : Program} {E : Env} (ok : E.Ok P) {sq : List (Nat × List IntKind)} (sok : E.Seq P sq) {w0 : World} {n : Nat} {ops : List Oper} (hs : Slots ops) (hdst : ∀ o ∈ ops, ∀ d, o.dst = some d → d < n) {g0 : Gt} {β0 : Ren} {A0 : AW} {ds : List Deferred} {ro : Option Nat}
  {call : Tgt → List Value → AW → Out Value} (hc : CallOk P E call)

/-- the effect that comes next -/
theorem next_pj {D : Nat → Prop} {β β' : Ren} {A A' : AW} {pend : List Ent} {tr : List Tr} {a : Act} {w w' : World} (hdst : ∀ o ∈ ops, ∀ d, o.dst = some d → d < n) (j : PJ w0 E n ops g0 β0 A0 ds D β A pend tr a w)
    {i : Nat} {o : Oper} (ho : ops[i]? = some o) (hni : ∀ x ∈ tr, x.i ≠ i) (hr : ∀ ed ∈ o.after.toList, Region.binds .any ed = true → D ed.on) {v v' : Value} (hv : VRel β' v v') (hinv : Inv w0 E.G β' A' w') (hgr : β.grow β' A.next) (hn : A.next ≤ A'.next) :
    PJ w0 E n ops g0 β0 A0 ds (fun x => D x ∨ x = i) β' A' (lfilter (fun e => not (bit (bfs ops i) e.i)) pend) (⟨i, o.dst, v⟩ :: tr) (a.put o.dst v') w' := by
  have hnD : ¬ D i := fun h => by obtain ⟨x, hx, hxi⟩ := j.only i h; exact hni x hx hxi
  have hle := j.inv.le_of_grow hgr
  refine ⟨fun k ok hk hd ed hed hb => ?_, fun x hx o' ho' hk => ?_, fun x hx hnx => ?_, fun k hk => ?_, ?_, hinv, fun e he hne N blk hnb => ?_, Ren.grow_trans j.grow hgr j.nxt, Nat.le_trans j.nxt hn, ?_⟩
  · rcases hd with hd | hd
    · exact .inl (j.clo k ok hk hd ed hed hb)
    · subst hd; rw [ho] at hk; cases hk; exact .inl (hr ed hed hb)
  · cases hx with
    | head => exact .inr rfl
    | tail _ hx => exact .inl (j.effs x hx o' ho' hk)
  · cases hx with
    | head => exact absurd (.inr rfl) hnx
    | tail _ hx =>
      obtain ⟨e, he, hei⟩ := j.un x hx (fun h => hnx (.inl h))
      refine ⟨e, ?_, hei⟩
      rw [lfilter_eq, List.mem_filter]
      refine ⟨he, ?_⟩
      cases hb : bit (bfs ops i) e.i with
      | false => rfl
      | true =>
        rcases bfs_ready j.clo ho hr hb with h1 | h1
        · exact absurd (.inl (hei ▸ h1)) hnx
        · exact absurd (hei.symm.trans h1) (hni x hx)
  · rcases hk with hk | hk
    · obtain ⟨x, hx, hxi⟩ := j.only k hk
      exact ⟨x, List.mem_cons_of_mem _ hx, hxi⟩
    · exact ⟨_, List.mem_cons_self, hk.symm⟩
  · rw [gv_cons_in (x := ⟨i, o.dst, v⟩) (.inr rfl), gv_ext (D' := D) (fun x hx => ⟨fun h => h.resolve_right (hni x hx), .inl⟩)]
    exact (j.frame.mono hle).updO (fun d hd => hdst o (List.mem_of_getElem? ho) d hd) hv
  · rw [lfilter_eq, List.mem_filter] at he
    obtain ⟨h1, h2, h3⟩ := j.fresh e he.1 (fun h => hne (.inl h)) N blk hnb
    exact ⟨by rw [hgr.f N h2]; exact h1, Nat.lt_of_lt_of_le h2 hn, h3⟩
  · cases o.dst <;> exact j.defers

/-- a calm operation joins those that may come at any time -/
theorem calm_pj {D : Nat → Prop} {β : Ren} {A A' : AW} {pend : List Ent} {tr : List Tr} {a : Act} {w : World} (j : PJ w0 E n ops g0 β0 A0 ds D β A pend tr a w)
    {i : Nat} {o : Oper} (hk : kindOf E o.op ≤ 1) (ho : ops[i]? = some o) (hni : ∀ x ∈ tr, x.i ≠ i) {e : Ent} (hei : e.i = i) {v : Value} (hA : A' = A ∨ (∃ blk, Plain blk ∧ A' = A.add blk) ∨ ∃ r, (∀ nd ∈ r, nd ∈ A.tape) ∧ A' = A.pop r) (hnb : ∀ N b, e.nb = some (N, b) → N = A.next ∧ A.next < A'.next) :
    PJ w0 E n ops g0 β0 A0 ds D β A' (e :: pend) (⟨i, o.dst, v⟩ :: tr) a w := by
  have hnD : ¬ D i := fun h => by obtain ⟨x, hx, hxi⟩ := j.only i h; exact hni x hx hxi
  have hn : A.next ≤ A'.next := by
    rcases hA with rfl | ⟨blk, _, rfl⟩ | ⟨r, _, rfl⟩
    · exact Nat.le_refl _
    · exact Nat.le_succ _
    · exact Nat.le_refl _
  have hbn : β A.next = none := by
    cases hc : β A.next with
    | none => rfl
    | some l => exact absurd (j.inv.dom _ l hc) (Nat.lt_irrefl _)
  refine ⟨j.clo, fun x hx o' ho' hk' => ?_, fun x hx hnx => ?_, fun k hk' => ?_, ?_, ?_, fun e' he' hne N blk hnb' => ?_, j.grow, Nat.le_trans j.nxt hn, j.defers⟩
  · cases hx with
    | head => have ho2 : ops[i]? = some o' := ho'; rw [ho] at ho2; cases ho2; omega
    | tail _ hx => exact j.effs x hx o' ho' hk'
  · cases hx with
    | head => exact ⟨e, List.mem_cons_self, hei⟩
    | tail _ hx =>
      obtain ⟨e', he', h⟩ := j.un x hx hnx
      exact ⟨e', List.mem_cons_of_mem _ he', h⟩
  · obtain ⟨x, hx, hxi⟩ := j.only k hk'
    exact ⟨x, List.mem_cons_of_mem _ hx, hxi⟩
  · rw [gv_cons_out (x := ⟨i, o.dst, v⟩) hnD]; exact j.frame
  · rcases hA with rfl | ⟨blk, hp, rfl⟩ | ⟨r, hr, rfl⟩
    · exact j.inv
    · exact j.inv.reserve blk hp
    · exact j.inv.pop hr
  · cases he' with
    | head =>
      obtain ⟨rfl, h2⟩ := hnb N blk hnb'
      exact ⟨hbn, h2, j.nxt⟩
    | tail _ he' =>
      obtain ⟨h1, h2, h3⟩ := j.fresh e' he' hne N blk hnb'
      exact ⟨h1, Nat.lt_of_lt_of_le h2 hn, h3⟩

/-- how many are not listed -/
def open_ (N : Nat) (listed : Array Bool) : Nat := ((List.range N).filter fun k => !listed.getD k false).length
theorem open_set {N : Nat} {listed : Array Bool} {i : Nat} (hi : i < N) (hsz : listed.size = N) (hl : listed.getD i false = false) : open_ N (listed.setIfInBounds i true) < open_ N listed := by
  unfold open_
  have : (List.range N).filter (fun k => !(listed.setIfInBounds i true).getD k false) = ((List.range N).filter fun k => !listed.getD k false).filter (fun k => decide (k ≠ i)) := by
    rw [List.filter_filter]
    apply List.filter_congr
    intro k _
    by_cases hk : k = i
    · subst hk
      have : (listed.setIfInBounds k true).getD k false = true := by simp [hsz, hi]
      simp [this]
    · rw [getD_set_ne false (Ne.symm hk)]
      simp [hk]
  rw [this, List.length_filter_lt_length_iff_exists]
  exact ⟨i, by simp [hi]; simpa using hl, by simp⟩
theorem set_D {listed : Array Bool} {i : Nat} (hi : i < listed.size) : (fun k => (listed.setIfInBounds i true).getD k false = true) = (fun k => listed.getD k false = true ∨ k = i) := by
  funext k
  apply propext
  by_cases hk : k = i
  · subst hk; simp [hi]
  · rw [getD_set_ne false (Ne.symm hk)]; simp [hk]
end
end Go.Ex
namespace Go.Ex
open Go.RowKit
section
variable {P : Program} {E : Env} (ok : E.Ok P) {sq : List (Nat × List IntKind)} (sok : E.Seq P sq) {w0 : World} {n : Nat} {ops : List Oper} (hs : Slots ops) (hdst : ∀ o ∈ ops, ∀ d, o.dst = some d → d < n) {g0 : Gt} {β0 : Ren} {A0 : AW} {ds : List Deferred} {ro : Option Nat}
  {call : Tgt → List Value → AW → Out Value} (hc : CallOk P E call)

theorem ready_in {listed : Array Bool} {i : Nat} {o : Oper} (ho : ops[i]? = some o) (hsz : listed.size = ops.length) (hn : ¬ listed.getD i false = true) (hr : ∀ e ∈ o.after.toList, Region.binds .any e = true → listed.getD e.on false = true) : i ∈ Region.ready .any ⟨ops⟩ listed := by
  rw [mem_ready]
  have hi : i < listed.size := by rw [hsz]; exact (List.getElem?_eq_some_iff.1 ho).1
  refine ⟨?_, o, by simpa using ho, fun e he hb => hr e (by simpa using he) hb⟩
  have h2 : listed.getD i false = false := by simpa using hn
  simp [hi] at h2 ⊢
  exact h2
theorem ready_out {listed : Array Bool} {i : Nat} (hsz : listed.size = ops.length) (h : i ∈ Region.ready .any ⟨ops⟩ listed) : ∃ o, ops[i]? = some o ∧ ¬ listed.getD i false = true ∧ ∀ e ∈ o.after.toList, Region.binds .any e = true → listed.getD e.on false = true := by
  rw [mem_ready] at h
  obtain ⟨h1, o, ho, h2⟩ := h
  have ho' : ops[i]? = some o := by simpa using ho
  have hi : i < listed.size := by rw [hsz]; exact (List.getElem?_eq_some_iff.1 ho').1
  refine ⟨o, ho', ?_, fun e he hb => h2 e (by simpa using he) hb⟩
  simp [hi] at h1 ⊢
  exact h1

theorem fresh_add {A A' : AW} {g : Gt} {op : Op} {v : Value} (hk : kindOf E op = 1) (h : opA E sq A g op = .val v A') : ∃ blk, Plain blk ∧ A' = A.add blk := by
  cases hp : pureOp op with
  | true => cases op <;> simp only [kindOf, pureOp] at hk hp <;> first | (cases hp; done) | (cases hk; done)
  | false =>
    cases op <;> simp only [kindOf, hp] at hk <;> try (cases hk; done)
    case convert s d x => split at hk <;> cases hk
    case alloc t =>
      simp only [opA] at h
      have h := ofP_val h
      unfold allocV at h
      split at h
      · replace h := bs_some h
        rcases h with ⟨_, h⟩ | ⟨_, h⟩ <;> cases h
        exact ⟨_, (fun c h => by cases h), rfl⟩
      · cases h
    case box t x =>
      simp only [opA] at h
      have h := ofP_val h
      unfold boxV at h
      split at h <;> cases h
      exact ⟨_, (fun c h => by cases h), rfl⟩
    case buildSlice t len ps =>
      obtain ⟨ps⟩ := ps
      simp only [opA] at h
      have h := ofP_val h
      unfold buildSliceV at h
      split at h
      · split at h
        · replace h := bs_some h
          rcases h with ⟨_, h⟩ | ⟨_, h⟩
          · split at h <;> cases h
            exact ⟨_, (fun c h => by cases h), rfl⟩
          · cases h
        · cases h
      · cases h
    case makeSlice t x y =>
      simp only [opA] at h
      have h := ofP_val h
      unfold makeSliceV at h
      split at h
      · split at h
        · replace h := bs_some h
          rcases h with ⟨_, h⟩ | ⟨_, h⟩ <;> cases h
          exact ⟨_, (fun c h => by cases h), rfl⟩
        · cases h
      · cases h
    case call c =>
      obtain ⟨callee, args, tys⟩ := c
      cases callee <;> simp only [kindOf, pureOp] at hk <;> try (cases hk; done)
      rename_i b
      cases b <;> simp only [kindOf, pureOp] at hk <;> cases hk
theorem chk_notin {ops : List Oper} : ∀ (L : List Nat) (mask : Nat) (last : Option Nat), chkL E ops L mask last = true → ∀ i ∈ L, bit mask i = false
  | [], _, _, _, i, hi => by cases hi
  | k :: L, mask, last, h, i, hi => by
    have h' : chk1 E ops (chkL E ops L) k mask last = true := h
    clear h
    unfold chk1 at h'
    split at h'
    · cases h'
    · rename_i o ho
      simp only [Bool.and_eq_true, Bool.not_eq_true'] at h'
      obtain ⟨⟨⟨hk, _⟩, _⟩, hrest⟩ := h'
      cases hi with
      | head => exact hk
      | tail _ hi =>
        have := chk_notin L _ _ hrest i hi
        rw [bit_eq] at this ⊢
        have h2 : (mask ||| 2 ^ k).testBit i = false := this
        rw [Nat.testBit_or, Bool.or_eq_false_iff] at h2
        exact h2.1

include ok sok hs hdst in
theorem finAll_ok {pend : List Ent} {g : Gt} {A : AW} {tr : List Tr} {res : List Tr × AW} (h : finAll E sq pend g A tr = some res) (hw : WfTr ops tr) (hpe : ∀ e ∈ pend, PE E sq β0.d ops g0 tr e) (hpn : PN A pend) (hall : ∀ k o, ops[k]? = some o → ∃ x ∈ tr, x.i = k)
    (Q : Exit → Act → World → Prop) (hQ : ∀ β a w, FRel β n (gv (fun _ => True) res.1 g0) a.tmps → Inv w0 E.G β res.2 w → β0.grow β A0.next → A0.next ≤ res.2.next → a.defers = ds → Q .normal a w) (fuel : Nat) :
    ∀ (listed : Array Bool) (β : Ren) (a : Act) (w : World), listed.size = ops.length → open_ ops.length listed ≤ fuel → PJ w0 E n ops g0 β0 A0 ds (fun k => listed.getD k false = true) β A pend tr a w → wpAnyIn (wideR ro) 0 P .any ⟨ops⟩ Q fuel listed a w := by
  have h' : bs (lall (stab E sq A) pend) (some (tr, A)) none = some res := h
  clear h
  replace h' := bs_some h'
  rcases h' with ⟨hstab, h'⟩ | ⟨_, h'⟩
  · cases h'
    have hst := lall_eq _ _ hstab
    have fin : ∀ (listed : Array Bool) (β : Ren) (a : Act) (w : World), listed.size = ops.length → PJ w0 E n ops g0 β0 A0 ds (fun k => listed.getD k false = true) β A pend tr a w → Region.ready .any ⟨ops⟩ listed = [] → Q .normal a w := fun listed β a w hsz j hrd => by
      have all : ∀ x ∈ tr, listed.getD x.i false = true := fun x hx => Classical.byContradiction fun hn => by
        obtain ⟨y, hy, hny, o, ho, hr⟩ := first_open (D := fun k => listed.getD k false = true) hw ⟨x, hx, hn⟩
        have := ready_in ho hsz hny hr
        rw [hrd] at this
        cases this
      refine hQ β a w ?_ j.inv j.grow j.nxt j.defers
      have := j.frame
      rw [gv_ext (D' := fun _ => True) (fun x hx => ⟨fun _ => trivial, fun _ => all x hx⟩)] at this
      exact this
    induction fuel with
    | zero =>
      intro listed β a w hsz hopen j
      have hrd : Region.ready .any ⟨ops⟩ listed = [] := by
        cases hq : Region.ready .any ⟨ops⟩ listed with
        | nil => rfl
        | cons i r =>
          obtain ⟨o, ho, hn, _⟩ := ready_out (ops := ops) (i := i) hsz (by rw [hq]; exact List.mem_cons_self)
          have hi := (List.getElem?_eq_some_iff.1 ho).1
          have := open_set hi hsz (by simpa using hn)
          omega
      exact ⟨hrd, fin listed β a w hsz j hrd⟩
    | succ fuel ih =>
      intro listed β a w hsz hopen j
      refine ⟨fun hrd => fin listed β a w hsz j hrd, fun i hi => ?_⟩
      obtain ⟨o, ho, hn, hr⟩ := ready_out hsz hi
      have hlt := (List.getElem?_eq_some_iff.1 ho).1
      obtain ⟨x, hx, hxi⟩ := hall i o ho
      obtain ⟨e, he, hei⟩ := j.un x hx (by rw [hxi]; exact hn)
      have hei' : e.i = i := hei.trans hxi
      subst hei'
      have heo : e.o = o := by have := (hpe e he).op; rw [ho] at this; cases this; rfl
      subst heo
      refine calm_step ok sok hs hdst hw j hpe hpn.2 he (hst e he) hn hr (fun β' a' w' j' => ?_)
      rw [← set_D (by rw [hsz]; exact hlt)] at j'
      refine ih _ β' a' w' (by simp [hsz]) ?_ j'
      have := open_set hlt hsz (by simpa using hn)
      omega
  · cases h'
include ok sok hs hdst hc in
theorem phase_ok {ρ : Type} {fin : List Ent → Gt → AW → List Tr → Option ρ} {es : Nat} (Q : Exit → Act → World → Prop) (res : ρ) (out : Nat → Prop) (hout : ∀ k, out k → k ≠ es ∧ bit (bfs ops k) es = true)
    (hfin : ∀ pend g A tr, fin pend g A tr = some res → WfTr ops tr → g = gv (fun _ => True) tr g0 → (∀ e ∈ pend, PE E sq β0.d ops g0 tr e) → PN A pend → (∀ k o, ops[k]? = some o → (∃ x ∈ tr, x.i = k) ∨ out k) →
      ∀ (fuel : Nat) (listed : Array Bool) (β : Ren) (a : Act) (w : World), listed.size = ops.length → open_ ops.length listed ≤ fuel → PJ w0 E n ops g0 β0 A0 ds (fun k => listed.getD k false = true) β A pend tr a w → wpAnyIn (wideR ro) 0 P .any ⟨ops⟩ Q fuel listed a w) :
    ∀ (L : List Nat) (pend : List Ent) (g : Gt) (A : AW) (tr : List Tr) (mask : Nat) (last : Option Nat), phaseA E sq call ops fin L pend g A tr = some res → chkL E ops L mask last = true →
    (∀ k, bit mask k = true ↔ ∃ x ∈ tr, x.i = k) → WfTr ops tr → g = gv (fun _ => True) tr g0 → (∀ e ∈ pend, PE E sq β0.d ops g0 tr e) → PN A pend → (∀ k o, ops[k]? = some o → (∃ x ∈ tr, x.i = k) ∨ k ∈ L ∨ out k) → ((∃ k, out k) → L = [] ∨ L.getLast? = some es) →
    ∀ (fuel : Nat) (listed : Array Bool) (β : Ren) (a : Act) (w : World), listed.size = ops.length → open_ ops.length listed ≤ fuel → PJ w0 E n ops g0 β0 A0 ds (fun k => listed.getD k false = true) β A pend tr a w → wpAnyIn (wideR ro) 0 P .any ⟨ops⟩ Q fuel listed a w := by
  intro L
  induction L with
  | nil =>
    intro pend g A tr mask last h hchk hmask hw hg hpe hpn hall hes fuel
    exact hfin pend g A tr h hw hg hpe hpn (fun k o hk => (hall k o hk).imp id (fun h => h.resolve_left (by simp))) fuel
  | cons i0 L IH =>
    intro pend g A tr mask last h hchk hmask hw hg hpe hpn hall hes fuel
    have h' : phase1 E sq call ops (phaseA E sq call ops fin L) i0 pend g A tr = some res := h
    have hc' : chk1 E ops (chkL E ops L) i0 mask last = true := hchk
    clear h hchk
    unfold chk1 at hc'
    unfold phase1 at h'
    simp only [opD_eq] at h'
    rw [nth_eq] at hc' h'
    cases ho : ops[i0]? with
    | none => rw [ho] at h'; cases h'
    | some o =>
      rw [ho] at hc' h'
      simp only [Bool.and_eq_true, Bool.not_eq_true'] at hc' h'
      obtain ⟨⟨⟨hk0, hrdB⟩, hlast⟩, hrest⟩ := hc'
      have hni : ∀ x ∈ tr, x.i ≠ i0 := fun x hx e => by rw [(hmask i0).2 ⟨x, hx, e⟩] at hk0; cases hk0
      have hpre : ∀ e ∈ o.after.toList, Region.binds .any e = true → ∃ y ∈ tr, y.i = e.on := fun e he hb => by
        have := lall_eq _ _ hrdB e he
        rw [hb, bs_true] at this
        exact (hmask e.on).1 this
      have hbit : ∀ q, bit (Nat.lor mask (Nat.pow 2 i0)) q = (bit mask q || decide (i0 = q)) := fun q => by
        rw [bit_eq, bit_eq]
        show (mask ||| 2 ^ i0).testBit q = _
        rw [Nat.testBit_or, Nat.testBit_two_pow]
      have hmask' : ∀ v k, bit (Nat.lor mask (Nat.pow 2 i0)) k = true ↔ ∃ x ∈ ((⟨i0, o.dst, v⟩ : Tr) :: tr), x.i = k := fun v k => by
        rw [hbit, Bool.or_eq_true, hmask k]
        constructor
        · rintro (⟨x, hx, hxi⟩ | h)
          · exact ⟨x, List.mem_cons_of_mem _ hx, hxi⟩
          · exact ⟨_, List.mem_cons_self, of_decide_eq_true h⟩
        · rintro ⟨x, hx, hxi⟩
          cases hx with
          | head => exact .inr (decide_eq_true hxi)
          | tail _ hx => exact .inl ⟨x, hx, hxi⟩
      have hw' : ∀ v, WfTr ops ((⟨i0, o.dst, v⟩ : Tr) :: tr) := fun v => ⟨hw, hni, o, ho, rfl, hpre⟩
      have hg' : ∀ v, updO g o.dst v = gv (fun _ => True) ((⟨i0, o.dst, v⟩ : Tr) :: tr) g0 := fun v => by rw [gv_all_cons, hg]
      have hall' : ∀ v k o', ops[k]? = some o' → (∃ x ∈ ((⟨i0, o.dst, v⟩ : Tr) :: tr), x.i = k) ∨ k ∈ L ∨ out k := fun v k o' hk => by
        rcases hall k o' hk with ⟨x, hx, hxi⟩ | hk | hk
        · exact .inl ⟨x, List.mem_cons_of_mem _ hx, hxi⟩
        · cases hk with
          | head => exact .inl ⟨_, List.mem_cons_self, rfl⟩
          | tail _ hk => exact .inr (.inl hk)
        · exact .inr (.inr hk)
      have hes' : (∃ k, out k) → L = [] ∨ L.getLast? = some es := fun hk => by
        cases L with
        | nil => exact .inl rfl
        | cons l0 L0 =>
          have := (hes hk).resolve_left (by simp)
          rw [List.getLast?_cons_cons] at this
          exact .inr this
      have hesm : ∀ k, out k → es ∈ i0 :: L := fun k hk => List.mem_of_getLast? ((hes ⟨k, hk⟩).resolve_left (by simp))
      split at h'
      · cases h'
      rename_i wd hwant
      replace h' := bs_some h'
      rcases h' with ⟨hkind, h'⟩ | ⟨hkind, h'⟩
      · -- an effect
        have hk2 : 2 ≤ kindOf E o.op := Nat.le_of_ble_eq_true hkind
        rw [hkind, bs_true] at hrest
        replace h' := bs_some h'
        rcases h' with ⟨hstab, h'⟩ | ⟨_, h'⟩
        rotate_left
        · cases h'
        have hst := lall_eq _ _ hstab
        have hpe' : ∀ v, ∀ e ∈ lfilter (fun e => not (bit (bfs ops i0) e.i)) pend, PE E sq β0.d ops g0 ((⟨i0, o.dst, v⟩ : Tr) :: tr) e := fun v e he => by
          rw [lfilter_eq, List.mem_filter] at he
          exact (hpe e he.1).cons _
        have hpn' : ∀ A' : AW, A.next ≤ A'.next → PN A' (lfilter (fun e => not (bit (bfs ops i0) e.i)) pend) := fun A' hA => by
          refine ⟨fun e he N b hb => ?_, fun e he e' he' N b b' hb hb' => ?_⟩
          · rw [lfilter_eq, List.mem_filter] at he
            exact Nat.lt_of_lt_of_le (hpn.1 e he.1 N b hb) hA
          · rw [lfilter_eq, List.mem_filter] at he he'
            exact hpn.2 e he.1 e' he'.1 N b b' hb hb'
        -- executing it in any order
        have eff : ∀ (fuel : Nat) (listed : Array Bool) (β : Ren) (a : Act) (w : World), listed.size = ops.length → open_ ops.length listed ≤ fuel + 1 → PJ w0 E n ops g0 β0 A0 ds (fun k => listed.getD k false = true) β A pend tr a w →
            ¬ listed.getD i0 false = true → (∀ e ∈ o.after.toList, Region.binds .any e = true → listed.getD e.on false = true) → wpOpIn (wideR ro) 0 P ⟨ops⟩ Q i0 (wpAnyIn (wideR ro) 0 P .any ⟨ops⟩ Q fuel (listed.setIfInBounds i0 true)) a w := fun fuel listed β a w hsz hopen j hn hr => by
          have hlt := (List.getElem?_eq_some_iff.1 ho).1
          have hop := open_set hlt hsz (by simpa using hn)
          have hsz' : (listed.setIfInBounds i0 true).size = ops.length := by simp [hsz]
          have ag : ∀ t ∈ o.looksAt ⟨ops⟩, gv (fun k => listed.getD k false = true) tr g0 t = g t := fun t ht => by
            have := agree hs j.clo ho hr hn (tr := (⟨i0, o.dst, undef⟩ : Tr) :: tr) (tl := tr) (pre := []) (x0 := ⟨i0, o.dst, undef⟩) rfl rfl (hw' undef) (hw' undef) g0 ht
            rw [gv_cons_out (x := ⟨i0, o.dst, undef⟩) hn] at this
            rw [hg]; exact this
          have hwant2 := want_ok (a := a) (by rw [wantA_congr ag]; exact hwant) j.frame
          have goOn : ∀ β' v v' A' w', VRel β' v v' → Inv w0 E.G β' A' w' → β.grow β' A.next → A.next ≤ A'.next → phaseA E sq call ops fin L (lfilter (fun e => not (bit (bfs ops i0) e.i)) pend) (updO g o.dst v) A' (⟨i0, o.dst, v⟩ :: tr) = some res →
              wpAnyIn (wideR ro) 0 P .any ⟨ops⟩ Q fuel (listed.setIfInBounds i0 true) (a.put o.dst v') w' := fun β' v v' A' w' hv hinv hgr hn' hph => by
            have j' := next_pj hdst j ho hni hr hv hinv hgr hn'
            rw [← set_D (by rw [hsz]; exact hlt)] at j'
            exact IH _ _ _ _ _ _ hph hrest (hmask' v) (hw' v) (hg' v) (hpe' v) (hpn' A' hn') (hall' v) hes' fuel _ β' _ w' hsz' (by omega) j'
          unfold wpOpIn
          have hop2 : (⟨ops⟩ : Array Oper)[i0]? = some o := by simpa using ho
          simp only [hop2]
          rw [hwant2]
          cases wd with
          | false =>
            rw [if_neg (by simp)]
            rw [bs_false] at h'
            exact ⟨fun _ _ => trivial, goOn β undef undef A w VRel.undef j.inv (Ren.grow_refl _ _) (Nat.le_refl _) h'⟩
          | true =>
            rw [if_pos rfl]
            rw [bs_true] at h'
            have oc : opT E sq A (gv (fun k => listed.getD k false = true) tr g0) o.op = opT E sq A g o.op := opT_congr (opnds_congr ag)
            cases hopr : opT E sq A g o.op with
            | fail => rw [hopr] at h'; cases h'
            | nd q => rw [hopr] at h'; cases h'
            | val v A' =>
              rw [hopr] at h'
              simp only [forceV_eq, forceA_eq] at h'
              exact wp_val ok sok j.inv j.frame (oc.trans hopr) (fun β' v' w' hv hinv hgr hn' => goOn β' v v' A' w' hv hinv hgr hn' h')
            | call f args =>
              rw [hopr] at h'
              simp only at h'
              split at h'
              · rename_i v A' hcall
                refine wp_call ok j.inv j.frame hc (oc.trans hopr) hcall (fun p hp β' v' w' hv hinv hgr hn' => ?_)
                simp only [List.mem_singleton] at hp
                subst hp
                exact goOn β' v v' A' w' hv hinv hgr hn' h'
              · cases h'
        -- the induction on what is left
        have i0ready : ∀ (listed : Array Bool) (β : Ren) (a : Act) (w : World), listed.size = ops.length → PJ w0 E n ops g0 β0 A0 ds (fun k => listed.getD k false = true) β A pend tr a w → Region.ready .any ⟨ops⟩ listed ≠ [] := fun listed β a w hsz j hrd => by
          have hn0 : ¬ listed.getD i0 false = true := fun h => by obtain ⟨x, hx, hxi⟩ := j.only i0 h; exact hni x hx hxi
          have all : ∀ x ∈ tr, listed.getD x.i false = true := fun x hx => Classical.byContradiction fun hn => by
            obtain ⟨y, hy, hny, o', ho', hr⟩ := first_open (D := fun k => listed.getD k false = true) hw ⟨x, hx, hn⟩
            have := ready_in ho' hsz hny hr
            rw [hrd] at this
            cases this
          have := ready_in ho hsz hn0 (fun e he hb => by obtain ⟨y, hy, hyi⟩ := hpre e he hb; exact hyi ▸ all y hy)
          rw [hrd] at this
          cases this
        induction fuel with
        | zero =>
          intro listed β a w hsz hopen j
          exfalso
          have hne := i0ready listed β a w hsz j
          cases hq : Region.ready .any ⟨ops⟩ listed with
          | nil => exact hne hq
          | cons i r =>
            obtain ⟨o', ho', hn, _⟩ := ready_out (ops := ops) (i := i) hsz (by rw [hq]; exact List.mem_cons_self)
            have := open_set (List.getElem?_eq_some_iff.1 ho').1 hsz (by simpa using hn)
            omega
        | succ fuel ih =>
          intro listed β a w hsz hopen j
          refine ⟨fun hrd => absurd hrd (i0ready listed β a w hsz j), fun i hi => ?_⟩
          obtain ⟨o', ho', hn, hr⟩ := ready_out hsz hi
          have hlt := (List.getElem?_eq_some_iff.1 ho').1
          rcases hall i o' ho' with ⟨x, hx, hxi⟩ | hmem | hmem
          · obtain ⟨e, he, hei⟩ := j.un x hx (by rw [hxi]; exact hn)
            have hei' : e.i = i := hei.trans hxi
            subst hei'
            have heo : e.o = o' := by have := (hpe e he).op; rw [ho'] at this; cases this; rfl
            subst heo
            refine calm_step ok sok hs hdst hw j hpe hpn.2 he (hst e he) hn hr (fun β' a' w' j' => ?_)
            rw [← set_D (by rw [hsz]; exact hlt)] at j'
            refine ih _ β' a' w' (by simp [hsz]) ?_ j'
            have := open_set hlt hsz (by simpa using hn)
            omega
          · cases hmem with
            | head =>
              rw [ho] at ho'; cases ho'
              exact eff fuel listed β a w hsz hopen j hn hr
            | tail _ hmem =>
              exfalso
              obtain ⟨e, he1, he2, he3⟩ := chk_rest L _ i0 hrest (by rw [hbit]; simp) i hmem
              have hDe := (bfs_ready j.clo ho' hr he3).resolve_right he2
              obtain ⟨x, hx, hxe⟩ := j.only e hDe
              rcases he1 with rfl | he1
              · exact hni x hx hxe
              · have h1 := chk_notin L _ _ hrest e he1
                rw [(hmask' undef e).2 ⟨x, List.mem_cons_of_mem _ hx, hxe⟩] at h1
                cases h1
          · exfalso
            obtain ⟨hne, hbt⟩ := hout i hmem
            have hDe := (bfs_ready j.clo ho' hr hbt).resolve_right hne.symm
            obtain ⟨x, hx, hxe⟩ := j.only es hDe
            cases hesm i hmem with
            | head => exact hni x hx hxe
            | tail _ he1 =>
              have h1 := chk_notin L _ _ hrest es he1
              rw [(hmask' undef es).2 ⟨x, List.mem_cons_of_mem _ hx, hxe⟩] at h1
              cases h1
      · -- a calm operation
        have hk1 : kindOf E o.op ≤ 1 := by
          have : ¬ 2 ≤ kindOf E o.op := fun e => by rw [Nat.ble_eq_true_of_le e] at hkind; cases hkind
          omega
        rw [hkind, bs_false] at hrest
        intro listed β a w hsz hopen j
        have advance : ∀ (v : Value) (A' : AW) (wd' : Bool) (nb : Option (Nat × Blk)) (sy : Option Node), phaseA E sq call ops fin L (⟨i0, o, g, v, wd', nb, sy⟩ :: pend) (updO g o.dst v) A' (⟨i0, o.dst, v⟩ :: tr) = some res → (A' = A ∨ (∃ blk, Plain blk ∧ A' = A.add blk) ∨ ∃ r, (∀ nd ∈ r, nd ∈ A.tape) ∧ A' = A.pop r) →
            (∀ N b, nb = some (N, b) → N = A.next ∧ A.next < A'.next) → wantA ops g o = some wd' → (wd' = false → v = undef) → (wd' = true → nb = none → sy = none → kindOf E o.op = 0 ∧ ∃ A1, opA E sq A1 g o.op = .val v A1) →
            (wd' = true → ∀ N blk, nb = some (N, blk) → kindOf E o.op = 1 ∧ ∃ A1 A2, A1.next = N ∧ A1.get N = none ∧ opA E sq A1 g o.op = .val v A2 ∧ A2.get N = some blk) → (∀ nd, sy = some nd → nb = none ∧ wd' = true ∧ symV E sq g o.op nd = some v ∧ OpQ β0.d nd) → wpAnyIn (wideR ro) 0 P .any ⟨ops⟩ Q fuel listed a w := fun v A' wd' nb sy hph hA hnb hwt hunw hqt hfr hsy => by
          have hn' : A.next ≤ A'.next := by
            rcases hA with rfl | ⟨blk, _, rfl⟩ | ⟨r, _, rfl⟩
            · exact Nat.le_refl _
            · exact Nat.le_succ _
            · exact Nat.le_refl _
          have j' := calm_pj (e := ⟨i0, o, g, v, wd', nb, sy⟩) (v := v) j hk1 ho hni rfl hA hnb
          refine IH _ _ _ _ _ _ hph hrest (hmask' v) (hw' v) (hg' v) (fun e he => ?_) ⟨fun e he N b hb => ?_, fun e he e' he' N b b' hb hb' => ?_⟩ (hall' v) hes' fuel listed β a w hsz hopen j'
          · cases he with
            | head => exact ⟨⟨[], ⟨i0, o.dst, v⟩, tr, rfl, rfl, rfl, hw' v, hg⟩, ho, hk1, hwt, hunw, hqt, hfr, hsy⟩
            | tail _ he => exact (hpe e he).cons _
          · cases he with
            | head => obtain ⟨rfl, h2⟩ := hnb N b hb; exact h2
            | tail _ he => exact Nat.lt_of_lt_of_le (hpn.1 e he N b hb) hn'
          · cases he with
            | head => cases he' with
              | head => rfl
              | tail _ he' =>
                have h1 := (hnb N b hb).1
                have h2 := hpn.1 e' he' N b' hb'
                omega
            | tail _ he => cases he' with
              | head =>
                have h1 := (hnb N b' hb').1
                have h2 := hpn.1 e he N b hb
                omega
              | tail _ he' => exact hpn.2 e he e' he' N b b' hb hb'
        cases wd with
        | false =>
          rw [bs_false] at h'
          exact advance undef A false none none h' (.inl rfl) (fun N b hb => by cases hb) hwant (fun _ => rfl) (fun e => by cases e) (fun e => by cases e) (fun nd e => by cases e)
        | true =>
          rw [bs_true] at h'
          cases hopr : opA E sq A g o.op with
          | fail =>
            rw [hopr] at h'
            simp only at h'
            split at h'
            · cases h'
            · rename_i nd r ht
              split at h'
              · rename_i v hv
                have hmem : ∀ x ∈ r, x ∈ A.tape := fun x hx => by rw [ht]; exact List.mem_cons_of_mem _ hx
                refine advance v (A.pop r) true none (some nd) h' (.inr (.inr ⟨r, hmem, rfl⟩)) (fun N b hb => by cases hb) hwant (fun e => by cases e) (fun _ _ e => by cases e) (fun _ N b hb => by cases hb) (fun nd' e => ?_)
                cases e
                exact ⟨rfl, rfl, hv, by rw [← j.grow.d]; exact ok.q _ _ (j.inv.nds nd (by rw [ht]; exact List.mem_cons_self))⟩
              · cases h'
          | nd q => rw [hopr] at h'; cases h'
          | call f args => rw [hopr] at h'; cases h'
          | val v A' =>
            rw [hopr] at h'
            simp only [forceV_eq, forceA_eq] at h'
            replace h' := bs_some h'
            rcases h' with ⟨hkk, h'⟩ | ⟨hkk, h'⟩
            · have hkk' := Nat.eq_of_beq_eq_true hkk
              split at h'
              · rename_i b hb
                obtain ⟨blk, hpl, hadd⟩ := fresh_add hkk' hopr
                have hnx : A.next < A'.next := by rw [hadd]; exact Nat.lt_succ_self _
                refine advance v A' true (some (A.next, b)) none h' (.inr (.inl ⟨blk, hpl, hadd⟩)) (fun N b' hb' => by cases hb'; exact ⟨rfl, hnx⟩) hwant (fun e => by cases e) (fun _ e => by cases e) (fun _ N b' hb' => ?_) (fun nd e => by cases e)
                cases hb'
                exact ⟨hkk', A, A', rfl, j.inv.nxt _ (Nat.le_refl _), hopr, hb⟩
              · cases h'
            · have hk0' : kindOf E o.op = 0 := by
                have : ¬ kindOf E o.op = 1 := fun e => by rw [e] at hkk; cases hkk
                omega
              have hsame := quiet_same hk0' hopr
              subst hsame
              exact advance v A' true none none h' (.inl rfl) (fun N b hb => by cases hb) hwant (fun e => by cases e) (fun _ _ _ => ⟨hk0', A', hopr⟩) (fun _ N b hb => by cases hb) (fun nd e => by cases e)
end
end Go.Ex
