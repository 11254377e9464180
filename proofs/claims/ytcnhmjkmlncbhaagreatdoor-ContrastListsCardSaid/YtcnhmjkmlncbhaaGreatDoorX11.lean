/- A verified evaluator of Go functions on partly symbolic values, part 11 of 17. -/
import Derived.Test.YtcnhmjkmlncbhaaGreatDoorX10
namespace Go.Ex
open Go.RowKit

/-- a store into a tree, the path built before one goes on -/
noncomputable def T.setK {α : Type} {ρ : Type} (t : T α) : Nat → α → (T α → ρ) → ρ :=
  T.rec (motive := fun _ => Nat → α → (T α → ρ) → ρ) (fun _ _ k => k .nil)
    (fun l v r sl sr n x k => Nat.rec (motive := fun _ => ρ) (k (.node l x r)) (fun p _ => Nat.rec (motive := fun _ => ρ) (sl (Nat.div p 2) x (fun l' => k (.node l' v r))) (fun _ _ => sr (Nat.div p 2) x (fun r' => k (.node l v r'))) (Nat.mod p 2)) n) t
theorem T.setK_eq {α ρ : Type} (t : T α) : ∀ (n : Nat) (x : α) (k : T α → ρ), t.setK n x k = k (t.set n x) := by
  induction t with
  | nil => intro n x k; rfl
  | node l v r hl hr =>
    intro n x k
    cases n with
    | zero => rfl
    | succ p =>
      show Nat.rec (motive := fun _ => ρ) (l.setK (p / 2) x (fun l' => k (.node l' v r))) (fun _ _ => r.setK (p / 2) x (fun r' => k (.node l v r'))) (Nat.mod p 2) =
        k (Nat.rec (motive := fun _ => T α) (.node (l.set (p / 2) x) v r) (fun _ _ => .node l v (r.set (p / 2) x)) (Nat.mod p 2))
      rw [hl, hr, par, par]
      split <;> rfl

noncomputable def forceN {ρ : Type} (n : Nat) (k : Nat → ρ) : ρ := Nat.rec (motive := fun _ => ρ) (k 0) (fun p _ => k (Nat.succ p)) n
theorem forceN_eq {ρ : Type} (n : Nat) (k : Nat → ρ) : forceN n k = k n := by cases n <;> rfl
noncomputable def forceV {ρ : Type} (v : Value) (k : Value → ρ) : ρ :=
  vcase (ρ := (Value → ρ) → ρ) (fun b _ k => bs b (k (.bool true)) (k (.bool false)))
    (fun kd n _ k => Int.rec (motive := fun _ => ρ) (fun m => forceN m (fun m => k (.int kd (.ofNat m)))) (fun m => forceN m (fun m => k (.int kd (.negSucc m)))) n)
    (fun _ v k => k v) (fun _ v k => k v) (fun _ _ _ v k => k v) (fun _ v k => k v) (fun v k => k v) v v k
theorem forceV_eq {ρ : Type} (v : Value) (k : Value → ρ) : forceV v k = k v := by
  cases v with
  | bool b => cases b <;> rfl
  | int kd n =>
    cases n with
    | ofNat m => exact forceN_eq m (fun m => k (.int kd (.ofNat m)))
    | negSucc m => exact forceN_eq m (fun m => k (.int kd (.negSucc m)))
  | _ => rfl
noncomputable def forceA {ρ : Type} (A : AW) (k : AW → ρ) : ρ := match A with | ⟨h, n, tp⟩ => forceN n (fun n => match h with | .nil => k ⟨.nil, n, tp⟩ | .node a b c => k ⟨.node a b c, n, tp⟩)
theorem forceA_eq {ρ : Type} (A : AW) (k : AW → ρ) : forceA A k = k A := by
  obtain ⟨h, n, tp⟩ := A
  unfold forceA
  simp only [forceN_eq]
  cases h <;> rfl

abbrev Out (α : Type) := Option (List (α × AW))
noncomputable def bindL {α γ : Type} (f : α → Option (List γ)) (l : List α) : Option (List γ) :=
  List.rec (motive := fun _ => Option (List γ)) (some []) (fun a _ ih => match f a with | none => none | some r => match ih with | none => none | some q => some (lapp r q)) l
noncomputable def bindO {α γ : Type} (x : Option (List α)) (f : α → Option (List γ)) : Option (List γ) :=
  match x with
  | none => none
  | some [a] => f a
  | some l => bindL f l
theorem bindL_mem {α γ : Type} {f : α → Option (List γ)} : ∀ {l : List α} {q : List γ}, bindL f l = some q → ∀ a ∈ l, ∃ r, f a = some r ∧ ∀ c ∈ r, c ∈ q
  | [], _, _, a, ha => by cases ha
  | b :: l, q, h, a, ha => by
    have h' : (match f b with | none => none | some r => match bindL f l with | none => none | some q => some (lapp r q)) = some q := h
    clear h
    split at h'
    · cases h'
    · rename_i r hr
      split at h'
      · cases h'
      · rename_i q2 hq2
        cases h'
        cases ha with
        | head => exact ⟨r, hr, fun c hc => by rw [lapp_eq]; exact List.mem_append_left _ hc⟩
        | tail _ ha =>
          obtain ⟨r2, h1, h2⟩ := bindL_mem hq2 a ha
          exact ⟨r2, h1, fun c hc => by rw [lapp_eq]; exact List.mem_append_right _ (h2 c hc)⟩
theorem bindO_mem {α γ : Type} {x : Option (List α)} {f : α → Option (List γ)} {q : List γ} (h : bindO x f = some q) : ∃ l, x = some l ∧ ∀ a ∈ l, ∃ r, f a = some r ∧ ∀ c ∈ r, c ∈ q := by
  unfold bindO at h
  split at h
  · cases h
  · rename_i a
    exact ⟨[a], rfl, fun b hb => by simp at hb; subst hb; exact ⟨q, h, fun c hc => hc⟩⟩
  · rename_i l _
    exact ⟨l, rfl, bindL_mem h⟩

noncomputable def putK {γ : Type} (n : Nat) (fr : Fr) (dst : Option Tmp) (v : Value) (k : Fr → Option (List γ)) : Option (List γ) :=
  Option.rec (motive := fun _ => Nat → Fr → Value → (Fr → Option (List γ)) → Option (List γ)) (fun _ fr _ k => k fr)
    (fun d n fr v k => Bool.rec (motive := fun _ => Option (List γ)) none (forceV v (fun v => fr.setK d v k)) (Nat.ble (Nat.succ d) n)) dst n fr v k

/-- is an operation wanted? -/
noncomputable def wantA (ops : List Oper) (fr : Gt) (o : Oper) : Option Bool :=
  match o.guard with
  | none => some true
  | some (j, want) => match nth ops j with
    | some g => match g.dst with
      | some t => match fr t with
        | .bool b => some (bs b want (not want))
        | .chan _ => none
        | _ => some false
      | none => some false
    | none => some false

abbrev ArmT := (Tgt → List Value → AW → Out Value) → Nat → Oper → (Fr → AW → Out Fr) → Fr → AW → Out Fr
noncomputable def armR (r : R) : ArmT :=
  R.rec (motive := fun _ => ArmT)
    (fun _ _ _ _ _ _ => none)
    (fun v A' _ n o ih fr _ => putK n fr o.dst v (fun fr => forceA A' (fun A' => ih fr A')))
    (fun f args call n o ih fr A => bindO (call f args A) (fun p => putK n fr o.dst p.1 (fun fr => ih fr p.2)))
    (fun q _ n o ih fr _ => bindO (some q) (fun p => putK n fr o.dst p.1 (fun fr => ih fr p.2))) r
noncomputable def armW (w : Option Bool) : R → ArmT :=
  Option.rec (motive := fun _ => R → ArmT) (fun _ _ _ _ _ _ _ => none)
    (Bool.rec (motive := fun _ => R → ArmT) (fun _ _ n o ih fr A => putK n fr o.dst undef (fun fr => ih fr A)) armR) w
theorem armW_eq (w : Option Bool) (r : R) (call : Tgt → List Value → AW → Out Value) (n : Nat) (o : Oper) (ih : Fr → AW → Out Fr) (fr : Fr) (A : AW) : armW w r call n o ih fr A = match w with
      | none => none
      | some false => putK n fr o.dst undef (fun fr => ih fr A)
      | some true => match r with
        | .fail => none
        | .val v A' => putK n fr o.dst v (fun fr => forceA A' (fun A' => ih fr A'))
        | .call f args => bindO (call f args A) (fun p => putK n fr o.dst p.1 (fun fr => ih fr p.2))
        | .nd q => bindO (some q) (fun p => putK n fr o.dst p.1 (fun fr => ih fr p.2)) := by
  cases w with
  | none => rfl
  | some b =>
    cases b with
    | false => rfl
    | true => cases r <;> rfl

section
variable (E : Env) (sq : List (Nat × List IntKind)) (call : Tgt → List Value → AW → Out Value) (n : Nat)
noncomputable def opsA (ops : List Oper) (l : List Oper) : Fr → AW → Out Fr :=
  List.rec (motive := fun _ => Fr → AW → Out Fr) (fun fr A => some [(fr, A)])
    (fun o _ ih fr A => armW (wantA ops (fr.get J) o) (opT E sq A (fr.get J) o.op) call n o ih fr A) l

/-- the marks of loops over functions are taken -/
noncomputable def takeM (ms : List Nat) : AW → Option AW :=
  List.rec (motive := fun _ => AW → Option AW) (fun A => some A) (fun D _ ih A => match A.get D with
    | some ⟨.dfr, _, _, _, _⟩ => bs (Nat.ble E.G.n D) (ih (A.put D none)) none
    | _ => none) ms
/-- the state of a loop whose round is left -/
def lstOf (j : Option Code) : LSt := match j with | none => .ready | some j => .done j
/-- a round is left -/
noncomputable def leaveA (j : LSt) (L : Nat) (fr : Fr) (A : AW) : Out Fr :=
  match A.get L with
  | some ⟨.loop .busy t m ps a b, es, ex, r, ty⟩ => bs (Nat.ble E.G.n L) (some [(fr, A.put L (some ⟨.loop j t m ps a b, es, ex, r, ty⟩))]) none
  | _ => none
/-- the end of an activation, or of a round -/
noncomputable def endA (ro : Option Nat) (ms : List Nat) (fr : Fr) (A : AW) : Out Fr :=
  match ro with
  | none => match takeM E ms A with
    | some A' => some [(fr, A')]
    | none => none
  | some L => leaveA E .ready L fr A
/-- a jump that leaves a round -/
noncomputable def jumpA (ro : Option Nat) (j : Code) (fr : Fr) (A : AW) : Out Fr :=
  match ro with
  | none => none
  | some L => leaveA E (.done j) L fr A
/-- a loop over a function -/
noncomputable def rangeA (ih : List Nat → List Item → Fr → AW → Out Fr) (ms : List Nat) (f : Operand) (ps : List Nat) (a b : Code) (k : List Item) (fr : Fr) (A : AW) : Out Fr :=
  match callV E A (ev E (fr.get J) f) [.func (.yield (Nat.add A.next 1)) ⟨[]⟩ ⟨[]⟩] with
  | .call (.fn g) args => bs (Nat.ble E.G.n A.next) (bindO (call (.fn g) args ((A.add ⟨.dfr, 0, true, false, 0⟩).add ⟨.loop .ready fr n ps a b, 0, true, false, 0⟩)) (fun p =>
      match p.2.get (Nat.add A.next 1) with
      | some ⟨.loop .ready _ _ _ _ _, _, _, _, _⟩ => ih (A.next :: ms) k fr (p.2.put (Nat.add A.next 1) none)
      | some ⟨.loop (.done j) _ _ _ _ _, _, _, _, _⟩ => ih (A.next :: ms) (.code j :: k) fr (p.2.put (Nat.add A.next 1) none)
      | _ => none)) none
  | _ => none
noncomputable def stepA (draw : List Oper → Fr → AW → Out Fr) (ro : Option Nat) (ih : List Nat → List Item → Fr → AW → Out Fr) (ms : List Nat) (todo : List Item) (fr : Fr) (A : AW) : Out Fr :=
  match todo with
  | [] => endA E ro ms fr A
  | .code .ret :: _ => match ro with | none => endA E none ms fr A | some L => jumpA E (some L) .ret fr A
  | .code .skip :: k => ih ms k fr A
  | .code (.label _) :: k => ih ms k fr A
  | .code (.seq a b) :: k => ih ms (.code a :: .code b :: k) fr A
  | .code (.cond c x y) :: k => match ev E (fr.get J) c with
        | .bool b => ih ms (.code (bs b x y) :: k) fr A
        | _ => none
  | .code (.block id c) :: k => ih ms (.code c :: .inBlock id :: k) fr A
  | .code (.loop c) :: k => ih ms (.code c :: .inLoop c :: k) fr A
  | .code (.scope c) :: k => ih ms (.code c :: .inScope c :: k) fr A
  | .code (.exit id) :: k => match exitTo id k with | some k' => ih ms k' fr A | none => jumpA E ro (.exit id) fr A
  | .code (.goto l) :: k => match gotoIn l k with | some k' => ih ms k' fr A | none => jumpA E ro (.goto l) fr A
  | .code (.region _ ⟨ops⟩ false) :: k => bindO (opsA E sq call n ops ops fr A) (fun p => ih ms k p.1 p.2)
  | .code (.region _ ⟨ops⟩ true) :: k => bindO (draw ops fr A) (fun p => ih ms k p.1 p.2)
  | .code (.rangeFunc f ⟨ps⟩ a b) :: k => match ro with | none => rangeA E call n ih ms f ps a b k fr A | some _ => none
  | .beginRound :: k => match ro with
    | none => none
    | some L => match A.get L with
      | some ⟨.loop .ready t m ps a b, es, ex, r, ty⟩ => bs (Nat.ble E.G.n L) (ih ms k fr (A.put L (some ⟨.loop .busy t m ps a b, es, ex, r, ty⟩))) none
      | _ => none
  | .inBlock _ :: k => ih ms k fr A
  | .inScope _ :: k => ih ms k fr A
  | .inLoop c :: k => ih ms (.code c :: .inLoop c :: k) fr A
  | _ => none
/-! the same, for the kernel -/
abbrev StepT := List Item → Env → List (Nat × List IntKind) → (Tgt → List Value → AW → Out Value) → Nat → (List Oper → Fr → AW → Out Fr) → Option Nat → (List Nat → List Item → Fr → AW → Out Fr) → List Nat → Fr → AW → Out Fr
noncomputable def beginA (E : Env) (ro : Option Nat) (ih : List Nat → List Item → Fr → AW → Out Fr) (ms : List Nat) (k : List Item) (fr : Fr) (A : AW) : Out Fr :=
  match ro with
    | none => none
    | some L => match A.get L with
      | some ⟨.loop .ready t m ps a b, es, ex, r, ty⟩ => bs (Nat.ble E.G.n L) (ih ms k fr (A.put L (some ⟨.loop .busy t m ps a b, es, ex, r, ty⟩))) none
      | _ => none
noncomputable def codeD (c : Code) : StepT :=
  Code.rec (motive := fun _ => StepT)
    (fun k _ _ _ _ _ _ ih ms fr A => ih ms k fr A)
    (fun _ ops dr k E sq call n draw _ ih ms fr A => bs dr (bindO (draw ops.toList fr A) (fun p => ih ms k p.1 p.2)) (bindO (opsA E sq call n ops.toList ops.toList fr A) (fun p => ih ms k p.1 p.2)))
    (fun a b _ _ k _ _ _ _ _ _ ih ms fr A => ih ms (.code a :: .code b :: k) fr A)
    (fun c x y _ _ k E _ _ _ _ _ ih ms fr A => match ev E (fr.get J) c with | .bool b => ih ms (.code (bs b x y) :: k) fr A | _ => none)
    (fun id c _ k _ _ _ _ _ _ ih ms fr A => ih ms (.code c :: .inBlock id :: k) fr A)
    (fun c _ k _ _ _ _ _ _ ih ms fr A => ih ms (.code c :: .inLoop c :: k) fr A)
    (fun f ps a b _ _ k E _ call n _ ro ih ms fr A => match ro with | none => rangeA E call n ih ms f ps.toList a b k fr A | some _ => none)
    (fun id k E _ _ _ _ ro ih ms fr A => match exitTo id k with | some k' => ih ms k' fr A | none => jumpA E ro (.exit id) fr A)
    (fun c _ k _ _ _ _ _ _ ih ms fr A => ih ms (.code c :: .inScope c :: k) fr A)
    (fun _ k _ _ _ _ _ _ ih ms fr A => ih ms k fr A)
    (fun l k E _ _ _ _ ro ih ms fr A => match gotoIn l k with | some k' => ih ms k' fr A | none => jumpA E ro (.goto l) fr A)
    (fun _ E _ _ _ _ ro _ ms fr A => match ro with | none => endA E none ms fr A | some L => jumpA E (some L) .ret fr A)
    (fun _ _ _ _ _ _ _ _ _ _ _ _ => none) c
noncomputable def itemD (i : Item) : StepT :=
  Item.rec (motive := fun _ => StepT)
    (fun c => codeD c)
    (fun _ k _ _ _ _ _ _ ih ms fr A => ih ms k fr A)
    (fun c k _ _ _ _ _ _ ih ms fr A => ih ms (.code c :: .inLoop c :: k) fr A)
    (fun _ k _ _ _ _ _ _ ih ms fr A => ih ms k fr A)
    (fun _ _ _ _ _ _ _ _ _ _ _ _ _ => none)
    (fun _ _ _ _ _ _ _ _ _ _ _ _ => none)
    (fun _ _ _ _ _ _ _ _ _ _ _ _ => none)
    (fun k E _ _ _ _ ro ih ms fr A => beginA E ro ih ms k fr A)
    (fun _ _ _ _ _ _ _ _ _ _ _ _ _ _ _ => none)
    (fun _ _ _ _ _ _ _ _ _ _ _ _ _ => none) i
noncomputable def stepD (draw : List Oper → Fr → AW → Out Fr) (ro : Option Nat) (ih : List Nat → List Item → Fr → AW → Out Fr) (ms : List Nat) (todo : List Item) (fr : Fr) (A : AW) : Out Fr :=
  List.rec (motive := fun _ => Env → List (Nat × List IntKind) → (Tgt → List Value → AW → Out Value) → Nat → (List Oper → Fr → AW → Out Fr) → Option Nat → (List Nat → List Item → Fr → AW → Out Fr) → List Nat → Fr → AW → Out Fr)
    (fun E _ _ _ _ ro _ ms fr A => endA E ro ms fr A) (fun i k _ => itemD i k) todo E sq call n draw ro ih ms fr A
theorem stepD_eq (draw : List Oper → Fr → AW → Out Fr) (ro : Option Nat) (ih : List Nat → List Item → Fr → AW → Out Fr) (ms : List Nat) (todo : List Item) (fr : Fr) (A : AW) : stepD E sq call n draw ro ih ms todo fr A = stepA E sq call n draw ro ih ms todo fr A := by
  cases todo with
  | nil => rfl
  | cons i k =>
    cases i with
    | code c =>
      cases c with
      | region id ops dr => obtain ⟨ops⟩ := ops; cases dr <;> rfl
      | rangeFunc f ps a b => obtain ⟨ps⟩ := ps; rfl
      | _ => rfl
    | _ => rfl
noncomputable def runA (draw : List Oper → Fr → AW → Out Fr) (ro : Option Nat) (fuel : Nat) : List Nat → List Item → Fr → AW → Out Fr :=
  Nat.rec (motive := fun _ => List Nat → List Item → Fr → AW → Out Fr) (fun _ _ _ _ => none) (fun _ ih => stepD E sq call n draw ro ih) fuel
end

noncomputable def argsK {ρ : Type} (l : List Value) : Nat → Fr → (Fr → ρ) → ρ :=
  List.rec (motive := fun _ => Nat → Fr → (Fr → ρ) → ρ) (fun _ fr k => k fr) (fun v _ ih i fr k => fr.setK i v (fun fr => ih (Nat.add i 1) fr k)) l

/-- the results -/
noncomputable def resL (E : Env) (fr : Fr) (A : AW) (l : List ResultVar) : Option (List Value) :=
  List.rec (motive := fun _ => Option (List Value)) (some [])
    (fun r _ ih => match (match r with | .tmp t => some (fr.get J t) | .cell a t => loadV E A t (fr.get J a)), ih with
      | some v, some vs => some (v :: vs)
      | _, _ => none) l
noncomputable def resA (E : Env) (fr : Fr) (A : AW) (l : List ResultVar) : Option Value :=
  match resL E fr A l with
  | some [v] => some v
  | some vs => some (.tuple ⟨vs⟩)
  | none => none

/-- the arguments of a round -/
noncomputable def putsK {ρ : Type} (ps : List Nat) : List Value → Fr → (Fr → ρ) → ρ :=
  List.rec (motive := fun _ => List Value → Fr → (Fr → ρ) → ρ) (fun _ fr k => k fr) (fun t _ ih args fr k => match args with
    | [] => k fr
    | v :: vs => fr.setK t v (fun fr => ih vs fr k)) ps

/-- what a round answers -/
noncomputable def roundV (L : Nat) (A : AW) : Out Value :=
  match A.get L with
  | some ⟨.loop .ready _ _ _ _ _, _, _, _, _⟩ => some [(.bool true, A)]
  | some ⟨.loop (.done _) _ _ _ _ _, _, _, _, _⟩ => some [(.bool false, A)]
  | _ => none
/-- a call: answered out of what was proved before, else carried out -/
noncomputable def callA (E : Env) (sq : List (Nat × List IntKind)) (draw : (Tgt → List Value → AW → Out Value) → Nat → List Oper → Fr → AW → Out Fr) (orc : Tgt → List Value → AW → Out Value) (fuel depth : Nat) : Tgt → List Value → AW → Out Value :=
  Nat.rec (motive := fun _ => Tgt → List Value → AW → Out Value) (fun _ _ _ => none)
    (fun _ ih t args A => match orc t args A with
      | some o => some o
      | none => match t with
      | .fn f => match E.fn.get none f with
        | some ⟨_, _, _, _, _, _, nt, ⟨rs⟩, some c, _, _, _, _, _, _, _⟩ =>
          bs (Nat.ble (llen args) nt) (argsK args 0 (T.full undef (Nat.add (Nat.log2 (Nat.add nt 1)) 1)) (fun fr =>
            bindO (runA E sq ih nt (draw ih nt) none fuel [] [.code c] fr A) (fun p => match resA E p.1 p.2 rs with | some v => some [(v, p.2)] | none => none))) none
        | _ => none
      | .rd L => match A.get L with
        | some ⟨.loop .ready fr n ps a b, _, _, _, _⟩ =>
          bs (Nat.beq (llen args) (llen ps) && lall (fun t => Nat.blt t n) ps) (putsK ps args fr (fun fr =>
            bindO (runA E sq ih n (draw ih n) (some L) fuel [] [.code a, .beginRound, .code b] fr A) (fun p => roundV L p.2))) none
        | _ => none) depth
end Go.Ex
namespace Go.Ex
open Go.RowKit
section
variable {α : Type}
noncomputable def alt (l : List α) : Bool → List α :=
  List.rec (motive := fun _ => Bool → List α) (fun _ => []) (fun a _ ih b => bs b (a :: ih false) (ih true)) l
noncomputable def ofL (k : Nat) : List α → T (Option α) :=
  Nat.rec (motive := fun _ => List α → T (Option α)) (fun _ => .nil) (fun _ ih l => List.rec (motive := fun _ => T (Option α)) .nil (fun a r _ => .node (ih (alt r true)) (some a) (ih (alt r false))) l) k
theorem alt_get (l : List α) : ∀ (b : Bool) (m : Nat), (alt l b)[m]? = l[2 * m + (if b then 0 else 1)]? := by
  induction l with
  | nil => intro b m; simp [alt]
  | cons a l ih =>
    intro b m
    cases b with
    | true =>
      show (a :: alt l false)[m]? = _
      cases m with
      | zero => simp
      | succ m => rw [List.getElem?_cons_succ, ih false m, if_pos rfl, Nat.add_zero, show 2 * (m + 1) = (2 * m + 1) + 1 by omega, List.getElem?_cons_succ]; simp
    | false =>
      show (alt l true)[m]? = _
      rw [ih true m]
      simp
theorem ofL_get : ∀ (k : Nat) (l : List α) (i : Nat) (x : α), (ofL k l).get none i = some x → l[i]? = some x
  | 0, l, i, x, h => by cases h
  | k + 1, [], i, x, h => by cases h
  | k + 1, a :: r, i, x, h => by
    have h' : (T.node (ofL k (alt r true)) (some a) (ofL k (alt r false))).get none i = some x := h
    rw [T.get_node] at h'
    split at h'
    · rename_i h0; subst h0; simpa using h'
    · split at h'
      · have := ofL_get k _ _ _ h'
        rw [alt_get] at this
        rw [show i = 2 * (i / 2) + 1 by omega, List.getElem?_cons_succ]
        simpa using this
      · have := ofL_get k _ _ _ h'
        rw [alt_get] at this
        rw [show i = (2 * (i / 2 - 1) + 1) + 1 by omega, List.getElem?_cons_succ]
        simpa using this
end

/-- a type's row, out of the list of types -/
noncomputable def rowD (ts : List TypeInfo) (d : TypeDesc) : Option TypeDesc :=
  match d with
  | .named _ u => match nth ts u with | some i => some i.desc | none => none
  | d => some d
noncomputable def rowZ (d : TypeDesc) (z : Option Value) : List Value × Bool :=
  match z with
  | some (.agg ⟨l⟩) => bs (isRowD d) (l, true) ([], false)
  | some (.tuple _) => ([], false)
  | some v => bs (isRowD d) ([], false) ([v], true)
  | none => ([], false)
noncomputable def rowOf (ts : List TypeInfo) (i : TypeInfo) : Option Row :=
  match rowD ts i.desc with
  | some d => some ⟨d, i.size, i.bytes, (rowZ d i.zero).1, (rowZ d i.zero).2⟩
  | none => none
noncomputable def join (t : T (Option (Option Row))) : T (Option Row) :=
  T.rec (motive := fun _ => T (Option Row)) .nil (fun _ v _ l r => .node l (match v with | some x => x | none => none) r) t
noncomputable def mkEnv (P : Program) (G : GP) (ne : List Nat) (lay : List (Nat × Nat × Nat)) (ib : List Nat := []) (mz : List (Nat × Nat) := []) : Env where
  ti := join (ofL 11 (lmap (rowOf P.types.toList) P.types.toList))
  fn := ofL 10 P.funcs.toList
  ne := ne
  ib := ib
  mz := mz
  lay := lay
  G := G
end Go.Ex
