/- A verified evaluator of Go functions on partly symbolic values, part 10 of 17. -/
import Derived.Test.YtcnhmjkmlncbhaaGreatDoorX9
import Derived.Lib.Bytealg
import Derived.Lib.MakeNoZero
namespace Go.Ex
open Go.RowKit

/-- what is called: a function, or a round of a loop -/
inductive Tgt where
  | fn (f : FuncId)
  | rd (L : Nat)
inductive R where
  | fail
  | val (v : Value) (A : AW)
  | call (f : Tgt) (args : List Value)
  | nd (l : List (Value × AW))
noncomputable def ofV (A : AW) (x : Option Value) : R := match x with | some v => .val v A | none => .fail
noncomputable def ofP (x : Option (Value × AW)) : R := match x with | some (v, A) => .val v A | none => .fail
noncomputable def ofA (x : Option AW) : R := match x with | some A => .val undef A | none => .fail

noncomputable def ofN (x : Option (List (Value × AW))) : R := match x with | some l => .nd l | none => .fail

noncomputable def nilV (x : Value) : Option Value :=
  match x with
  | .pointer (some a) => some (.pointer (some a))
  | .func (.func f) p q => some (.func (.func f) p q)
  | .map (some b) => some (.map (some b))
  | _ => none
noncomputable def pickV (c a b : Value) : Option Value := match c with | .bool t => some (bs t a b) | _ => none
/-- the index of a byte -/
noncomputable def ibF (l : List UInt8) (c : Nat) : Int :=
  List.rec (motive := fun _ => Int) (.negSucc 0) (fun b _ ih => bs (Nat.beq b.toNat c) (.ofNat 0) (Int.rec (motive := fun _ => Int) (fun n => .ofNat (Nat.add n 1)) (fun n => .negSucc n) ih)) l
theorem ibF_eq (c : Nat) (hc : c < 256) : ∀ l : List UInt8, ibF l c = Lib.indexByte l c.toUInt8
  | [] => rfl
  | b :: l => by
    have ih := ibF_eq c hc l
    show bs (Nat.beq b.toNat c) (.ofNat 0) (Int.rec (motive := fun _ => Int) (fun n => .ofNat (Nat.add n 1)) (fun n => .negSucc n) (ibF l c)) = _
    unfold Lib.indexByte
    have hb : (b == c.toUInt8) = Nat.beq b.toNat c := by
      rw [nbeq, Bool.eq_iff_iff, beq_iff_eq, decide_eq_true_iff]
      constructor
      · rintro rfl; simp [Nat.mod_eq_of_lt hc]
      · intro h; apply UInt8.toNat.inj; simp [h, Nat.mod_eq_of_lt hc]
    rw [hb, ih]
    cases Nat.beq b.toNat c with
    | true => rfl
    | false =>
      rw [bs_false, if_neg (by simp)]
      have hge := Lib.indexByte_ge l c.toUInt8
      cases hx : Lib.indexByte l c.toUInt8 with
      | ofNat n =>
        rw [if_neg (by simp)]
        rfl
      | negSucc n =>
        rw [hx] at hge
        have : n = 0 := by omega
        subst this
        rfl
/-- abi.NoEscape -/
noncomputable def neV (E : Env) (g : FuncId) (p args q : List Value) : Option Value :=
  match p, args, q with
  | [], [x], [] => bs (lin g E.ne) (some x) none
  | [], [.string ⟨⟨l⟩⟩, .int .u8 (.ofNat c)], [] => bs (lin g E.ib && Nat.blt c 256) (some (.int .i64 (ibF l c))) none
  | _, _, _ => none
/-- bytealg.MakeNoZero: new bytes of which nothing is known -/
noncomputable def mzF (g : Nat) (l : List (Nat × Nat)) : Option Nat := List.rec (motive := fun _ => Option Nat) none (fun a _ ih => bs (Nat.beq g a.1) (some a.2) ih) l
theorem mzF_mem {g t : Nat} : ∀ {l : List (Nat × Nat)}, mzF g l = some t → (g, t) ∈ l
  | [], h => by cases h
  | a :: l, h => by
    have h' : bs (Nat.beq g a.1) (some a.2) (mzF g l) = some t := h
    rcases bs_some h' with ⟨h1, h2⟩ | ⟨_, h2⟩
    · cases h2
      have := Nat.eq_of_beq_eq_true h1
      subst this
      exact List.mem_cons_self
    · exact List.mem_cons_of_mem _ (mzF_mem h2)
noncomputable def mnzV (E : Env) (A : AW) (g : FuncId) (p args q : List Value) : Option (Value × AW) :=
  match p, args, q with
  | [], [.int .i64 (.ofNat n)], [] => match mzF g E.mz with
    | some t => match E.ti.get none t with
      | some ⟨.slice e, _, _, _, _⟩ => bs (Nat.ble n 281474976710656) (some (.slice (some ⟨A.next, 0, none⟩) n n, A.add ⟨.cells (lgen (fun _ => J) n []), 1, false, false, e⟩)) none
      | _ => none
    | none => none
  | _, _, _ => none
noncomputable def callV (E : Env) (A : AW) (f : Value) (args : List Value) : R :=
  match f with
  | .func (.func g) ⟨p⟩ ⟨q⟩ => match E.fn.get none g with
    | some ⟨_, _, _, _, _, _, _, _, some _, _, _, _, _, _, _, _⟩ => .call (.fn g) (lapp (lapp p args) q)
    | _ => match mnzV E A g p args q with
      | some r => .val r.1 r.2
      | none => ofV A (neV E g p args q)
  | .func (.yield L) ⟨[]⟩ ⟨[]⟩ => .call (.rd L) args
  | _ => .fail
noncomputable def convA (E : Env) (A : AW) (s d : TypeId) (x : Value) : R :=
  match convV E s d x with
  | some v => .val v A
  | none => match uptrV E A s d x with
    | some v => .val v A
    | none => ofP (bytesV E A s d x)

noncomputable def builtinA (E : Env) (A : AW) (b : Builtin) (tys : List TypeId) (vs : List Value) : R :=
  match b, tys, vs with
  | .len, [t], [x] => ofV A (lenV E A t x)
  | .append, [t, tx], [s, x] => match appendV E A t tx s x with
    | some p => .val p.1 p.2
    | none => ofP (zappV E A t tx s x)
  | .copy, [t, tx], [s, x] => ofP (copyV E A t tx s x)
  | .clear, [t], [x] => ofP (clearV E A t x)
  | .cap, [t], [x] => ofV A (capV E A t x)
  | .max, _, l => ofV A (maxV true l)
  | .min, _, l => ofV A (maxV false l)
  | .unsafeSliceData, _, [x] => ofV A (sdataV x)
  | .unsafeString, [t, _], [x, y] => ofP (ustrV E A t x y)
  | _, _, _ => .fail
theorem lmap_one {α γ : Type} {f : α → γ} {l : List α} {x : γ} (h : lmap f l = [x]) : ∃ a, l = [a] ∧ f a = x := by
  rw [lmap_eq] at h
  match l, h with
  | [a], h => exact ⟨a, rfl, by simpa using h⟩
theorem lmap_two {α γ : Type} {f : α → γ} {l : List α} {x y : γ} (h : lmap f l = [x, y]) : ∃ a b, l = [a, b] ∧ f a = x ∧ f b = y := by
  rw [lmap_eq] at h
  match l, h with
  | [a, b], h => exact ⟨a, b, rfl, by simpa using h⟩

noncomputable def opA (E : Env) (sq : List (Nat × List IntKind)) (A : AW) (fr : Gt) (op : Op) : R :=
  match op with
  | .move x => .val (ev E fr x) A
  | .assign x => .val (ev E fr x) A
  | .pick c a b => ofV A (pickV (ev E fr c) (ev E fr a) (ev E fr b))
  | .alloc t => ofP (allocV E A t)
  | .box t x => ofP (boxV A t (ev E fr x))
  | .build t ⟨ps⟩ => ofV A (buildV E t (lmap (fun p => (p.1, ev E fr p.2)) ps))
  | .buildSlice t len ⟨ps⟩ => ofP (buildSliceV E A t len (lmap (fun p => (p.1, ev E fr p.2)) ps))
  | .load t a => ofV A (loadV E A t (ev E fr a))
  | .store t a x => ofA (storeV E A t (ev E fr a) (ev E fr x))
  | .nilCheck x => ofV A (nilV (ev E fr x))
  | .binOp op t x y _ => ofV A (binV E sq op t (ev E fr x) (ev E fr y))
  | .unOp op _ x => ofV A (unV op (ev E fr x))
  | .convert s d x => convA E A s d (ev E fr x)
  | .makeFunc (.func f) ⟨p⟩ ⟨q⟩ => .val (.func (.func f) ⟨lmap (ev E fr) p⟩ ⟨lmap (ev E fr) q⟩) A
  | .makeSlice t l c => ofP (makeSliceV E A t (ev E fr l) (ev E fr c))
  | .slice t x lo hi mx => ofV A (sliceV E A t (ev E fr x) (lo.map (ev E fr)) (hi.map (ev E fr)) (mx.map (ev E fr)))
  | .fieldAddr t x f => ofV A (fieldAddrV E t (ev E fr x) f)
  | .field t x f => ofV A (fieldV E t (ev E fr x) f)
  | .indexAddr t x i => ofV A (indexAddrV E t (ev E fr x) (ev E fr i))
  | .index t x i => ofV A (indexV E t (ev E fr x) (ev E fr i))
  | .extract x i => ofV A (extractV (ev E fr x) i)
  | .call ⟨.value f, ⟨args⟩, _⟩ => callV E A (ev E fr f) (lmap (ev E fr) args)
  | .call ⟨.builtin b, ⟨args⟩, ⟨tys⟩⟩ => builtinA E A b tys (lmap (ev E fr) args)
  | .makeMap t r => ofP (mkMapV E A t (r.map (ev E fr)))
  | .lookup t x k b => ofV A (lookupV E sq A t (ev E fr x) (ev E fr k) b)
  | .mapUpdate t m k x => ofA (updV E sq A t (ev E fr m) (ev E fr k) (ev E fr x))
  | .insert t m k x => ofA (updV E sq A t (ev E fr m) (ev E fr k) (ev E fr x))
  | .mapEntry t m k => ofP (entryV E sq A t (ev E fr m) (ev E fr k))
  | .entryStore _ m s x => ofA (estoreV E A (ev E fr m) (ev E fr s) (ev E fr x))
  | .range t x => ofP (rangeV E A t (ev E fr x))
  | .next it false => ofN (nextV E A (ev E fr it))
  | .entry it => ofV A (itEntV A (ev E fr it))
  | _ => .fail

/-! the same, for the kernel: every arm is a closed term -/
noncomputable def mkFnA (E : Env) (A : AW) (fr : Gt) (f : Fn) (p q : List Operand) : R :=
  match f with
  | .func f => .val (.func (.func f) ⟨lmap (ev E fr) p⟩ ⟨lmap (ev E fr) q⟩) A
  | _ => .fail
noncomputable def callD (E : Env) (A : AW) (fr : Gt) (c : Call) : R :=
  Call.rec (motive := fun _ => Env → AW → Gt → R) (fun ce args tys E A fr => Callee.rec (motive := fun _ => List Operand → List TypeId → Env → AW → Gt → R)
    (fun f args _ E A fr => callV E A (ev E fr f) (lmap (ev E fr) args)) (fun _ _ _ _ _ _ _ => .fail) (fun b args tys E A fr => builtinA E A b tys (lmap (ev E fr) args)) ce args.toList tys.toList E A fr) c E A fr
noncomputable def opD (op : Op) : Env → List (Nat × List IntKind) → AW → Gt → R :=
  Op.rec (motive := fun _ => Env → List (Nat × List IntKind) → AW → Gt → R)
    (fun x E _ A fr => .val (ev E fr x) A)
    (fun x E _ A fr => .val (ev E fr x) A)
    (fun c a b E _ A fr => ofV A (pickV (ev E fr c) (ev E fr a) (ev E fr b)))
    (fun t E _ A _ => ofP (allocV E A t))
    (fun t x E _ A fr => ofP (boxV A t (ev E fr x)))
    (fun t ps E _ A fr => ofV A (buildV E t (lmap (fun p => (p.1, ev E fr p.2)) ps.toList)))
    (fun t len ps E _ A fr => ofP (buildSliceV E A t len (lmap (fun p => (p.1, ev E fr p.2)) ps.toList)))
    (fun t m k x E sq A fr => ofA (updV E sq A t (ev E fr m) (ev E fr k) (ev E fr x)))
    (fun t a E _ A fr => ofV A (loadD E A t (ev E fr a)))
    (fun t a x E _ A fr => ofA (storeV E A t (ev E fr a) (ev E fr x)))
    (fun _ _ _ _ _ => .fail)
    (fun _ _ _ _ _ => .fail)
    (fun x E _ A fr => ofV A (nilV (ev E fr x)))
    (fun op t x y _ E sq A fr => ofV A (binD E sq op t (ev E fr x) (ev E fr y)))
    (fun op _ x E _ A fr => ofV A (unV op (ev E fr x)))
    (fun s d x E _ A fr => convA E A s d (ev E fr x))
    (fun _ _ _ _ _ _ => .fail)
    (fun _ _ _ _ _ _ => .fail)
    (fun f p q E _ A fr => mkFnA E A fr f p.toList q.toList)
    (fun t r E _ A fr => ofP (mkMapV E A t (r.map (ev E fr))))
    (fun _ _ _ _ _ _ => .fail)
    (fun t l c E _ A fr => ofP (makeSliceV E A t (ev E fr l) (ev E fr c)))
    (fun t x lo hi mx E _ A fr => ofV A (sliceV E A t (ev E fr x) (lo.map (ev E fr)) (hi.map (ev E fr)) (mx.map (ev E fr))))
    (fun t x f E _ A fr => ofV A (fieldAddrV E t (ev E fr x) f))
    (fun t x f E _ A fr => ofV A (fieldV E t (ev E fr x) f))
    (fun t x i E _ A fr => ofV A (indexAddrV E t (ev E fr x) (ev E fr i)))
    (fun t x i E _ A fr => ofV A (indexV E t (ev E fr x) (ev E fr i)))
    (fun t x k b E sq A fr => ofV A (lookupV E sq A t (ev E fr x) (ev E fr k) b))
    (fun t m k x E sq A fr => ofA (updV E sq A t (ev E fr m) (ev E fr k) (ev E fr x)))
    (fun t m k E sq A fr => ofP (entryV E sq A t (ev E fr m) (ev E fr k)))
    (fun _ m s x E _ A fr => ofA (estoreV E A (ev E fr m) (ev E fr s) (ev E fr x)))
    (fun t x E _ A fr => ofP (rangeV E A t (ev E fr x)))
    (fun it b E _ A fr => bs b .fail (ofN (nextV E A (ev E fr it))))
    (fun it E _ A fr => ofV A (itEntV A (ev E fr it)))
    (fun _ _ _ _ _ _ _ _ => .fail)
    (fun x i E _ A fr => ofV A (extractV (ev E fr x) i))
    (fun c E _ A fr => callD E A fr c)
    (fun _ _ _ _ _ => .fail)
    (fun _ _ _ _ _ => .fail)
    (fun _ _ _ _ _ => .fail)
    (fun _ _ _ _ _ _ => .fail)
    (fun _ _ _ _ _ _ _ => .fail)
    (fun _ _ _ _ _ _ => .fail) op
theorem opD_eq (op : Op) (E : Env) (sq : List (Nat × List IntKind)) (A : AW) (fr : Gt) : opD op E sq A fr = opA E sq A fr op := by
  cases op with
  | build t ps => obtain ⟨ps⟩ := ps; rfl
  | buildSlice t len ps => obtain ⟨ps⟩ := ps; rfl
  | load t a => show ofV A (loadD E A t (ev E fr a)) = _; rw [loadD_eq]; rfl
  | binOp op t x y ty => show ofV A (binD E sq op t (ev E fr x) (ev E fr y)) = _; rw [binD_eq]; rfl
  | makeFunc f p q => obtain ⟨p⟩ := p; obtain ⟨q⟩ := q; cases f <;> rfl
  | next it b => cases b <;> rfl
  | call c =>
    obtain ⟨ce, ⟨args⟩, ⟨tys⟩⟩ := c
    cases ce <;> rfl
  | _ => rfl

section
variable {P : Program} {E : Env} (ok : E.Ok P) {sq : List (Nat × List IntKind)} (sok : E.Seq P sq) {w0 w : World} {β : Ren} {A : AW} (inv : Inv w0 E.G β A w)

/-- what an operation does -/
def DoesOp (P : Program) (w0 : World) (G : GP) (β : Ren) (A : AW) (w : World) (s : Sem Next) (v : Value) (A' : AW) : Prop :=
  ∃ β' v' w', (s.run P w = .ok (.value v') w' ∨ (s.run P w = .ok .skip w' ∧ v' = undef)) ∧ VRel β' v v' ∧ Inv w0 G β' A' w' ∧ β.grow β' A.next ∧ A.next ≤ A'.next

theorem ofV_val {x : Option Value} {v : Value} {A' : AW} (h : ofV A x = .val v A') : x = some v ∧ A' = A := by
  unfold ofV at h
  split at h <;> cases h
  exact ⟨rfl, rfl⟩
theorem ofP_val {x : Option (Value × AW)} {v : Value} {A' : AW} (h : ofP x = .val v A') : x = some (v, A') := by
  unfold ofP at h
  split at h <;> cases h
  rfl
theorem ofA_val {x : Option AW} {v : Value} {A' : AW} (h : ofA x = .val v A') : x = some A' ∧ v = undef := by
  unfold ofA at h
  split at h <;> cases h
  exact ⟨rfl, rfl⟩
include inv in
theorem does_v {s : Sem Value} {x : Option Value} {v : Value} {A' : AW} (h : ofV A x = .val v A') (hs : x = some v → ∃ v', s.run P w = .ok v' w ∧ VRel β v v') : DoesOp P w0 E.G β A w (do pure (.value (← s))) v A' := by
  obtain ⟨h1, rfl⟩ := ofV_val h
  obtain ⟨v', hr, hv⟩ := hs h1
  exact ⟨β, v', w, .inl (by simp [hr]), hv, inv, Ren.grow_refl _ _, Nat.le_refl _⟩
theorem does_p {s : Sem Value} {x : Option (Value × AW)} {v : Value} {A' : AW} (h : ofP x = .val v A') (hn : x = some (v, A') → A.next ≤ A'.next) (hs : x = some (v, A') → Does w0 E.G β A (s.run P w) v A') : DoesOp P w0 E.G β A w (do pure (.value (← s))) v A' := by
  have h1 := ofP_val h
  obtain ⟨β', v', w', hr, hv, hi, hg⟩ := hs h1
  exact ⟨β', v', w', .inl (by simp [hr]), hv, hi, hg, hn h1⟩

theorem PRel_map {n : Nat} {fr : Gt} {a : Act} (hf : FRel β n fr a.tmps) (inv : Inv w0 E.G β A w) : ∀ (ps : List (Nat × Operand)), PRel β (lmap (fun p => (p.1, ev E fr p.2)) ps) (ps.map fun p => (p.1, a.eval p.2))
  | [] => trivial
  | p :: ps => ⟨rfl, ev_rel inv hf p.2, PRel_map hf inv ps⟩
theorem LRel_map {n : Nat} {fr : Gt} {a : Act} (hf : FRel β n fr a.tmps) (inv : Inv w0 E.G β A w) : ∀ (ps : List Operand), LRel β (lmap (ev E fr) ps) (ps.map a.eval)
  | [] => LRel.nil β
  | p :: ps => (LRel_map hf inv ps).cons (ev_rel inv hf p)
theorem ORel_map {n : Nat} {fr : Gt} {a : Act} (hf : FRel β n fr a.tmps) (inv : Inv w0 E.G β A w) (x : Option Operand) : ORel β (x.map (ev E fr)) (x.map a.eval) := by
  cases x with
  | none => trivial
  | some x => exact ev_rel inv hf x
theorem pick_ok {c c' a a' b b' v : Value} (h : pickV c a b = some v) (hc : VRel β c c') (ha : VRel β a a') (hb : VRel β b b') (w : World) : ∃ t, c' = .bool t ∧ VRel β v (if t then a' else b') := by
  unfold pickV at h
  split at h
  · rename_i t
    cases h; cases hc
    refine ⟨t, rfl, ?_⟩
    cases t
    · exact hb
    · exact ha
  · cases h

theorem allocV_next {t : TypeId} {v : Value} {A' : AW} (h : allocV E A t = some (v, A')) : A.next ≤ A'.next := by
  unfold allocV at h
  split at h
  · replace h := bs_some h
    rcases h with ⟨_, h⟩ | ⟨_, h⟩ <;> cases h
    exact Nat.le_succ _
  · cases h
theorem boxV_next {t : TypeId} {x v : Value} {A' : AW} (h : boxV A t x = some (v, A')) : A.next ≤ A'.next := by
  unfold boxV at h
  split at h <;> cases h
  exact Nat.le_succ _
theorem buildSliceV_next {t : TypeId} {n : Nat} {ps : List (Nat × Value)} {v : Value} {A' : AW} (h : buildSliceV E A t n ps = some (v, A')) : A.next ≤ A'.next := by
  unfold buildSliceV at h
  split at h
  · split at h
    · replace h := bs_some h
      rcases h with ⟨_, h⟩ | ⟨_, h⟩
      · split at h <;> cases h
        exact Nat.le_succ _
      · cases h
    · cases h
  · cases h
theorem makeSliceV_next {t : TypeId} {l c v : Value} {A' : AW} (h : makeSliceV E A t l c = some (v, A')) : A.next ≤ A'.next := by
  unfold makeSliceV at h
  split at h
  · split at h
    · replace h := bs_some h
      rcases h with ⟨_, h⟩ | ⟨_, h⟩ <;> cases h
      exact Nat.le_succ _
    · cases h
  · cases h
theorem storeV_next {t : TypeId} {a x : Value} {A' : AW} (h : storeV E A t a x = some A') : A.next ≤ A'.next := by
  unfold storeV at h
  split at h
  · split at h
    · replace h := bs_some h
      rcases h with ⟨_, h⟩ | ⟨_, h⟩ <;> cases h
      exact Nat.le_refl _
    · cases h
  · cases h
theorem appendV_next {t tx : TypeId} {s x v : Value} {A' : AW} (h : appendV E A t tx s x = some (v, A')) : A.next ≤ A'.next := by
  unfold appendV at h
  split at h
  · cases h
  split at h
  · cases h
  split at h
  · replace h := bs_some h
    rcases h with ⟨_, h⟩ | ⟨_, h⟩
    · cases h; exact Nat.le_refl _
    · replace h := bs_some h
      rcases h with ⟨_, h⟩ | ⟨_, h⟩ <;> cases h
      exact Nat.le_succ _
  · replace h := bs_some h
    rcases h with ⟨_, h⟩ | ⟨_, h⟩
    · cases h; exact Nat.le_refl _
    · replace h := bs_some h
      rcases h with ⟨_, h⟩ | ⟨_, h⟩
      · cases h
      · split at h
        · replace h := bs_some h
          rcases h with ⟨_, h⟩ | ⟨_, h⟩
          · replace h := bs_some h
            rcases h with ⟨_, h⟩ | ⟨_, h⟩
            · replace h := bs_some h
              rcases h with ⟨_, h⟩ | ⟨_, h⟩ <;> cases h
              exact Nat.le_refl _
            · split at h
              · replace h := bs_some h
                rcases h with ⟨_, h⟩ | ⟨_, h⟩
                · replace h := bs_some h
                  rcases h with ⟨_, h⟩ | ⟨_, h⟩
                  · cases h; exact Nat.le_succ _
                  · replace h := bs_some h
                    rcases h with ⟨_, h⟩ | ⟨_, h⟩ <;> cases h
                    exact Nat.le_succ _
                · cases h
              · cases h
          · cases h
        · cases h
  · cases h

include ok sok inv in
theorem op_ok {n : Nat} {fr : Gt} {a : Act} (hf : FRel β n fr a.tmps) {o : Oper} {v : Value} {A' : AW} (h : opA E sq A fr o.op = .val v A') : DoesOp P w0 E.G β A w (execOp a.eval o) v A' := by
  obtain ⟨dst, op, type, pos, after, guard⟩ := o
  have E1 := ev_rel (a := a) inv hf
  unfold opA at h
  simp only at h
  split at h
  · cases h; exact ⟨β, _, w, .inl rfl, E1 _, inv, Ren.grow_refl _ _, Nat.le_refl _⟩
  · cases h; exact ⟨β, _, w, .inl rfl, E1 _, inv, Ren.grow_refl _ _, Nat.le_refl _⟩
  · rename_i c x y
    obtain ⟨h1, rfl⟩ := ofV_val h
    obtain ⟨t, ht, hv⟩ := pick_ok h1 (E1 c) (E1 x) (E1 y) w
    exact ⟨β, _, w, .inl (by simp [execOp, ht, asBool]), hv, inv, Ren.grow_refl _ _, Nat.le_refl _⟩
  · exact does_p h allocV_next (fun e => alloc_ok ok inv e)
  · rename_i t x; exact does_p h boxV_next (fun e => box_ok inv e (E1 x))
  · rename_i t ps
    have := does_v (P := P) (s := Instr.build t (Array.map (fun (p : Nat × Operand) => (p.1, a.eval p.2)) ⟨ps⟩)) inv h (fun e => by
      have := build_ok ok e (PRel_map hf inv ps) w
      simpa using this)
    exact this
  · rename_i t len ps
    have := does_p (P := P) (w := w) (β := β) (A := A) (E := E) (w0 := w0) (s := Instr.buildSlice t len (Array.map (fun (p : Nat × Operand) => (p.1, a.eval p.2)) ⟨ps⟩)) h buildSliceV_next (fun e => by
      have := buildSlice_ok (P := P) ok inv e (PRel_map hf inv ps)
      simpa using this)
    exact this
  · rename_i t x; exact does_v inv h (fun e => load_ok ok inv e (E1 x))
  · rename_i t x y
    obtain ⟨h1, rfl⟩ := ofA_val h
    obtain ⟨w', hr, hi⟩ := store_ok ok inv h1 (E1 x) (E1 y)
    exact ⟨β, undef, w', .inr ⟨by simp [execOp, hr], rfl⟩, VRel.undef, hi, Ren.grow_refl _ _, storeV_next h1⟩
  · rename_i x
    obtain ⟨h1, rfl⟩ := ofV_val h
    have hx := E1 x
    generalize hgv : a.eval x = xv at hx
    refine ⟨β, xv, w, .inl ?_, ?_, inv, Ren.grow_refl _ _, Nat.le_refl _⟩
    · unfold nilV at h1
      split at h1
      · rename_i q hq; rw [hq] at hx; cases hx; simp [execOp, hgv]
      · rename_i f p q hq; rw [hq] at hx; cases hx; simp [execOp, hgv]
      · rename_i q hq; rw [hq] at hx; cases hx; simp [execOp, hgv]
      · cases h1
    · unfold nilV at h1
      split at h1
      · rename_i q hq; rw [hq] at hx; cases h1; exact hx
      · rename_i f p q hq; rw [hq] at hx; cases h1; exact hx
      · rename_i q hq; rw [hq] at hx; cases h1; exact hx
      · cases h1
  · rename_i bop t x y ty
    have := does_v (P := P) (s := (do eqGuard bop t x y (a.eval x) (a.eval y); binOp bop t (a.eval x) (a.eval y))) inv h (fun e => bin_ok ok sok e (E1 x) (E1 y) x y w)
    exact this
  · rename_i uop t x; exact does_v inv h (fun e => un_ok e (E1 x) P w)
  · rename_i s d x
    unfold convA at h
    split at h
    · rename_i v0 hc
      cases h
      obtain ⟨v', hr, hv⟩ := conv_ok ok hc (E1 x) w
      exact ⟨β, v', w, .inl (by simp [execOp, hr]), hv, inv, Ren.grow_refl _ _, Nat.le_refl _⟩
    · split at h
      · rename_i v0 hc
        cases h
        obtain ⟨v', hr, hv⟩ := uptr_ok ok inv hc (E1 x)
        exact ⟨β, v', w, .inl (by simp [execOp, hr]), hv, inv, Ren.grow_refl _ _, Nat.le_refl _⟩
      · exact does_p h bytesV_next (fun e => bytes_ok ok inv e (E1 x))
  · rename_i f p q
    cases h
    refine ⟨β, .func (.func f) (Array.map a.eval ⟨p⟩) (Array.map a.eval ⟨q⟩), w, .inl (by simp [execOp, Instr.makeFunc]), ?_, inv, Ren.grow_refl _ _, Nat.le_refl _⟩
    have := VRel.func_of (f := f) (LRel_map hf inv p) (LRel_map hf inv q)
    simpa using this
  · rename_i t x y; exact does_p h makeSliceV_next (fun e => makeSlice_ok ok inv e (E1 x) (E1 y))
  · rename_i t x lo hi mx; exact does_v inv h (fun e => slice_ok ok inv e (E1 x) (ORel_map hf inv lo) (ORel_map hf inv hi) (ORel_map hf inv mx))
  · rename_i t x f; exact does_v inv h (fun e => fieldAddr_ok ok e (E1 x) w)
  · rename_i t x f; exact does_v inv h (fun e => field_ok ok e (E1 x) w)
  · rename_i t x i; exact does_v inv h (fun e => indexAddr_ok ok e (E1 x) (E1 i) w)
  · rename_i t x i; exact does_v inv h (fun e => index_ok ok e (E1 x) (E1 i) w)
  · rename_i x i; exact does_v inv h (fun e => extract_ok e (E1 x) P w)
  · rename_i f args _
    have hf2 := E1 f
    unfold callV at h
    split at h
    · rename_i g p q hev
      rw [hev] at hf2
      split at h
      · cases h
      · split at h
        · rename_i r hm
          cases h
          obtain ⟨v0, A0⟩ := r
          unfold mnzV at hm
          split at hm
          · rename_i n hx
            split at hm
            · rename_i t ht
              split at hm
              · rename_i e _ _ _ _ hr
                replace hm := bs_some hm
                rcases hm with ⟨hn, hm⟩ | ⟨_, hm⟩ <;> cases hm
                have hn' := Nat.le_of_ble_eq_true hn
                obtain ⟨x0, rfl, e1⟩ := lmap_one hx
                have r1 := E1 x0
                rw [e1] at r1
                generalize hgx : a.eval x0 = gx at r1
                cases r1
                generalize hgv : a.eval f = gv at hf2
                cases hf2 with
                | func _ _ p' _ q' hp hq h1 h2 =>
                  have hp0 : p' = [] := List.eq_nil_of_length_eq_zero hp.symm
                  have hq0 : q' = [] := List.eq_nil_of_length_eq_zero hq.symm
                  subst hp0; subst hq0
                  obtain ⟨ps, hmz⟩ := ok.mz g t (mzF_mem ht)
                  obtain ⟨cs, hrun, hle, _⟩ := Lib.run_makeNoZero (P := P) w ps t e (ok.ti t _ hr).1 n hn'
                  have hm2 := hmz #[.int .i64 (.ofNat n)] w
                  rw [show (Int.ofNat n) = (n : Int) from rfl] at hm2 hgx
                  obtain ⟨g1, g2⟩ := (inv.drew (w.drawn + 1 + 1)).new (l := ⟨w.heap.size, 0, 1, cs.size⟩) ⟨.cells (lgen (fun _ => J) n []), 1, false, false, e⟩ (.cells cs e) rfl
                    ⟨cs, e, (0, 0), rfl, rfl, by rw [lgen_eq, List.append_nil, List.length_map, List.length_range]; show 0 + n ≤ cs.size; omega, (fun i v hv => by
                      rw [lgen_eq, List.append_nil, List.getElem?_map] at hv
                      obtain ⟨j, hj, rfl⟩ := Option.map_eq_some_iff.1 hv
                      have hi : i < n := by have := (List.getElem?_eq_some_iff.1 hj).1; simpa using this
                      exact ⟨cs[i], by rw [Nat.zero_add]; exact Array.getElem?_eq_getElem (by omega), .junk _⟩), fun _ => rfl, (fun h => by cases h), rfl, fun _ => rfl⟩
                  refine ⟨_, _, _, .inl ?_, VRel.slice (β := β.put A.next ⟨w.heap.size, 0, 1, cs.size⟩) A.next 0 n n cs.size ⟨w.heap.size, 0, 1, cs.size⟩ (put_self _ _ _) (Nat.le_refl _) hle (by show 0 + 0 + cs.size * 1 ≤ cs.size; omega), g1, g2, Nat.le_succ _⟩
                  simp [execOp, resolve, hgv, hgx, Deferred.ofValue, invoke, hm2, hrun]
                  rfl
              · cases hm
            · cases hm
          · cases hm
        rename_i hmn
        clear hmn
        obtain ⟨h1, rfl⟩ := ofV_val h
        unfold neV at h1
        split at h1
        · rename_i x hx
          replace h1 := bs_some h1
          rcases h1 with ⟨hb, h1⟩ | ⟨_, h1⟩
          · cases h1
            obtain ⟨x0, rfl, rfl⟩ := lmap_one hx
            generalize hgv : a.eval f = gv at hf2
            cases hf2 with
            | func _ _ p' _ q' hp hq h1 h2 =>
              have hp0 : p' = [] := List.eq_nil_of_length_eq_zero hp.symm
              have hq0 : q' = [] := List.eq_nil_of_length_eq_zero hq.symm
              subst hp0; subst hq0
              refine ⟨β, a.eval x0, w, .inl ?_, E1 x0, inv, Ren.grow_refl _ _, Nat.le_refl _⟩
              have hne := ok.ne g (lin_mem hb) (a.eval x0) w
              simp [execOp, resolve, hgv, Deferred.ofValue, invoke, hne]
          · cases h1
        · rename_i l c hx
          replace h1 := bs_some h1
          rcases h1 with ⟨hb, h1⟩ | ⟨_, h1⟩
          · cases h1
            rw [Bool.and_eq_true] at hb
            have hc : c < 256 := Nat.le_of_ble_eq_true hb.2
            obtain ⟨x0, y0, rfl, e1, e2⟩ := lmap_two hx
            have r1 := E1 x0
            have r2 := E1 y0
            rw [e1] at r1
            rw [e2] at r2
            generalize hgx : a.eval x0 = gx at r1
            generalize hgy : a.eval y0 = gy at r2
            cases r1
            cases r2
            generalize hgv : a.eval f = gv at hf2
            cases hf2 with
            | func _ _ p' _ q' hp hq h1 h2 =>
              have hp0 : p' = [] := List.eq_nil_of_length_eq_zero hp.symm
              have hq0 : q' = [] := List.eq_nil_of_length_eq_zero hq.symm
              subst hp0; subst hq0
              refine ⟨β, .int .i64 (ibF l c), w, .inl ?_, .int _ _, inv, Ren.grow_refl _ _, Nat.le_refl _⟩
              have hib := ok.ib g (lin_mem hb.1) #[.string ⟨⟨l⟩⟩, .int .u8 (.ofNat c)] w
              have hrun := Lib.run_indexByteString (P := P) ⟨⟨l⟩⟩ (.ofNat c) w
              rw [ibF_eq c hc]
              rw [show (Int.ofNat c) = (c : Int) from rfl] at hib hrun
              simp [execOp, resolve, hgv, hgx, hgy, Deferred.ofValue, invoke, hib, hrun]
          · cases h1
        · cases h1
    · cases h
    · cases h
  · rename_i b args tys
    unfold builtinA at h
    split at h
    · rename_i t x hv
      obtain ⟨x0, rfl, rfl⟩ := lmap_one hv
      have := does_v (P := P) (s := Builtin.len_ #[t] type #[a.eval x0]) inv h (fun e => len_ok ok inv e (E1 x0))
      simpa [execOp, resolve, invoke, builtin] using this
    · rename_i t tx s x hv
      obtain ⟨s0, x0, rfl, rfl, rfl⟩ := lmap_two hv
      split at h
      · rename_i p hp
        have h : ofP (appendV E A t tx (ev E fr s0) (ev E fr x0)) = .val v A' := by rw [hp]; exact h
        have := does_p (P := P) (w := w) (β := β) (A := A) (E := E) (w0 := w0) (s := Builtin.append_ #[t, tx] type #[a.eval s0, a.eval x0]) h appendV_next (fun e => append_ok ok inv e (E1 s0) (E1 x0))
        simpa [execOp, resolve, invoke, builtin] using this
      · have := does_p (P := P) (w := w) (β := β) (A := A) (E := E) (w0 := w0) (s := Builtin.append_ #[t, tx] type #[a.eval s0, a.eval x0]) h zappV_next (fun e => zapp_ok ok inv e (E1 s0) (E1 x0))
        simpa [execOp, resolve, invoke, builtin] using this
    · rename_i t tx s x hv
      obtain ⟨s0, x0, rfl, rfl, rfl⟩ := lmap_two hv
      have := does_p (P := P) (w := w) (β := β) (A := A) (E := E) (w0 := w0) (s := Builtin.copy_ #[t, tx] type #[a.eval s0, a.eval x0]) h copyV_next (fun e => copy_ok ok inv e (E1 s0) (E1 x0))
      simpa [execOp, resolve, invoke, builtin] using this
    · rename_i t x hv
      obtain ⟨x0, rfl, rfl⟩ := lmap_one hv
      have := does_p (P := P) (w := w) (β := β) (A := A) (E := E) (w0 := w0) (s := Builtin.clear_ #[t] type #[a.eval x0]) h clearV_next (fun e => clear_ok ok inv e (E1 x0))
      simpa [execOp, resolve, invoke, builtin] using this
    · rename_i t x hv
      obtain ⟨x0, rfl, rfl⟩ := lmap_one hv
      have := does_v (P := P) (s := Builtin.cap_ #[t] type #[a.eval x0]) inv h (fun e => cap_ok ok inv e (E1 x0))
      simpa [execOp, resolve, invoke, builtin] using this
    · have := fun ts : Array TypeId => does_v (P := P) (s := Builtin.max_ ts type ⟨args.map a.eval⟩) inv h (fun e => ⟨v, max_ok e (LRel_map hf inv args)⟩)
      simpa [execOp, resolve, invoke, builtin] using this _
    · have := fun ts : Array TypeId => does_v (P := P) (s := Builtin.min_ ts type ⟨args.map a.eval⟩) inv h (fun e => ⟨v, min_ok e (LRel_map hf inv args)⟩)
      simpa [execOp, resolve, invoke, builtin] using this _
    · rename_i x hv
      obtain ⟨x0, rfl, rfl⟩ := lmap_one hv
      have := fun ts : Array TypeId => does_v (P := P) (s := Builtin.unsafeSliceData_ ts type #[a.eval x0]) inv h (fun e => sdata_ok e (E1 x0))
      simpa [execOp, resolve, invoke, builtin] using this _
    · rename_i t t2 x y hv
      obtain ⟨x0, y0, rfl, rfl, rfl⟩ := lmap_two hv
      have := does_p (P := P) (w := w) (β := β) (A := A) (E := E) (w0 := w0) (s := Builtin.unsafeString_ #[t, t2] type #[a.eval x0, a.eval y0]) h ustrV_next (fun e => ustr_ok ok inv e (E1 x0) (E1 y0))
      simpa [execOp, resolve, invoke, builtin] using this
    · cases h
  · rename_i t r; exact does_p h mkMapV_next (fun e => mkMap_ok ok inv e (ORel_map hf inv r))
  · rename_i t x k b; exact does_v inv h (fun e => lookup_ok ok sok inv e (E1 x) (E1 k))
  · rename_i t m k x
    obtain ⟨h1, rfl⟩ := ofA_val h
    obtain ⟨w', hr, hi⟩ := upd_ok ok sok inv h1 (E1 m) (E1 k) (E1 x)
    exact ⟨β, undef, w', .inr ⟨by simp [execOp, hr], rfl⟩, VRel.undef, hi, Ren.grow_refl _ _, updV_next h1⟩
  · rename_i t m k x
    obtain ⟨h1, rfl⟩ := ofA_val h
    obtain ⟨w', hr, hi⟩ := upd_ok ok sok inv h1 (E1 m) (E1 k) (E1 x)
    exact ⟨β, undef, w', .inr ⟨by simp [execOp, hr], rfl⟩, VRel.undef, hi, Ren.grow_refl _ _, updV_next h1⟩
  · rename_i t m k; exact does_p h entryV_next (fun e => entry_ok ok sok inv e (E1 m) (E1 k))
  · rename_i t m s x
    obtain ⟨h1, rfl⟩ := ofA_val h
    obtain ⟨w', hr, hi⟩ := estore_ok (P := P) (t := t) inv h1 (E1 m) (E1 s) (E1 x)
    exact ⟨β, undef, w', .inr ⟨by simp [execOp, hr], rfl⟩, VRel.undef, hi, Ren.grow_refl _ _, estoreV_next h1⟩
  · rename_i t x; exact does_p h rangeV_next (fun e => range_ok ok inv e (E1 x))
  · unfold ofN at h; split at h <;> cases h
  · rename_i it; exact does_v inv h (fun e => itEnt_ok inv e (E1 it))
  · cases h

def Enters (P : Program) (β : Ren) (w : World) (s : Sem Next) (args' : List Value) : Tgt → Prop
  | .fn f => s.run P w = .ok (.enter f ⟨args'⟩) w
  | .rd L => ∃ l, β L = some l ∧ s.run P w = (Instr.yield l.b ⟨args'⟩).run P w
include ok inv in
theorem op_call {n : Nat} {fr : Gt} {a : Act} (hf : FRel β n fr a.tmps) {o : Oper} {f : Tgt} {args : List Value} (h : opA E sq A fr o.op = .call f args) :
    ∃ args', LRel β args args' ∧ Enters P β w (execOp a.eval o) args' f := by
  obtain ⟨dst, op, type, pos, after, guard⟩ := o
  have E1 := ev_rel (a := a) inv hf
  unfold opA at h
  simp only at h
  split at h
  case h_22 =>
    rename_i g as _
    have hg := E1 g
    unfold callV at h
    split at h
    · rename_i fid p q hev
      split at h
      · rename_i nm org ta ps rt nf nt rs bd nr ou fi el ln me tn hfn
        cases h
        rw [hev] at hg
        obtain ⟨hfun, hname⟩ := ok.fn fid _ hfn
        generalize hgv : a.eval g = gv at hg
        cases hg with
        | func _ _ p' _ q' hp hq h1 h2 =>
          refine ⟨p' ++ as.map a.eval ++ q', ?_, ?_⟩
          · rw [lapp_eq, lapp_eq]
            exact (LRel.append ⟨hp, h1⟩ (LRel_map hf inv as)).append ⟨hq, h2⟩
          · have hname' : ¬ nm = "runtime.NumGoroutine" := by simpa using hname
            simp [Enters, execOp, resolve, hgv, Deferred.ofValue, invoke, callFunc, program, Sem.run, hfun, hname']
      · split at h
        · cases h
        · unfold ofV at h; split at h <;> cases h
    · rename_i L hev
      cases h
      rw [hev] at hg
      generalize hgv : a.eval g = gv at hg
      cases hg with
      | yield _ l hl =>
        refine ⟨as.map a.eval, LRel_map hf inv as, l, hl, ?_⟩
        simp [execOp, resolve, hgv, Deferred.ofValue, invoke]
    · cases h
  case h_23 =>
    unfold builtinA at h
    split at h
    all_goals first
      | cases h
      | (unfold ofV at h; split at h <;> cases h)
      | (unfold ofP at h; split at h <;> cases h)
      | (split at h
         · cases h
         · unfold ofP at h; split at h <;> cases h)
  all_goals first
    | cases h
    | (unfold ofV at h; split at h <;> cases h)
    | (unfold ofP at h; split at h <;> cases h)
    | (unfold ofA at h; split at h <;> cases h)
    | (unfold ofN at h; split at h <;> cases h)
    | (unfold convA at h
       split at h
       · cases h
       · split at h
         · cases h
         · unfold ofP at h; split at h <;> cases h)

include inv in
theorem op_nd {n : Nat} {fr : Gt} {a : Act} (hf : FRel β n fr a.tmps) {o : Oper} {l : List (Value × AW)} (h : opA E sq A fr o.op = .nd l) :
    ∃ p ∈ l, DoesOp P w0 E.G β A w (execOp a.eval o) p.1 p.2 := by
  obtain ⟨dst, op, type, pos, after, guard⟩ := o
  have E1 := ev_rel (a := a) inv hf
  unfold opA at h
  simp only at h
  split at h
  case h_31 =>
    rename_i it
    unfold ofN at h
    split at h
    · rename_i l2 hn
      cases h
      obtain ⟨p, hp, ⟨β', v', w', hr, hv, hi, hg⟩, hle⟩ := next_ok (P := P) (ty := type) inv hn (E1 it)
      exact ⟨p, hp, β', v', w', .inl (by simp [execOp, hr]), hv, hi, hg, hle⟩
    · cases h
  case h_22 =>
    unfold callV at h
    split at h
    · split at h
      · cases h
      · split at h
        · cases h
        · unfold ofV at h; split at h <;> cases h
    · cases h
    · cases h
  case h_23 =>
    unfold builtinA at h
    split at h
    all_goals first
      | cases h
      | (unfold ofV at h; split at h <;> cases h)
      | (unfold ofP at h; split at h <;> cases h)
      | (split at h
         · cases h
         · unfold ofP at h; split at h <;> cases h)
  all_goals first
    | cases h
    | (unfold ofV at h; split at h <;> cases h)
    | (unfold ofP at h; split at h <;> cases h)
    | (unfold ofA at h; split at h <;> cases h)
    | (unfold convA at h
       split at h
       · cases h
       · split at h
         · cases h
         · unfold ofP at h; split at h <;> cases h)
end

/-! ### the same, with the tape -/
/-- the tape without its head -/
def AW.pop (A : AW) (r : List Node) : AW := ⟨A.heap, A.next, r⟩
theorem Inv.pop {w0 w : World} {G : GP} {β : Ren} {A : AW} (h : Inv w0 G β A w) {r : List Node} (hr : ∀ nd ∈ r, nd ∈ A.tape) : Inv w0 G β (A.pop r) w :=
  ⟨h.below, h.dom, h.nxt, h.loc, h.inj, h.cont, h.glob, h.frz, h.sep, fun nd hnd => h.nds nd (hr nd hnd), h.own, h.odom, h.lay, h.xg, h.gsz, h.zo⟩
noncomputable def symR (E : Env) (sq : List (Nat × List IntKind)) (A : AW) (fr : Gt) (op : Op) : R :=
  match A.tape with
  | [] => .fail
  | nd :: r => match symV E sq fr op nd with
    | some v => .val v (A.pop r)
    | none => .fail
noncomputable def orR (r : R) : R → R := R.rec (motive := fun _ => R → R) (fun s => s) (fun v A _ => .val v A) (fun f a _ => .call f a) (fun l _ => .nd l) r
noncomputable def opT (E : Env) (sq : List (Nat × List IntKind)) (A : AW) (fr : Gt) (op : Op) : R := orR (opD op E sq A fr) (symR E sq A fr op)
theorem opT_of {E : Env} {sq : List (Nat × List IntKind)} {A : AW} {fr : Gt} {op : Op} {r : R} (h : opA E sq A fr op = r) (hr : r ≠ .fail) : opT E sq A fr op = r := by
  unfold opT
  rw [opD_eq, h]
  cases r with
  | fail => exact absurd rfl hr
  | _ => rfl
theorem opT_cases (E : Env) (sq : List (Nat × List IntKind)) (A : AW) (fr : Gt) (op : Op) : (opT E sq A fr op = opA E sq A fr op ∧ opA E sq A fr op ≠ .fail) ∨ (opA E sq A fr op = .fail ∧ opT E sq A fr op = symR E sq A fr op) := by
  unfold opT
  rw [opD_eq]
  cases h : opA E sq A fr op with
  | fail => exact .inr ⟨rfl, rfl⟩
  | _ => exact .inl ⟨rfl, by simp⟩
theorem symR_val {E : Env} {sq : List (Nat × List IntKind)} {A : AW} {fr : Gt} {op : Op} {r : R} (h : symR E sq A fr op = r) (hr : r ≠ .fail) : ∃ nd l v, A.tape = nd :: l ∧ symV E sq fr op nd = some v ∧ r = .val v (A.pop l) := by
  unfold symR at h
  split at h
  · exact absurd h.symm hr
  · rename_i nd l ht
    split at h
    · rename_i v hv
      exact ⟨nd, l, v, ht, hv, h.symm⟩
    · exact absurd h.symm hr
theorem symR_congr {E : Env} {sq : List (Nat × List IntKind)} {A : AW} {g g' : Gt} {op : Op} (h : ∀ nd, symV E sq g op nd = symV E sq g' op nd) : symR E sq A g op = symR E sq A g' op := by
  unfold symR
  split
  · rfl
  · rw [h]
section
variable {P : Program} {E : Env} (ok : E.Ok P) {sq : List (Nat × List IntKind)} (sok : E.Seq P sq) {w0 w : World} {β : Ren} {A : AW} (inv : Inv w0 E.G β A w)
include ok sok inv
theorem opT_ok {n : Nat} {fr : Gt} {a : Act} (hf : FRel β n fr a.tmps) {o : Oper} {v : Value} {A' : AW} (h : opT E sq A fr o.op = .val v A') : DoesOp P w0 E.G β A w (execOp a.eval o) v A' := by
  rcases opT_cases E sq A fr o.op with ⟨h1, _⟩ | ⟨_, h1⟩
  · exact op_ok ok sok inv hf (h1.symm.trans h)
  · obtain ⟨nd, l, v2, ht, hv, hr⟩ := symR_val (h1.symm.trans h) (by simp)
    cases hr
    obtain ⟨v', hrun, hrel⟩ := sym_ok ok sok inv hf hv (ok.q _ _ (inv.nds nd (by rw [ht]; exact List.mem_cons_self)))
    exact ⟨β, v', w, .inl hrun, hrel, inv.pop (fun x hx => by rw [ht]; exact List.mem_cons_of_mem _ hx), Ren.grow_refl _ _, Nat.le_refl _⟩
omit sok in
theorem opT_call {n : Nat} {fr : Gt} {a : Act} (hf : FRel β n fr a.tmps) {o : Oper} {f : Tgt} {args : List Value} (h : opT E sq A fr o.op = .call f args) : ∃ args', LRel β args args' ∧ Enters P β w (execOp a.eval o) args' f := by
  rcases opT_cases E sq A fr o.op with ⟨h1, _⟩ | ⟨_, h1⟩
  · exact op_call ok inv hf (h1.symm.trans h)
  · obtain ⟨nd, l, v2, ht, hv, hr⟩ := symR_val (h1.symm.trans h) (by simp)
    cases hr
omit ok sok in
theorem opT_nd {n : Nat} {fr : Gt} {a : Act} (hf : FRel β n fr a.tmps) {o : Oper} {l : List (Value × AW)} (h : opT E sq A fr o.op = .nd l) : ∃ p ∈ l, DoesOp P w0 E.G β A w (execOp a.eval o) p.1 p.2 := by
  rcases opT_cases E sq A fr o.op with ⟨h1, _⟩ | ⟨_, h1⟩
  · exact op_nd inv hf (h1.symm.trans h)
  · obtain ⟨nd, l, v2, ht, hv, hr⟩ := symR_val (h1.symm.trans h) (by simp)
    cases hr
end
end Go.Ex
