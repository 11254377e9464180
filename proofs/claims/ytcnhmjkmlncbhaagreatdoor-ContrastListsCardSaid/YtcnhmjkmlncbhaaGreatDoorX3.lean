/- A verified evaluator of Go functions on partly symbolic values, part 3 of 17. -/
import Derived.Test.YtcnhmjkmlncbhaaGreatDoorX2
namespace Go.Ex
open Go.RowKit

noncomputable def beqL (a : List UInt8) : List UInt8 → Bool :=
  List.rec (motive := fun _ => List UInt8 → Bool) (fun b => List.rec (motive := fun _ => Bool) true (fun _ _ _ => false) b)
    (fun x _ ih b => List.rec (motive := fun _ => Bool) false (fun y t _ => bs (Nat.beq x.toNat y.toNat) (ih t) false) b) a
theorem beqL_eq (a : List UInt8) : ∀ b, beqL a b = decide (a = b) := by
  induction a with
  | nil => intro b; cases b <;> rfl
  | cons x a ih =>
    intro b
    cases b with
    | nil => rfl
    | cons y b =>
      show bs (Nat.beq x.toNat y.toNat) (beqL a b) false = _
      rw [nbeq]
      by_cases h : x = y
      · subst h; rw [decide_eq_true rfl, bs_true, ih]; simp
      · have : ¬ x.toNat = y.toNat := fun e => h (UInt8.toNat_inj.1 e)
        rw [decide_eq_false this, bs_false]; simp [h]

noncomputable def seqOf (l : List (Nat × List IntKind)) (t : Nat) : Option (List IntKind) :=
  List.rec (motive := fun _ => Option (List IntKind)) none (fun p _ ih => bs (Nat.beq p.1 t) (some p.2) ih) l
noncomputable def leq0 (a b : List Value) : Option Bool := match a, b with | [], [] => some true | _, _ => none
noncomputable def leq1 (k : IntKind) (ih : List Value → List Value → Option Bool) (a b : List Value) : Option Bool :=
  match a, b with
  | .int j m :: a, .int j' n :: b => bs (keq j k && keq j' k) (match ih a b with | some r => some (bs (ieq m n) r false) | none => none) none
  | _, _ => none
/-- cell by cell -/
noncomputable def leqT (ks : List IntKind) : List Value → List Value → Option Bool :=
  List.rec (motive := fun _ => List Value → List Value → Option Bool) leq0 (fun k _ ih => leq1 k ih) ks

structure Env.Seq (E : Env) (P : Program) (sq : List (Nat × List IntKind)) : Prop where
  eq : ∀ t ks a b r, seqOf sq t = some ks → leqT ks a b = some r → ∀ w, (Op.equal t (.agg ⟨a⟩) (.agg ⟨b⟩)).run P w = .ok r w
  guard : ∀ t ks, seqOf sq t = some ks → P.eqGuardType P.depth t = false
  und : ∀ t ks, seqOf sq t = some ks → ∃ d, P.underlying t = some d
  key : ∀ t ks a, seqOf sq t = some ks → leqT ks a a = some true → ∀ em w, (Instr.checkKey em 10000 t (.agg ⟨a⟩)).run P w = .ok () w

theorem leqT_same {β : Ren} : ∀ (ks : List IntKind) (a b a' b' : List Value) (r : Bool), leqT ks a b = some r → LRel β a a' → LRel β b b' → a' = a ∧ b' = b
  | [], a, b, a', b', r, h, ha, hb => by
    have h' : leq0 a b = some r := h
    clear h
    unfold leq0 at h'
    split at h'
    · exact ⟨ha.inv_nil, hb.inv_nil⟩
    · cases h'
  | k :: ks, a, b, a', b', r, h, ha, hb => by
    have h' : leq1 k (leqT ks) a b = some r := h
    clear h
    unfold leq1 at h'
    split at h'
    · rename_i j m a j' n b
      replace h' := bs_some h'
      rcases h' with ⟨_, h'⟩ | ⟨_, h'⟩
      · split at h'
        · rename_i r2 hr2
          obtain ⟨v, l, rfl, hv, hl⟩ := ha.inv_cons
          obtain ⟨v2, l2, rfl, hv2, hl2⟩ := hb.inv_cons
          obtain ⟨e1, e2⟩ := leqT_same ks a b l l2 r2 hr2 hl hl2
          cases hv; cases hv2
          rw [e1, e2]
          exact ⟨rfl, rfl⟩
        · cases h'
      · cases h'
    · cases h'

/-- == and != beside whole numbers; + of strings -/
noncomputable def eqV (E : Env) (sq : List (Nat × List IntKind)) (t : TypeId) (x y : Value) : Option Bool :=
  match x, y with
  | .bool a, .bool b => match E.ti.get none t with | some ⟨.bool, _, _, _, _⟩ => some (bs a b (not b)) | _ => none
  | .pointer none, .pointer none => match E.ti.get none t with | some ⟨.pointer _, _, _, _, _⟩ => some true | _ => none
  | .pointer none, .pointer (some _) => match E.ti.get none t with | some ⟨.pointer _, _, _, _, _⟩ => some false | _ => none
  | .pointer (some _), .pointer none => match E.ti.get none t with | some ⟨.pointer _, _, _, _, _⟩ => some false | _ => none
  | .pointer (some ⟨B, o, none⟩), .pointer (some ⟨B', o', none⟩) =>
    match E.ti.get none t with
    | some ⟨.pointer e, _, _, _, _⟩ => match E.ti.get none e with
      | some r => bs (Nat.beq r.size 0) none (bs (Nat.beq B B') (some (Nat.beq o o')) none)
      | none => none
    | _ => none
  | .slice none _ _, .slice none _ _ => match E.ti.get none t with | some ⟨.slice _, _, _, _, _⟩ => some true | _ => none
  | .slice none _ _, .slice (some _) _ _ => match E.ti.get none t with | some ⟨.slice _, _, _, _, _⟩ => some false | _ => none
  | .slice (some _) _ _, .slice none _ _ => match E.ti.get none t with | some ⟨.slice _, _, _, _, _⟩ => some false | _ => none
  | .map none, .map none => match E.ti.get none t with | some ⟨.map _ _, _, _, _, _⟩ => some true | _ => none
  | .map none, .map (some _) => match E.ti.get none t with | some ⟨.map _ _, _, _, _, _⟩ => some false | _ => none
  | .map (some _), .map none => match E.ti.get none t with | some ⟨.map _ _, _, _, _, _⟩ => some false | _ => none
  | .nilFunc, .nilFunc => match E.ti.get none t with | some ⟨.func _ _ _, _, _, _, _⟩ => some true | _ => none
  | .nilFunc, .func _ _ _ => match E.ti.get none t with | some ⟨.func _ _ _, _, _, _, _⟩ => some false | _ => none
  | .func _ _ _, .nilFunc => match E.ti.get none t with | some ⟨.func _ _ _, _, _, _, _⟩ => some false | _ => none
  | .agg ⟨a⟩, .agg ⟨b⟩ => match seqOf sq t with | some ks => leqT ks a b | none => none
  | _, _ => none

theorem equal_unfold (t : TypeId) (x y : Value) : Op.equal t x y = Op.equalIn (9999 + 1) t x y := rfl
section
variable {P : Program} {E : Env} (ok : E.Ok P) {sq : List (Nat × List IntKind)} (sok : E.Seq P sq) {β : Ren}
include ok sok
set_option maxHeartbeats 1000000 in
theorem eq_ok {t : TypeId} {x y x' y' : Value} {r : Bool} (h : eqV E sq t x y = some r) (hx : VRel β x x') (hy : VRel β y y') (w : World) :
    (Op.equal t x' y').run P w = .ok r w ∧ (∀ op p q, (eqGuard op t p q x' y').run P w = .ok () w) ∧ (∀ op, op = .eql ∨ op = .neq → binOp op t x' y' = match op with | .eql => (do pure (.bool (← Op.equal t x' y'))) | _ => (do pure (.bool (!(← Op.equal t x' y'))))) := by
  unfold eqV at h
  split at h
  · rename_i a b
    split at h <;> cases h
    rename_i hr
    cases hx; cases hy
    have hu := (ok.ti t _ hr).1
    refine ⟨?_, fun op p q => ?_, fun op ho => by rcases ho with rfl | rfl <;> rfl⟩
    · rw [equal_unfold, Op.equalIn]
      cases a <;> cases b <;> simp [run_underlying hu, bs]
    · cases op <;> simp [eqGuard]
  · split at h <;> cases h
    rename_i hr
    have hu := (ok.ti t _ hr).1
    cases hx <;> cases hy <;>
    (refine ⟨?_, fun op p q => ?_, fun op ho => by rcases ho with rfl | rfl <;> rfl⟩
     · rw [equal_unfold, Op.equalIn]
       simp [run_underlying hu]
     · cases op <;> simp [eqGuard])
  · split at h <;> cases h
    rename_i hr
    have hu := (ok.ti t _ hr).1
    cases hx <;> cases hy <;>
    (refine ⟨?_, fun op p q => ?_, fun op ho => by rcases ho with rfl | rfl <;> rfl⟩
     · rw [equal_unfold, Op.equalIn]
       simp [run_underlying hu]
     · cases op <;> simp [eqGuard])
  · split at h <;> cases h
    rename_i hr
    have hu := (ok.ti t _ hr).1
    cases hx <;> cases hy <;>
    (refine ⟨?_, fun op p q => ?_, fun op ho => by rcases ho with rfl | rfl <;> rfl⟩
     · rw [equal_unfold, Op.equalIn]
       simp [run_underlying hu]
     · cases op <;> simp [eqGuard])
  · rename_i B o B' o'
    split at h
    · rename_i e _ _ _ _ hr
      split at h
      · rename_i re hre
        replace h := bs_some h
        rcases h with ⟨_, h⟩ | ⟨hz, h⟩
        · cases h
        replace h := bs_some h
        rcases h with ⟨hB, h⟩ | ⟨hz, h⟩
        · have hB' := Nat.eq_of_beq_eq_true hB
          subst hB'
          cases h
          rw [nbeq] at hz
          have hz' : ¬ re.size = 0 := by simpa using hz
          cases hx with
          | ptr _ _ l hl =>
            cases hy with
            | ptr _ _ l' hl' =>
              rw [hl] at hl'
              cases hl'
              have hu := (ok.ti t _ hr).1
              refine ⟨?_, fun op p q => ?_, fun op ho => by rcases ho with rfl | rfl <;> rfl⟩
              · rw [equal_unfold, Op.equalIn]
                simp [run_underlying hu, run_size ok hre, hz', sameAddr, nbeq, Bool.beq_eq_decide_eq]
              · cases op <;> simp [eqGuard]
        · cases h
      · cases h
    · cases h
  · split at h <;> cases h
    rename_i hr
    have hu := (ok.ti t _ hr).1
    cases hx <;> cases hy <;>
    (refine ⟨?_, fun op p q => ?_, fun op ho => by rcases ho with rfl | rfl <;> rfl⟩
     · rw [equal_unfold, Op.equalIn]
       simp [run_underlying hu]
     · cases op <;> simp [eqGuard])
  · split at h <;> cases h
    rename_i hr
    have hu := (ok.ti t _ hr).1
    cases hx <;> cases hy <;>
    (refine ⟨?_, fun op p q => ?_, fun op ho => by rcases ho with rfl | rfl <;> rfl⟩
     · rw [equal_unfold, Op.equalIn]
       simp [run_underlying hu]
     · cases op <;> simp [eqGuard])
  · split at h <;> cases h
    rename_i hr
    have hu := (ok.ti t _ hr).1
    cases hx <;> cases hy <;>
    (refine ⟨?_, fun op p q => ?_, fun op ho => by rcases ho with rfl | rfl <;> rfl⟩
     · rw [equal_unfold, Op.equalIn]
       simp [run_underlying hu]
     · cases op <;> simp [eqGuard])
  · split at h <;> cases h
    rename_i hr
    have hu := (ok.ti t _ hr).1
    cases hx <;> cases hy <;>
    (refine ⟨?_, fun op p q => ?_, fun op ho => by rcases ho with rfl | rfl <;> rfl⟩
     · rw [equal_unfold, Op.equalIn]
       simp [run_underlying hu]
     · cases op <;> simp [eqGuard])
  · split at h <;> cases h
    rename_i hr
    have hu := (ok.ti t _ hr).1
    cases hx <;> cases hy <;>
    (refine ⟨?_, fun op p q => ?_, fun op ho => by rcases ho with rfl | rfl <;> rfl⟩
     · rw [equal_unfold, Op.equalIn]
       simp [run_underlying hu]
     · cases op <;> simp [eqGuard])
  · split at h <;> cases h
    rename_i hr
    have hu := (ok.ti t _ hr).1
    cases hx <;> cases hy <;>
    (refine ⟨?_, fun op p q => ?_, fun op ho => by rcases ho with rfl | rfl <;> rfl⟩
     · rw [equal_unfold, Op.equalIn]
       simp [run_underlying hu]
     · cases op <;> simp [eqGuard])
  · split at h <;> cases h
    rename_i hr
    have hu := (ok.ti t _ hr).1
    cases hx <;> cases hy <;>
    (refine ⟨?_, fun op p q => ?_, fun op ho => by rcases ho with rfl | rfl <;> rfl⟩
     · rw [equal_unfold, Op.equalIn]
       simp [run_underlying hu]
     · cases op <;> simp [eqGuard])
  · split at h <;> cases h
    rename_i hr
    have hu := (ok.ti t _ hr).1
    cases hx <;> cases hy <;>
    (refine ⟨?_, fun op p q => ?_, fun op ho => by rcases ho with rfl | rfl <;> rfl⟩
     · rw [equal_unfold, Op.equalIn]
       simp [run_underlying hu]
     · cases op <;> simp [eqGuard])
  · split at h <;> cases h
    rename_i hr
    have hu := (ok.ti t _ hr).1
    cases hx <;> cases hy <;>
    (refine ⟨?_, fun op p q => ?_, fun op ho => by rcases ho with rfl | rfl <;> rfl⟩
     · rw [equal_unfold, Op.equalIn]
       simp [run_underlying hu]
     · cases op <;> simp [eqGuard])
  · rename_i a b
    split at h
    · rename_i ks hks
      cases hx with
      | agg _ p' hp h1 =>
        cases hy with
        | agg _ q' hq h2 =>
          obtain ⟨rfl, rfl⟩ := leqT_same ks a b p' q' r h ⟨hp, h1⟩ ⟨hq, h2⟩
          refine ⟨sok.eq t ks _ _ r hks h w, fun op p q => ?_, fun op ho => by rcases ho with rfl | rfl <;> rfl⟩
          have hg := sok.guard t ks hks
          cases op <;> simp [eqGuard, program, Sem.run, hg]
    · cases h
  · cases h
end

/-- a binary operator -/
noncomputable def binV (E : Env) (sq : List (Nat × List IntKind)) (op : BinOp) (t : TypeId) (x y : Value) : Option Value :=
  match x, y with
  | .int k a, .int k' b => ibin op k a k' b
  | .string ⟨⟨a⟩⟩, .string ⟨⟨b⟩⟩ => match op with
    | .eql => some (.bool (beqL a b))
    | .neq => some (.bool (not (beqL a b)))
    | .add => bs (Nat.ble (Nat.add (llen a) (llen b)) 9223372036854775807) (some (.string ⟨⟨lapp a b⟩⟩)) none
    | _ => none
  | x, y => match op with
    | .eql => (eqV E sq t x y).map .bool
    | .neq => (eqV E sq t x y).map fun b => .bool (not b)
    | _ => none
/-! the same, for the kernel -/
noncomputable def ibinD (op : BinOp) : IntKind → Int → IntKind → Int → Option Value :=
  match op with
  | .add => fun k a k' b => bs (keq k k') (some (.int k (wrapF k (Int.add a b)))) none
  | .sub => fun k a k' b => bs (keq k k') (some (.int k (wrapF k (Int.sub a b)))) none
  | .mul => fun k a k' b => bs (keq k k') (some (.int k (wrapF k (Int.mul a b)))) none
  | .and => fun k a k' b => bs (keq k k') ((ibit .and k a b).map (.int k)) none
  | .or => fun k a k' b => bs (keq k k') ((ibit .or k a b).map (.int k)) none
  | .xor => fun k a k' b => bs (keq k k') ((ibit .xor k a b).map (.int k)) none
  | .eql => fun k a k' b => bs (keq k k') (some (.bool (ieq a b))) none
  | .neq => fun k a k' b => bs (keq k k') (some (.bool (not (ieq a b)))) none
  | .lss => fun k a k' b => bs (keq k k') (some (.bool (ilt a b))) none
  | .leq => fun k a k' b => bs (keq k k') (some (.bool (not (ilt b a)))) none
  | .gtr => fun k a k' b => bs (keq k k') (some (.bool (ilt b a))) none
  | .geq => fun k a k' b => bs (keq k k') (some (.bool (not (ilt a b)))) none
  | op => ibin op
theorem ibinD_eq (op : BinOp) (k : IntKind) (a : Int) (k' : IntKind) (b : Int) : ibinD op k a k' b = ibin op k a k' b := by cases op <;> rfl
abbrev BinT := IntKind → Int → Env → List (Nat × List IntKind) → BinOp → TypeId → Option Value
noncomputable def binD2 (y : Value) : BinT :=
  vcase (ρ := BinT) (fun _ v k a E sq op t => binV E sq op t (.int k a) v) (fun k' b _ k a _ _ op _ => ibinD op k a k' b) (fun _ v k a E sq op t => binV E sq op t (.int k a) v) (fun _ v k a E sq op t => binV E sq op t (.int k a) v)
    (fun _ _ _ v k a E sq op t => binV E sq op t (.int k a) v) (fun _ v k a E sq op t => binV E sq op t (.int k a) v) (fun v k a E sq op t => binV E sq op t (.int k a) v) y y
abbrev BinT2 := Env → List (Nat × List IntKind) → BinOp → TypeId → Value → Option Value
noncomputable def binD (E : Env) (sq : List (Nat × List IntKind)) (op : BinOp) (t : TypeId) (x y : Value) : Option Value :=
  vcase (ρ := BinT2) (fun _ v E sq op t y => binV E sq op t v y) (fun k a _ E sq op t y => binD2 y k a E sq op t) (fun _ v E sq op t y => binV E sq op t v y) (fun _ v E sq op t y => binV E sq op t v y)
    (fun _ _ _ v E sq op t y => binV E sq op t v y) (fun _ v E sq op t y => binV E sq op t v y) (fun v E sq op t y => binV E sq op t v y) x x E sq op t y
theorem binD_eq (E : Env) (sq : List (Nat × List IntKind)) (op : BinOp) (t : TypeId) (x y : Value) : binD E sq op t x y = binV E sq op t x y := by
  cases x with
  | int k a => cases y with
    | int k' b => exact ibinD_eq op k a k' b
    | _ => rfl
  | _ => rfl
theorem ba_append (a b : List UInt8) : (⟨⟨a⟩⟩ : ByteArray) ++ (⟨⟨b⟩⟩ : ByteArray) = ⟨⟨a ++ b⟩⟩ := by
  apply ByteArray.ext
  rw [ByteArray.data_append]
  apply Array.ext'
  simp
section
variable {P : Program} {E : Env} (ok : E.Ok P) {sq : List (Nat × List IntKind)} (sok : E.Seq P sq) {β : Ren}
include ok sok
theorem bin_ok {op : BinOp} {t : TypeId} {x y x' y' v : Value} (h : binV E sq op t x y = some v) (hx : VRel β x x') (hy : VRel β y y') (p q : Operand) (w : World) :
    ∃ v', (do eqGuard op t p q x' y'; binOp op t x' y' : Sem Value).run P w = .ok v' w ∧ VRel β v v' := by
  unfold binV at h
  split at h
  · rename_i k a k' b
    cases hx; cases hy
    obtain ⟨h1, h2⟩ := ibin_ok h t P w
    refine ⟨v, ?_, h2 β⟩
    have hg : (eqGuard op t p q (.int k a) (.int k' b)).run P w = .ok () w := by cases op <;> simp [eqGuard]
    simp [hg, h1]
  · rename_i a b
    cases hx; cases hy
    have hg : (eqGuard op t p q (.string ⟨⟨a⟩⟩) (.string ⟨⟨b⟩⟩)).run P w = .ok () w := by cases op <;> simp [eqGuard]
    split at h
    · cases h
      refine ⟨_, ?_, .bool _⟩
      rw [beqL_eq]
      simp [hg, binOp, Op.stringOp, ByteArray.toList_eq, Bool.beq_eq_decide_eq]
    · cases h
      refine ⟨_, ?_, .bool _⟩
      rw [beqL_eq]
      simp [hg, binOp, Op.stringOp, ByteArray.toList_eq, Bool.beq_eq_decide_eq]
    · replace h := bs_some h
      rcases h with ⟨hb, h⟩ | ⟨_, h⟩
      · cases h
        have hle := Nat.le_of_ble_eq_true hb
        rw [llen_eq, llen_eq] at hle
        have hle' : a.length + b.length ≤ 9223372036854775807 := hle
        refine ⟨_, ?_, .string _⟩
        rw [lapp_eq]
        have hsz : (⟨⟨a⟩⟩ : ByteArray).size = a.length := rfl
        have hsz2 : (⟨⟨b⟩⟩ : ByteArray).size = b.length := rfl
        have hm : IntKind.i64.max = 9223372036854775807 := rfl
        have hno : ¬ (9223372036854775807 : Int) < (a.length : Int) + (b.length : Int) := by omega
        simp [hg, binOp, Op.stringOp, hsz, hsz2, hm, hno, ba_append]
      · cases h
    · cases h
  · rename_i h1 h2
    split at h
    · obtain ⟨r, hr, rfl⟩ := Option.map_eq_some_iff.1 h
      obtain ⟨e1, e2, e3⟩ := eq_ok ok sok hr hx hy w
      refine ⟨.bool r, ?_, .bool _⟩
      have e4 := e3 .eql (.inl rfl)
      simp only at e4
      simp [e2, e4, e1]
    · obtain ⟨r, hr, rfl⟩ := Option.map_eq_some_iff.1 h
      obtain ⟨e1, e2, e3⟩ := eq_ok ok sok hr hx hy w
      refine ⟨.bool (!r), ?_, .bool _⟩
      have e4 := e3 .neq (.inr rfl)
      simp only at e4
      simp [e2, e4, e1]
    · cases h
end

/-! conversions that leave memory alone -/
noncomputable def convV (E : Env) (s d : TypeId) (x : Value) : Option Value :=
  match E.ti.get none s, E.ti.get none d, x with
  | some _, some ⟨.int k, _, _, _, _⟩, .int _ n => some (.int k (wrapF k n))
  | some _, some ⟨.string, _, _, _, _⟩, .string b => some (.string b)
  | _, _, _ => none
/-! lengths -/
noncomputable def lenV (E : Env) (A : AW) (t : TypeId) (x : Value) : Option Value :=
  match E.ti.get none t, x with
  | some ⟨.string, _, _, _, _⟩, .string ⟨⟨l⟩⟩ => some (.int .i64 (.ofNat (llen l)))
  | some ⟨.slice _, _, _, _, _⟩, .slice _ n _ => some (.int .i64 (.ofNat n))
  | some ⟨.array n _, _, _, _, _⟩, _ => some (.int .i64 (.ofNat n))
  | some ⟨.map _ _, _, _, _, _⟩, .map none => some (.int .i64 0)
  | some ⟨.map _ _, _, _, _, _⟩, .map (some B) => match A.get B with
    | some ⟨.map es _, _, _, _, _⟩ => some (.int .i64 (.ofNat (llen es)))
    | _ => none
  | _, _ => none
section
variable {P : Program} {E : Env} (ok : E.Ok P) {w0 w : World} {β : Ren} {A : AW} (inv : Inv w0 E.G β A w)
include ok
theorem conv_ok {s d : TypeId} {x x' v : Value} (h : convV E s d x = some v) (hx : VRel β x x') (w : World) : ∃ v', (convert s d x').run P w = .ok v' w ∧ VRel β v v' := by
  unfold convV at h
  split at h
  · rename_i hs hd
    cases h; cases hx
    have h1 := (ok.ti s _ hs).1
    have h2 := (ok.ti d _ hd).1
    refine ⟨_, ?_, .int _ _⟩
    rw [wrapF_eq]
    simp [convert, run_underlying h1, run_underlying h2, Conv.intToInt]
  · rename_i r _ _ _ _ _ hs hd
    cases h; cases hx
    have h1 := (ok.ti s _ hs).1
    have h2 := (ok.ti d _ hd).1
    refine ⟨_, ?_, .string _⟩
    cases hr : r.desc <;> rw [hr] at h1 <;> simp [convert, run_underlying h1, run_underlying h2]
  · cases h
include inv
theorem len_ok {t ty : TypeId} {x x' v : Value} (h : lenV E A t x = some v) (hx : VRel β x x') : ∃ v', (Builtin.len_ #[t] ty #[x']).run P w = .ok v' w ∧ VRel β v v' := by
  unfold lenV at h
  split at h
  · rename_i hr
    cases h; cases hx
    have hu := (ok.ti t _ hr).1
    refine ⟨_, ?_, .int _ _⟩
    rw [llen_eq]
    simp [Builtin.len_, run_underlying hu, goInt]
    rfl
  · rename_i hr
    cases h
    have hu := (ok.ti t _ hr).1
    cases hx <;> exact ⟨_, by simp [Builtin.len_, run_underlying hu, goInt], .int _ _⟩
  · rename_i hr
    cases h
    have hu := (ok.ti t _ hr).1
    exact ⟨_, by simp [Builtin.len_, run_underlying hu, goInt], .int _ _⟩
  · rename_i hr
    cases h; cases hx
    have hu := (ok.ti t _ hr).1
    exact ⟨_, by simp [Builtin.len_, run_underlying hu, goInt], .int _ _⟩
  · rename_i B hr
    have hu := (ok.ti t _ hr).1
    split at h
    · rename_i es ck _ _ _ _ hg
      cases h
      cases hx with
      | map _ l hl =>
        obtain ⟨es', h1, h2, _⟩ := inv.cont B _ l hg hl
        refine ⟨_, ?_, .int _ _⟩
        rw [llen_eq, h2]
        simp [Builtin.len_, run_underlying hu, goInt, getObj, Sem.run, h1]
    · cases h
  · cases h
end
end Go.Ex
