/- A verified evaluator of Go functions on partly symbolic values, part 9 of 17. -/
import Derived.Test.YtcnhmjkmlncbhaaGreatDoorX8
namespace Go.Ex
open Go.RowKit

/-! equal values -/
noncomputable def veq1 (a b : Value) : Bool :=
  match a, b with
  | .bool x, .bool y => bs x y (not y)
  | .int k x, .int j y => keq k j && ieq x y
  | .string ⟨⟨x⟩⟩, .string ⟨⟨y⟩⟩ => beqL x y
  | .pointer none, .pointer none => true
  | .pointer (some ⟨B, o, none⟩), .pointer (some ⟨B', o', none⟩) => Nat.beq B B' && Nat.beq o o'
  | .slice none n c, .slice none n' c' => Nat.beq n n' && Nat.beq c c'
  | .slice (some ⟨B, o, none⟩) n c, .slice (some ⟨B', o', none⟩) n' c' => Nat.beq B B' && Nat.beq o o' && Nat.beq n n' && Nat.beq c c'
  | .map none, .map none => true
  | .map (some x), .map (some y) => Nat.beq x y
  | .nilFunc, .nilFunc => true
  | .nilIface, .nilIface => true
  | .func (.func f) ⟨[]⟩ ⟨[]⟩, .func (.func f') ⟨[]⟩ ⟨[]⟩ => Nat.beq f f'
  | .chan (some x), .chan (some y) => Nat.beq x y
  | .iface x .nilIface, .iface y .nilIface => Nat.beq x y
  | _, _ => false
noncomputable def veqL (a : List Value) : List Value → Bool :=
  List.rec (motive := fun _ => List Value → Bool) (fun b => List.rec (motive := fun _ => Bool) true (fun _ _ _ => false) b)
    (fun x _ ih b => List.rec (motive := fun _ => Bool) false (fun y t _ => bs (veq1 x y) (ih t) false) b) a
noncomputable def veq (a b : Value) : Bool :=
  match a, b with
  | .agg ⟨x⟩, .agg ⟨y⟩ => veqL x y
  | .tuple ⟨x⟩, .tuple ⟨y⟩ => veqL x y
  | .func (.func f) ⟨p⟩ ⟨q⟩, .func (.func f') ⟨p'⟩ ⟨q'⟩ => Nat.beq f f' && veqL p p' && veqL q q'
  | a, b => veq1 a b
noncomputable def veqQ (a : List Value) : List Value → Bool :=
  List.rec (motive := fun _ => List Value → Bool) (fun b => List.rec (motive := fun _ => Bool) true (fun _ _ _ => false) b)
    (fun x _ ih b => List.rec (motive := fun _ => Bool) false (fun y t _ => bs (veq x y) (ih t) false) b) a
theorem veq1_eq {a b : Value} (h : veq1 a b = true) : a = b := by
  unfold veq1 at h
  split at h <;> (try simp only [Bool.and_eq_true] at h)
  · rename_i x y; cases x <;> cases y <;> first | rfl | cases h
  · obtain ⟨h1, h2⟩ := h
    rw [ieq_eq] at h2
    rw [keq_eq h1, of_decide_eq_true h2]
  · rw [beqL_eq] at h; rw [of_decide_eq_true h]
  · rfl
  · rw [Nat.eq_of_beq_eq_true h.1, Nat.eq_of_beq_eq_true h.2]
  · rw [Nat.eq_of_beq_eq_true h.1, Nat.eq_of_beq_eq_true h.2]
  · rw [Nat.eq_of_beq_eq_true h.1.1.1, Nat.eq_of_beq_eq_true h.1.1.2, Nat.eq_of_beq_eq_true h.1.2, Nat.eq_of_beq_eq_true h.2]
  · rfl
  · rw [Nat.eq_of_beq_eq_true h]
  · rfl
  · rfl
  · rw [Nat.eq_of_beq_eq_true h]
  · rw [Nat.eq_of_beq_eq_true h]
  · rw [Nat.eq_of_beq_eq_true h]
  · cases h
theorem veqL_eq : ∀ (a b : List Value), veqL a b = true → a = b
  | [], [], _ => rfl
  | [], _ :: _, h => by cases h
  | _ :: _, [], h => by cases h
  | x :: a, y :: b, h => by
    have h' : bs (veq1 x y) (veqL a b) false = true := h
    cases hb : veq1 x y with
    | false => rw [hb] at h'; cases h'
    | true =>
      rw [hb, bs_true] at h'
      rw [veq1_eq hb, veqL_eq a b h']
theorem veq_eq {a b : Value} (h : veq a b = true) : a = b := by
  unfold veq at h
  split at h
  · rw [veqL_eq _ _ h]
  · rw [veqL_eq _ _ h]
  · simp only [Bool.and_eq_true] at h
    rw [Nat.eq_of_beq_eq_true h.1.1, veqL_eq _ _ h.1.2, veqL_eq _ _ h.2]
  · exact veq1_eq h
theorem veqQ_eq : ∀ (a b : List Value), veqQ a b = true → a = b
  | [], [], _ => rfl
  | [], _ :: _, h => by cases h
  | _ :: _, [], h => by cases h
  | x :: a, y :: b, h => by
    have h' : bs (veq x y) (veqQ a b) false = true := h
    cases hb : veq x y with
    | false => rw [hb] at h'; cases h'
    | true =>
      rw [hb, bs_true] at h'
      rw [veq_eq hb, veqQ_eq a b h']
/-! equal kinds -/
def bopIx : BinOp → Nat | .add => 0 | .sub => 1 | .mul => 2 | .quo => 3 | .rem => 4 | .and => 5 | .or => 6 | .xor => 7 | .shl => 8 | .shr => 9 | .andNot => 10 | .eql => 11 | .neq => 12 | .lss => 13 | .leq => 14 | .gtr => 15 | .geq => 16
theorem bopIx_eq {a b : BinOp} (h : bopIx a = bopIx b) : a = b := by cases a <;> cases b <;> first | rfl | (exact absurd h (by decide))
def uopIx : UnOp → Nat | .neg => 0 | .xor => 1 | .not => 2 | .plus => 3
theorem uopIx_eq {a b : UnOp} (h : uopIx a = uopIx b) : a = b := by cases a <;> cases b <;> first | rfl | (exact absurd h (by decide))
noncomputable def kslEq (a : List IntKind) : List IntKind → Bool :=
  List.rec (motive := fun _ => List IntKind → Bool) (fun b => List.rec (motive := fun _ => Bool) true (fun _ _ _ => false) b)
    (fun x _ ih b => List.rec (motive := fun _ => Bool) false (fun y t _ => bs (keq x y) (ih t) false) b) a
theorem kslEq_eq : ∀ (a b : List IntKind), kslEq a b = true → a = b
  | [], [], _ => rfl
  | [], _ :: _, h => by cases h
  | _ :: _, [], h => by cases h
  | x :: a, y :: b, h => by
    have h' : bs (keq x y) (kslEq a b) false = true := h
    cases hb : keq x y with
    | false => rw [hb] at h'; cases h'
    | true =>
      rw [hb, bs_true] at h'
      rw [keq_eq hb, kslEq_eq a b h']
noncomputable def nkeq (a b : NK) : Bool :=
  match a, b with
  | .bin o c, .bin o' c' => Nat.beq (bopIx o) (bopIx o') && Nat.beq c c'
  | .eqG k n, .eqG k' n' => kslEq k k' && bs n n' (not n')
  | .un o, .un o' => Nat.beq (uopIx o) (uopIx o')
  | .cvI k, .cvI k' => keq k k'
  | .cvS, .cvS => true
  | .lenS, .lenS => true
  | .lenL, .lenL => true
  | .idxS, .idxS => true
  | .slcS, .slcS => true
  | .slc a, .slc b => Nat.beq a b
  | .idxA a, .idxA b => Nat.beq a b
  | .idxP n a, .idxP m b => Nat.beq n m && Nat.beq a b
  | .fldA a, .fldA b => Nat.beq a b
  | .ld, .ld => true
  | .ldA a, .ldA b => Nat.beq a b
  | .nilck, .nilck => true
  | .own a, .own b => Nat.beq a b
  | .call a, .call b => Nat.beq a b
  | .seg a, .seg b => Nat.beq a b
  | _, _ => false
theorem nkeq_eq {a b : NK} (h : nkeq a b = true) : a = b := by
  unfold nkeq at h
  split at h <;> (try simp only [Bool.and_eq_true] at h)
  · rw [bopIx_eq (Nat.eq_of_beq_eq_true h.1), Nat.eq_of_beq_eq_true h.2]
  · rename_i k n k' n'
    rw [kslEq_eq _ _ h.1]
    have : n = n' := by have := h.2; cases n <;> cases n' <;> first | rfl | cases this
    rw [this]
  · rw [uopIx_eq (Nat.eq_of_beq_eq_true h)]
  · rw [keq_eq h]
  · rfl
  · rfl
  · rfl
  · rfl
  · rfl
  · rw [Nat.eq_of_beq_eq_true h]
  · rw [Nat.eq_of_beq_eq_true h]
  · rw [Nat.eq_of_beq_eq_true h.1, Nat.eq_of_beq_eq_true h.2]
  · rw [Nat.eq_of_beq_eq_true h]
  · rfl
  · rw [Nat.eq_of_beq_eq_true h]
  · rfl
  · rw [Nat.eq_of_beq_eq_true h]
  · rw [Nat.eq_of_beq_eq_true h]
  · rw [Nat.eq_of_beq_eq_true h]
  · cases h

/-! what an operation asks of the tape -/
/-- the class of a type: 1 truth, 2 pointer, 3 string -/
noncomputable def cls (E : Env) (t : TypeId) : Nat :=
  match E.ti.get none t with
  | some ⟨.bool, _, _, _, _⟩ => 1
  | some ⟨.pointer _, _, _, _, _⟩ => 2
  | some ⟨.string, _, _, _, _⟩ => 3
  | _ => 0
noncomputable def sizeV (E : Env) (t : TypeId) : Option Nat := match E.ti.get none t with | some r => some r.size | none => none
noncomputable def loV (E : Env) (g : Gt) (x : Option Operand) : Value := match x with | some x => ev E g x | none => .int .i64 (.ofNat 0)
noncomputable def hiV (E : Env) (g : Gt) (x : Option Operand) : List Value := match x with | some x => [ev E g x] | none => []
noncomputable def keyOf (E : Env) (sq : List (Nat × List IntKind)) (g : Gt) (op : Op) : Option (NK × List Value) :=
  match op with
  | .binOp bop t x y _ => match seqOf sq t with
    | some ks => match bop with
      | .eql => some (.eqG ks false, [ev E g x, ev E g y])
      | .neq => some (.eqG ks true, [ev E g x, ev E g y])
      | _ => none
    | none => some (.bin bop (cls E t), [ev E g x, ev E g y])
  | .unOp uop _ x => some (.un uop, [ev E g x])
  | .convert s d x => match E.ti.get none s, E.ti.get none d with
    | some _, some ⟨.int k, _, _, _, _⟩ => some (.cvI k, [ev E g x])
    | some _, some ⟨.string, _, _, _, _⟩ => some (.cvS, [ev E g x])
    | _, _ => none
  | .call ⟨.builtin .len, ⟨[x]⟩, ⟨[t]⟩⟩ => match E.ti.get none t with
    | some ⟨.string, _, _, _, _⟩ => some (.lenS, [ev E g x])
    | some ⟨.slice _, _, _, _, _⟩ => some (.lenL, [ev E g x])
    | _ => none
  | .index t x i => match E.ti.get none t with
    | some ⟨.string, _, _, _, _⟩ => some (.idxS, [ev E g x, ev E g i])
    | _ => none
  | .slice t x lo hi none => match E.ti.get none t with
    | some ⟨.string, _, _, _, _⟩ => some (.slcS, ev E g x :: loV E g lo :: hiV E g hi)
    | some ⟨.slice e, _, _, _, _⟩ => match sizeV E e with | some n => some (.slc n, ev E g x :: loV E g lo :: hiV E g hi) | none => none
    | _ => none
  | .indexAddr t x i => match E.ti.get none t with
    | some ⟨.slice e, _, _, _, _⟩ => match sizeV E e with | some n => some (.idxA n, [ev E g x, ev E g i]) | none => none
    | some ⟨.array len e, _, _, _, _⟩ => match sizeV E e with | some n => some (.idxP len n, [ev E g x, ev E g i]) | none => none
    | _ => none
  | .fieldAddr t x f => match E.ti.get none t with
    | some ⟨.struct ⟨fs⟩, _, _, _, _⟩ => match nth fs f with
      | some fd => match E.ti.get none fd.type with
        | some r => bs (Nat.beq r.size 0) none (some (.fldA fd.offset, [ev E g x]))
        | none => none
      | none => none
    | _ => none
  | .load t x => match E.ti.get none t with
    | some r => bs (isRowD r.desc) (some (.ldA r.size, [ev E g x])) (some (.ld, [ev E g x]))
    | none => none
  | .nilCheck x => some (.nilck, [ev E g x])
  | _ => none
noncomputable def symV (E : Env) (sq : List (Nat × List IntKind)) (g : Gt) (op : Op) (nd : Node) : Option Value :=
  match keyOf E sq g op with
  | some (k, args) => bs (nkeq k nd.k) (bs (veqQ args nd.args) (some nd.res) none) none
  | none => none
theorem symV_some {E : Env} {sq : List (Nat × List IntKind)} {g : Gt} {op : Op} {nd : Node} {v : Value} (h : symV E sq g op nd = some v) : v = nd.res ∧ keyOf E sq g op = some (nd.k, nd.args) := by
  unfold symV at h
  split at h
  · rename_i k args hk
    rcases bs_some h with ⟨h1, h⟩ | ⟨_, h⟩
    · rcases bs_some h with ⟨h2, h⟩ | ⟨_, h⟩
      · cases h
        rw [← nkeq_eq h1, ← veqQ_eq _ _ h2]
        exact ⟨rfl, hk⟩
      · cases h
    · cases h
  · cases h

/-! what it does -/
def ren1 (z : Nat → Option (Array Value)) (b o : Nat) : Ren := ⟨fun _ => some ⟨b, o, 0, 0⟩, z, fun _ => none, ⟨fun _ => False, z⟩, fun _ => none⟩
theorem ofInt_rd {β : Ren} {z : Nat → Option (Array Value)} {x : Option Value} {d : D} {v v' : Value} (h : ofInt x = some d) (hx : x = some v) (hv : VRel β v v') : Rd z d v' := by
  subst hx
  unfold ofInt at h
  split at h
  · rename_i e; cases e; cases h; cases hv; exact .int _ _
  · rename_i e; cases e; cases h; cases hv; exact .bool _
  · cases h
section
variable {P : Program} {E : Env} (ok : E.Ok P) {sq : List (Nat × List IntKind)} (sok : E.Seq P sq) {z : Nat → Option (Array Value)}
include ok sok in
theorem bin_rd {op : BinOp} {t : TypeId} {x y d : D} {x' y' : Value} (h : datBin op (cls E t) x y = some d) (hx : Rd z x x') (hy : Rd z y y') (p q : Operand) (w : World) :
    ∃ v', (do eqGuard op t p q x' y'; binOp op t x' y' : Sem Value).run P w = .ok v' w ∧ Rd z d v' := by
  have hcls1 : cls E t = 1 → ∃ a b c e, E.ti.get none t = some ⟨.bool, a, b, c, e⟩ := fun h => by
    unfold cls at h
    split at h
    · rename_i h2; exact ⟨_, _, _, _, h2⟩
    · cases h
    · cases h
    · cases h
  have hcls2 : cls E t = 2 → ∃ u a b c e, E.ti.get none t = some ⟨.pointer u, a, b, c, e⟩ := fun h => by
    unfold cls at h
    split at h
    · cases h
    · rename_i h2; exact ⟨_, _, _, _, _, h2⟩
    · cases h
    · cases h
  unfold datBin at h
  split at h
  · rename_i k a k' b
    cases hx; cases hy
    cases hi : ibin op k a k' b with
    | none => rw [hi] at h; cases h
    | some v =>
      have hb : binV E sq op t (.int k a) (.int k' b) = some v := hi
      obtain ⟨v', h1, h2⟩ := bin_ok ok sok (β := ren1 z 0 0) hb (.int k a) (.int k' b) p q w
      exact ⟨v', h1, ofInt_rd h hi h2⟩
  · split at h
    · rename_i a b hc
      cases hx; cases hy
      obtain ⟨_, _, _, _, hr⟩ := hcls1 hc
      unfold eqOp at h
      split at h <;> cases h
      · have hb : binV E sq .eql t (.bool a) (.bool b) = some (.bool (bs a b (not b))) := by simp only [binV, eqV, hr]; rfl
        obtain ⟨v', h1, h2⟩ := bin_ok ok sok (β := ren1 z 0 0) hb (.bool a) (.bool b) p q w
        cases h2
        exact ⟨_, h1, by cases a <;> cases b <;> exact .bool _⟩
      · have hb : binV E sq .neq t (.bool a) (.bool b) = some (.bool (not (bs a b (not b)))) := by simp only [binV, eqV, hr]; rfl
        obtain ⟨v', h1, h2⟩ := bin_ok ok sok (β := ren1 z 0 0) hb (.bool a) (.bool b) p q w
        cases h2
        exact ⟨_, h1, by cases a <;> cases b <;> exact .bool _⟩
    · cases h
  · rename_i a b
    cases hx; cases hy
    split at h
    · split at h <;> cases h
      rename_i hle
      have hb : binV E sq .add t (.string ⟨⟨a⟩⟩) (.string ⟨⟨b⟩⟩) = some (.string ⟨⟨lapp a b⟩⟩) := by
        simp only [binV]
        rw [llen_eq, llen_eq, show Nat.ble (Nat.add a.length b.length) 9223372036854775807 = true from Nat.ble_eq_true_of_le hle, bs_true]
      obtain ⟨v', h1, h2⟩ := bin_ok ok sok (β := ren1 z 0 0) hb (.string _) (.string _) p q w
      rw [lapp_eq] at h2
      cases h2
      exact ⟨_, h1, .str _⟩
    · unfold eqOp at h
      split at h <;> cases h
      · have hb : binV E sq .eql t (.string ⟨⟨a⟩⟩) (.string ⟨⟨b⟩⟩) = some (.bool (beqL a b)) := rfl
        obtain ⟨v', h1, h2⟩ := bin_ok ok sok (β := ren1 z 0 0) hb (.string _) (.string _) p q w
        rw [beqL_eq] at h2
        cases h2
        exact ⟨_, h1, .bool _⟩
      · have hb : binV E sq .neq t (.string ⟨⟨a⟩⟩) (.string ⟨⟨b⟩⟩) = some (.bool (not (beqL a b))) := rfl
        obtain ⟨v', h1, h2⟩ := bin_ok ok sok (β := ren1 z 0 0) hb (.string _) (.string _) p q w
        rw [beqL_eq] at h2
        cases h2
        exact ⟨_, h1, .bool _⟩
  · split at h
    · rename_i row o hc
      cases hy
      obtain ⟨_, _, _, _, _, hr⟩ := hcls2 hc
      cases hx with
      | ptr _ _ b o0 cells hz hs hh =>
        have hv : VRel (ren1 z b (o0 + o)) (.pointer (some ⟨0, 0, none⟩)) (.pointer (some ⟨b, o0 + o, none⟩)) := .ptr (β := ren1 z b (o0 + o)) 0 0 ⟨b, o0 + o, 0, 0⟩ rfl
        unfold eqOp at h
        split at h <;> cases h
        · have hb : binV E sq .eql t (.pointer (some ⟨0, 0, none⟩)) (.pointer none) = some (.bool false) := by simp only [binV, eqV, hr]; rfl
          obtain ⟨v', h1, h2⟩ := bin_ok ok sok hb hv .ptr0 p q w
          cases h2
          exact ⟨_, h1, .bool _⟩
        · have hb : binV E sq .neq t (.pointer (some ⟨0, 0, none⟩)) (.pointer none) = some (.bool true) := by simp only [binV, eqV, hr]; rfl
          obtain ⟨v', h1, h2⟩ := bin_ok ok sok hb hv .ptr0 p q w
          cases h2
          exact ⟨_, h1, .bool _⟩
    · cases h
  · split at h
    · rename_i hc
      cases hx; cases hy
      obtain ⟨_, _, _, _, _, hr⟩ := hcls2 hc
      unfold eqOp at h
      split at h <;> cases h
      · have hb : binV E sq .eql t (.pointer none) (.pointer none) = some (.bool true) := by simp only [binV, eqV, hr]; rfl
        obtain ⟨v', h1, h2⟩ := bin_ok ok sok (β := ren1 z 0 0) hb .ptr0 .ptr0 p q w
        cases h2
        exact ⟨_, h1, .bool _⟩
      · have hb : binV E sq .neq t (.pointer none) (.pointer none) = some (.bool false) := by simp only [binV, eqV, hr]; rfl
        obtain ⟨v', h1, h2⟩ := bin_ok ok sok (β := ren1 z 0 0) hb .ptr0 .ptr0 p q w
        cases h2
        exact ⟨_, h1, .bool _⟩
    · cases h
  · cases h

include ok sok in
theorem eqG_rd {t : TypeId} {ks : List IntKind} {neg : Bool} {a b : List D} {r : Bool} {x' y' : Value} (hk : seqOf sq t = some ks) (h : eqInts ks a b = some r) (hx : Rd z (.agg a) x') (hy : Rd z (.agg b) y') (p q : Operand) (w : World) :
    (do eqGuard (if neg then .neq else .eql) t p q x' y'; binOp (if neg then .neq else .eql) t x' y' : Sem Value).run P w = .ok (.bool (r != neg)) w := by
  have key : ∀ (ks : List IntKind) (a b : List D) (r : Bool), eqInts ks a b = some r → ∀ (va vb : List Value), a.length = va.length → b.length = vb.length → (∀ (i : Nat) (d : D) (v : Value), a[i]? = some d → va[i]? = some v → Rd z d v) → (∀ (i : Nat) (d : D) (v : Value), b[i]? = some d → vb[i]? = some v → Rd z d v) →
      leqT ks va vb = some r ∧ LRel (ren1 z 0 0) va va ∧ LRel (ren1 z 0 0) vb vb := by
    intro ks
    induction ks with
    | nil =>
      intro a b r h va vb h1 h2 _ _
      match a, b, h with
      | [], [], h =>
        obtain rfl : va = [] := List.eq_nil_of_length_eq_zero h1.symm
        obtain rfl : vb = [] := List.eq_nil_of_length_eq_zero h2.symm
        cases h
        exact ⟨rfl, LRel.nil _, LRel.nil _⟩
    | cons k ks ih =>
      intro a b r h va vb h1 h2 h3 h4
      match a, b, h with
      | .int k1 m :: a, .int k2 n :: b, h =>
        have h' : (if k1 = k ∧ k2 = k then (eqInts ks a b).map fun r => decide (m = n) && r else none) = some r := h
        split at h'
        · rename_i hkk
          obtain ⟨r0, hr0, rfl⟩ := Option.map_eq_some_iff.1 h'
          match va, vb, h1, h2, h3, h4 with
          | x :: va, y :: vb, h1, h2, h3, h4 =>
            have hx := h3 0 _ _ rfl rfl
            have hy := h4 0 _ _ rfl rfl
            cases hx; cases hy
            obtain ⟨i1, i2, i3⟩ := ih a b r0 hr0 va vb (by simpa using h1) (by simpa using h2) (fun i d v e1 e2 => h3 (i + 1) d v (by simpa using e1) (by simpa using e2)) (fun i d v e1 e2 => h4 (i + 1) d v (by simpa using e1) (by simpa using e2))
            refine ⟨?_, i2.cons (.int _ _), i3.cons (.int _ _)⟩
            show leq1 k (leqT ks) (Value.int k1 m :: va) (Value.int k2 n :: vb) = _
            unfold leq1
            have e1 : keq k1 k = true := by rw [hkk.1]; cases k <;> rfl
            have e2 : keq k2 k = true := by rw [hkk.2]; cases k <;> rfl
            simp only [e1, e2, Bool.and_self, bs_true, i1]
            rw [ieq_eq]
            cases decide (m = n) <;> rfl
        · cases h'
  cases hx with
  | agg _ va hla h1 =>
    cases hy with
    | agg _ vb hlb h2 =>
      obtain ⟨e1, e2, e3⟩ := key ks a b r h va vb hla hlb h1 h2
      have hb : binV E sq (if neg then .neq else .eql) t (.agg ⟨va⟩) (.agg ⟨vb⟩) = some (.bool (r != neg)) := by
        cases neg
        · simp only [binV, eqV, hk, e1, Option.map_some]; cases r <;> rfl
        · simp only [binV, eqV, hk, e1, Option.map_some]; cases r <;> rfl
      obtain ⟨v', h3, h4⟩ := bin_ok ok sok (β := ren1 z 0 0) hb (VRel.agg_of e2) (VRel.agg_of e3) p q w
      cases h4
      exact h3
theorem un_rd {op : UnOp} {x d : D} {x' : Value} (h : datUn op x = some d) (hx : Rd z x x') (w : World) : ∃ v', (Op.unary op x').run P w = .ok v' w ∧ Rd z d v' := by
  unfold datUn at h
  split at h
  · rename_i k n
    cases h; cases hx
    obtain ⟨v', h1, h2⟩ := un_ok (β := ren1 z 0 0) (show unV .neg (.int k n) = some _ from rfl) (.int _ _) P w
    cases h2
    refine ⟨_, h1, ?_⟩
    rw [wrapF_eq]
    exact .int _ _
  · cases h; cases hx
    obtain ⟨v', h1, h2⟩ := un_ok (β := ren1 z 0 0) (show unV .not (.bool _) = some _ from rfl) (.bool _) P w
    cases h2
    exact ⟨_, h1, .bool _⟩
  · cases h
include ok in
theorem idxS_rd {t : TypeId} {a1 a2 a3 a4} {x i d : D} {x' i' : Value} (hr : E.ti.get none t = some ⟨.string, a1, a2, a3, a4⟩) (h : datIdxS x i = some d) (hx : Rd z x x') (hi : Rd z i i') (w : World) : ∃ v', (Instr.index t x' i').run P w = .ok v' w ∧ Rd z d v' := by
  unfold datIdxS at h
  split at h
  · rename_i l k m
    obtain ⟨b, hb, rfl⟩ := Option.map_eq_some_iff.1 h
    cases hx; cases hi
    have hv : indexV E t (.string ⟨⟨l⟩⟩) (.int k (.ofNat m)) = some (.int .u8 (.ofNat b.toNat)) := by simp only [indexV, hr, nth_eq, hb]
    obtain ⟨v', h1, h2⟩ := index_ok (β := ren1 z 0 0) ok hv (.string _) (.int _ _) w
    cases h2
    exact ⟨_, h1, .int _ _⟩
  · cases h
/-- what stands still, in a world -/
def Stands (z : Nat → Option (Array Value)) (w : World) : Prop := ∀ b cs, z b = some cs → ∃ e fz, w.heap[b]? = some (.cells cs e fz)
include ok in
theorem ld_rd {t : TypeId} {r : Row} {x d : D} {x' : Value} {w : World} (hst : Stands z w) (hr : E.ti.get none t = some r) (hd : isRowD r.desc = false) (h : datLd x = some d) (hx : Rd z x x') : ∃ v', (Instr.loadAt t x').run P w = .ok v' w ∧ Rd z d v' := by
  unfold datLd at h
  split at h
  · rename_i row o
    obtain ⟨d2, h1, h⟩ := Option.bind_eq_some_iff.1 h
    split at h <;> cases h
    cases hx with
    | ptr _ _ b o0 cells hz hs hh =>
      obtain ⟨e, fz, hb⟩ := hst b cells hz
      have hlt := (List.getElem?_eq_some_iff.1 h1).1
      have hlt2 : o0 + o < cells.size := by omega
      refine ⟨cells[o0 + o], ?_, hh o _ _ h1 (by simp [hlt2])⟩
      have hcell : w.cell? ⟨b, o0 + o, none⟩ = some cells[o0 + o] := by rw [cell_of_row w b _ cells e fz hb]; simp [hlt2]
      simp [Instr.loadAt, Instr.sureAddr, loadVar, run_isAgg ok hr, hd, load, Sem.run, hcell]
  · cases h
include ok in
theorem ldA_rd {t : TypeId} {r : Row} {x d : D} {x' : Value} {w : World} (hst : Stands z w) (hr : E.ti.get none t = some r) (hd : isRowD r.desc = true) (h : datLdA r.size x = some d) (hx : Rd z x x') : ∃ v', (Instr.loadAt t x').run P w = .ok v' w ∧ Rd z d v' := by
  unfold datLdA at h
  split at h
  · rename_i row o
    split at h <;> cases h
    rename_i hle
    cases hx with
    | ptr _ _ b o0 cells hz hs hh =>
      obtain ⟨e, fz, hb⟩ := hst b cells hz
      have hget : ∀ j, j < r.size → ((cells.toList.drop (o0 + o)).take r.size)[j]? = cells[o0 + o + j]? := fun j hj => by
        rw [List.getElem?_take, if_pos hj, List.getElem?_drop]; simp
      have hlen : ((cells.toList.drop (o0 + o)).take r.size).length = r.size := by simp; omega
      refine ⟨.agg ⟨(cells.toList.drop (o0 + o)).take r.size⟩, ?_, ?_⟩
      · have hl2 : (loadCells ⟨b, o0 + o, none⟩ r.size).run P w = .ok ((cells.toList.drop (o0 + o)).take r.size).toArray w := by
          have := run_loadCells_list (P := P) w ⟨b, o0 + o, none⟩ ((cells.toList.drop (o0 + o)).take r.size) (fun j u hu => by
            rw [Addr.add_mid]
            have hj : j < r.size := by have := (List.getElem?_eq_some_iff.1 hu).1; omega
            rw [hget j hj] at hu
            rw [cell_of_row w b _ cells e fz hb]; exact hu)
          rw [hlen] at this
          exact this
        simp [Instr.loadAt, Instr.sureAddr, loadVar, run_isAgg ok hr, hd, run_size ok hr, hl2]
      · refine .agg _ _ (by rw [hlen]; simp; omega) fun i d v h1 h2 => ?_
        rw [List.getElem?_take, List.getElem?_drop] at h1
        split at h1
        · rename_i hi
          rw [hget i hi] at h2
          rw [Nat.add_assoc] at h2
          exact hh _ _ _ h1 h2
        · cases h1
  · cases h
include ok in
theorem fldA_rd {t : TypeId} {fs : List Field} {a1 a2 a3 a4} {f : Nat} {fd : Field} {r : Row} {row : List D} {o : Nat} {x' : Value} (hr : E.ti.get none t = some ⟨.struct ⟨fs⟩, a1, a2, a3, a4⟩) (hf : fs[f]? = some fd) (hr2 : E.ti.get none fd.type = some r) (hz : Nat.beq r.size 0 = false)
    (hx : Rd z (.ptr row o) x') (w : World) : ∃ v', (Instr.fieldAt t x' f).run P w = .ok v' w ∧ Rd z (.ptr row (o + fd.offset)) v' := by
  rw [nbeq] at hz
  have hz' : ¬ r.size = 0 := by simpa using hz
  cases hx with
  | ptr _ _ b o0 cells hzz hs hh =>
    refine ⟨.pointer (some ⟨b, o0 + (o + fd.offset), none⟩), ?_, .ptr row (o + fd.offset) b o0 cells hzz hs hh⟩
    have hu := (ok.ti t _ hr).1
    simp [Instr.fieldAt, run_underlying hu, hf, Instr.sureAddr, fieldPlace, run_size ok hr2, hz', Addr.add_lit, Nat.add_assoc]
include ok in
theorem idxA_rd {t e : TypeId} {a1 a2 a3 a4} {n : Nat} {x i d : D} {x' i' : Value} (hr : E.ti.get none t = some ⟨.slice e, a1, a2, a3, a4⟩) (hs : sizeV E e = some n) (h : datIdxA n x i = some d) (hx : Rd z x x') (hi : Rd z i i') (w : World) : ∃ v', (Instr.indexAt t x' i').run P w = .ok v' w ∧ Rd z d v' := by
  unfold sizeV at hs
  split at hs <;> cases hs
  rename_i r hr2
  unfold datIdxA at h
  split at h
  · rename_i rows k m
    obtain ⟨row, h1, h⟩ := Option.bind_eq_some_iff.1 h
    split at h <;> cases h
    rename_i hrl
    have hlt := (List.getElem?_eq_some_iff.1 h1).1
    cases hi
    cases hx with
    | sl0 => simp at hlt
    | slE => simp at hlt
    | sl _ es b o c cells hz hne hes hc hs hh =>
      have hese : es = r.size := by rw [← hes row (List.mem_of_getElem? h1), hrl]
      subst hese
      have hu := (ok.ti t _ hr).1
      refine ⟨.pointer (some ⟨b, o + m * r.size + 0, none⟩), ?_, .ptr row 0 b (o + m * r.size) cells hz ?_ fun j d v e1 e2 => hh m row j d v h1 e1 (by rw [← Nat.add_assoc]; exact e2)⟩
      · simp [Instr.indexAt, asIntOf, run_underlying hu, run_size ok hr2, Addr.add_lit, Nat.add_assoc, hlt]
      · rw [hrl]
        have : (m + 1) * r.size ≤ c * r.size := Nat.mul_le_mul_right _ (by omega)
        rw [Nat.add_mul] at this
        omega
  · cases h
include ok in
theorem idxP_rd {t e : TypeId} {a1 a2 a3 a4} {len n : Nat} {x i d : D} {x' i' : Value} (hr : E.ti.get none t = some ⟨.array len e, a1, a2, a3, a4⟩) (hs : sizeV E e = some n) (h : datIdxP len n x i = some d) (hx : Rd z x x') (hi : Rd z i i') (w : World) : ∃ v', (Instr.indexAt t x' i').run P w = .ok v' w ∧ Rd z d v' := by
  unfold sizeV at hs
  split at hs <;> cases hs
  rename_i r hr2
  unfold datIdxP at h
  split at h
  · rename_i row o k m
    split at h <;> cases h
    rename_i hlt
    cases hi
    cases hx with
    | ptr _ _ b o0 cells hz hs hh =>
      have hu := (ok.ti t _ hr).1
      refine ⟨.pointer (some ⟨b, o0 + (o + m * r.size), none⟩), ?_, .ptr row (o + m * r.size) b o0 cells hz hs hh⟩
      have h0 : (0 : Int) ≤ (m : Int) ∧ (m : Int) < (len : Int) := ⟨by omega, by omega⟩
      simp [Instr.indexAt, asIntOf, run_underlying hu, Instr.sureAddr, run_size ok hr2, Addr.add_lit, Nat.add_assoc, hlt]
  · cases h

include ok in
theorem cvI_rd {s d : TypeId} {r : Row} {k j : IntKind} {n : Int} {a1 a2 a3 a4} (hs : E.ti.get none s = some r) (hd : E.ti.get none d = some ⟨.int k, a1, a2, a3, a4⟩) (w : World) : (convert s d (.int j n)).run P w = .ok (.int k (k.wrap n)) w := by
  have hv : convV E s d (.int j n) = some (.int k (wrapF k n)) := by simp only [convV, hs, hd]
  obtain ⟨v', h1, h2⟩ := conv_ok (β := ren1 (fun _ => none) 0 0) ok hv (.int _ _) w
  cases h2
  rw [← wrapF_eq]
  exact h1
include ok in
theorem cvS_rd {s d : TypeId} {r : Row} {l : List UInt8} {a1 a2 a3 a4} (hs : E.ti.get none s = some r) (hd : E.ti.get none d = some ⟨.string, a1, a2, a3, a4⟩) (w : World) : (convert s d (.string ⟨⟨l⟩⟩)).run P w = .ok (.string ⟨⟨l⟩⟩) w := by
  have hv : convV E s d (.string ⟨⟨l⟩⟩) = some (.string ⟨⟨l⟩⟩) := by simp only [convV, hs, hd]
  obtain ⟨v', h1, h2⟩ := conv_ok (β := ren1 (fun _ => none) 0 0) ok hv (.string _) w
  cases h2
  exact h1
include ok in
theorem lenS_rd {t ty : TypeId} {l : List UInt8} {a1 a2 a3 a4} (hr : E.ti.get none t = some ⟨.string, a1, a2, a3, a4⟩) (w : World) : (Builtin.len_ #[t] ty #[.string ⟨⟨l⟩⟩]).run P w = .ok (.int .i64 l.length) w := by
  have hu := (ok.ti t _ hr).1
  simp [Builtin.len_, run_underlying hu, goInt]
  rfl
include ok in
theorem lenL_rd {t ty e : TypeId} {rows : List (List D)} {x' : Value} {a1 a2 a3 a4} (hr : E.ti.get none t = some ⟨.slice e, a1, a2, a3, a4⟩) (hx : Rd z (.sl rows) x') (w : World) : (Builtin.len_ #[t] ty #[x']).run P w = .ok (.int .i64 rows.length) w := by
  have hu := (ok.ti t _ hr).1
  cases hx <;> simp [Builtin.len_, run_underlying hu, goInt]
/-- the bounds of a slice expression over data -/
theorem slB {len cap a b : Nat} {k : IntKind} {lo' hi' : Option Value} {hb : Option Nat} (hab : a ≤ b) (hbl : b ≤ len) (hlc : len ≤ cap) (hb' : hb.getD len = b) (hlo : lo' = some (.int k (.ofNat a)) ∨ (lo' = none ∧ a = 0)) (hhi : (hb = none ∧ hi' = none) ∨ ∃ k', hb = some b ∧ hi' = some (.int k' (.ofNat b))) (s : Bool) (w : World) :
    ∃ m', (Instr.sliceBounds s len cap lo' hi' none).run P w = .ok (a, b, m') w ∧ len ≤ m' ∧ m' ≤ cap := by
  have hB : bounds len len lo' hi' none = some (a, b, len) := by
    unfold bounds
    have e1 : bnd hi' len len = some b := by
      rcases hhi with ⟨h1, rfl⟩ | ⟨k', h1, rfl⟩
      · rw [h1] at hb'; exact congrArg some hb'
      · show bs (Nat.ble b len) (some b) none = some b
        rw [Nat.ble_eq_true_of_le hbl]; rfl
    have e2 : bnd lo' 0 b = some a := by
      rcases hlo with rfl | ⟨rfl, rfl⟩
      · show bs (Nat.ble a b) (some a) none = some a
        rw [Nat.ble_eq_true_of_le hab]; rfl
      · rfl
    show (match bnd hi' len len with | none => none | some h => match bnd lo' 0 h with | none => none | some l => some (l, h, len)) = _
    rw [e1]
    show (match bnd lo' 0 b with | none => none | some l => some (l, b, len)) = _
    rw [e2]
  have rl : ORel (ren1 (fun _ => none) 0 0) lo' lo' := by rcases hlo with rfl | ⟨rfl, _⟩; exact .int _ _; trivial
  have rh : ORel (ren1 (fun _ => none) 0 0) hi' hi' := by rcases hhi with ⟨_, rfl⟩ | ⟨_, _, rfl⟩; trivial; exact .int _ _
  obtain ⟨⟨m', h1, h2, h3, _⟩, _⟩ := bounds_run (P := P) hB rl rh (show ORel (ren1 (fun _ => none) 0 0) none none from trivial) (Nat.le_refl _) hlc (fun h => by cases h) s w
  exact ⟨m', h1, h2, h3⟩
include ok in
theorem slc_rd {t e : TypeId} {a1 a2 a3 a4} {n : Nat} {x d : D} {x' : Value} {a b : Nat} {hb : Option Nat} {k : IntKind} {lo' hi' : Option Value} (hr : E.ti.get none t = some ⟨.slice e, a1, a2, a3, a4⟩) (hs : sizeV E e = some n) (h : datSlc n x (some a) hb = some d) (hx : Rd z x x')
    (hlo : lo' = some (.int k (.ofNat a)) ∨ (lo' = none ∧ a = 0)) (hhi : (hb = none ∧ hi' = none) ∨ ∃ k', hb = some b ∧ hi' = some (.int k' (.ofNat b))) (w : World) : ∃ v', (Instr.sliceAt t x' lo' hi' none).run P w = .ok v' w ∧ Rd z d v' := by
  unfold sizeV at hs
  split at hs <;> cases hs
  rename_i r hr2
  have hu := (ok.ti t _ hr).1
  unfold datSlc at h
  split at h
  · rename_i rows a0 e0
    cases e0
    split at h <;> cases h
    rename_i hle
    have hhi' : (hb = none ∧ hi' = none) ∨ ∃ k', hb = some (hb.getD rows.length) ∧ hi' = some (.int k' (.ofNat (hb.getD rows.length))) := by
      rcases hhi with h | ⟨k', rfl, h⟩
      · exact .inl h
      · exact .inr ⟨k', rfl, h⟩
    generalize hgb : hb.getD rows.length = b2 at *
    cases hx with
    | sl0 =>
      obtain rfl : b2 = 0 := by simpa using hle.2.1
      obtain rfl : a = 0 := by omega
      obtain ⟨m', hrun, _, hm⟩ := slB (P := P) (len := 0) (cap := 0) (a := 0) (b := 0) (Nat.le_refl _) (Nat.le_refl _) (Nat.le_refl _) hgb hlo hhi' true w
      obtain rfl : m' = 0 := by omega
      exact ⟨.slice none 0 0, by simp [Instr.sliceAt, run_underlying hu, Instr.slice, hrun, run_size ok hr2], .sl0⟩
    | slE ad c =>
      obtain rfl : b2 = 0 := by simpa using hle.2.1
      obtain rfl : a = 0 := by omega
      obtain ⟨m', hrun, _, hm⟩ := slB (P := P) (len := 0) (cap := c) (a := 0) (b := 0) (Nat.le_refl _) (Nat.le_refl _) (Nat.zero_le _) hgb hlo hhi' true w
      exact ⟨.slice (some ad) 0 m', by simp [Instr.sliceAt, run_underlying hu, Instr.slice, hrun, run_size ok hr2, Addr.add], .slE _ _⟩
    | sl _ es bb o c cells hz hne hes hc hsz hh =>
      obtain ⟨m', hrun, hm1, hm2⟩ := slB (P := P) (len := rows.length) (cap := c) (a := a) (b := b2) hle.1 hle.2.1 hc hgb hlo hhi' true w
      have hlen : ((rows.drop a).take (b2 - a)).length = b2 - a := by rw [List.length_take, List.length_drop]; omega
      have hrd : ∀ cap', b2 - a ≤ cap' → o + a * es + cap' * es ≤ cells.size → Rd z (.sl ((rows.drop a).take (b2 - a))) (.slice (some ⟨bb, o + a * es, none⟩) (b2 - a) cap') := fun cap' h1 h2 => by
        by_cases he : (rows.drop a).take (b2 - a) = []
        · rw [he] at hlen ⊢
          rw [← hlen]
          exact .slE _ _
        · have := Rd.sl (z := z) ((rows.drop a).take (b2 - a)) es bb (o + a * es) cap' cells hz he (fun row hrow => hes row (List.mem_of_mem_drop (List.mem_of_mem_take hrow))) (by rw [hlen]; exact h1) h2 (fun i row j d v e1 e2 e3 => by
            rw [List.getElem?_take] at e1
            split at e1
            · rw [List.getElem?_drop] at e1
              refine hh (a + i) row j d v e1 e2 ?_
              rw [← e3, Nat.add_mul]
              congr 1
              omega
            · cases e1)
          rw [hlen] at this
          exact this
      have hcap : ∀ m, m ≤ c → a ≤ m → o + a * es + (m - a) * es ≤ cells.size := fun m h1 h2 => by
        have h3 : a * es + (m - a) * es = m * es := by rw [← Nat.add_mul]; congr 1; omega
        have h4 : m * es ≤ c * es := Nat.mul_le_mul_right _ h1
        omega
      by_cases ha0 : a = 0
      · subst ha0
        have := hrd m' (by omega) (by have := hcap m' hm2 (Nat.zero_le _); simpa using this)
        simp only [Nat.zero_mul, Nat.add_zero, Nat.sub_zero] at this
        exact ⟨.slice (some ⟨bb, o, none⟩) b2 m', by simp [Instr.sliceAt, run_underlying hu, Instr.slice, hrun, run_size ok hr2, Addr.add], this⟩
      · by_cases ham : m' = a
        · have hba : b2 = a := by omega
          subst hba
          subst ham
          have he : (rows.drop m').take (m' - m') = [] := by simp
          refine ⟨.slice (some ⟨bb, o, none⟩) 0 0, by simp [Instr.sliceAt, run_underlying hu, Instr.slice, hrun, run_size ok hr2], ?_⟩
          rw [he]; exact .slE _ _
        · have hres : es = r.size := by
            have hf := hle.2.2.resolve_left ha0
            unfold firstLen at hf
            split at hf
            · exact absurd rfl hne
            · rw [← hes _ List.mem_cons_self]; exact of_decide_eq_true hf
          subst hres
          exact ⟨.slice (some ⟨bb, o + a * r.size, none⟩) (b2 - a) (m' - a), by simp [Instr.sliceAt, run_underlying hu, Instr.slice, hrun, run_size ok hr2, Addr.add_lit, ham], hrd _ (by omega) (hcap m' hm2 (by omega))⟩
  · cases h

include ok in
theorem slcS_rd {t : TypeId} {a1 a2 a3 a4} {x d : D} {x' : Value} {a b : Nat} {hb : Option Nat} {k : IntKind} {lo' hi' : Option Value} (hr : E.ti.get none t = some ⟨.string, a1, a2, a3, a4⟩) (h : datSlcS x (some a) hb = some d) (hx : Rd z x x')
    (hlo : lo' = some (.int k (.ofNat a)) ∨ (lo' = none ∧ a = 0)) (hhi : (hb = none ∧ hi' = none) ∨ ∃ k', hb = some b ∧ hi' = some (.int k' (.ofNat b))) (w : World) : ∃ v', (Instr.sliceAt t x' lo' hi' none).run P w = .ok v' w ∧ Rd z d v' := by
  have hu := (ok.ti t _ hr).1
  unfold datSlcS at h
  split at h
  · rename_i l a0 e0
    cases e0
    split at h <;> cases h
    rename_i hle
    have hhi' : (hb = none ∧ hi' = none) ∨ ∃ k', hb = some (hb.getD l.length) ∧ hi' = some (.int k' (.ofNat (hb.getD l.length))) := by
      rcases hhi with h | ⟨k', rfl, h⟩
      · exact .inl h
      · exact .inr ⟨k', rfl, h⟩
    generalize hgb : hb.getD l.length = b2 at *
    cases hx
    obtain ⟨m', hrun, _⟩ := slB (P := P) (len := l.length) (cap := l.length) (a := a) (b := b2) hle.1 hle.2 (Nat.le_refl _) hgb hlo hhi' false w
    refine ⟨_, ?_, .str _⟩
    have hsz : (⟨⟨l⟩⟩ : ByteArray).size = l.length := rfl
    simp [Instr.sliceAt, run_underlying hu, Instr.slice, hsz, hrun, extract_list]
  · cases h
end
theorem denL_cons {g : Value → Option D} {x : Value} {l : List Value} {ds : List D} (h : denL g (x :: l) = some ds) : ∃ d r, ds = d :: r ∧ g x = some d ∧ denL g l = some r := by
  unfold denL at h
  split at h
  · rename_i d r h1 h2; cases h; exact ⟨d, r, rfl, h1, h2⟩
  · cases h
theorem denL_nil {g : Value → Option D} {ds : List D} (h : denL g [] = some ds) : ds = [] := by cases h; rfl
theorem denL_one {g : Value → Option D} {x : Value} {ds : List D} (h : denL g [x] = some ds) : ∃ d, ds = [d] ∧ g x = some d := by
  obtain ⟨d, r, rfl, h1, h2⟩ := denL_cons h
  rw [denL_nil h2]; exact ⟨d, rfl, h1⟩
theorem denL_two {g : Value → Option D} {x y : Value} {ds : List D} (h : denL g [x, y] = some ds) : ∃ d e, ds = [d, e] ∧ g x = some d ∧ g y = some e := by
  obtain ⟨d, r, rfl, h1, h2⟩ := denL_cons h
  obtain ⟨e, rfl, h3⟩ := denL_one h2
  exact ⟨d, e, rfl, h1, h3⟩
theorem natD_some {d : D} {a : Nat} (h : natD d = some a) : ∃ k, d = .int k (.ofNat a) := by
  unfold natD at h
  split at h
  · cases h; exact ⟨_, rfl⟩
  · cases h
theorem bnds_ok {E : Env} {β : Ren} {act : Act} {g : Gt} (E1 : ∀ x d, den2 β.d (ev E g x) = some d → Rd β.z d (act.eval x)) {x : Operand} {lo hi : Option Operand} {f : D → Option Nat → Option Nat → Option D} (hf : ∀ x b, f x none b = none) {ds : List D} {d : D}
    (h1 : denL (den2 β.d) (ev E g x :: loV E g lo :: hiV E g hi) = some ds) (h2 : sl3 f ds = some d) :
    ∃ dx al hb k b, den2 β.d (ev E g x) = some dx ∧ f dx (some al) hb = some d ∧ (lo.map act.eval = some (.int k (.ofNat al)) ∨ (lo.map act.eval = none ∧ al = 0)) ∧ ((hb = none ∧ hi.map act.eval = none) ∨ ∃ k', hb = some b ∧ hi.map act.eval = some (.int k' (.ofNat b))) := by
  obtain ⟨dx, r1, rfl, e1, h1⟩ := denL_cons h1
  obtain ⟨dl, r2, rfl, e2, h1⟩ := denL_cons h1
  have hlo : ∀ al, natD dl = some al → ∃ k, lo.map act.eval = some (.int k (.ofNat al)) ∨ (lo.map act.eval = none ∧ al = 0) := fun al hal => by
    obtain ⟨k, rfl⟩ := natD_some hal
    cases lo with
    | none =>
      have e2 : some (D.int .i64 (.ofNat 0)) = some (D.int k (.ofNat al)) := e2
      cases e2
      exact ⟨.i64, .inr ⟨rfl, rfl⟩⟩
    | some y =>
      have := E1 y _ e2
      generalize hg : act.eval y = yv at this
      cases this
      exact ⟨k, .inl (congrArg some hg)⟩
  cases hi with
  | none =>
    have : r2 = [] := denL_nil h1
    subst this
    have h2 : f dx (natD dl) none = some d := h2
    cases hal : natD dl with
    | none => rw [hal, hf] at h2; cases h2
    | some al =>
      rw [hal] at h2
      obtain ⟨k, hk⟩ := hlo al hal
      exact ⟨dx, al, none, k, 0, e1, h2, hk, .inl ⟨rfl, rfl⟩⟩
  | some y =>
    obtain ⟨db, rfl, e3⟩ := denL_one h1
    have h2 : ((natD db).bind fun b => f dx (natD dl) (some b)) = some d := h2
    obtain ⟨b, hb, h4⟩ := Option.bind_eq_some_iff.1 h2
    clear h2
    obtain ⟨k', rfl⟩ := natD_some hb
    cases hal : natD dl with
    | none => rw [hal, hf] at h4; cases h4
    | some al =>
      rw [hal] at h4
      obtain ⟨k, hk⟩ := hlo al hal
      have := E1 y _ e3
      generalize hg : act.eval y = yv at this
      cases this
      exact ⟨dx, al, some b, k, b, e1, h4, hk, .inr ⟨k', rfl, congrArg some hg⟩⟩
section
variable {P : Program} {E : Env} (ok : E.Ok P) {sq : List (Nat × List IntKind)} (sok : E.Seq P sq) {w0 w : World} {β : Ren} {A : AW} (inv : Inv w0 E.G β A w)
include ok sok inv
/-- ████ an operation on symbolic values ████ -/
theorem sym_ok {n : Nat} {g : Gt} {a : Act} (hf : FRel β n g a.tmps) {o : Oper} {nd : Node} {v : Value} (h : symV E sq g o.op nd = some v) (hq : OpQ β.d nd) : ∃ v', (execOp a.eval o).run P w = .ok (.value v') w ∧ VRel β v v' := by
  obtain ⟨rfl, hk⟩ := symV_some h
  have hst : Stands β.z w := inv.frz
  have E1 := fun (x : Operand) (d : D) (hd : den2 β.d (ev E g x) = some d) => den2_rd hd (ev_rel (a := a) inv hf x)
  obtain ⟨dst, op, type, pos, after, guard⟩ := o
  obtain ⟨nk, nargs, nres⟩ := nd
  have fin : ∀ {s : Sem Value} {d : D} {v' : Value}, s.run P w = .ok v' w → res2 β.d nres = some d → Rd β.z d v' → (∃ v'', (do pure (Next.value (← s)) : Sem Next).run P w = .ok (.value v'') w ∧ VRel β nres v'') := fun {s d v'} h1 h2 h3 => ⟨v', by simp [h1], res2_rel h2 h3⟩
  unfold keyOf at hk
  simp only at hk hq ⊢
  split at hk
  · -- binOp
    rename_i bop t x y ty
    split at hk
    · rename_i ks hks
      split at hk <;> cases hk
      · obtain ⟨ds, d, h1, h2, h3⟩ := hq
        obtain ⟨da, db, rfl, e1, e2⟩ := denL_two h1
        have h3 : datEqG ks false da db = some d := h3
        unfold datEqG at h3
        split at h3
        · obtain ⟨r, hr, rfl⟩ := Option.map_eq_some_iff.1 h3
          exact fin (eqG_rd ok sok (neg := false) hks hr (E1 x _ e1) (E1 y _ e2) x y w) h2 (.bool _)
        · cases h3
      · obtain ⟨ds, d, h1, h2, h3⟩ := hq
        obtain ⟨da, db, rfl, e1, e2⟩ := denL_two h1
        have h3 : datEqG ks true da db = some d := h3
        unfold datEqG at h3
        split at h3
        · obtain ⟨r, hr, rfl⟩ := Option.map_eq_some_iff.1 h3
          exact fin (eqG_rd ok sok (neg := true) hks hr (E1 x _ e1) (E1 y _ e2) x y w) h2 (.bool _)
        · cases h3
    · cases hk
      obtain ⟨ds, d, h1, h2, h3⟩ := hq
      obtain ⟨da, db, rfl, e1, e2⟩ := denL_two h1
      obtain ⟨v', r1, r2⟩ := bin_rd ok sok (show datBin bop (cls E t) da db = some d from h3) (E1 x _ e1) (E1 y _ e2) x y w
      exact fin r1 h2 r2
  · -- unOp
    rename_i uop t x
    cases hk
    obtain ⟨ds, d, h1, h2, h3⟩ := hq
    obtain ⟨da, rfl, e1⟩ := denL_one h1
    obtain ⟨v', r1, r2⟩ := un_rd (P := P) (show datUn uop da = some d from h3) (E1 x _ e1) w
    exact fin r1 h2 r2
  · -- convert
    rename_i s d0 x
    split at hk <;> cases hk
    · rename_i hs hd
      obtain ⟨ds, d, h1, h2, h3⟩ := hq
      obtain ⟨da, rfl, e1⟩ := denL_one h1
      have h3 : datCvI _ da = some d := h3
      have hx := E1 x _ e1
      unfold datCvI at h3
      split at h3 <;> cases h3
      generalize hg : a.eval x = xv at hx
      cases hx
      exact fin (by rw [hg]; exact cvI_rd ok hs hd w) h2 (.int _ _)
    · rename_i hs hd
      obtain ⟨ds, d, h1, h2, h3⟩ := hq
      obtain ⟨da, rfl, e1⟩ := denL_one h1
      have h3 : datCvS da = some d := h3
      have hx := E1 x _ e1
      unfold datCvS at h3
      split at h3 <;> cases h3
      generalize hg : a.eval x = xv at hx
      cases hx
      exact fin (by rw [hg]; exact cvS_rd ok hs hd w) h2 (.str _)
  · -- len
    rename_i x t
    split at hk <;> cases hk
    · rename_i hr
      obtain ⟨ds, d, h1, h2, h3⟩ := hq
      obtain ⟨da, rfl, e1⟩ := denL_one h1
      have h3 : datLenS da = some d := h3
      have hx := E1 x _ e1
      unfold datLenS at h3
      split at h3 <;> cases h3
      generalize hg : a.eval x = xv at hx
      cases hx
      have := fin (lenS_rd (P := P) (ty := type) ok hr w) h2 (.int _ _)
      simpa [execOp, resolve, invoke, builtin, hg] using this
    · rename_i hr
      obtain ⟨ds, d, h1, h2, h3⟩ := hq
      obtain ⟨da, rfl, e1⟩ := denL_one h1
      have h3 : datLenL da = some d := h3
      have hx := E1 x _ e1
      unfold datLenL at h3
      split at h3 <;> cases h3
      have := fin (lenL_rd (P := P) (ty := type) ok hr hx w) h2 (.int _ _)
      simpa [execOp, resolve, invoke, builtin] using this
  · -- index
    rename_i t x i
    split at hk <;> cases hk
    rename_i hr
    obtain ⟨ds, d, h1, h2, h3⟩ := hq
    obtain ⟨da, db, rfl, e1, e2⟩ := denL_two h1
    obtain ⟨v', r1, r2⟩ := idxS_rd ok hr (show datIdxS da db = some d from h3) (E1 x _ e1) (E1 i _ e2) w
    exact fin r1 h2 r2
  · -- slice
    rename_i t x lo hi
    split at hk
    · rename_i hr
      cases hk
      obtain ⟨ds, d, h1, h2, h3⟩ := hq
      have h3 : sl3 datSlcS ds = some d := h3
      obtain ⟨dx, al, hb, k, b, e1, e2, e3, e4⟩ := bnds_ok E1 (fun x b => by unfold datSlcS; split <;> first | rfl | (rename_i e; cases e)) h1 h3
      obtain ⟨v', r1, r2⟩ := slcS_rd ok hr e2 (E1 x _ e1) e3 e4 w
      exact fin r1 h2 r2
    · rename_i hr
      split at hk <;> cases hk
      rename_i hs
      obtain ⟨ds, d, h1, h2, h3⟩ := hq
      have h3 : sl3 (datSlc _) ds = some d := h3
      obtain ⟨dx, al, hb, k, b, e1, e2, e3, e4⟩ := bnds_ok E1 (fun x b => by unfold datSlc; split <;> first | rfl | (rename_i e; cases e)) h1 h3
      obtain ⟨v', r1, r2⟩ := slc_rd ok hr hs e2 (E1 x _ e1) e3 e4 w
      exact fin r1 h2 r2
    · cases hk
  · -- indexAddr
    rename_i t x i
    split at hk
    · rename_i hr
      split at hk <;> cases hk
      rename_i hs
      obtain ⟨ds, d, h1, h2, h3⟩ := hq
      obtain ⟨da, db, rfl, e1, e2⟩ := denL_two h1
      obtain ⟨v', r1, r2⟩ := idxA_rd ok hr hs (show datIdxA _ da db = some d from h3) (E1 x _ e1) (E1 i _ e2) w
      exact fin r1 h2 r2
    · rename_i hr
      split at hk <;> cases hk
      rename_i hs
      obtain ⟨ds, d, h1, h2, h3⟩ := hq
      obtain ⟨da, db, rfl, e1, e2⟩ := denL_two h1
      obtain ⟨v', r1, r2⟩ := idxP_rd ok hr hs (show datIdxP _ _ da db = some d from h3) (E1 x _ e1) (E1 i _ e2) w
      exact fin r1 h2 r2
    · cases hk
  · -- fieldAddr
    rename_i t x f
    split at hk
    · rename_i hr
      split at hk
      · rename_i fd hfd
        rw [nth_eq] at hfd
        split at hk
        · rename_i r hr2
          replace hk := bs_some hk
          rcases hk with ⟨_, hk⟩ | ⟨hz, hk⟩ <;> cases hk
          obtain ⟨ds, d, h1, h2, h3⟩ := hq
          obtain ⟨da, rfl, e1⟩ := denL_one h1
          have h3 : datFld _ da = some d := h3
          have hx := E1 x _ e1
          unfold datFld at h3
          split at h3 <;> cases h3
          obtain ⟨v', r1, r2⟩ := fldA_rd (P := P) ok hr hfd hr2 hz hx w
          exact fin r1 h2 r2
        · cases hk
      · cases hk
    · cases hk
  · -- load
    rename_i t x
    split at hk
    · rename_i r hr
      replace hk := bs_some hk
      rcases hk with ⟨hd, hk⟩ | ⟨hd, hk⟩ <;> cases hk
      · obtain ⟨ds, d, h1, h2, h3⟩ := hq
        obtain ⟨da, rfl, e1⟩ := denL_one h1
        obtain ⟨v', r1, r2⟩ := ldA_rd (P := P) ok hst hr hd (show datLdA r.size da = some d from h3) (E1 x _ e1)
        exact fin r1 h2 r2
      · obtain ⟨ds, d, h1, h2, h3⟩ := hq
        obtain ⟨da, rfl, e1⟩ := denL_one h1
        obtain ⟨v', r1, r2⟩ := ld_rd (P := P) ok hst hr hd (show datLd da = some d from h3) (E1 x _ e1)
        exact fin r1 h2 r2
    · cases hk
  · -- nilCheck
    rename_i x
    cases hk
    obtain ⟨ds, d, h1, h2, h3⟩ := hq
    obtain ⟨da, rfl, e1⟩ := denL_one h1
    have h3 : datNil da = some d := h3
    have hx := E1 x _ e1
    unfold datNil at h3
    split at h3 <;> cases h3
    · generalize hg : a.eval x = xv at hx
      refine ⟨xv, ?_, res2_rel h2 hx⟩
      cases hx
      simp [execOp, hg]
    · generalize hg : a.eval x = xv at hx
      refine ⟨xv, ?_, res2_rel h2 hx⟩
      cases hx
      simp [execOp, hg]
  · cases hk
end
end Go.Ex
