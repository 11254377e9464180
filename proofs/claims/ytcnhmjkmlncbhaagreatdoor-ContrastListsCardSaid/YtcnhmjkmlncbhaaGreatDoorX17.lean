/- A verified evaluator of Go functions on partly symbolic values, part 17 of 17. -/
import Derived.Test.YtcnhmjkmlncbhaaGreatDoorX16
import Derived.ProofKit
import Derived.Stop.Joined
import GoSem.ClaimJoined
import Derived.MakeChecks
namespace Go.Ex
open Go.RowKit

section
variable {P : Program}
noncomputable def flatDF (P : Program) (g : TypeId → DataW Unit → Option (List Value)) : Nat → List Field → List (DataW Unit) → Option (List Value)
  | _, [], [] => some []
  | o, f :: fs, d :: ds => if f.offset = o then
      (match g f.type d with
      | some l => if l.length = P.cellsOf f.type then (match flatDF P g (o + l.length) fs ds with | some r => some (l ++ r) | none => none) else none
      | none => none)
    else none
  | _, _, _ => none
noncomputable def flatDA (g : DataW Unit → Option (List Value)) (c : Nat) : List (DataW Unit) → Option (List Value)
  | [] => some []
  | d :: ds => (match g d with
      | some l => if l.length = c then (match flatDA g c ds with | some r => some (l ++ r) | none => none) else none
      | none => none)
noncomputable def flatD (P : Program) : Nat → TypeId → DataW Unit → Option (List Value)
  | 0, _, _ => none
  | m + 1, t, d =>
    match d with
    | .lit (.bool b) => (match P.underlying t with | some .bool => some [.bool b] | _ => none)
    | .lit (.int k n) => (match P.underlying t with | some (.int _) => some [.int k n] | _ => none)
    | .lit (.string b) => (match P.underlying t with | some .string => some [.string ⟨⟨b⟩⟩] | _ => none)
    | .agg ds => (match P.underlying t with
      | some (.struct fs) => (match flatDF P (flatD P m) 0 fs.toList ds with | some l => if l.length = P.cellsOf t then some l else none | none => none)
      | some (.array _ e) => (match flatDA (flatD P m e) (P.cellsOf e) ds with | some l => if l.length = P.cellsOf t then some l else none | none => none)
      | _ => none)
    | _ => none

theorem mapM_cons_some {α β : Type} {f : α → Option β} {a : α} {l : List α} {r : List β} (h : (a :: l).mapM f = some r) : ∃ b r', f a = some b ∧ l.mapM f = some r' ∧ r = b :: r' := by
  rw [List.mapM_cons] at h
  cases h1 : f a with
  | none => rw [h1] at h; cases h
  | some b =>
    rw [h1] at h
    cases h2 : l.mapM f with
    | none => rw [h2] at h; cases h
    | some r' => rw [h2] at h; cases h; exact ⟨b, r', rfl, rfl, rfl⟩
theorem take_two {α : Type} (cs : List α) (o a b : Nat) : (cs.drop o).take (a + b) = (cs.drop o).take a ++ (cs.drop (o + a)).take b := by
  rw [List.take_add, List.drop_drop]

theorem trod_flat {w : World} {base : Nat} {spare : Nat → Bool} {held : Bool} : ∀ (fuel m : Nat) (t : TypeId) (cs : List Value) (d : DataW Unit) (p : List MemPlace) (l : List Value),
    DataW.trod (fun _ => ()) P w base spare held fuel t cs = some (d, p) → flatD P m t d = some l → cs = l
  | 0, m, t, cs, d, p, l, h, hl => by cases h
  | fuel + 1, 0, t, cs, d, p, l, h, hl => by cases hl
  | fuel + 1, m + 1, t, cs, d, p, l, h, hl => by
    unfold flatD at hl
    cases hu : P.underlying t with
    | none => unfold DataW.trod at h; rw [hu] at h; simp at h
    | some kd =>
      have hstruct : ∀ fs, kd = .struct fs → cs = l := by
        rintro fs rfl
        unfold DataW.trod at h
        rw [hu] at h
        simp only at h
        split at h
        · rename_i hlen
          obtain ⟨xs, hx, e⟩ := Option.map_eq_some_iff.1 h
          cases e
          simp only [hu] at hl
          split at hl
          · rename_i l' hl'
            split at hl
            · rename_i hll
              cases hl
              have go : ∀ (L : List Field) (o : Nat) (xs : List (DataW Unit × List MemPlace)) (l : List Value), L.mapM (fun f => DataW.trod (fun _ => ()) P w base spare held fuel f.type ((cs.drop f.offset).take (P.cellsOf f.type))) = some xs →
                  flatDF P (flatD P m) o L (xs.map (·.1)) = some l → (cs.drop o).take l.length = l := by
                intro L
                induction L with
                | nil => intro o xs l h1 h2; simp at h1; subst h1; simp [flatDF] at h2; subst h2; simp
                | cons f L ih =>
                  intro o xs l h1 h2
                  obtain ⟨b, r', e1, e2, rfl⟩ := mapM_cons_some h1
                  rw [List.map_cons] at h2
                  unfold flatDF at h2
                  split at h2
                  · rename_i ho
                    split at h2
                    · rename_i l1 hl1
                      split at h2
                      · rename_i hc
                        split at h2
                        · rename_i l2 hl2
                          cases h2
                          obtain ⟨b1, b2⟩ := b
                          have q1 := trod_flat fuel m _ _ _ _ _ e1 hl1
                          have q2 := ih _ _ _ e2 hl2
                          rw [List.length_append, take_two, q2, hc, ← ho, q1]
                        · cases h2
                      · cases h2
                    · cases h2
                  · cases h2
              have := go fs.toList 0 xs l hx hl'
              rw [List.drop_zero, hll, ← hlen, List.take_length] at this
              exact this
            · cases hl
          · cases hl
        · cases h
      have harray : ∀ n e, kd = .array n e → cs = l := by
        rintro n e rfl
        unfold DataW.trod at h
        rw [hu] at h
        simp only at h
        split at h
        · rename_i hlen
          obtain ⟨xs, hx, e'⟩ := Option.map_eq_some_iff.1 h
          cases e'
          simp only [hu] at hl
          split at hl
          · rename_i l' hl'
            split at hl
            · rename_i hll
              cases hl
              have go : ∀ (n s : Nat) (xs : List (DataW Unit × List MemPlace)) (l : List Value), (List.range' s n).mapM (fun i => DataW.trod (fun _ => ()) P w base spare held fuel e ((cs.drop (i * P.cellsOf e)).take (P.cellsOf e))) = some xs →
                  flatDA (flatD P m e) (P.cellsOf e) (xs.map (·.1)) = some l → (cs.drop (s * P.cellsOf e)).take l.length = l := by
                intro n
                induction n with
                | zero => intro s xs l h1 h2; simp at h1; subst h1; simp [flatDA] at h2; subst h2; simp
                | succ n ih =>
                  intro s xs l h1 h2
                  rw [List.range'_succ] at h1
                  obtain ⟨b, r', e1, e2, rfl⟩ := mapM_cons_some h1
                  rw [List.map_cons] at h2
                  unfold flatDA at h2
                  split at h2
                  · rename_i l1 hl1
                    split at h2
                    · rename_i hc
                      split at h2
                      · rename_i l2 hl2
                        cases h2
                        obtain ⟨b1, b2⟩ := b
                        have q1 := trod_flat fuel m _ _ _ _ _ e1 hl1
                        have q2 := ih _ _ _ e2 hl2
                        rw [Nat.succ_mul] at q2
                        rw [List.length_append, take_two, hc, q2, q1]
                      · cases h2
                    · cases h2
                  · cases h2
              rw [List.range_eq_range'] at hx
              have := go n 0 xs l hx hl'
              rw [Nat.zero_mul, List.drop_zero, hll, ← hlen, List.take_length] at this
              exact this
            · cases hl
          · cases hl
        · cases h
      cases kd with
      | struct fs => exact hstruct fs rfl
      | array n e => exact harray n e rfl
      | bool =>
        unfold DataW.trod at h
        rw [hu] at h
        split at h <;> first | (simp at *; done) | skip
        all_goals (first | (cases h; simp only [hu] at hl; cases hl; rfl) | (simp_all; done))
      | int k =>
        unfold DataW.trod at h
        rw [hu] at h
        split at h <;> first | (simp at *; done) | skip
        all_goals (first | (split at h; (rename_i hq; cases h; simp only [hu] at hl; cases hl; rw [hq.1]); (cases h)) | (simp_all; done))
      | string =>
        unfold DataW.trod at h
        rw [hu] at h
        split at h <;> first | (simp at *; done) | skip
        all_goals (first | (split at h; (cases h; simp only [hu] at hl; cases hl; rfl); (cases h)) | (simp_all; done))
      | _ =>
        exfalso
        rw [hu] at hl
        cases d with
        | lit q => cases q <;> cases hl
        | _ => cases hl

theorem laid_mem {w : World} : ∀ {laid : List (String × DataW Unit)} {ps : List MemPlace} {n : String} {d : DataW Unit}, DataW.LaidVars P w laid ps → (n, d) ∈ laid →
    ∃ g t cs fuel p, P.globalNamed n = some g ∧ (P.globals[g]?).map (·.type) = some t ∧ w.var? P n = some cs ∧ DataW.trod (fun _ => ()) P w 0 (fun _ => true) false fuel t cs.toList = some (d, p)
  | [], _, _, _, _, h => by cases h
  | (n', d') :: r, ps, n, d, hl, h => by
    obtain ⟨g, t, cs, fuel, p, q, h1, h2, h3, h4, h5, _⟩ := hl
    cases h with
    | head => exact ⟨g, t, cs, fuel, p, h1, h2, h3, h4⟩
    | tail _ h => exact laid_mem h5 h
theorem glob_cells {w : World} {laid : List (String × DataW Unit)} (h : laidMetH P laid w) (hp : (laid.all fun x => x.2.handleName?.isNone) = true) {n : String} {d : DataW Unit} {g : Nat} {t : TypeId} {l : List Value} (m : Nat) (hm : (n, d) ∈ laid)
    (hg : P.globalNamed n = some g) (ht : (P.globals[g]?).map (·.type) = some t) (hl : flatD P m t d = some l) : ∃ e fz, w.heap[g]? = some (.cells ⟨l⟩ e fz) := by
  rw [MakeChecks.laidMetH_plain _ _ _ hp] at h
  obtain ⟨ps, h1, _⟩ := h
  obtain ⟨g', t', cs, fuel, p, e1, e2, e3, e4⟩ := laid_mem h1 hm
  rw [hg] at e1; cases e1
  rw [ht] at e2; cases e2
  have := trod_flat fuel m _ _ _ _ _ e4 hl
  simp only [World.var?, hg, Option.bind_some] at e3
  split at e3
  · rename_i cs' e fz hh
    cases e3
    exact ⟨e, fz, by rw [hh, ← this]⟩
  · cases e3

/-! ### the first world -/
theorem fill_get : ∀ (k : Nat) (l : List (Option Blk)) (i : Nat) (x : Blk), (fill k l).get none i = some x → l[i]? = some (some x)
  | 0, l, i, x, h => by cases h
  | k + 1, [], i, x, h => by
    have h' : (T.node (fill k []) none (fill k [])).get none i = some x := h
    rw [T.get_node] at h'
    split at h'
    · cases h'
    · split at h'
      · have := fill_get k _ _ _ h'; simp at this
      · have := fill_get k _ _ _ h'; simp at this
  | k + 1, a :: r, i, x, h => by
    have h' : (T.node (fill k (alt r true)) a (fill k (alt r false))).get none i = some x := h
    rw [T.get_node] at h'
    split at h'
    · rename_i h0; subst h0; rw [h']; rfl
    · split at h'
      · have := fill_get k _ _ _ h'
        rw [alt_get] at this
        rw [show i = 2 * (i / 2) + 1 by omega, List.getElem?_cons_succ]
        simpa using this
      · have := fill_get k _ _ _ h'
        rw [alt_get] at this
        rw [show i = (2 * (i / 2 - 1) + 1) + 1 by omega, List.getElem?_cons_succ]
        simpa using this
def scal (v : Value) : Bool := match v with | .bool _ => true | .int _ _ => true | .string _ => true | _ => false
theorem scal_rel (β : Ren) {v : Value} (h : scal v = true) : VRel β v v := by
  unfold scal at h
  split at h
  · exact .bool _
  · exact .int _ _
  · exact .string _
  · cases h
/-- the variables, as the first blocks -/
def ren0 (L : List (Option Blk)) (δ : Nat → Option D := fun _ => none) (z : Nat → Option (Array Value) := fun _ => none) : Ren where
  f := fun g => match L[g]? with
    | some (some ⟨.cells cs, es, _, _, _⟩) => some ⟨g, 0, es, cs.length⟩
    | some none => some ⟨g, 0, 0, 0⟩
    | _ => none
  z := z
  d := δ
  x := ⟨fun _ => False, z⟩
  o := fun _ => none
theorem ren0_f (L : List (Option Blk)) (δ : Nat → Option D) (z : Nat → Option (Array Value)) (g : Nat) : (ren0 L δ z) g = match L[g]? with | some (some ⟨.cells cs, es, _, _, _⟩) => some ⟨g, 0, es, cs.length⟩ | some none => some ⟨g, 0, 0, 0⟩ | _ => none := rfl
/-- the variables lie as they are told; of some nothing is told -/
def LaidAt (L : List (Option Blk)) (w : World) : Prop := ∀ g, g < L.length → L[g]? = some none ∨ ∃ cs es, L[g]? = some (some ⟨.cells cs, es, false, true, ANY⟩) ∧ (cs.all scal) = true ∧ ∃ e fz, w.heap[g]? = some (.cells ⟨cs⟩ e fz)
theorem start_inv {w : World} {k : Nat} {L : List (Option Blk)} (hL : LaidAt L w) :
    ∀ (Q : (Nat → Option D) → Node → Prop) (LL : World → Prop) (δ : Nat → Option D) (z : Nat → Option (Array Value)) (tape : List Node), LL w → L.length ≤ w.heap.size → Stands z w → (∀ nd ∈ tape, Q δ nd) → Inv w ⟨L.length, Q, LL⟩ (ren0 L δ z) ((mkAW k L).pop tape) w := by
  intro Q LL δ z tape hLL hsz hst htp
  have hren : ∀ g l, ren0 L δ z g = some l → g < L.length ∧ l.b = g ∧ l.d = 0 ∧ (L[g]? = some none ∨ ∃ cs es e fz, L[g]? = some (some ⟨.cells cs, es, false, true, ANY⟩) ∧ (cs.all scal) = true ∧ w.heap[g]? = some (.cells ⟨cs⟩ e fz) ∧ l = ⟨g, 0, es, cs.length⟩) := fun g l hl => by
    have hg : g < L.length := by
      rw [ren0_f] at hl
      split at hl
      · rename_i h; exact (List.getElem?_eq_some_iff.1 h).1
      · rename_i h; exact (List.getElem?_eq_some_iff.1 h).1
      · cases hl
    rcases hL g hg with h1 | ⟨cs, es, h1, h2, e, fz, h3⟩
    · rw [ren0_f, h1] at hl
      cases hl
      exact ⟨hg, rfl, rfl, .inl h1⟩
    · rw [ren0_f, h1] at hl
      cases hl
      exact ⟨hg, rfl, rfl, .inr ⟨cs, es, e, fz, h1, h2, h3, rfl⟩⟩
  have hnext : (mkAW k L).next = L.length := llen_eq L
  refine ⟨BelowX.refl _ _, fun B l h => ?_, fun B h => ?_, fun B l h => ?_, fun B B' l l' h h' hb _ _ => ?_, fun B blk l h h' => ?_, fun g hg => ?_, hst, (fun B l kb hG h ha hs => absurd (hren B l h).1 (Nat.not_lt.2 hG)), htp, fun B k' hk => ?_, (fun B v h => by cases h), hLL, (fun b h => h.elim), hsz, fun b c h => .inl h⟩
  · show B < (mkAW k L).next; rw [hnext]; exact (hren B l h).1
  · have h : (mkAW k L).next ≤ B := h
    rw [hnext] at h
    show (mkAW k L).get B = none
    cases hq : (mkAW k L).get B with
    | none => rfl
    | some x =>
      have := fill_get k L B x hq
      have := (List.getElem?_eq_some_iff.1 this).1
      omega
  · obtain ⟨hg, hb, _, _⟩ := hren B l h
    exact ⟨by rw [hb]; omega, .inl hg⟩
  · rw [(hren B l h).2.1, (hren B' l' h').2.1] at hb
    exact hb
  · obtain ⟨hg, _, _, hq⟩ := hren B l h'
    have := fill_get k L B blk h
    rcases hq with h1 | ⟨cs, es, e, fz, h1, h2, hh, rfl⟩
    · rw [h1] at this; cases this
    · rw [h1] at this
      cases this
      refine ⟨⟨cs⟩, e, fz, hh, by simp, by simp, (fun i v hv => ⟨v, by simpa using hv, scal_rel _ (List.all_eq_true.1 h2 v (List.mem_of_getElem? hv))⟩), (fun h => by cases h), (fun h => by cases h), rfl, (fun h => absurd rfl h)⟩
  · rcases hL g hg with h1 | ⟨cs, es, h1, h2, e, fz, h3⟩
    · refine ⟨⟨g, 0, 0, 0⟩, ?_, rfl, rfl⟩
      rw [ren0_f, h1]
    · refine ⟨⟨g, 0, es, cs.length⟩, ?_, rfl, rfl⟩
      rw [ren0_f, h1]
  · have hq := fill_get k L B k' hk
    rcases hL B (List.getElem?_eq_some_iff.1 hq).1 with h1 | ⟨cs, es, h1, _⟩
    · rw [hq] at h1; cases h1
    · rw [hq] at h1
      cases h1
      trivial

noncomputable def isTrue (v : Value) : Bool := match v with | .bool b => b | _ => false
noncomputable def allB (f : Value → Bool) (x : Out Value) : Bool := match x with | none => false | some l => lall (fun p => f p.1) l
/-- ████ a closed call that the evaluator finds true in every outcome ████ -/
theorem closed_true {E : Env} {call : Tgt → List Value → AW → Out Value} (hc : CallOk P E call) {f : FuncId} {A : AW} (h : allB isTrue (call (.fn f) [] A) = true) {w : World} {β : Ren} (inv : Inv w E.G β A w) (hx : ∀ k, ¬ β.x k) :
    Calls P f #[] w fun e w' => e = .returned (.bool true) ∧ Below w.heap.size w w' := by
  unfold allB at h
  split at h
  · cases h
  · rename_i l hl
    refine (hc w (.fn f) [] A l β w [] hl inv (LRel.nil β)).mono fun e w' ⟨p, hp, β', v', h1, h2, h3, h4, _⟩ => ?_
    have ht := lall_eq _ _ h p hp
    unfold isTrue at ht
    split at ht
    · rename_i b hb
      cases ht
      rw [hb] at h2
      cases h2
      exact ⟨h1, h3.below.below (fun k => by rw [h4.x]; exact hx k)⟩
    · cases ht
end
end Go.Ex
namespace Go.Ex
open Go.RowKit

def RdL (z : Nat → Option (Array Value)) (ds : List D) (vs : List Value) : Prop := ds.length = vs.length ∧ ∀ (i : Nat) (d : D) (v : Value), ds[i]? = some d → vs[i]? = some v → Rd z d v
/-- ████ the contract of a function on data: it hands back 'out', and makes new memory alone ████ -/
def FnC (P : Program) (L : World → Prop) (f : FuncId) (ds : List D) (out : D) : Prop :=
  ∀ (w : World) (z : Nat → Option (Array Value)) (args' : List Value), L w → Stands z w → RdL z ds args' →
    Calls P f ⟨args'⟩ w fun e w' => ∃ v z', e = .returned v ∧ Below w.heap.size w w' ∧ Stands z' w' ∧ (∀ b c, z b = some c → z' b = some c) ∧ (∀ b c, z' b = some c → z b = some c ∨ w.heap.size ≤ b) ∧ Rd z' out v
def CallQ (P : Program) (L : World → Prop) (δ : Nat → Option D) (nd : Node) (f : FuncId) : Prop :=
  ∃ ds d, denL (den2 δ) nd.args = some ds ∧ res δ nd.res = some d ∧ FnC P L f ds d
/-- what is taken for granted of a node -/
def GQ (P : Program) (L : World → Prop) (δ : Nat → Option D) (nd : Node) : Prop :=
  match nd.k with
  | .call f => CallQ P L δ nd f
  | _ => OpQ δ nd
theorem GQ.op {P : Program} {L : World → Prop} {δ : Nat → Option D} {nd : Node} (h : GQ P L δ nd) : OpQ δ nd := by
  unfold GQ at h
  split at h
  · rename_i f hk
    unfold OpQ
    rw [hk]
    trivial
  · exact h
theorem GQ.call {P : Program} {L : World → Prop} {δ : Nat → Option D} {nd : Node} {f : FuncId} (h : GQ P L δ nd) (hk : nd.k = .call f) : CallQ P L δ nd f := by
  unfold GQ at h
  rw [hk] at h
  exact h

section
variable {P : Program} {E : Env} (ok : E.Ok P) {w0 w : World} {β : Ren} {A : AW} (inv : Inv w0 E.G β A w)
include ok inv in
theorem Inv.laid : E.G.L w := ok.lx w0 w inv.lay fun b hb => inv.below.block b (Nat.lt_of_lt_of_le hb inv.gsz) (fun hx => by have := inv.xg b hx; omega)
/-- new memory, and what stands still grows -/
theorem Inv.fresh (inv : Inv w0 E.G β A w) {w' : World} {z' : Nat → Option (Array Value)} (hb : Below w.heap.size w w') (hst : Stands z' w') (h1 : ∀ b c, β.z b = some c → z' b = some c) (h2 : ∀ b c, z' b = some c → β.z b = some c ∨ w.heap.size ≤ b) :
    Inv w0 E.G { β with z := z' } A w' ∧ β.grow { β with z := z' } A.next := by
  have hg : β.grow { β with z := z' } A.next := ⟨fun _ _ => rfl, h1, fun _ _ => rfl, rfl, rfl⟩
  have hle := inv.le_of_grow hg
  refine ⟨⟨inv.below.trans ⟨hb.os, hb.tape, hb.output, hb.size, fun k hk _ => hb.block k hk⟩, inv.dom, inv.nxt, fun B l e => ⟨Nat.lt_of_lt_of_le (inv.loc B l e).1 hb.size, (inv.loc B l e).2⟩, inv.inj, fun B blk l hk e => ?_, inv.glob, hst, fun B l blk hG e hk hs => ?_, inv.nds,
    fun B k hk => (inv.own B k hk).mono hle, inv.odom, inv.lay, inv.xg, inv.gsz, fun b c h => (h2 b c h).elim (fun h => inv.zo b c h) (fun h => .inr (Nat.le_trans inv.below.size h))⟩, hg⟩
  · rw [hb.block l.b (inv.loc B l e).1]
    exact (inv.cont B blk l hk e).mono hle
  · cases hz : z' l.b with
    | none => exact hz
    | some c =>
      exfalso
      rcases h2 _ _ hz with h | h
      · have := inv.sep B l blk hG e hk hs; rw [this] at h; cases h
      · have := (inv.loc B l e).1; omega
end
theorem LRel_RdL {β : Ren} : ∀ {vs args' : List Value} {ds : List D}, denL (den2 β.d) vs = some ds → LRel β vs args' → RdL β.z ds args' := fun {vs args' ds} h hl =>
  ⟨(denL_len h).trans hl.1, fun i d v hd hv => by
    have hi : i < vs.length := by rw [hl.1]; exact (List.getElem?_eq_some_iff.1 hv).1
    exact den2_rd (denL_get h hd (List.getElem?_eq_getElem hi)) (hl.2 i _ _ (List.getElem?_eq_getElem hi) hv)⟩

/-- a call that the tape answers -/
noncomputable def orcT (t : Tgt) (args : List Value) (A : AW) : Out Value :=
  match t with
  | .rd _ => none
  | .fn f => match A.tape with
    | [] => none
    | nd :: r => bs (nkeq (.call f) nd.k) (bs (veqQ args nd.args) (some [(nd.res, A.pop r)]) none) none
theorem orcT_ok {P : Program} {E : Env} (ok : E.Ok P) (hC : ∀ δ nd f, nd.k = .call f → E.G.Q δ nd → CallQ P E.G.L δ nd f) : CallOk P E orcT := by
  intro w0 t args A outs β w args' h inv hargs
  unfold orcT at h
  split at h
  · cases h
  · rename_i f
    split at h
    · cases h
    · rename_i nd r ht
      rcases bs_some h with ⟨h1, h⟩ | ⟨_, h⟩
      · rcases bs_some h with ⟨h2, h⟩ | ⟨_, h⟩
        · cases h
          have hmem : nd ∈ A.tape := by rw [ht]; exact List.mem_cons_self
          obtain ⟨ds, d, e1, e2, e3⟩ := hC _ nd f (nkeq_eq h1).symm (inv.nds nd hmem)
          rw [← veqQ_eq _ _ h2] at e1
          refine (e3 w β.z args' (inv.laid ok) inv.frz (LRel_RdL e1 hargs)).mono fun e w' hp => ?_
          obtain ⟨v, z', rfl, hb, hst, z1, z2, hr⟩ := hp
          obtain ⟨hi, hg⟩ := inv.fresh hb hst z1 z2
          exact ⟨_, List.mem_cons_self, { β with z := z' }, v, rfl, res_rel (β := { β with z := z' }) e2 hr, hi.pop (fun x hx => by rw [ht]; exact List.mem_cons_of_mem _ hx), hg, Nat.le_refl _⟩
        · cases h
      · cases h
/-- a call without arguments that is known to answer a constant -/
noncomputable def orcK (f : FuncId) (v : Value) (t : Tgt) (args : List Value) (A : AW) : Out Value :=
  match t, args with
  | .fn g, [] => bs (Nat.beq g f) (some [(v, A)]) none
  | _, _ => none
theorem orcK_ok {P : Program} {E : Env} (ok : E.Ok P) {f : FuncId} {v : Value} (hv : ∀ β, VRel β v v) (hc : ∀ w, E.G.L w → Calls P f #[] w fun e w' => e = .returned v ∧ Below w.heap.size w w') : CallOk P E (orcK f v) := by
  intro w0 t args A outs β w args' h inv hargs
  unfold orcK at h
  split at h
  · rename_i g
    rcases bs_some h with ⟨h1, h⟩ | ⟨_, h⟩
    · cases h
      obtain rfl := Nat.eq_of_beq_eq_true h1
      rw [hargs.inv_nil]
      refine (hc w (inv.laid ok)).mono fun e w' ⟨h1, hb⟩ => ?_
      obtain ⟨hi, hg⟩ := inv.fresh hb (z' := β.z) (fun b cs hz => by
        obtain ⟨e, fz, h2⟩ := inv.frz b cs hz
        exact ⟨e, fz, by rw [hb.block b (Array.getElem?_eq_some_iff.1 h2).1]; exact h2⟩) (fun _ _ h => h) (fun _ _ h => .inl h)
      exact ⟨_, List.mem_cons_self, β, v, h1, hv β, hi, hg, Nat.le_refl _⟩
    · cases h
  · cases h


/-- ████ a run is a contract ████ -/
theorem fn_of_run {P : Program} {E : Env} {call : Tgt → List Value → AW → Out Value} (hc : CallOk P E call) {L : List (Option Blk)} {Q : (Nat → Option D) → Node → Prop} {LL : World → Prop} (hG : E.G = ⟨L.length, Q, LL⟩)
    (hL : ∀ w, LL w → L.length ≤ w.heap.size ∧ LaidAt L w)
    {k : Nat} {f : FuncId} {args : List Value} {tape : List Node} {rv : Value} (hrun : allB (fun v => veq v rv) (call (.fn f) args ((mkAW k L).pop tape)) = true) {δ : Nat → Option D} {ds : List D} {out : D}
    (hargs : denL (res2 δ) args = some ds) (hres : den δ rv = some out) (hn : ∀ nd ∈ tape, Q δ nd) : FnC P LL f ds out := by
  intro w z args' hLw hst hrd
  unfold allB at hrun
  split at hrun
  · cases hrun
  · rename_i outs ho
    have inv := start_inv (k := k) (hL w hLw).2 Q LL δ z tape hLw (hL w hLw).1 hst hn
    rw [← hG] at inv
    have hlr : LRel (ren0 L δ z) args args' := ⟨(denL_len hargs).symm.trans hrd.1, fun i v v' hv hv' => by
      have hi : i < ds.length := by rw [hrd.1]; exact (List.getElem?_eq_some_iff.1 hv').1
      exact res2_rel (β := ren0 L δ z) (denL_get hargs (List.getElem?_eq_getElem hi) hv) (hrd.2 i _ _ (List.getElem?_eq_getElem hi) hv')⟩
    refine (hc w (.fn f) args _ outs _ w args' ho inv hlr).mono fun e w' hp => ?_
    obtain ⟨p, hp, β', v', he, hv, hi, hg, _⟩ := hp
    have hrv := veq_eq (lall_eq _ _ hrun p hp)
    refine ⟨v', β'.z, he, hi.below.below (fun k => by rw [hg.x]; exact fun h => h), hi.frz, hg.z, fun b c h => ?_, den_rd (by rw [hg.d, hrv]; exact hres) hv⟩
    have := hi.zo b c h
    rw [hg.x] at this
    exact this

/-! ### calls at closed data, answered out of a list -/
abbrev Ents := List (Nat × List Value × Value)
noncomputable def entF (f : Nat) (args : List Value) (l : Ents) : Option Value :=
  List.rec (motive := fun _ => Option Value) none (fun e _ ih => bs (Nat.beq f e.1) (bs (veqQ args e.2.1) (some e.2.2) ih) ih) l
theorem entF_some {f : Nat} {args : List Value} {v : Value} : ∀ {l : Ents}, entF f args l = some v → (f, args, v) ∈ l
  | [], h => by cases h
  | e :: l, h => by
    have h' : bs (Nat.beq f e.1) (bs (veqQ args e.2.1) (some e.2.2) (entF f args l)) (entF f args l) = some v := h
    rcases bs_some h' with ⟨h1, h2⟩ | ⟨_, h2⟩
    · rcases bs_some h2 with ⟨h3, h2⟩ | ⟨_, h2⟩
      · cases h2
        obtain ⟨a, b, c⟩ := e
        have e1 := Nat.eq_of_beq_eq_true h1
        have e2 := veqQ_eq _ _ h3
        simp only at e1 e2
        subst e1 e2
        exact List.mem_cons_self
      · exact List.mem_cons_of_mem _ (entF_some h2)
    · exact List.mem_cons_of_mem _ (entF_some h2)
noncomputable def orcF (l : Ents) (t : Tgt) (args : List Value) (A : AW) : Out Value :=
  match t with
  | .rd _ => none
  | .fn f => match entF f args l with | some v => some [(v, A)] | none => none
noncomputable def entChk (call : Tgt → List Value → AW → Out Value) (A : AW) (e : Nat × List Value × Value) : Bool :=
  allB (fun v => veq v e.2.2) (call (.fn e.1) e.2.1 A) && (denL (res2 (fun _ => none)) e.2.1).isSome && (res (fun _ => none) e.2.2).isSome
theorem den1_mono {δ : Nat → Option D} {v : Value} {d : D} (h : den1 (fun _ => none) v = some d) : den1 δ v = some d := by
  unfold den1 at *
  split at h
  · cases h
  all_goals exact h
theorem denL_mono {g g' : Value → Option D} (hg : ∀ v d, g v = some d → g' v = some d) : ∀ {l : List Value} {ds : List D}, denL g l = some ds → denL g' l = some ds
  | [], _, h => h
  | v :: l, ds, h => by
    obtain ⟨d, r, rfl, h1, h2⟩ := denL_cons h
    unfold denL
    rw [hg _ _ h1, denL_mono hg h2]
theorem res1_mono {δ : Nat → Option D} {v : Value} {d : D} (h : res1 (fun _ => none) v = some d) : res1 δ v = some d := by
  unfold res1 at *
  split at h
  · cases h
  · exact den1_mono h
theorem res2_mono {δ : Nat → Option D} {v : Value} {d : D} (h : res2 (fun _ => none) v = some d) : res2 δ v = some d := by
  unfold res2 at *
  split at h
  · obtain ⟨ds, h1, rfl⟩ := Option.map_eq_some_iff.1 h
    simp only [denL_mono (fun v d => res1_mono) h1, Option.map_some]
  · exact res1_mono h
theorem res_mono {δ : Nat → Option D} {v : Value} {d : D} (h : res (fun _ => none) v = some d) : res δ v = some d := by
  unfold res at *
  split at h
  · obtain ⟨ds, h1, rfl⟩ := Option.map_eq_some_iff.1 h
    simp only [denL_mono (fun v d => res2_mono) h1, Option.map_some]
  · exact res2_mono h
theorem res1_den {δ : Nat → Option D} {v : Value} {d : D} (h : res1 δ v = some d) : den1 δ v = some d := by
  unfold res1 at h
  split at h
  · cases h
  · exact h
theorem res2_den {δ : Nat → Option D} {v : Value} {d : D} (h : res2 δ v = some d) : den2 δ v = some d := by
  unfold res2 at h
  unfold den2
  split at h
  · obtain ⟨ds, h1, rfl⟩ := Option.map_eq_some_iff.1 h
    simp only [denL_mono (fun v d => res1_den) h1, Option.map_some]
  · exact res1_den h
theorem res_den {δ : Nat → Option D} {v : Value} {d : D} (h : res δ v = some d) : den δ v = some d := by
  unfold res at h
  unfold den
  split at h
  · obtain ⟨ds, h1, rfl⟩ := Option.map_eq_some_iff.1 h
    simp only [denL_mono (fun v d => res2_den) h1, Option.map_some]
  · exact res2_den h
/-- a contract answers calls -/
theorem orcF_ok {P : Program} {E : Env} (ok : E.Ok P) {l : Ents} (h : ∀ f args v, (f, args, v) ∈ l → ∃ ds d, denL (res2 (fun _ => none)) args = some ds ∧ res (fun _ => none) v = some d ∧ FnC P E.G.L f ds d) : CallOk P E (orcF l) := by
  intro w0 t args A outs β w args' ho inv hargs
  unfold orcF at ho
  split at ho
  · cases ho
  · rename_i f
    split at ho
    · rename_i v hv
      cases ho
      obtain ⟨ds, d, e1, e2, e3⟩ := h f args v (entF_some hv)
      refine (e3 w β.z args' (inv.laid ok) inv.frz (LRel_RdL (denL_mono (fun v d h => res2_den (res2_mono h)) e1) hargs)).mono fun e w' hp => ?_
      obtain ⟨v', z', rfl, hb, hst, z1, z2, hr⟩ := hp
      obtain ⟨hi, hg⟩ := inv.fresh hb hst z1 z2
      exact ⟨_, List.mem_cons_self, { β with z := z' }, v', rfl, res_rel (β := { β with z := z' }) (res_mono e2) hr, hi, hg, Nat.le_refl _⟩
    · cases ho
theorem ents_ok {P : Program} {E : Env} {call : Tgt → List Value → AW → Out Value} (hc : CallOk P E call) {L : List (Option Blk)} {Q : (Nat → Option D) → Node → Prop} {LL : World → Prop} (hG : E.G = ⟨L.length, Q, LL⟩)
    (hL : ∀ w, LL w → L.length ≤ w.heap.size ∧ LaidAt L w)
    {k : Nat} {l : Ents} (h : lall (entChk call (mkAW k L)) l = true) : ∀ f args v, (f, args, v) ∈ l → ∃ ds d, denL (res2 (fun _ => none)) args = some ds ∧ res (fun _ => none) v = some d ∧ FnC P LL f ds d := fun f args v hm => by
  have := lall_eq _ _ h _ hm
  unfold entChk at this
  simp only [Bool.and_eq_true] at this
  obtain ⟨⟨h1, h2⟩, h3⟩ := this
  obtain ⟨ds, hds⟩ := Option.isSome_iff_exists.1 h2
  obtain ⟨d, hd⟩ := Option.isSome_iff_exists.1 h3
  exact ⟨ds, d, hds, hd, fn_of_run (k := k) (tape := []) hc hG hL h1 (δ := fun _ => none) hds (res_den hd) (fun nd h => by cases h)⟩

/-- a call that the evaluator finds true in every outcome, whatever its symbols stand for -/
theorem true_of_run {P : Program} {E : Env} {call : Tgt → List Value → AW → Out Value} (hc : CallOk P E call) {f : FuncId} {args args' : List Value} {A : AW} (h : allB isTrue (call (.fn f) args A) = true) {w : World} {β : Ren} (inv : Inv w E.G β A w) (ha : LRel β args args') (hx : ∀ k, ¬ β.x k) :
    Calls P f ⟨args'⟩ w fun e w' => e = .returned (.bool true) ∧ Below w.heap.size w w' := by
  unfold allB at h
  split at h
  · cases h
  · rename_i l hl
    refine (hc w (.fn f) args A l β w args' hl inv ha).mono fun e w' hp => ?_
    obtain ⟨p, hp, β', v', h1, h2, h3, h4, _⟩ := hp
    have ht := lall_eq _ _ h p hp
    unfold isTrue at ht
    split at ht
    · rename_i b hb
      cases ht
      rw [hb] at h2
      cases h2
      exact ⟨h1, h3.below.below (fun k => by rw [h4.x]; exact hx k)⟩
    · cases ht
end Go.Ex
namespace Go.Ex
open Go.RowKit
section
variable {P : Program}
theorem trod_kinds {H : Type} {enc : TypeId × Value → H} {w : World} {base : Nat} {spare : Nat → Bool} {held : Bool} : ∀ (fuel m : Nat) (t : TypeId) (cs : List Value) (x : DataW H × List MemPlace) (ks : List IntKind),
    DataW.trod enc P w base spare held fuel t cs = some x → flatK P m t = some ks → ks.length = P.cellsOf t → ∃ ns, ns.length = ks.length ∧ cs = List.zipWith Value.int ks ns
  | 0, m, t, cs, x, ks, h, hk, hl => by cases h
  | fuel + 1, 0, t, cs, x, ks, h, hk, hl => by cases hk
  | fuel + 1, m + 1, t, cs, x, ks, h, hk, hl => by
    unfold flatK at hk
    cases hu : P.underlying t with
    | none => unfold DataW.trod at h; rw [hu] at h; simp at h
    | some kd =>
      rw [hu] at hk
      cases kd with
      | int k =>
        cases hk
        unfold DataW.trod at h
        rw [hu] at h
        split at h <;> first | (simp at *; done) | skip
        all_goals (first | (simp at *; done) | skip)
        all_goals (first | (rename_i a0 a1 a2 a3 a4 a5; injection a5 with a5; injection a5 with a5; split at h; (rename_i hq; exact ⟨[a4], rfl, by rw [hq.1, ← a5]; rfl⟩); (cases h)) | (simp_all; done))
      | struct fs =>
        simp only at hk
        split at hk
        · unfold DataW.trod at h
          rw [hu] at h
          simp only at h
          split at h
          · rename_i hlen
            obtain ⟨xs, hx, _⟩ := Option.map_eq_some_iff.1 h
            have go : ∀ (L : List Field) (o : Nat) (xs : List (DataW H × List MemPlace)) (ks : List IntKind), L.mapM (fun f => DataW.trod enc P w base spare held fuel f.type ((cs.drop f.offset).take (P.cellsOf f.type))) = some xs →
                flatFs P (flatK P m) o L = some ks → ∃ ns, ns.length = ks.length ∧ (cs.drop o).take ks.length = List.zipWith Value.int ks ns := by
              intro L
              induction L with
              | nil => intro o xs ks h1 h2; cases h2; exact ⟨[], rfl, by simp⟩
              | cons f L ih =>
                intro o xs ks h1 h2
                obtain ⟨b, r', e1, e2, rfl⟩ := mapM_cons_some h1
                unfold flatFs at h2
                split at h2
                · rename_i hc
                  split at h2
                  · rename_i ks1 hk1
                    split at h2
                    · rename_i hl1
                      split at h2
                      · rename_i ks2 hk2
                        cases h2
                        obtain ⟨n1, q1, q2⟩ := trod_kinds fuel m _ _ _ _ e1 hk1 hl1
                        obtain ⟨n2, q3, q4⟩ := ih _ _ _ e2 hk2
                        refine ⟨n1 ++ n2, by simp [q1, q3], ?_⟩
                        rw [List.length_append, take_two, q4, hl1, ← hc.1, q2, List.zipWith_append q1.symm]
                      · cases h2
                    · cases h2
                  · cases h2
                · cases h2
            obtain ⟨ns, h1, h2⟩ := go fs.toList 0 xs ks hx hk
            refine ⟨ns, h1, ?_⟩
            rw [List.drop_zero, hl, ← hlen, List.take_length] at h2
            exact h2
          · cases h
        · cases hk
      | array n e =>
        simp only at hk
        split at hk
        · rename_i ks1 hk1
          split at hk
          · rename_i hl1
            cases hk
            unfold DataW.trod at h
            rw [hu] at h
            simp only at h
            split at h
            · rename_i hlen
              obtain ⟨xs, hx, _⟩ := Option.map_eq_some_iff.1 h
              have go : ∀ (n s : Nat) (xs : List (DataW H × List MemPlace)), (List.range' s n).mapM (fun i => DataW.trod enc P w base spare held fuel e ((cs.drop (i * P.cellsOf e)).take (P.cellsOf e))) = some xs →
                  ∃ ns, ns.length = (List.replicate n ks1).flatten.length ∧ (cs.drop (s * P.cellsOf e)).take (List.replicate n ks1).flatten.length = List.zipWith Value.int (List.replicate n ks1).flatten ns := by
                intro n
                induction n with
                | zero => intro s xs _; exact ⟨[], rfl, by simp⟩
                | succ n ih =>
                  intro s xs h1
                  rw [List.range'_succ] at h1
                  obtain ⟨b, r', e1, e2, rfl⟩ := mapM_cons_some h1
                  obtain ⟨n1, q1, q2⟩ := trod_kinds fuel m _ _ _ _ e1 hk1 hl1
                  obtain ⟨n2, q3, q4⟩ := ih _ _ e2
                  refine ⟨n1 ++ n2, by rw [List.replicate_succ, List.flatten_cons, List.length_append, List.length_append, q1, q3], ?_⟩
                  rw [Nat.succ_mul] at q4
                  rw [List.replicate_succ, List.flatten_cons, List.length_append, take_two, hl1, q4, q2, List.zipWith_append q1.symm]
              rw [List.range_eq_range'] at hx
              obtain ⟨ns, h1, h2⟩ := go n 0 xs hx
              refine ⟨ns, h1, ?_⟩
              rw [Nat.zero_mul, List.drop_zero, hl, ← hlen, List.take_length] at h2
              exact h2
            · cases h
          · cases hk
        · cases hk
      | _ => cases hk
end
end Go.Ex
