/- A verified evaluator for closed calls, part 26: the laid variables; closed calls. -/
import Derived.Test.YtkpnmedaonmlaaaGreatDoorEv25
import Derived.ProofKit
import Derived.Stop.Joined
import GoSem.ClaimJoined
import Derived.MakeChecks
namespace Go.Ev
open Go.RowKit

section
variable {P : Program}
noncomputable def flatDF (P : Program) (g : TypeId → DataW Unit → Option (List Value)) : Nat → List Field → List (DataW Unit) → Option (List Value)
  | _, [], [] => some []
  | o, f :: fs, d :: ds => if f.offset = o then
      (match g f.type d with
      | some l => if l.length = P.cellsOf f.type then (match flatDF P g (o + l.length) fs ds with | some r => some (l ++ r) | none => none) else none
      | none => none)
    else none
  | _, _, _ => none
noncomputable def flatDA (g : DataW Unit → Option (List Value)) (c : Nat) : List (DataW Unit) → Option (List Value)
  | [] => some []
  | d :: ds => (match g d with
      | some l => if l.length = c then (match flatDA g c ds with | some r => some (l ++ r) | none => none) else none
      | none => none)
noncomputable def flatD (P : Program) : Nat → TypeId → DataW Unit → Option (List Value)
  | 0, _, _ => none
  | m + 1, t, d =>
    match d with
    | .lit (.bool b) => (match P.underlying t with | some .bool => some [.bool b] | _ => none)
    | .lit (.int k n) => (match P.underlying t with | some (.int _) => some [.int k n] | _ => none)
    | .lit (.string b) => (match P.underlying t with | some .string => some [.string ⟨⟨b⟩⟩] | _ => none)
    | .agg ds => (match P.underlying t with
      | some (.struct fs) => (match flatDF P (flatD P m) 0 fs.toList ds with | some l => if l.length = P.cellsOf t then some l else none | none => none)
      | some (.array _ e) => (match flatDA (flatD P m e) (P.cellsOf e) ds with | some l => if l.length = P.cellsOf t then some l else none | none => none)
      | _ => none)
    | _ => none

theorem mapM_cons_some {α β : Type} {f : α → Option β} {a : α} {l : List α} {r : List β} (h : (a :: l).mapM f = some r) : ∃ b r', f a = some b ∧ l.mapM f = some r' ∧ r = b :: r' := by
  rw [List.mapM_cons] at h
  cases h1 : f a with
  | none => rw [h1] at h; cases h
  | some b =>
    rw [h1] at h
    cases h2 : l.mapM f with
    | none => rw [h2] at h; cases h
    | some r' => rw [h2] at h; cases h; exact ⟨b, r', rfl, rfl, rfl⟩
theorem take_two {α : Type} (cs : List α) (o a b : Nat) : (cs.drop o).take (a + b) = (cs.drop o).take a ++ (cs.drop (o + a)).take b := by
  rw [List.take_add, List.drop_drop]

theorem trod_flat {w : World} {base : Nat} {spare : Nat → Bool} {held : Bool} : ∀ (fuel m : Nat) (t : TypeId) (cs : List Value) (d : DataW Unit) (p : List MemPlace) (l : List Value),
    DataW.trod (fun _ => ()) P w base spare held fuel t cs = some (d, p) → flatD P m t d = some l → cs = l
  | 0, m, t, cs, d, p, l, h, hl => by cases h
  | fuel + 1, 0, t, cs, d, p, l, h, hl => by cases hl
  | fuel + 1, m + 1, t, cs, d, p, l, h, hl => by
    unfold flatD at hl
    cases hu : P.underlying t with
    | none => unfold DataW.trod at h; rw [hu] at h; simp at h
    | some kd =>
      have hstruct : ∀ fs, kd = .struct fs → cs = l := by
        rintro fs rfl
        unfold DataW.trod at h
        rw [hu] at h
        simp only at h
        split at h
        · rename_i hlen
          obtain ⟨xs, hx, e⟩ := Option.map_eq_some_iff.1 h
          cases e
          simp only [hu] at hl
          split at hl
          · rename_i l' hl'
            split at hl
            · rename_i hll
              cases hl
              have go : ∀ (L : List Field) (o : Nat) (xs : List (DataW Unit × List MemPlace)) (l : List Value), L.mapM (fun f => DataW.trod (fun _ => ()) P w base spare held fuel f.type ((cs.drop f.offset).take (P.cellsOf f.type))) = some xs →
                  flatDF P (flatD P m) o L (xs.map (·.1)) = some l → (cs.drop o).take l.length = l := by
                intro L
                induction L with
                | nil => intro o xs l h1 h2; simp at h1; subst h1; simp [flatDF] at h2; subst h2; simp
                | cons f L ih =>
                  intro o xs l h1 h2
                  obtain ⟨b, r', e1, e2, rfl⟩ := mapM_cons_some h1
                  rw [List.map_cons] at h2
                  unfold flatDF at h2
                  split at h2
                  · rename_i ho
                    split at h2
                    · rename_i l1 hl1
                      split at h2
                      · rename_i hc
                        split at h2
                        · rename_i l2 hl2
                          cases h2
                          obtain ⟨b1, b2⟩ := b
                          have q1 := trod_flat fuel m _ _ _ _ _ e1 hl1
                          have q2 := ih _ _ _ e2 hl2
                          rw [List.length_append, take_two, q2, hc, ← ho, q1]
                        · cases h2
                      · cases h2
                    · cases h2
                  · cases h2
              have := go fs.toList 0 xs l hx hl'
              rw [List.drop_zero, hll, ← hlen, List.take_length] at this
              exact this
            · cases hl
          · cases hl
        · cases h
      have harray : ∀ n e, kd = .array n e → cs = l := by
        rintro n e rfl
        unfold DataW.trod at h
        rw [hu] at h
        simp only at h
        split at h
        · rename_i hlen
          obtain ⟨xs, hx, e'⟩ := Option.map_eq_some_iff.1 h
          cases e'
          simp only [hu] at hl
          split at hl
          · rename_i l' hl'
            split at hl
            · rename_i hll
              cases hl
              have go : ∀ (n s : Nat) (xs : List (DataW Unit × List MemPlace)) (l : List Value), (List.range' s n).mapM (fun i => DataW.trod (fun _ => ()) P w base spare held fuel e ((cs.drop (i * P.cellsOf e)).take (P.cellsOf e))) = some xs →
                  flatDA (flatD P m e) (P.cellsOf e) (xs.map (·.1)) = some l → (cs.drop (s * P.cellsOf e)).take l.length = l := by
                intro n
                induction n with
                | zero => intro s xs l h1 h2; simp at h1; subst h1; simp [flatDA] at h2; subst h2; simp
                | succ n ih =>
                  intro s xs l h1 h2
                  rw [List.range'_succ] at h1
                  obtain ⟨b, r', e1, e2, rfl⟩ := mapM_cons_some h1
                  rw [List.map_cons] at h2
                  unfold flatDA at h2
                  split at h2
                  · rename_i l1 hl1
                    split at h2
                    · rename_i hc
                      split at h2
                      · rename_i l2 hl2
                        cases h2
                        obtain ⟨b1, b2⟩ := b
                        have q1 := trod_flat fuel m _ _ _ _ _ e1 hl1
                        have q2 := ih _ _ _ e2 hl2
                        rw [Nat.succ_mul] at q2
                        rw [List.length_append, take_two, hc, q2, q1]
                      · cases h2
                    · cases h2
                  · cases h2
              rw [List.range_eq_range'] at hx
              have := go n 0 xs l hx hl'
              rw [Nat.zero_mul, List.drop_zero, hll, ← hlen, List.take_length] at this
              exact this
            · cases hl
          · cases hl
        · cases h
      cases kd with
      | struct fs => exact hstruct fs rfl
      | array n e => exact harray n e rfl
      | bool =>
        unfold DataW.trod at h
        rw [hu] at h
        split at h <;> first | (simp at *; done) | skip
        all_goals (first | (cases h; simp only [hu] at hl; cases hl; rfl) | (simp_all; done))
      | int k =>
        unfold DataW.trod at h
        rw [hu] at h
        split at h <;> first | (simp at *; done) | skip
        all_goals (first | (split at h; (rename_i hq; cases h; simp only [hu] at hl; cases hl; rw [hq.1]); (cases h)) | (simp_all; done))
      | string =>
        unfold DataW.trod at h
        rw [hu] at h
        split at h <;> first | (simp at *; done) | skip
        all_goals (first | (split at h; (cases h; simp only [hu] at hl; cases hl; rfl); (cases h)) | (simp_all; done))
      | _ =>
        exfalso
        rw [hu] at hl
        cases d with
        | lit q => cases q <;> cases hl
        | _ => cases hl

theorem laid_mem {w : World} : ∀ {laid : List (String × DataW Unit)} {ps : List MemPlace} {n : String} {d : DataW Unit}, DataW.LaidVars P w laid ps → (n, d) ∈ laid →
    ∃ g t cs fuel p, P.globalNamed n = some g ∧ (P.globals[g]?).map (·.type) = some t ∧ w.var? P n = some cs ∧ DataW.trod (fun _ => ()) P w 0 (fun _ => true) false fuel t cs.toList = some (d, p)
  | [], _, _, _, _, h => by cases h
  | (n', d') :: r, ps, n, d, hl, h => by
    obtain ⟨g, t, cs, fuel, p, q, h1, h2, h3, h4, h5, _⟩ := hl
    cases h with
    | head => exact ⟨g, t, cs, fuel, p, h1, h2, h3, h4⟩
    | tail _ h => exact laid_mem h5 h
theorem glob_cells {w : World} {laid : List (String × DataW Unit)} (h : laidMetH P laid w) (hp : (laid.all fun x => x.2.handleName?.isNone) = true) {n : String} {d : DataW Unit} {g : Nat} {t : TypeId} {l : List Value} (m : Nat) (hm : (n, d) ∈ laid)
    (hg : P.globalNamed n = some g) (ht : (P.globals[g]?).map (·.type) = some t) (hl : flatD P m t d = some l) : ∃ e fz, w.heap[g]? = some (.cells ⟨l⟩ e fz) := by
  rw [MakeChecks.laidMetH_plain _ _ _ hp] at h
  obtain ⟨ps, h1, _⟩ := h
  obtain ⟨g', t', cs, fuel, p, e1, e2, e3, e4⟩ := laid_mem h1 hm
  rw [hg] at e1; cases e1
  rw [ht] at e2; cases e2
  have := trod_flat fuel m _ _ _ _ _ e4 hl
  simp only [World.var?, hg, Option.bind_some] at e3
  split at e3
  · rename_i cs' e fz hh
    cases e3
    exact ⟨e, fz, by rw [hh, ← this]⟩
  · cases e3

/-! ### the first world -/
theorem fill_get : ∀ (k : Nat) (l : List (Option Blk)) (i : Nat) (x : Blk), (fill k l).get none i = some x → l[i]? = some (some x)
  | 0, l, i, x, h => by cases h
  | k + 1, [], i, x, h => by
    have h' : (T.node (fill k []) none (fill k [])).get none i = some x := h
    rw [T.get_node] at h'
    split at h'
    · cases h'
    · split at h'
      · have := fill_get k _ _ _ h'; simp at this
      · have := fill_get k _ _ _ h'; simp at this
  | k + 1, a :: r, i, x, h => by
    have h' : (T.node (fill k (alt r true)) a (fill k (alt r false))).get none i = some x := h
    rw [T.get_node] at h'
    split at h'
    · rename_i h0; subst h0; rw [h']; rfl
    · split at h'
      · have := fill_get k _ _ _ h'
        rw [alt_get] at this
        rw [show i = 2 * (i / 2) + 1 by omega, List.getElem?_cons_succ]
        simpa using this
      · have := fill_get k _ _ _ h'
        rw [alt_get] at this
        rw [show i = (2 * (i / 2 - 1) + 1) + 1 by omega, List.getElem?_cons_succ]
        simpa using this
def scal (v : Value) : Bool := match v with | .bool _ => true | .int _ _ => true | .string _ => true | _ => false
theorem scal_rel (β : Ren) {v : Value} (h : scal v = true) : VRel β v v := by
  unfold scal at h
  split at h
  · exact .bool _
  · exact .int _ _
  · exact .string _
  · cases h
/-- the variables, as the first blocks -/
def ren0 (L : List (Option Blk)) : Ren := fun g =>
  match L[g]? with
  | some (some ⟨.cells cs, es, _, _, _⟩) => some ⟨g, 0, es, cs.length⟩
  | _ => none
theorem start_inv {w : World} {k : Nat} {L : List (Option Blk)} (hL : ∀ g, g < L.length → ∃ cs es, L[g]? = some (some ⟨.cells cs, es, false, true, ANY⟩) ∧ (cs.all scal) = true ∧ ∃ e fz, w.heap[g]? = some (.cells ⟨cs⟩ e fz)) :
    Inv w L.length (ren0 L) (mkAW k L) w := by
  have hren : ∀ g l, ren0 L g = some l → ∃ cs es e fz, g < L.length ∧ L[g]? = some (some ⟨.cells cs, es, false, true, ANY⟩) ∧ (cs.all scal) = true ∧ w.heap[g]? = some (.cells ⟨cs⟩ e fz) ∧ l = ⟨g, 0, es, cs.length⟩ := fun g l hl => by
    have hg : g < L.length := by
      unfold ren0 at hl
      split at hl
      · rename_i h; exact (List.getElem?_eq_some_iff.1 h).1
      · cases hl
    obtain ⟨cs, es, h1, h2, e, fz, h3⟩ := hL g hg
    refine ⟨cs, es, e, fz, hg, h1, h2, h3, ?_⟩
    unfold ren0 at hl
    rw [h1] at hl
    exact (Option.some.inj hl).symm
  have hnext : (mkAW k L).next = L.length := llen_eq L
  refine ⟨Below.refl _ _, fun B l h => ?_, fun B h => ?_, fun B l h => ?_, fun B B' l l' h h' hb _ _ => ?_, fun B blk l h h' => ?_, fun g hg => ?_⟩
  · obtain ⟨_, _, _, _, hg, _⟩ := hren B l h
    rw [hnext]; exact hg
  · rw [hnext] at h
    cases hq : (mkAW k L).get B with
    | none => rfl
    | some x =>
      have := fill_get k L B x hq
      have := (List.getElem?_eq_some_iff.1 this).1
      omega
  · obtain ⟨cs, es, e, fz, hg, _, _, hh, rfl⟩ := hren B l h
    exact ⟨(Array.getElem?_eq_some_iff.1 hh).1, .inl hg⟩
  · obtain ⟨_, _, _, _, _, _, _, _, rfl⟩ := hren B l h
    obtain ⟨_, _, _, _, _, _, _, _, rfl⟩ := hren B' l' h'
    exact hb
  · obtain ⟨cs, es, e, fz, hg, h1, h2, hh, rfl⟩ := hren B l h'
    have := fill_get k L B blk h
    rw [h1] at this
    cases this
    refine ⟨⟨cs⟩, e, fz, hh, by simp, by simp, (fun i v hv => ⟨v, by simpa using hv, scal_rel _ (List.all_eq_true.1 h2 v (List.mem_of_getElem? hv))⟩), (fun h => by cases h), (fun h => by cases h), rfl, (fun h => absurd rfl h)⟩
  · obtain ⟨cs, es, h1, h2, e, fz, h3⟩ := hL g hg
    refine ⟨⟨g, 0, es, cs.length⟩, ?_, rfl, rfl⟩
    unfold ren0
    rw [h1]

noncomputable def isTrue (v : Value) : Bool := match v with | .bool b => b | _ => false
noncomputable def allB (f : Value → Bool) (x : Out Value) : Bool := match x with | none => false | some l => lall (fun p => f p.1) l
/-- ████ a closed call that the evaluator finds true in every outcome ████ -/
theorem closed_true {E : Env} {call : Tgt → List Value → AW → Out Value} (hc : CallOk P E call) {f : FuncId} {A : AW} (h : allB isTrue (call (.fn f) [] A) = true) {w : World} {β : Ren} (inv : Inv w E.G β A w) :
    Calls P f #[] w fun e w' => e = .returned (.bool true) ∧ Below w.heap.size w w' := by
  unfold allB at h
  split at h
  · cases h
  · rename_i l hl
    refine (hc w (.fn f) [] A l β w [] hl inv (LRel.nil β)).mono fun e w' ⟨p, hp, β', v', h1, h2, h3, _, _⟩ => ?_
    have ht := lall_eq _ _ h p hp
    unfold isTrue at ht
    split at ht
    · rename_i b hb
      cases ht
      rw [hb] at h2
      cases h2
      exact ⟨h1, h3.below⟩
    · cases ht
end
end Go.Ev
