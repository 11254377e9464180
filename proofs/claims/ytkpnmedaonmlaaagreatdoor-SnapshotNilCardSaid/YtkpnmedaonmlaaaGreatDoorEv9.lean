/- A verified evaluator for closed calls, part 9: stores, append, copy, bytes of strings. -/
import Derived.Test.YtkpnmedaonmlaaaGreatDoorEv8
namespace Go.Ev
open Go.RowKit
section
variable {P : Program} {E : Env} (ok : E.Ok P) {w0 w : World} {β : Ren} {A : AW} (inv : Inv w0 E.G β A w)

theorem grownBy_setRow (w : World) (g : Nat) (cs : Array Value) : w.grownBy (w.setRow g cs) (some g) :=
  ⟨rfl, rfl, rfl, by simp, fun k _ hk => setRow_other w g k cs (fun e => hk (by rw [e]))⟩

/-- a list of cells with a part written anew -/
theorem spliced (cur : Array Value) (o : Nat) (vs : List Value) (h : o + vs.length ≤ cur.size) (j : Nat) :
    ((cur.toList.take o ++ vs ++ cur.toList.drop (o + vs.length)).toArray)[j]? = if o ≤ j ∧ j < o + vs.length then vs[j - o]? else cur[j]? := by
  have hsz : (cur.toList.take o).length = o := by simp; omega
  rw [List.getElem?_toArray, List.append_assoc]
  by_cases h1 : j < o
  · rw [List.getElem?_append_left (by omega), if_neg (by omega), List.getElem?_take, if_pos h1, Array.getElem?_toList]
  · rw [List.getElem?_append_right (by omega), hsz]
    by_cases h2 : j < o + vs.length
    · rw [List.getElem?_append_left (by omega), if_pos (by omega)]
    · rw [List.getElem?_append_right (by omega), if_neg (by omega), List.getElem?_drop, Array.getElem?_toList]
      congr 1
      omega
theorem spliced_size (cur : Array Value) (o : Nat) (vs : List Value) (h : o + vs.length ≤ cur.size) : ((cur.toList.take o ++ vs ++ cur.toList.drop (o + vs.length)).toArray).size = cur.size := by
  simp; omega

include inv in
theorem write_ok {B : Nat} {cs : List Value} {es : Nat} {ex : Bool} {ty : TypeId} (hg : A.get B = some ⟨.cells cs, es, ex, false, ty⟩) (hB : E.G ≤ B) {l : Loc} (hl : β B = some l) {o : Nat} {vs vs' : List Value} (hv : LRel β vs vs') (hlen : o + vs.length ≤ cs.length)
    (h1 : ∀ v ∈ vs', v.oneCell' = true) : ∃ w', (storeCells ⟨l.b, l.d + o, none⟩ vs' 0).run P w = .ok () w' ∧ Inv w0 E.G β (A.put B (some ⟨.cells (lwrite vs o cs), es, ex, false, ty⟩)) w' := by
  obtain ⟨cur, e, fz, k1, k2, k3, k4, k5, k6, k7⟩ := inv.cont B _ l hg hl
  obtain rfl := k5 rfl
  have hv1 := hv.1
  have hfit : l.d + o + 0 + vs'.length ≤ cur.size := by omega
  have hst := run_storeCells_at (P := P) l.b (l.d + o) e vs' 0 cur w k1 hfit h1
  rw [Nat.add_zero] at hst
  refine ⟨_, hst, inv.write B l _ _ hg hl hB (grownBy_setRow w l.b _) (by simp) ?_⟩
  rw [setRow_heap w l.b cur _ e (0, 0) k1]
  refine ⟨_, e, (0, 0), rfl, by rw [spliced_size _ _ _ (by omega)]; exact k2, by rw [lwrite_length]; exact k3, fun i v hi => ?_, fun _ => rfl, fun hx => by rw [lwrite_length]; exact k6 hx, k7⟩
  rw [lwrite_get vs o cs i hlen] at hi
  rw [spliced _ _ _ (by omega)]
  by_cases hin : o ≤ i ∧ i < o + vs.length
  · rw [if_pos hin] at hi
    rw [if_pos (by omega), show l.d + i - (l.d + o) = i - o by omega]
    exact hv.get hi
  · rw [if_neg hin] at hi
    rw [if_neg (by omega)]
    exact k4 i v hi

noncomputable def storeV (E : Env) (A : AW) (t : TypeId) (a x : Value) : Option AW :=
  match a with
  | .pointer (some ⟨B, o, none⟩) =>
    match E.ti.get none t, vcells x, A.get B with
    | some r, some l, some ⟨.cells cs, es, ex, false, ty⟩ =>
      bs (lall one l && Nat.beq (llen l) r.size && Nat.ble E.G B && Nat.ble (Nat.add o (llen l)) (llen cs)) (some (A.put B (some ⟨.cells (lwrite l o cs), es, ex, false, ty⟩))) none
    | _, _, _ => none
  | _ => none
include ok inv in
theorem store_ok {t : TypeId} {a a' x x' : Value} {A' : AW} (h : storeV E A t a x = some A') (ha : VRel β a a') (hx : VRel β x x') : ∃ w', (Instr.storeAt t a' x').run P w = .ok () w' ∧ Inv w0 E.G β A' w' := by
  unfold storeV at h
  split at h
  · rename_i B o
    split at h
    · rename_i r l cs es ex ty hr hvc hg
      replace h := bs_some h
      rcases h with ⟨hb, h⟩ | ⟨_, h⟩
      · simp only [Bool.and_eq_true, llen_eq] at hb
        obtain ⟨⟨⟨hone, hsz⟩, hG⟩, hle⟩ := hb
        have hsz' := Nat.eq_of_beq_eq_true hsz
        have hG' := Nat.le_of_ble_eq_true hG
        have hle' : o + l.length ≤ cs.length := Nat.le_of_ble_eq_true hle
        cases h
        cases ha with
        | ptr _ _ lc hlc =>
          obtain ⟨l', hl', hlr⟩ := vcells_rel hvc hx
          obtain ⟨w', hrun, hinv⟩ := write_ok (P := P) inv hg hG' hlc hlr hle' (all_one hone hlr)
          refine ⟨w', ?_, hinv⟩
          have h5 : l'.length = r.size := by rw [← hlr.1, hsz']
          simp [Instr.storeAt, Instr.sureAddr, storeVar, run_size ok hr, hl', h5, hrun]
      · cases h
    · cases h
  · cases h

/-! ### append -/

/-- a block that nothing known leads to any more is named anew -/
theorem Inv.adopt (h : Inv w0 E.G β A w) {w' : World} (l : Loc) (blk : Blk) (hl1 : l.b < w.heap.size) (hl2 : w0.heap.size ≤ l.b) (hno : ∀ C lc, β C = some lc → lc.b = l.b → A.get C = none)
    (hw : w.grownBy w' (some l.b)) (hsz : w'.heap.size = w.heap.size) (hb : BRel (β.put A.next l) l blk w'.heap[l.b]?) :
    Inv w0 E.G (β.put A.next l) (A.add blk) w' ∧ β.grow (β.put A.next l) A.next := by
  have hle : β.le (β.put A.next l) := (Ren.grow_put β A.next l).le h.dom
  have hn : A.get A.next = none := h.nxt _ (Nat.le_refl _)
  have hput : ∀ B lb, β.put A.next l B = some lb → (B = A.next ∧ lb = l) ∨ (B ≠ A.next ∧ β B = some lb) := fun B lb e => by
    unfold Ren.put at e
    split at e
    · cases e; exact .inl ⟨by assumption, rfl⟩
    · exact .inr ⟨by assumption, e⟩
  have old : ∀ B, B ≠ A.next → (A.add blk).get B = A.get B := fun B hB => by
    rcases A.get_add blk hn B with ⟨_, e⟩ | e
    · exact absurd e hB
    · exact e
  refine ⟨⟨h.below.grown hw h.below.size (fun k hk => by cases hk; exact hl2), fun B lb e => ?_, fun B hB => ?_, fun B lb e => ?_, fun B B' lb lb' e e' hbb ha ha' => ?_, fun B k lb hk e => ?_, fun g hg => ?_⟩, Ren.grow_put β A.next l⟩
  · show B < A.next + 1
    rcases hput B lb e with ⟨e1, _⟩ | ⟨_, e⟩
    · omega
    · exact Nat.lt_succ_of_lt (h.dom B lb e)
  · have hB' : A.next + 1 ≤ B := hB
    rw [old B (by omega)]
    exact h.nxt B (by omega)
  · rw [hsz]
    rcases hput B lb e with ⟨_, e2⟩ | ⟨_, e⟩
    · rw [e2]; exact ⟨hl1, .inr hl2⟩
    · exact h.loc B lb e
  · rcases hput B lb e with ⟨h1, h2⟩ | ⟨hB, f⟩ <;> rcases hput B' lb' e' with ⟨h1', h2'⟩ | ⟨hB', f'⟩
    · rw [h1, h1']
    · rw [h2] at hbb; rw [old B' hB', hno B' lb' f' hbb.symm] at ha'; cases ha'
    · rw [h2'] at hbb; rw [old B hB, hno B lb f hbb] at ha; cases ha
    · rw [old B hB] at ha; rw [old B' hB'] at ha'; exact h.inj B B' lb lb' f f' hbb ha ha'
  · rcases hput B lb e with ⟨h1, h2⟩ | ⟨hB, f⟩
    · rw [h1] at hk
      rw [h2]
      rcases A.get_add blk hn A.next with ⟨e2, _⟩ | e2
      · rw [e2] at hk; cases hk; exact hb
      · rw [e2, hn] at hk; cases hk
    · rw [old B hB] at hk
      have hne : lb.b ≠ l.b := fun e3 => by rw [hno B lb f e3] at hk; cases hk
      rw [hw.block lb.b (h.loc B lb f).1 (fun e3 => hne (Option.some.inj e3))]
      exact (h.cont B k lb hk f).mono hle
  · obtain ⟨lg, a, b, c⟩ := h.glob g hg
    exact ⟨lg, hle _ _ a, b, c⟩

/-- what is appended: how many elements, and their cells -/
noncomputable def srcV (A : AW) (size : Nat) (x : Value) : Option (Nat × List Value) :=
  match x with
  | .slice none 0 0 => some (0, [])
  | .slice (some ⟨B, o, none⟩) n _ => bs (Nat.beq n 0) (some (0, [])) (match cellsAt A B with
    | some cs => match ltake (Nat.mul n size) (ldrop o cs) with | some l => bs (lall one l) (some (n, l)) none | none => none
    | none => none)
  | .string ⟨⟨l⟩⟩ => bs (Nat.beq size 1) (some (llen l, lmap (fun b => Value.int .u8 (.ofNat b.toNat)) l)) none
  | _ => none
noncomputable def srcKind (d : TypeDesc) (x : Value) : Bool :=
  match d, x with
  | .slice _, .slice _ _ _ => true
  | .string, .string _ => true
  | _, _ => false
include inv in
theorem src_ok {size : Nat} {tx : TypeId} {d : TypeDesc} (hu : P.underlying tx = some d) {x x' : Value} {n : Nat} {l : List Value} (h : srcV A size x = some (n, l)) (hk : srcKind d x = true) (hx : VRel β x x') : ∃ l', LRel β l l' ∧ Src P size tx x' n l' w := by
  unfold srcV at h
  split at h
  · cases h; cases hx
    cases d <;> first | (cases hk; done) | exact ⟨[], LRel.nil β, Src.ofNil w hu 0⟩
  · rename_i B o n' c
    have hsl : ∃ e, d = .slice e := by cases d <;> first | (cases hk; done) | exact ⟨_, rfl⟩
    obtain ⟨e, rfl⟩ := hsl
    replace h := bs_some h
    rcases h with ⟨h0, h⟩ | ⟨h0, h⟩
    · have h0' := Nat.eq_of_beq_eq_true h0
      subst h0'
      cases h
      cases hx with
      | slice _ _ _ _ c' lc hlc hn hc he => exact ⟨[], LRel.nil β, Src.ofSlice w hu _ 0 c' [] (by simp) (fun j u hu => by simp at hu) (fun u hu => by cases hu)⟩
      | empty _ a' c' => exact ⟨[], LRel.nil β, Src.ofSlice w hu _ 0 c' [] (by simp) (fun j u hu => by simp at hu) (fun u hu => by cases hu)⟩
    · split at h
      · rename_i cs hcs
        split at h
        · rename_i q hq
          replace h := bs_some h
          rcases h with ⟨hone, h⟩ | ⟨_, h⟩
          · cases h
            cases hx with
            | slice _ _ _ _ c' lc hlc hn hc he =>
              obtain ⟨l', hl', hlen, hat⟩ := range_rel inv hcs hlc o _ l hq
              exact ⟨l', hl', Src.ofSlice w hu _ n c' l' (by rw [← hl'.1, hlen]; rfl) (fun j u hu => by rw [Addr.add_mid]; exact hat j u hu) (all_one hone hl')⟩
            | empty _ a' c' => cases h0
          · cases h
        · cases h
      · cases h
  · rename_i s
    have hsl : d = .string := by cases d <;> first | (cases hk; done) | rfl
    subst hsl
    replace h := bs_some h
    rcases h with ⟨h0, h⟩ | ⟨_, h⟩
    · have h0' := Nat.eq_of_beq_eq_true h0
      subst h0'
      cases h; cases hx
      refine ⟨byteCells ⟨⟨s⟩⟩, ?_, ?_⟩
      · have : lmap (fun b : UInt8 => Value.int .u8 (.ofNat b.toNat)) s = byteCells ⟨⟨s⟩⟩ := by rw [lmap_eq]; rfl
        rw [this]
        refine ⟨rfl, fun i v v' a b => ?_⟩
        rw [a] at b
        cases b
        unfold byteCells at a
        rw [List.getElem?_map] at a
        obtain ⟨q, _, rfl⟩ := Option.map_eq_some_iff.1 a
        exact .int _ _
      · have := Src.ofString (P := P) w hu ⟨⟨s⟩⟩
        rw [llen_eq]
        exact this
    · cases h
  · cases h
end
end Go.Ev
