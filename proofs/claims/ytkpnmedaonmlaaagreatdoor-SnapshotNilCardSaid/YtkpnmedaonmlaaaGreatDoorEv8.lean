/- A verified evaluator for closed calls, part 8: slices made and grown, stores, copies. -/
import Derived.Test.YtkpnmedaonmlaaaGreatDoorEv7
import Derived.IntWalk
namespace Go.Ev
open Go.RowKit

noncomputable def lgen {α : Type} (f : Nat → α) (n : Nat) : List α → List α := Nat.rec (motive := fun _ => List α → List α) (fun acc => acc) (fun m ih acc => ih (f m :: acc)) n
theorem lgen_eq {α : Type} (f : Nat → α) : ∀ (n : Nat) (acc : List α), lgen f n acc = (List.range n).map f ++ acc
  | 0, acc => rfl
  | n + 1, acc => by
    show lgen f n (f n :: acc) = _
    rw [lgen_eq f n, List.range_succ]
    simp
section
variable {P : Program} {E : Env} (ok : E.Ok P) {w0 w : World} {β : Ren} {A : AW} (inv : Inv w0 E.G β A w)

/-! slice literals -/
noncomputable def buildSliceV (E : Env) (A : AW) (t : TypeId) (len : Nat) (ps : List (Nat × Value)) : Option (Value × AW) :=
  match E.ti.get none t with
  | some ⟨.slice e, _, _, _, _⟩ => match E.ti.get none e with
    | some re => bs (Nat.ble (Nat.mul len re.size) 16777216 && re.zok) (match fillA (fun i => some (Nat.mul i re.size, re.size)) ps (lgen (fun _ => J) (Nat.mul len re.size) []) with
      | some r => some (.slice (some ⟨A.next, 0, none⟩) len len, A.add ⟨.cells r, re.size, true, false, e⟩)
      | none => none) none
    | none => none
  | _ => none
theorem fillA_length {place : Nat → Option (Nat × Nat)} : ∀ (ps : List (Nat × Value)) (cs r : List Value), fillA place ps cs = some r → r.length = cs.length
  | [], cs, r, h => by cases h; rfl
  | p :: ps, cs, r, h => by
    have h' : (match place p.1, vcells p.2 with
        | some (off, size), some l => bs (Nat.beq (llen l) size && Nat.ble (Nat.add off (llen l)) (llen cs)) (fillA place ps (lwrite l off cs)) none
        | _, _ => none) = some r := h
    clear h
    split at h'
    · replace h' := bs_some h'
      rcases h' with ⟨_, h'⟩ | ⟨_, h'⟩
      · rw [fillA_length ps _ r h', lwrite_length]
      · cases h'
    · cases h'
include ok in
theorem buildSlice_fr {t : TypeId} {len : Nat} {ps qs : List (Nat × Value)} {v : Value} {A' : AW} (h : buildSliceV E A t len ps = some (v, A')) (hq : PRel β ps qs) (w : World) : ∃ cs es e, A' = A.add ⟨.cells cs, es, true, false, e⟩ ∧ Fresh β w A.next ((Instr.buildSlice t len ⟨qs⟩).run P w) v cs es e := by
  unfold buildSliceV at h
  split at h
  · rename_i e _ _ _ _ hr
    split at h
    · rename_i re hre
      replace h := bs_some h
      rcases h with ⟨hb, h⟩ | ⟨_, h⟩
      · rw [Bool.and_eq_true] at hb
        have hle : len * re.size ≤ 16777216 := Nat.le_of_ble_eq_true hb.1
        split at h
        · rename_i r hfill
          cases h
          have hu := (ok.ti t _ hr).1
          obtain ⟨_, ie, hie, hse, _, hz⟩ := ok.ti e re hre
          obtain ⟨z, hz1, hz2⟩ := hz hb.2
          obtain ⟨C, hC⟩ : ∃ C : List Value, ((Array.range (len * re.size)).map (fun x => (if len * re.size = 0 then #[] else (⟨re.zero⟩ : Array Value))[x % (if len * re.size = 0 then #[] else (⟨re.zero⟩ : Array Value)).size]!)) = ⟨C⟩ := ⟨_, rfl⟩
          have hCl : C.length = len * re.size := by have := congrArg Array.size hC; simpa using this.symm
          have hlg : (lgen (fun _ => J) (Nat.mul len re.size) []).length = len * re.size := by rw [lgen_eq]; simp
          have hJ : LRel β (lgen (fun _ => J) (Nat.mul len re.size) []) C := by
            refine ⟨by rw [hlg, hCl], fun i a b ha hb => ?_⟩
            rw [lgen_eq, List.append_nil, List.getElem?_map] at ha
            cases hq : (List.range (Nat.mul len re.size))[i]? with
            | none => rw [hq] at ha; cases ha
            | some j => rw [hq] at ha; cases ha; exact .junk _
          obtain ⟨r', hr', hrr⟩ := fill_ok (β := β) (place' := fun i => some (i * re.size, re.size)) (fun j p hj => hj) ps qs _ C r hfill hq hJ
          have hlen : r'.length = len * re.size := by rw [← hrr.1, fillA_length ps _ r hfill, hlg]
          refine ⟨_, _, _, rfl, r', .slice (some ⟨w.heap.size, 0 + 0, none⟩) len len, ?_, hrr, fun β' hN => .slice A.next 0 len len len _ hN (Nat.le_refl _) (Nat.le_refl _) (by simp [hlen])⟩
          have hno : ¬ (2 ^ 24 : Nat) < len * re.size := by omega
          by_cases h0 : len * re.size = 0
          · rw [if_pos h0] at hC
            simp only [h0] at hC
            simp [Instr.buildSlice, run_underlying hu, run_size ok hre, hno, h0]
            simp at hC
            rw [hC]
            simp [hr', newRow]
          · rw [if_neg h0] at hC
            simp [Instr.buildSlice, run_underlying hu, run_size ok hre, hno, h0, zeroValue, typeInfo, hie, hz1, hz2]
            simp at hC
            rw [hC]
            simp [hr', newRow]
        · cases h
      · cases h
    · cases h
  · cases h

include ok inv in
theorem buildSlice_ok {t : TypeId} {len : Nat} {ps qs : List (Nat × Value)} {v : Value} {A' : AW} (h : buildSliceV E A t len ps = some (v, A')) (hq : PRel β ps qs) : Does w0 E.G β A ((Instr.buildSlice t len ⟨qs⟩).run P w) v A' := by
  obtain ⟨cs, es, e, rfl, hf⟩ := buildSlice_fr ok h hq w
  exact Fresh.does inv hf

/-! make -/
noncomputable def natOf (x : Value) : Option Nat := match x with | .int .i64 (.ofNat n) => some n | _ => none
noncomputable def makeSliceV (E : Env) (A : AW) (t : TypeId) (l c : Value) : Option (Value × AW) :=
  match E.ti.get none t, natOf l, natOf c with
  | some ⟨.slice e, _, _, _, _⟩, some l, some c => match E.ti.get none e with
    | some re => bs (re.zok && Nat.beq (llen re.zero) re.size && Nat.ble l c && Nat.ble c 9223372036854775807 && Nat.ble (Nat.mul c re.bytes) 140737488355328)
      (some (.slice (some ⟨A.next, 0, none⟩) l c, A.add ⟨.cells (lgen (fun i => match nth re.zero (Nat.mod i re.size) with | some v => san1 v | none => J) (Nat.mul c re.size) []), re.size, true, false, e⟩)) none
    | none => none
  | _, _, _ => none
theorem natOf_ok {x x' : Value} {n : Nat} (h : natOf x = some n) (hx : VRel β x x') : x' = .int .i64 (n : Int) := by
  unfold natOf at h
  split at h
  · cases h; cases hx; rfl
  · cases h
include ok in
theorem makeSlice_fr {t : TypeId} {l c l' c' v : Value} {A' : AW} (h : makeSliceV E A t l c = some (v, A')) (hl : VRel β l l') (hc : VRel β c c') (w : World) : ∃ cs es e, A' = A.add ⟨.cells cs, es, true, false, e⟩ ∧ Fresh β w A.next ((Instr.makeSlice t l' c').run P w) v cs es e := by
  unfold makeSliceV at h
  split at h
  · rename_i e _ _ _ _ ln cn hr hln hcn
    split at h
    · rename_i re hre
      replace h := bs_some h
      rcases h with ⟨hb, h⟩ | ⟨_, h⟩
      · simp only [Bool.and_eq_true] at hb
        obtain ⟨⟨⟨⟨hzok, hzl⟩, hlc⟩, hc63⟩, hby⟩ := hb
        have hzl' := Nat.eq_of_beq_eq_true hzl
        rw [llen_eq] at hzl'
        have hlc' := Nat.le_of_ble_eq_true hlc
        have hc63' := Nat.le_of_ble_eq_true hc63
        have hby' : cn * re.bytes ≤ 140737488355328 := Nat.le_of_ble_eq_true hby
        cases h
        have hu := (ok.ti t _ hr).1
        obtain ⟨_, ie, hie, hse, hbe, hz⟩ := ok.ti e re hre
        obtain ⟨z, hz1, hz2⟩ := hz hzok
        have e1 := natOf_ok hln hl
        have e2 := natOf_ok hcn hc
        subst e1 e2
        obtain ⟨C, hC⟩ : ∃ C : List Value, ((Array.range (cn * re.size)).map (fun x => (if cn * re.size = 0 then #[] else (⟨re.zero⟩ : Array Value))[x % (if cn * re.size = 0 then #[] else (⟨re.zero⟩ : Array Value)).size]!)) = ⟨C⟩ := ⟨_, rfl⟩
        have hCl : C.length = cn * re.size := by have := congrArg Array.size hC; simpa using this.symm
        have hrel : ∀ β', LRel β' (lgen (fun i => match nth re.zero (Nat.mod i re.size) with | some v => san1 v | none => J) (Nat.mul cn re.size) []) C := fun β' => by
          rw [lgen_eq, List.append_nil]
          refine ⟨by rw [List.length_map, List.length_range]; exact hCl.symm, fun i a b ha hb => ?_⟩
          have hi : i < cn * re.size := by rw [← hCl]; exact (List.getElem?_eq_some_iff.1 hb).1
          have h0 : ¬ cn * re.size = 0 := by omega
          rw [List.getElem?_map, show Nat.mul cn re.size = cn * re.size from rfl, List.getElem?_range hi] at ha
          simp only [Option.map_some, Option.some.injEq] at ha
          have hsz : 0 < re.size := by rcases Nat.eq_zero_or_pos re.size with e | e; · rw [e] at hi; omega
                                       · exact e
          have hm : i % re.size < re.zero.length := by rw [hzl']; exact Nat.mod_lt _ hsz
          have hCi : C[i]? = some (re.zero[i % re.size]) := by
            have h2 := congrArg (fun a : Array Value => a[i]?) hC
            simp only [if_neg h0] at h2
            rw [Array.getElem?_map, Array.getElem?_range] at h2
            rw [if_pos hi] at h2
            simp only [Option.map_some, List.size_toArray, hzl'] at h2
            rw [show C[i]? = (⟨C⟩ : Array Value)[i]? by simp, ← h2]
            simp [hm]
          rw [hCi] at hb
          cases hb
          rw [← ha]
          have : nth re.zero (Nat.mod i re.size) = some re.zero[i % re.size] := by rw [nth_eq]; show re.zero[i % re.size]? = _; simp [hm]
          rw [this]
          exact san1_rel β' _
        refine ⟨_, _, _, rfl, C, .slice (some ⟨w.heap.size, 0 + 0, none⟩) ln cn, ?_, hrel β, fun β' hN => .slice A.next 0 ln cn cn _ hN hlc' (Nat.le_refl _) (by simp [hCl])⟩
        have w1 : IntKind.i64.wrap (ln : Int) = (ln : Int) := IntWalk.i64_in _ (by omega)
        have w2 : IntKind.i64.wrap (cn : Int) = (cn : Int) := IntWalk.i64_in _ (by omega)
        have hb2 : ¬ ((281474976710656 : Int) < (re.bytes : Int) * (cn : Int)) := by
          have h5 : ((cn * re.bytes : Nat) : Int) ≤ 140737488355328 := by omega
          rw [Int.natCast_mul, Int.mul_comm] at h5
          omega
        have hroom : ¬ roomBytes < cn * re.bytes := by rw [show roomBytes = 140737488355328 from rfl]; omega
        have hneg : ¬ ((cn : Int) < 0) := by omega
        have hneg2 : ¬ ((ln : Int) < 0) := by omega
        have hlc2 : ¬ ((cn : Int) < (ln : Int)) := by omega
        by_cases h0 : cn * re.size = 0
        · rw [if_pos h0] at hC
          simp [Instr.makeSlice, run_underlying hu, asInt, asIntOf, typeInfo, hie, hbe, w1, w2, hb2, hneg, hneg2, hlc2, askRoom, hroom, run_size ok hre, h0, newRow]
          simp [h0] at hC
          rw [hC]
        · rw [if_neg h0] at hC
          simp [Instr.makeSlice, run_underlying hu, asInt, asIntOf, typeInfo, hie, hbe, w1, w2, hb2, hneg, hneg2, hlc2, askRoom, hroom, run_size ok hre, h0, newRow, zeroValue, hz1, hz2]
          simp at hC
          rw [hC]
      · cases h
    · cases h
  · cases h
include ok inv in
theorem makeSlice_ok {t : TypeId} {l c l' c' v : Value} {A' : AW} (h : makeSliceV E A t l c = some (v, A')) (hl : VRel β l l') (hc : VRel β c c') : Does w0 E.G β A ((Instr.makeSlice t l' c').run P w) v A' := by
  obtain ⟨cs, es, e, rfl, hf⟩ := makeSlice_fr ok h hl hc w
  exact Fresh.does inv hf
end
end Go.Ev
