/- A verified evaluator of Go functions on partly symbolic values, part 5 of 17. -/
import Derived.Test.YtcnhmjkmlncbhaaGreatDoorX4
namespace Go.Ex
open Go.RowKit
section
variable {P : Program} {E : Env} (ok : E.Ok P) {w0 w : World} {β : Ren} {A : AW} (inv : Inv w0 E.G β A w)

noncomputable def appRow (E : Env) (t tx : TypeId) (x : Value) : Option (Row × TypeId) :=
  match E.ti.get none t, E.ti.get none tx with
  | some ⟨.slice e, _, _, _, _⟩, some rx => match E.ti.get none e with
    | some re => bs (re.zok && Nat.beq (llen re.zero) re.size && Nat.ble 1 re.size && srcKind rx.desc x) (some (re, e)) none
    | none => none
  | _, _ => none
noncomputable def fitsV (need bytes : Nat) : Bool := Nat.ble need 9223372036854775807 && Nat.ble (Nat.mul need bytes) 140737488355328

noncomputable def appendV (E : Env) (A : AW) (t tx : TypeId) (s x : Value) : Option (Value × AW) :=
  match appRow E t tx x with
  | none => none
  | some (re, e) => match srcV A re.size x with
    | none => none
    | some (n, l) =>
      match s with
      | .slice none 0 0 => bs (Nat.beq n 0) (some (.slice none 0 0, A)) (bs (fitsV n re.bytes) (some (.slice (some ⟨A.next, 0, none⟩) n n, A.add ⟨.cells l, re.size, false, false, e⟩)) none)
      | .slice (some ⟨B, o, none⟩) sl c =>
        bs (Nat.beq n 0) (some (.slice (some ⟨B, o, none⟩) sl c, A))
        (bs (Nat.beq B TAINT) none
        (match A.get B with
        | some ⟨.cells cs, es, ex, ro, ty⟩ =>
          bs (Nat.beq es re.size && Nat.ble sl c) (bs (Nat.ble (Nat.add sl n) c)
            (bs (not ro && Nat.ble E.G.n B && Nat.ble (Nat.add (Nat.add o (Nat.mul sl re.size)) (llen l)) (llen cs)) (some (.slice (some ⟨B, o, none⟩) (Nat.add sl n) c, A.put B (some ⟨.cells (lwrite l (Nat.add o (Nat.mul sl re.size)) cs), es, ex, false, ty⟩))) none)
            (match ltake (Nat.mul sl re.size) (ldrop o cs) with
            | some olds => bs (fitsV (Nat.add sl n) re.bytes)
                (bs (ex && Nat.beq (Nat.add o (Nat.mul c re.size)) (llen cs)) (some (.slice (some ⟨A.next, 0, none⟩) (Nat.add sl n) (Nat.add sl n), A.add ⟨.cells (lapp olds l), re.size, false, false, e⟩))
                  (bs (not ro && Nat.ble E.G.n B && Nat.beq ty e) (some (.slice (some ⟨A.next, 0, none⟩) (Nat.add sl n) (Nat.add sl n), (A.put B none).add ⟨.cells (lapp olds l), re.size, false, false, e⟩)) none)) none
            | none => none)) none
        | _ => none))
      | _ => none

include inv in
theorem new_more (cs cs' rest : List Value) (e : TypeId) (es : Nat) (cur : Array Value) (hcur : cur.toList = cs' ++ rest) (hc : ∀ β', β.le β' → LRel β' cs cs') :
    Inv w0 E.G (β.put A.next ⟨w.heap.size, 0, es, cur.size⟩) (A.add ⟨.cells cs, es, false, false, e⟩) (w.drew.alloc (.cells cur e)) ∧ β.grow (β.put A.next ⟨w.heap.size, 0, es, cur.size⟩) A.next := by
  have hle : β.le (β.put A.next ⟨w.heap.size, 0, es, cur.size⟩) := inv.le_of_grow (Ren.grow_put β A.next _)
  have h := hc _ hle
  have hsz : cur.size = cs'.length + rest.length := by rw [← Array.length_toList, hcur]; simp
  refine (inv.drew (w.drawn + 1)).new _ _ _ rfl ⟨cur, e, (0, 0), rfl, rfl, by simp [h.1, hsz], fun i v hv => ?_, fun _ => rfl, (fun h => by cases h), rfl, fun _ => rfl⟩
  obtain ⟨v', hv', hr⟩ := h.get hv
  refine ⟨v', ?_, hr⟩
  rw [← Array.getElem?_toList, hcur, Nat.zero_add, List.getElem?_append_left (List.getElem?_eq_some_iff.1 hv').1]
  exact hv'
include ok in
theorem appRow_ok {t tx : TypeId} {x : Value} {re : Row} {e : TypeId} (h : appRow E t tx x = some (re, e)) : ∃ d ie z, P.underlying t = some (.slice e) ∧ P.underlying tx = some d ∧ srcKind d x = true ∧ E.ti.get none e = some re ∧ P.info? e = some ie ∧ ie.size = re.size ∧ ie.bytes = re.bytes ∧
    ie.zero = some z ∧ z.cells.size = re.size ∧ 1 ≤ re.size := by
  unfold appRow at h
  split at h
  · rename_i e0 _ _ _ _ rx hr hrx
    split at h
    · rename_i r hre
      replace h := bs_some h
      rcases h with ⟨hb, h⟩ | ⟨_, h⟩
      · cases h
        simp only [Bool.and_eq_true, llen_eq] at hb
        obtain ⟨⟨⟨hz, hl⟩, h1⟩, hk⟩ := hb
        obtain ⟨_, ie, hie, hs, hby, hz2⟩ := ok.ti e re hre
        obtain ⟨z, hz3, hz4⟩ := hz2 hz
        exact ⟨rx.desc, ie, z, (ok.ti t _ hr).1, (ok.ti tx _ hrx).1, hk, hre, hie, hs, hby, hz3, by rw [hz4]; exact Nat.eq_of_beq_eq_true hl, Nat.le_of_ble_eq_true h1⟩
      · cases h
    · cases h
  · cases h

theorem run_append_zero {t tx ty e : TypeId} {i : TypeInfo} (ht : P.underlying t = some (.slice e)) (hi : P.info? e = some i) {x : Value} {news : List Value} (hs : Src P i.size tx x 0 news w) (base : Option Addr) (sl c : Nat) (hle : sl ≤ c) :
    (Builtin.append_ #[t, tx] ty #[.slice base sl c, x]).run P w = .ok (.slice base sl c) w := by
  have hn : news = [] := List.eq_nil_of_length_eq_zero (by simpa using hs.newsLen)
  subst hn
  have hc := hs.cells
  cases base with
  | none => rcases hs.kind with ⟨e', hk⟩ | hk <;> simp [Builtin.append_, run_underlying ht, run_underlying hk, sizeOf, typeInfo, hi, hs.len, hle, hc]
  | some a => rcases hs.kind with ⟨e', hk⟩ | hk <;> simp [Builtin.append_, run_underlying ht, run_underlying hk, sizeOf, typeInfo, hi, hs.len, hle, hc, storeCells]

theorem zeroCells_size (z : Array Value) (n : Nat) : (Builtin.zeroCells z n).size = n * z.size := by simp [Builtin.zeroCells]

include ok inv in
theorem append_ok {t tx ty : TypeId} {s s' x x' v : Value} {A' : AW} (h : appendV E A t tx s x = some (v, A')) (hs : VRel β s s') (hx : VRel β x x') : Does w0 E.G β A ((Builtin.append_ #[t, tx] ty #[s', x']).run P w) v A' := by
  unfold appendV at h
  split at h
  · cases h
  rename_i re e hre
  obtain ⟨d, ie, z, hu, hux, hk, hte, hie, hse, hby, hz, hzs, h1⟩ := appRow_ok ok hre
  split at h
  · cases h
  rename_i n l hsrc
  obtain ⟨l', hlr, src⟩ := src_ok (P := P) inv hux hsrc hk hx
  rw [← hse] at src
  have hll : l'.length = n * re.size := by rw [src.newsLen, hse]
  split at h
  · -- onto nil
    cases hs
    replace h := bs_some h
    rcases h with ⟨h0, h⟩ | ⟨h0, h⟩
    · have h0' := Nat.eq_of_beq_eq_true h0
      subst h0'
      cases h
      exact ⟨β, _, w, run_append_zero hu hie src none 0 0 (Nat.le_refl _), .slice0, inv, Ren.grow_refl _ _⟩
    · replace h := bs_some h
      rcases h with ⟨hf, h⟩ | ⟨_, h⟩
      · unfold fitsV at hf
        rw [Bool.and_eq_true] at hf
        have f1 := Nat.le_of_ble_eq_true hf.1
        have f2 : n * re.bytes ≤ 140737488355328 := Nat.le_of_ble_eq_true hf.2
        cases h
        have h0' : ¬ n = 0 := fun e => by subst e; cases h0
        have hrun := run_append_grow_src (P := P) w t tx ty e ie z hu hie hz none 0 0 [] (run_firstCells_none w.drew ie.size 0 0 0) x' n l' src (by omega) (by omega) (growslice_fits (by omega) (by rw [hby, Nat.zero_add]; exact f2))
        have hge := grownCap_ge w (0 + n) 0 e
        obtain ⟨g1, g2⟩ := new_more inv l l' (Builtin.zeroCells z.cells (grownCap w (0 + n) 0 e - (0 + n))).toList e re.size (([] ++ l').toArray ++ Builtin.zeroCells z.cells (grownCap w (0 + n) 0 e - (0 + n))) (by simp) (fun β' hb => hlr.mono hb)
        refine ⟨_, _, _, hrun, ?_, g1, g2⟩
        have hval := VRel.slice (β := β.put A.next ⟨w.heap.size, 0, re.size, (([] ++ l').toArray ++ Builtin.zeroCells z.cells (grownCap w (0 + n) 0 e - (0 + n))).size⟩) A.next 0 n n (grownCap w (0 + n) 0 e) _ (put_self _ _ _) (Nat.le_refl _) (by omega) (by
          simp only [List.nil_append, Array.size_append, List.size_toArray, zeroCells_size, hzs, hll, Nat.zero_add, ← Nat.add_mul]
          apply Nat.mul_le_mul_right
          omega)
        simpa using hval
      · cases h
  · rename_i B o sl c
    replace h := bs_some h
    rcases h with ⟨h0, h⟩ | ⟨h0, h⟩
    · have h0' := Nat.eq_of_beq_eq_true h0
      subst h0'
      cases h
      cases hs with
      | slice _ _ _ _ c' lc hlc hn hc he => exact ⟨β, _, w, run_append_zero hu hie src _ sl c' (by omega), .slice B o sl c c' lc hlc hn hc he, inv, Ren.grow_refl _ _⟩
      | empty _ a' c' => exact ⟨β, _, w, run_append_zero hu hie src _ 0 c' (by omega), .empty o a' c', inv, Ren.grow_refl _ _⟩
    have h0' : ¬ n = 0 := fun e => by subst e; cases h0
    replace h := bs_some h
    rcases h with ⟨_, h⟩ | ⟨ht, h⟩
    · cases h
    split at h
    · rename_i cs es ex ro tyb hg
      replace h := bs_some h
      rcases h with ⟨hb, h⟩ | ⟨_, h⟩
      rotate_left
      · cases h
      rw [Bool.and_eq_true] at hb
      have hes := Nat.eq_of_beq_eq_true hb.1
      subst hes
      have hslc := Nat.le_of_ble_eq_true hb.2
      obtain ⟨c', lc, hlc, hn, hc, he, rfl⟩ : ∃ c' lc, β B = some lc ∧ sl ≤ c ∧ c ≤ c' ∧ lc.d + o + c' * lc.es ≤ lc.sz ∧ s' = .slice (some ⟨lc.b, lc.d + o, none⟩) sl c' := by
        cases hs with
        | slice _ _ _ _ c' lc hlc hn hc he => exact ⟨c', lc, hlc, hn, hc, he, rfl⟩
        | empty => cases ht
      obtain ⟨cur, eb, fz, k1, k2, k3, k4, k5, k6, k7⟩ := inv.cont B _ lc hg hlc
      have k7' : lc.es = re.size := k7.1
      have k8' : tyb ≠ ANY → eb = tyb := k7.2
      replace h := bs_some h
      rcases h with ⟨hroom, h⟩ | ⟨hroom, h⟩
      · -- room for sure
        have hroom' : sl + n ≤ c := Nat.le_of_ble_eq_true hroom
        replace h := bs_some h
        rcases h with ⟨hb2, h⟩ | ⟨_, h⟩
        rotate_left
        · cases h
        simp only [Bool.and_eq_true, Bool.not_eq_true', llen_eq] at hb2
        obtain ⟨⟨hro, hG⟩, hfit⟩ := hb2
        subst hro
        have hG' := Nat.le_of_ble_eq_true hG
        have hfit' : o + sl * re.size + l.length ≤ cs.length := Nat.le_of_ble_eq_true hfit
        cases h
        obtain rfl := k5 rfl
        obtain ⟨w', hst, hinv⟩ := write_ok (P := P) inv hg hG' hlc hlr hfit' src.one
        have hl1 := hlr.1
        have hcell : ∀ j, j < l'.length → (w.cell? ⟨lc.b, lc.d + o + sl * ie.size + j, none⟩).isSome = true := fun j hj => by
          rw [cell_of_row w lc.b _ cur eb (0, 0) k1]
          have : lc.d + o + sl * ie.size + j < cur.size := by rw [hse]; omega
          simp [this]
        have hfz : ∀ j, j < l'.length → w.frozen? ⟨lc.b, lc.d + o + sl * ie.size + j, none⟩ = false := fun j _ => by simp [World.frozen?, k1]
        have hrun := run_append_room_src (P := P) w t tx ty e ie hu hie lc.b (lc.d + o) sl c' x' n l' src (by omega) hcell hfz
        have hst2 := run_storeCells_cells (P := P) lc.b (lc.d + o + sl * ie.size) l' 0 w (by simpa using hcell) (by simpa using hfz) src.one
        rw [Nat.add_zero] at hst2
        rw [← Nat.add_assoc, ← hse, hst2] at hst
        cases hst
        exact ⟨β, _, _, hrun, .slice B o (sl + n) c c' lc hlc hroom' hc he, hinv, Ren.grow_refl _ _⟩
      · have hroom' : ¬ sl + n ≤ c := fun e => by rw [show Nat.add sl n = sl + n from rfl, Nat.ble_eq_true_of_le e] at hroom; cases hroom
        split at h
        rotate_left
        · cases h
        rename_i olds holds
        obtain ⟨olds', hor, holen, hoat⟩ := range_rel inv (show cellsAt A B = some cs by unfold cellsAt; rw [hg]) hlc o _ olds holds
        have holen' : olds'.length = sl * re.size := by rw [← hor.1, holen]; rfl
        replace h := bs_some h
        rcases h with ⟨hf, h⟩ | ⟨_, h⟩
        rotate_left
        · cases h
        unfold fitsV at hf
        rw [Bool.and_eq_true] at hf
        have f1 : sl + n ≤ 9223372036854775807 := Nat.le_of_ble_eq_true hf.1
        have f2 : (sl + n) * re.bytes ≤ 140737488355328 := Nat.le_of_ble_eq_true hf.2
        -- the growing arm, once
        have grows : ∀ (A1 : AW), A1.next = A.next → Inv w0 E.G β A1 w → c' < sl + n → Does w0 E.G β A ((Builtin.append_ #[t, tx] ty #[.slice (some ⟨lc.b, lc.d + o, none⟩) sl c', x']).run P w) (.slice (some ⟨A.next, 0, none⟩) (sl + n) (sl + n)) (A1.add ⟨.cells (lapp olds l), re.size, false, false, e⟩) := fun A1 hA1 inv1 hlt => by
          have hold : (Builtin.firstCells ie.size sl (.slice (some ⟨lc.b, lc.d + o, none⟩) sl c')).run P w.drew = .ok olds'.toArray w.drew :=
            run_firstCells_some w.drew ie.size sl _ sl c' olds' (by rw [hse]; exact holen') (fun j u hu => by rw [Addr.add_mid]; exact hoat j u hu)
          have hrun := run_append_grow_src (P := P) w t tx ty e ie z hu hie hz (some ⟨lc.b, lc.d + o, none⟩) sl c' olds' hold x' n l' src hlt (by omega) (growslice_fits hlt (by rw [hby]; exact f2))
          have hge := grownCap_ge w (sl + n) c' e
          obtain ⟨g1, g2⟩ := new_more inv1 (lapp olds l) (olds' ++ l') (Builtin.zeroCells z.cells (grownCap w (sl + n) c' e - (sl + n))).toList e re.size ((olds' ++ l').toArray ++ Builtin.zeroCells z.cells (grownCap w (sl + n) c' e - (sl + n))) (by simp) (fun β' hb => by rw [lapp_eq]; exact (hor.append hlr).mono hb)
          rw [hA1] at g1 g2
          refine ⟨_, _, _, hrun, ?_, g1, g2⟩
          have hval := VRel.slice (β := β.put A.next ⟨w.heap.size, 0, re.size, ((olds' ++ l').toArray ++ Builtin.zeroCells z.cells (grownCap w (sl + n) c' e - (sl + n))).size⟩) A.next 0 (sl + n) (sl + n) (grownCap w (sl + n) c' e) _ (put_self _ _ _) (Nat.le_refl _) hge (by
            simp only [Array.size_append, List.size_toArray, List.length_append, zeroCells_size, hzs, hll, holen', Nat.zero_add, ← Nat.add_mul]
            apply Nat.mul_le_mul_right
            omega)
          simpa using hval
        replace h := bs_some h
        rcases h with ⟨hex, h⟩ | ⟨_, h⟩
        · -- no room for sure
          rw [Bool.and_eq_true, llen_eq] at hex
          have hend : o + c * re.size = cs.length := Nat.eq_of_beq_eq_true hex.2
          cases h
          refine grows A rfl inv ?_
          have h6 := (k6 hex.1).2
          rw [k7'] at he
          have h8 : c' * re.size ≤ c * re.size := by omega
          have h9 : c' ≤ c := Nat.le_of_mul_le_mul_right h8 (by omega)
          omega
        · replace h := bs_some h
          rcases h with ⟨hb3, h⟩ | ⟨_, h⟩
          rotate_left
          · cases h
          simp only [Bool.and_eq_true, Bool.not_eq_true'] at hb3
          obtain ⟨⟨hro, hG⟩, hty⟩ := hb3
          subst hro
          have hty' := Nat.eq_of_beq_eq_true hty
          have hG' := Nat.le_of_ble_eq_true hG
          obtain rfl := k5 rfl
          cases h
          have inv1 := inv.kill B
          by_cases hlt : c' < sl + n
          · exact grows (A.put B none) rfl inv1 hlt
          · -- in place, unseen
            have hl1 := hlr.1
            have hmul : (sl + n) * re.size ≤ c' * re.size := Nat.mul_le_mul_right _ (by omega)
            rw [Nat.add_mul] at hmul
            rw [k7'] at he
            have hcell : ∀ j, j < l'.length → (w.cell? ⟨lc.b, lc.d + o + sl * ie.size + j, none⟩).isSome = true := fun j hj => by
              rw [cell_of_row w lc.b _ cur eb (0, 0) k1]
              have : lc.d + o + sl * ie.size + j < cur.size := by rw [hse]; omega
              simp [this]
            have hfz : ∀ j, j < l'.length → w.frozen? ⟨lc.b, lc.d + o + sl * ie.size + j, none⟩ = false := fun j _ => by simp [World.frozen?, k1]
            have hrun := run_append_room_src (P := P) w t tx ty e ie hu hie lc.b (lc.d + o) sl c' x' n l' src (by omega) hcell hfz
            have hst2 := run_storeCells_cells (P := P) lc.b (lc.d + o + sl * ie.size) l' 0 w (by simpa using hcell) (by simpa using hfz) src.one
            rw [Nat.add_zero] at hst2
            have hst := run_storeCells_at (P := P) lc.b (lc.d + o + sl * ie.size) eb l' 0 cur w k1 (by rw [hse]; omega) src.one
            rw [Nat.add_zero, hst2] at hst
            have hst3 := (Result.ok.inj hst).2
            rw [hst3] at hrun
            obtain ⟨hl1', hl2'⟩ := inv.loc B lc hlc
            have hfit9 : lc.d + o + sl * ie.size + l'.length ≤ cur.size := by rw [hse]; omega
            obtain ⟨g1, g2⟩ := Inv.adopt (E := E) inv1 (w' := w.setRow lc.b (cur.toList.take (lc.d + o + sl * ie.size) ++ l' ++ cur.toList.drop (lc.d + o + sl * ie.size + l'.length)).toArray) ⟨lc.b, lc.d + o, re.size, lc.sz⟩ ⟨.cells (lapp olds l), re.size, false, false, e⟩ hl1' (hl2'.resolve_left (by omega)) (inv.sep B lc _ (by omega) hlc hg rfl)
              (fun C lC hC hbb => by
                rcases A.get_put B none C with ⟨e1, _⟩ | ⟨e1, _⟩ | ⟨e1, hne⟩
                · exact e1
                · exact e1
                · rw [e1]
                  cases hgC : A.get C with
                  | none => rfl
                  | some kk => exact absurd (inv.inj C B lC lc hC hlc hbb (by rw [hgC]; rfl) (by rw [hg]; rfl)) hne)
              (grownBy_setRow w lc.b _) (by simp) (by
                rw [setRow_heap w lc.b cur _ eb (0, 0) k1]
                have hle9 : β.le (β.put (A.put B none).next ⟨lc.b, lc.d + o, re.size, lc.sz⟩) := inv1.le_of_grow (Ren.grow_put β _ _)
                refine ⟨_, eb, (0, 0), rfl, by rw [spliced_size _ _ _ hfit9]; exact k2, ?_, fun i v hv => ?_, fun _ => rfl, (fun h => by cases h), rfl, fun hne => (k8' (by rw [hty']; exact hne)).trans hty'⟩
                · show lc.d + o + (lapp olds l).length ≤ lc.sz
                  rw [lapp_eq, List.length_append, holen, hl1, hll]
                  show lc.d + o + (sl * re.size + n * re.size) ≤ lc.sz
                  omega
                · have hv2 : (olds ++ l)[i]? = some v := by rw [← lapp_eq]; exact hv
                  obtain ⟨v', hv', hrel⟩ := (hor.append hlr).get hv2
                  refine ⟨v', ?_, hrel.mono hle9⟩
                  show (List.toArray _)[lc.d + o + i]? = some v'
                  rw [spliced _ _ _ hfit9]
                  by_cases hi : i < sl * re.size
                  · rw [if_neg (by rw [hse]; omega)]
                    rw [List.getElem?_append_left (by omega)] at hv'
                    have := hoat i v' hv'
                    rw [cell_of_row w lc.b _ cur eb (0, 0) k1] at this
                    exact this
                  · rw [List.getElem?_append_right (by omega)] at hv'
                    have hlt2 := (List.getElem?_eq_some_iff.1 hv').1
                    rw [if_pos (by rw [hse]; omega), show lc.d + o + i - (lc.d + o + sl * ie.size) = i - olds'.length by rw [hse]; omega]
                    exact hv')
            have hnx : (A.put B none).next = A.next := rfl
            rw [hnx] at g1 g2
            refine ⟨_, _, _, hrun, ?_, g1, g2⟩
            have hval := VRel.slice (β := β.put A.next ⟨lc.b, lc.d + o, re.size, lc.sz⟩) A.next 0 (sl + n) (sl + n) c' _ (put_self _ _ _) (Nat.le_refl _) (by omega) (by simpa using he)
            simpa using hval
    · cases h
  · cases h
end
end Go.Ex
