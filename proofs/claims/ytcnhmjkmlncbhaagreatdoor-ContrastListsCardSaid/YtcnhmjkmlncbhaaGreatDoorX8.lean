/- A verified evaluator of Go functions on partly symbolic values, part 8 of 17. -/
import Derived.Test.YtcnhmjkmlncbhaaGreatDoorX7
import Derived.Lib.ConvBytes
import Derived.Laws.IdiomStrings
import Derived.Lib.UnsafeStr
namespace Go.Ex
open Go.RowKit

theorem bytesWorld_eq (w : World) (e : TypeId) (s : ByteArray) : Lib.bytesWorld w e s = w.drew.alloc (.cells (Lib.bytesCells w e s) e ((Lib.bytesCells w e s).size, (Lib.bytesCells w e s).size + 1)) := by
  have h : (Lib.bytesWorld w e s).heap = (w.drew.alloc (.cells (Lib.bytesCells w e s) e ((Lib.bytesCells w e s).size, (Lib.bytesCells w e s).size + 1))).heap := by
    apply Array.ext_getElem?
    intro i
    rcases Nat.lt_trichotomy i w.heap.size with h | h | h
    · rw [Lib.bytesWorld_at_old w e s i h, Below.heap_alloc w.drew _ i (by simpa using h)]
      rfl
    · subst h
      rw [Lib.bytesWorld_at_new]
      exact (heap_alloc_new w.drew _).symm
    · rw [Array.getElem?_eq_none (by rw [Lib.bytesWorld_size]; omega), Array.getElem?_eq_none (by simp; omega)]
  have e1 : Lib.bytesWorld w e s = { Lib.bytesWorld w e s with heap := (w.drew.alloc (.cells (Lib.bytesCells w e s) e ((Lib.bytesCells w e s).size, (Lib.bytesCells w e s).size + 1))).heap } := by rw [← h]
  exact e1.trans rfl

section
variable {P : Program} {E : Env} (ok : E.Ok P) {w0 w : World} {β : Ren} {A : AW} (inv : Inv w0 E.G β A w)

/-- []byte(s) -/
noncomputable def bytesV (E : Env) (A : AW) (s d : TypeId) (x : Value) : Option (Value × AW) :=
  match E.ti.get none s, E.ti.get none d, x with
  | some _, some ⟨.slice e, _, _, _, _⟩, .string ⟨⟨l⟩⟩ => match E.ti.get none e with
    | some ⟨.int .u8, _, _, _, _⟩ => some (.slice (some ⟨A.next, 0, none⟩) (llen l) (llen l), A.add ⟨.cells (lmap (fun b => Value.int .u8 (.ofNat b.toNat)) l), 1, false, true, e⟩)
    | _ => none
  | _, _, _ => none
theorem bytesV_next {s d : TypeId} {x v : Value} {A' : AW} (h : bytesV E A s d x = some (v, A')) : A.next ≤ A'.next := by
  unfold bytesV at h
  split at h
  · split at h <;> cases h
    exact Nat.le_succ _
  · cases h
include ok inv in
theorem bytes_ok {s d : TypeId} {x x' v : Value} {A' : AW} (h : bytesV E A s d x = some (v, A')) (hx : VRel β x x') : Does w0 E.G β A ((convert s d x').run P w) v A' := by
  unfold bytesV at h
  split at h
  · rename_i r e _ _ _ _ l hs hd
    split at h
    · rename_i _ _ _ _ he
      cases h
      cases hx
      have h1 := (ok.ti s _ hs).1
      have h2 := (ok.ti d _ hd).1
      have h3 := (ok.ti e _ he).1
      have hrun := Lib.run_convert_string_bytes (P := P) w s d e ⟨⟨l⟩⟩ h1 h2 h3
      rw [bytesWorld_eq] at hrun
      have hge := grownCap_ge w (ByteArray.size ⟨⟨l⟩⟩) 0 e
      have hsz : ByteArray.size ⟨⟨l⟩⟩ = l.length := rfl
      have hcs : (Lib.bytesCells w e ⟨⟨l⟩⟩).size = grownCap w l.length 0 e := by
        unfold Lib.bytesCells
        rw [Array.size_append, Array.size_map, Array.size_replicate, hsz]
        rw [hsz] at hge
        show l.length + _ = _
        omega
      obtain ⟨g1, g2⟩ := (inv.drew (w.drawn + 1)).new (l := ⟨w.heap.size, 0, 1, (Lib.bytesCells w e ⟨⟨l⟩⟩).size⟩) ⟨.cells (lmap (fun b => Value.int .u8 (.ofNat b.toNat)) l), 1, false, true, e⟩ (.cells (Lib.bytesCells w e ⟨⟨l⟩⟩) e ((Lib.bytesCells w e ⟨⟨l⟩⟩).size, (Lib.bytesCells w e ⟨⟨l⟩⟩).size + 1)) rfl
        ⟨_, _, _, rfl, rfl, by
          rw [lmap_eq, List.length_map, hcs, Nat.zero_add]
          rw [hsz] at hge; exact hge, fun i v hv => by
          rw [lmap_eq, List.getElem?_map] at hv
          obtain ⟨q, hq, rfl⟩ := Option.map_eq_some_iff.1 hv
          refine ⟨.int .u8 (.ofNat q.toNat), ?_, .int _ _⟩
          have hi := (List.getElem?_eq_some_iff.1 hq).1
          unfold Lib.bytesCells
          rw [Nat.zero_add, Array.getElem?_append_left (by simpa using hi)]
          simp [hq], (fun h => by cases h), (fun h => by cases h), rfl, fun _ => rfl⟩
      refine ⟨_, _, _, hrun, ?_, g1, g2⟩
      have hval := VRel.slice (β := β.put A.next ⟨w.heap.size, 0, 1, (Lib.bytesCells w e ⟨⟨l⟩⟩).size⟩) A.next 0 l.length l.length (grownCap w l.length 0 e) ⟨w.heap.size, 0, 1, (Lib.bytesCells w e ⟨⟨l⟩⟩).size⟩ (by simp [Ren.put]) (Nat.le_refl _) hge (by simp [hcs])
      rw [llen_eq]
      exact hval
    · cases h
  · cases h

noncomputable def lin3 (e u o : Nat) (l : List (Nat × Nat × Nat)) : Bool := List.rec (motive := fun _ => Bool) false (fun a _ ih => bs (Nat.beq a.1 e && Nat.beq a.2.1 u && Nat.beq a.2.2 o) true ih) l
theorem lin3_mem {e u o : Nat} : ∀ {l : List (Nat × Nat × Nat)}, lin3 e u o l = true → (e, u, o) ∈ l
  | [], h => by cases h
  | a :: l, h => by
    have h' : bs (Nat.beq a.1 e && Nat.beq a.2.1 u && Nat.beq a.2.2 o) true (lin3 e u o l) = true := h
    cases hb : (Nat.beq a.1 e && Nat.beq a.2.1 u && Nat.beq a.2.2 o) with
    | true =>
      simp only [Bool.and_eq_true] at hb
      obtain ⟨⟨h1, h2⟩, h3⟩ := hb
      have e1 := Nat.eq_of_beq_eq_true h1
      have e2 := Nat.eq_of_beq_eq_true h2
      have e3 := Nat.eq_of_beq_eq_true h3
      obtain ⟨x, y, z⟩ := a
      simp only at e1 e2 e3
      subst e1; subst e2; subst e3
      exact List.mem_cons_self
    | false =>
      rw [hb, bs_false] at h'
      exact List.mem_cons_of_mem _ (lin3_mem h')
/-- pointers with and without a type -/
noncomputable def uptrV0 (E : Env) (A : AW) (s d : TypeId) (x : Value) : Option Value :=
  match E.ti.get none s, E.ti.get none d, x with
  | some ⟨.pointer t, _, _, _, _⟩, some ⟨.unsafePointer, _, _, _, _⟩, .pointer (some ⟨B, o, none⟩) => match E.ti.get none t, A.get B with
    | some r, some ⟨.cells cs, _, _, _, _⟩ => bs (Nat.ble 1 r.size && Nat.blt o (llen cs)) (some x) none
    | _, _ => none
  | some ⟨.unsafePointer, _, _, _, _⟩, some ⟨.pointer u, _, _, _, _⟩, .pointer (some ⟨B, o, none⟩) => match E.ti.get none u, A.get B with
    | some r, some ⟨.cells cs, _, true, _, ty⟩ => match E.ti.get none ty with
      | some rt => bs (Nat.ble 1 r.size && Nat.ble 1 rt.size && lin3 ty u o E.lay && Nat.beq (llen cs) rt.size) (some x) none
      | none => none
    | _, _ => none
  | _, _, _ => none
theorem liesAt_off {e : TypeId} {s : Nat} (hs : 1 ≤ s) (hc : P.cellsOf e = s) (count i n : Nat) (hn : i + n ≤ count) : liesAt P P.depth e count (i * s) e n = true := by
  have hd : P.depth = (2 * (P.types.size + Made.depth) + 1) + 1 := rfl
  rw [hd]
  simp only [liesAt, Bool.or_eq_true]
  left
  rw [hd]
  have h0 : ¬ s = 0 := by omega
  simp [rowAt, hc, hn, sameLayout, h0, Nat.mul_div_cancel i (show 0 < s by omega)]
include inv in
theorem shape_ok {B : Nat} {cs : List Value} {es : Nat} {ex ro : Bool} {ty : TypeId} (hg : A.get B = some ⟨.cells cs, es, ex, ro, ty⟩) {l : Loc} (hl : β B = some l) : ∃ ty', w.shape? l.b = some (ty', l.sz) ∧ (ty ≠ ANY → ty' = ty) ∧ l.d + cs.length ≤ l.sz ∧ (ex = true → l.d = 0 ∧ l.d + cs.length = l.sz) := by
  obtain ⟨cur, e, fz, k1, k2, k3, k4, k5, k6, k7⟩ := inv.cont B _ l hg hl
  refine ⟨e, ?_, k7.2, k3, k6⟩
  simp only [World.shape?, k1, k2]
theorem size_of {t : TypeId} {r : Row} (ok : E.Ok P) (h : E.ti.get none t = some r) : P.cellsOf t = r.size := by
  obtain ⟨_, i, hi, hs, _⟩ := ok.ti t r h
  simp [Program.cellsOf, hi, hs]
include ok inv in
theorem uptr_ok0 {s d : TypeId} {x x' v : Value} (h : uptrV0 E A s d x = some v) (hx : VRel β x x') : ∃ v', (convert s d x').run P w = .ok v' w ∧ VRel β v v' := by
  unfold uptrV0 at h
  split at h
  · rename_i t _ _ _ _ _ _ _ _ B o hs hd
    split at h
    · rename_i r cs es ex ro ty hr hg
      replace h := bs_some h
      rcases h with ⟨hb, h⟩ | ⟨_, h⟩
      · simp only [Bool.and_eq_true, llen_eq] at hb
        have hb1 := Nat.le_of_ble_eq_true hb.1
        have hb2 : o < cs.length := Nat.le_of_ble_eq_true hb.2
        cases h
        refine ⟨x', ?_, hx⟩
        cases hx with
        | ptr _ _ l hl =>
          obtain ⟨ty', s1, _, s2, _⟩ := shape_ok inv hg hl
          have h1 := (ok.ti s _ hs).1
          have h2 := (ok.ti d _ hd).1
          have h3 : ¬ (l.sz ≤ l.d + o) := by omega
          have h4 : ¬ (r.size = 0) := by omega
          simp [convert, run_underlying h1, run_underlying h2, Conv.unsafePointer, Conv.seenAt, viewAt, cellsIn, s1, run_size ok hr, h3, h4]
      · cases h
    · cases h
  · rename_i _ _ _ _ u _ _ _ _ B o hs hd
    split at h
    · rename_i r cs es ro ty hr hg
      split at h
      · rename_i rt hrt
        replace h := bs_some h
        rcases h with ⟨hb, h⟩ | ⟨_, h⟩
        · simp only [Bool.and_eq_true, llen_eq] at hb
          obtain ⟨⟨⟨hb1, hb0⟩, hb2⟩, hb3⟩ := hb
          have hb1' := Nat.le_of_ble_eq_true hb1
          have hb0' := Nat.le_of_ble_eq_true hb0
          have hb2' := ok.lay _ _ _ (lin3_mem hb2)
          have hb3' := Nat.eq_of_beq_eq_true hb3
          cases h
          refine ⟨x', ?_, hx⟩
          cases hx with
          | ptr _ _ l hl =>
            obtain ⟨ty', s1, hty, s2, s3⟩ := shape_ok inv hg hl
            obtain rfl := (hty (fun e => by rw [e] at hrt; exact ok.any _ hrt)).symm
            obtain ⟨s4, s5⟩ := s3 rfl
            have h1 := (ok.ti s _ hs).1
            have h2 := (ok.ti d _ hd).1
            have h4 : ¬ (r.size = 0) := by omega
            have h5 := size_of ok hrt
            have h6 : l.sz / P.cellsOf ty = 1 := by rw [h5, show l.sz = rt.size by omega, Nat.div_self (by omega)]
            simp [convert, run_underlying h1, run_underlying h2, Conv.unsafePointer, Conv.seenAt, viewAt, s1, run_size ok hr, h4, variablesAt, h6, s4, hb2']
        · cases h
      · cases h
    · cases h
  · cases h

/-- unsafe.SliceData -/
noncomputable def sdataV (x : Value) : Option Value :=
  match x with
  | .slice none 0 0 => some (.pointer none)
  | .slice (some ⟨B, o, none⟩) _ c => bs (Nat.ble 1 c) (some (.pointer (some ⟨B, o, none⟩))) none
  | _ => none
theorem sdata_ok {tys : Array TypeId} {ty : TypeId} {x x' v : Value} (h : sdataV x = some v) (hx : VRel β x x') : ∃ v', (Builtin.unsafeSliceData_ tys ty #[x']).run P w = .ok v' w ∧ VRel β v v' := by
  unfold sdataV at h
  split at h
  · cases h; cases hx; exact ⟨_, Lib.run_unsafeSliceData_nil w tys ty 0 0, .ptr0⟩
  · replace h := bs_some h
    rcases h with ⟨hb, h⟩ | ⟨_, h⟩
    · have hb' := Nat.le_of_ble_eq_true hb
      cases h
      cases hx with
      | slice _ _ _ _ c' l hl hn hc he => exact ⟨_, Lib.run_unsafeSliceData_row w tys ty _ _ c' (by omega), .ptr _ _ l hl⟩
      | empty o a' c' => omega
    · cases h
  · cases h

/-- bytes -/
noncomputable def bytesOf : List Value → Option (List UInt8)
  | [] => some []
  | .int .u8 n :: r => match bytesOf r with
    | some l => bs (ieq (.ofNat (UInt8.ofNat n.toNat).toNat) n) (some (UInt8.ofNat n.toNat :: l)) none
    | none => none
  | _ :: _ => none
theorem bytesOf_ok : ∀ {cs : List Value} {l : List UInt8}, bytesOf cs = some l → cs = Lib.byteCells l
  | [], l, h => by cases h; rfl
  | c :: cs, l, h => by
    unfold bytesOf at h
    split at h
    · contradiction
    · rename_i n r e
      cases e
      split at h
      · rename_i l2 hl2
        replace h := bs_some h
        rcases h with ⟨hb, h⟩ | ⟨_, h⟩
        · rw [ieq_eq] at hb
          have hb' := of_decide_eq_true hb
          cases h
          rw [bytesOf_ok hl2]
          unfold Lib.byteCells
          rw [List.map_cons]
          congr 2
          exact hb'.symm
        · cases h
      · cases h
    · cases h

/-- some cells of a block are frozen: to the evaluator the whole of it is -/
theorem freeze_grown (w : World) (b o n : Nat) : w.grownBy (w.freeze ⟨b, o, none⟩ n) (some b) := by
  unfold World.freeze
  split
  · exact ⟨rfl, rfl, rfl, Nat.le_refl _, fun k _ _ => rfl⟩
  · refine ⟨rfl, rfl, rfl, by simp, fun k hk hne => ?_⟩
    simp only [Array.getElem?_modify]
    rw [if_neg (fun e => hne (by rw [e]))]
theorem freeze_size (w : World) (b o n : Nat) : (w.freeze ⟨b, o, none⟩ n).heap.size = w.heap.size := by
  unfold World.freeze
  split
  · rfl
  · simp
theorem freeze_at (w : World) (b o n : Nat) {c : Array Value} {e : TypeId} {fz : Nat × Nat} (h : w.heap[b]? = some (.cells c e fz)) : ∃ fz', (w.freeze ⟨b, o, none⟩ n).heap[b]? = some (.cells c e fz') := by
  unfold World.freeze
  split
  · exact ⟨fz, h⟩
  · simp only [Array.getElem?_modify, if_true, h, Option.map_some]
    exact ⟨_, rfl⟩
include inv in
theorem freeze_ok {B : Nat} {cs : List Value} {es : Nat} {ex ro : Bool} {ty : TypeId} (hg : A.get B = some ⟨.cells cs, es, ex, ro, ty⟩) (hB : E.G.n ≤ B) {l : Loc} (hl : β B = some l) (o n : Nat) : Inv w0 E.G β (A.put B (some ⟨.cells cs, es, ex, true, ty⟩)) (w.freeze ⟨l.b, o, none⟩ n) := by
  obtain ⟨cur, e, fz, k1, k2, k3, k4, k5, k6, k7⟩ := inv.cont B _ l hg hl
  obtain ⟨fz', hf⟩ := freeze_at w l.b o n k1
  refine inv.writeG B l _ _ hg hl hB (freeze_grown w l.b o n) (freeze_size w l.b o n) ?_ trivial (fun cs' hz => ?_) (fun h => by cases h)
  · rw [hf]
    exact ⟨cur, e, fz', rfl, k2, k3, k4, (fun h => by cases h), k6, k7⟩
  · obtain ⟨e2, fz2, h2⟩ := inv.frz _ _ hz
    rw [k1] at h2
    cases h2
    exact ⟨_, _, hf⟩

noncomputable def ustrV (E : Env) (A : AW) (pt : TypeId) (p n : Value) : Option (Value × AW) :=
  match n with
  | .int .i64 (.ofNat m) => match p with
    | .pointer none => bs (Nat.beq m 0) (some (.string ⟨⟨[]⟩⟩, A)) none
    | .pointer (some ⟨B, o, none⟩) => bs (Nat.beq m 0) (some (.string ⟨⟨[]⟩⟩, A)) (match E.ti.get none pt, A.get B with
      | some ⟨.pointer e, _, _, _, _⟩, some ⟨.cells cs, es, ex, ro, ty⟩ => match E.ti.get none e, ltake m (ldrop o cs) with
        | some re, some q => match bytesOf q with
          | some l => bs (Nat.beq re.size 1 && Nat.beq ty e && Nat.ble E.G.n B && Nat.ble m 9223372036854775807) (some (.string ⟨⟨l⟩⟩, A.put B (some ⟨.cells cs, es, ex, true, ty⟩))) none
          | none => none
        | _, _ => none
      | _, _ => none)
    | _ => none
  | _ => none
theorem ustrV_next {pt : TypeId} {p n v : Value} {A' : AW} (h : ustrV E A pt p n = some (v, A')) : A.next ≤ A'.next := by
  unfold ustrV at h
  repeat' first
    | (replace h := bs_some h; rcases h with ⟨_, h⟩ | ⟨_, h⟩)
    | split at h
  all_goals cases h
  all_goals exact Nat.le_refl _
include ok inv in
theorem ustr_ok {pt it ty : TypeId} {p p' n n' v : Value} {A' : AW} (h : ustrV E A pt p n = some (v, A')) (hp : VRel β p p') (hn : VRel β n n') : Does w0 E.G β A ((Builtin.unsafeString_ #[pt, it] ty #[p', n']).run P w) v A' := by
  unfold ustrV at h
  split at h
  · rename_i m
    cases hn
    split at h
    · replace h := bs_some h
      rcases h with ⟨hb, h⟩ | ⟨_, h⟩
      · have hb' := Nat.eq_of_beq_eq_true hb
        subst hb'
        cases h
        cases hp
        exact ⟨β, _, w, Lib.run_unsafeString_none w pt it ty none, .string _, inv, Ren.grow_refl _ _⟩
      · cases h
    · rename_i B o
      replace h := bs_some h
      rcases h with ⟨hb, h⟩ | ⟨hb0, h⟩
      · have hb' := Nat.eq_of_beq_eq_true hb
        subst hb'
        cases h
        cases hp
        exact ⟨β, _, w, Lib.run_unsafeString_none w pt it ty _, .string _, inv, Ren.grow_refl _ _⟩
      · split at h
        · rename_i e _ _ _ _ cs es ex ro tyb hpt hg
          split at h
          · rename_i re q hre hq
            split at h
            · rename_i l hl
              replace h := bs_some h
              rcases h with ⟨hb, h⟩ | ⟨_, h⟩
              · simp only [Bool.and_eq_true] at hb
                obtain ⟨⟨⟨h1, h2⟩, h3⟩, h4⟩ := hb
                have h1' := Nat.eq_of_beq_eq_true h1
                have h2' := Nat.eq_of_beq_eq_true h2
                have h3' := Nat.le_of_ble_eq_true h3
                have h4' := Nat.le_of_ble_eq_true h4
                subst h2'
                cases h
                have hcb := bytesOf_ok hl
                cases hp with
                | ptr _ _ lc hlc =>
                  obtain ⟨ty', s1, hty, s2, _⟩ := shape_ok inv hg hlc
                  obtain rfl := (hty (fun e => by rw [e] at hre; exact ok.any _ hre)).symm
                  obtain ⟨l', hl', hlen, hat⟩ := range_rel inv (show cellsAt A B = some cs by unfold cellsAt; rw [hg]) hlc o m q hq
                  have hll : l.length = m := by rw [← hlen, hcb, Lib.byteCells_length]
                  have hcell : ∀ j x, l[j]? = some x → w.cell? ((⟨lc.b, lc.d + o, none⟩ : Addr).add j) = some (.int .u8 x.toNat) := fun j x hx => by
                    have hq2 : q[j]? = some (.int .u8 x.toNat) := by rw [hcb]; simp [Lib.byteCells, hx]
                    obtain ⟨v', hv', hr⟩ := hl'.get hq2
                    cases hr
                    rw [Addr.add_mid]
                    exact hat j _ hv'
                  have hm0 : ¬ m = 0 := fun e => by subst e; cases hb0
                  have hfit : lc.d + o + m ≤ lc.sz := by
                    rw [ldrop_eq] at hq
                    have hq2 := (ltake_eq m _ q hq).2
                    rw [List.length_drop] at hq2
                    omega
                  have hlb := Lib.run_loadBytes (P := P) w l ⟨lc.b, lc.d + o, none⟩ .empty hcell
                  rw [hll] at hlb
                  have h5 : P.cellsOf tyb = 1 := (size_of ok hre).trans h1'
                  have hlies := liesAt_off (P := P) (Nat.le_refl 1) h5 lc.sz (lc.d + o) m hfit
                  rw [Nat.mul_one] at hlies
                  have hpt' := (ok.ti pt _ hpt).1
                  refine ⟨β, .string ⟨⟨l⟩⟩, w.freeze ⟨lc.b, lc.d + o, none⟩ m, ?_, .string _, freeze_ok inv hg h3' hlc _ _, Ren.grow_refl _ _⟩
                  have hdef : Builtin.unsafeString_ #[pt, it] ty #[.pointer (some ⟨lc.b, lc.d + o, none⟩), .int .i64 (Int.ofNat m)] =
                      (do
                        let n ← asInt (.int .i64 (Int.ofNat m))
                        if n < 0 then runtimePanic (.error "unsafe.String: len out of range")
                        if n > IntKind.i64.max then unsupported (.unsafePointer "String: a length above the largest int")
                        if n = 0 then pure (.string .empty)
                        else if ← variablesAt ⟨lc.b, lc.d + o, none⟩ (← elemOf pt) n.toNat then do
                          let s ← loadBytes ⟨lc.b, lc.d + o, none⟩ .empty n.toNat
                          freeze ⟨lc.b, lc.d + o, none⟩ n.toNat
                          pure (.string s)
                        else unsupported (.unsafePointer "String: not so many bytes at ptr")) := rfl
                  rw [hdef]
                  have hmax : IntKind.i64.max = 9223372036854775807 := rfl
                  have h63' : ¬ (9223372036854775807 : Int) < (m : Int) := by omega
                  have hneg : ¬ (m : Int) < 0 := by omega
                  simp [asInt, asIntOf, hmax, h63', hneg, hm0, variablesAt, s1, elemOf, run_underlying hpt', h5, hlies, hlb]
              · cases h
            · cases h
          · cases h
        · cases h
    · cases h
  · cases h
/-! a string of bytes in memory -/
noncomputable def byteU (v : Value) : Option UInt8 := match v with | .int .u8 (.ofNat n) => bs (Nat.blt n 256) (some n.toUInt8) none | _ => none
noncomputable def bytesU (l : List Value) : Option (List UInt8) :=
  List.rec (motive := fun _ => Option (List UInt8)) (some []) (fun v _ ih => match byteU v with | some b => (match ih with | some r => some (b :: r) | none => none) | none => none) l
noncomputable def strV (E : Env) (A : AW) (s d : TypeId) (x : Value) : Option Value :=
  match E.ti.get none s, E.ti.get none d, x with
  | some ⟨.slice e, _, _, _, _⟩, some ⟨.string, _, _, _, _⟩, .slice (some ⟨B, o, none⟩) n _ => match E.ti.get none e, cellsAt A B with
    | some ⟨.int .u8, _, _, _, _⟩, some cs => match ltake n (ldrop o cs) with
      | some l => match bytesU l with
        | some r => bs (Nat.beq B TAINT) none (some (.string ⟨⟨r⟩⟩))
        | none => none
      | none => none
    | _, _ => none
  | _, _, _ => none
omit ok inv in
theorem bytesU_rel {β : Ren} : ∀ {l l' : List Value} {r : List UInt8}, bytesU l = some r → LRel β l l' → l'.length = r.length ∧ ∀ (j : Nat) (hj : j < r.length), l'[j]? = some (.int .u8 (r[j].toNat : Nat))
  | [], l', r, h, hl => by cases h; rw [hl.inv_nil]; exact ⟨rfl, fun j hj => absurd hj (Nat.not_lt_zero _)⟩
  | v :: l, l', r, h, hl => by
    have h' : (match byteU v with | some b => (match bytesU l with | some r => some (b :: r) | none => none) | none => none) = some r := h
    split at h'
    · rename_i b hb
      split at h'
      · rename_i r2 hr2
        cases h'
        obtain ⟨v', l2, rfl, hv, hl2⟩ := hl.inv_cons
        obtain ⟨h1, h2⟩ := bytesU_rel hr2 hl2
        unfold byteU at hb
        split at hb
        · rename_i n
          rcases bs_some hb with ⟨hn, hb⟩ | ⟨_, hb⟩ <;> cases hb
          have hn' : n < 256 := Nat.le_of_ble_eq_true hn
          cases hv
          refine ⟨by simp [h1], fun j hj => ?_⟩
          cases j with
          | zero => simp [Nat.mod_eq_of_lt hn']
          | succ j => simpa using h2 j (by simpa using hj)
        · cases hb
      · cases h'
    · cases h'
include ok inv in
theorem str_ok {s d : TypeId} {x x' v : Value} (h : strV E A s d x = some v) (hx : VRel β x x') : ∃ v', (convert s d x').run P w = .ok v' w ∧ VRel β v v' := by
  unfold strV at h
  split at h
  · rename_i e a1 a2 a3 a4 b1 b2 b3 b4 B o n cp hs hd
    split at h
    · rename_i c1 c2 c3 c4 cs he hcs
      split at h
      · rename_i l hl
        split at h
        · rename_i r hr
          rcases bs_some h with ⟨_, h⟩ | ⟨hT, h⟩ <;> cases h
          cases hx with
          | slice _ _ _ _ c' lc hlc hn hc hce =>
            obtain ⟨l', q1, q2, q3⟩ := range_rel inv hcs hlc o n l hl
            obtain ⟨h1, h2⟩ := bytesU_rel hr q1
            have hlen : r.length = n := by rw [← h1, ← q1.1, q2]
            have hrun := run_convert_bytes_back (P := P) w s d e ⟨lc.b, lc.d + o, none⟩ c' r (ok.ti s _ hs).1 (ok.ti e _ he).1 (ok.ti d _ hd).1 (fun j hj => by
              rw [Addr.add_mid]
              exact q3 j _ (h2 j hj))
            rw [hlen] at hrun
            exact ⟨_, hrun, .string _⟩
          | empty => exact absurd hT (by decide)
        · cases h
      · cases h
    · cases h
  · cases h
noncomputable def uptrV (E : Env) (A : AW) (s d : TypeId) (x : Value) : Option Value := match uptrV0 E A s d x with | some v => some v | none => strV E A s d x
include ok inv in
theorem uptr_ok {s d : TypeId} {x x' v : Value} (h : uptrV E A s d x = some v) (hx : VRel β x x') : ∃ v', (convert s d x').run P w = .ok v' w ∧ VRel β v v' := by
  unfold uptrV at h
  split at h
  · rename_i v0 h0
    cases h
    exact uptr_ok0 ok inv h0 hx
  · exact str_ok ok inv h hx
end
end Go.Ex
namespace Go.Ex
open Go.RowKit
section
variable {P : Program} {E : Env} (ok : E.Ok P) {w0 w : World} {β : Ren} {A : AW} (inv : Inv w0 E.G β A w)

noncomputable def mkMapV (E : Env) (A : AW) (t : TypeId) (r : Option Value) : Option (Value × AW) :=
  match r with
  | none => some (makeMapV A)
  | some (.int _ _) => match E.ti.get none t with
    | some ⟨.map _ _, _, _, _, _⟩ => some (makeMapV A)
    | _ => none
  | _ => none
theorem mkMapV_next {t : TypeId} {r : Option Value} {v : Value} {A' : AW} (h : mkMapV E A t r = some (v, A')) : A.next ≤ A'.next := by
  unfold mkMapV at h
  split at h
  · cases h; exact Nat.le_succ _
  · split at h
    · cases h; exact Nat.le_succ _
    · cases h
  · cases h
include ok inv in
theorem mkMap_ok {t : TypeId} {r r' : Option Value} {v : Value} {A' : AW} (h : mkMapV E A t r = some (v, A')) (hr : ORel β r r') : Does w0 E.G β A ((Instr.makeMap t r').run P w) v A' := by
  unfold mkMapV at h
  split at h
  · cases r' with
    | none => cases h; exact makeMap_ok inv t
    | some x => exact absurd hr (by simp [ORel])
  · rename_i k n
    cases r' with
    | none => exact absurd hr (by simp [ORel])
    | some x =>
      have hx : VRel β (.int k n) x := hr
      cases hx
      split at h
      · rename_i hti
        have hu := (ok.ti t _ hti).1
        cases h
        have := makeMap_ok (P := P) inv t
        obtain ⟨β', v', w', h1, h2⟩ := this
        refine ⟨β', v', w', ?_, h2⟩
        rw [← h1]
        simp [Instr.makeMap, run_underlying hu, asInt, asIntOf]
      · cases h
  · cases h

noncomputable def lastOf (l : List Nat) : Option Nat := List.rec (motive := fun _ => Option Nat) none (fun a _ ih => match ih with | some x => some x | none => some a) l
theorem lastOf_eq : ∀ (l : List Nat), lastOf l = l.getLast?
  | [] => rfl
  | [a] => rfl
  | a :: b :: l => by
    show (match lastOf (b :: l) with | some x => some x | none => some a) = _
    rw [lastOf_eq (b :: l), List.getLast?_cons_cons]
    rw [List.getLast?_eq_some_getLast (by simp)]
noncomputable def stampE (s : Nat) (es : List MapEntry) : Option MapEntry := List.rec (motive := fun _ => Option MapEntry) none (fun e _ ih => bs (Nat.beq e.born s) (some e) ih) es
theorem stampE_ok {s : Nat} {e : MapEntry} : ∀ {es es' : List MapEntry}, stampE s es = some e → MRel β es es' → ∃ e', es'.find? (·.born == s) = some e' ∧ ERel β e e'
  | [], es', h, _ => by cases h
  | a :: es, es', h, hm => by
    obtain ⟨a', l', rfl, h1, h2⟩ := hm.inv_cons
    have h' : bs (Nat.beq a.born s) (some a) (stampE s es) = some e := h
    replace h' := bs_some h'
    rcases h' with ⟨hb, h'⟩ | ⟨hb, h'⟩
    · cases h'
      have hb' := Nat.eq_of_beq_eq_true hb
      refine ⟨a', ?_, h1⟩
      rw [List.find?_cons_of_pos]
      rw [← h1.1, hb']; simp
    · obtain ⟨e', he', hr⟩ := stampE_ok h' h2
      refine ⟨e', ?_, hr⟩
      rw [List.find?_cons_of_neg]
      · exact he'
      · rw [← h1.1]
        intro hc
        have : a.born = s := by simpa using hc
        rw [this] at hb
        simp at hb
noncomputable def itEntV (A : AW) (it : Value) : Option Value :=
  match it with
  | .pointer (some ⟨R, 0, none⟩) => match iterAt A R with
    | some (some B, _, seen, st) => match lastOf seen, mapAt A B with
      | some s, some (es, ck) => bs (Nat.beq ck st) (match stampE s es with | some e => some (.tuple ⟨[e.key, e.val]⟩) | none => none) none
      | _, _ => none
    | _ => none
  | _ => none
theorem entry_first {r b since ck : Nat} (sn : Array Nat) (es : Array MapEntry) {s : Nat} {e' : MapEntry} (hgo : (getObj r).run P w = .ok (.mapIter (some b) since sn ck) w) (hgo2 : (getObj b).run P w = .ok (.map es ck) w) (hb : sn.back? = some s) (hf : es.find? (·.born == s) = some e') :
    (Instr.entry (.pointer (some ⟨r, 0, none⟩))).run P w = .ok (.tuple #[e'.key, e'.val]) w := by
  simp [Instr.entry, hgo, hgo2, hb, hf]
include inv in
theorem itEnt_ok {it it' v : Value} (h : itEntV A it = some v) (hi : VRel β it it') : ∃ v', (Instr.entry it').run P w = .ok v' w ∧ VRel β v v' := by
  unfold itEntV at h
  split at h
  · rename_i R
    cases hi with
    | ptr _ _ lr hlr =>
      split at h
      · rename_i B since seen st hit
        split at h
        · rename_i s es ck hs hat
          replace h := bs_some h
          rcases h with ⟨hb, h⟩ | ⟨_, h⟩
          · have hb' := Nat.eq_of_beq_eq_true hb
            subst hb'
            split at h
            · rename_i e he
              cases h
              obtain ⟨hd0, m', h1, h2⟩ := iter_rel inv hit hlr
              rcases h2 with ⟨e0, _⟩ | ⟨B2, lb, e0, hlb, rfl⟩
              · cases e0
              · cases e0
                obtain ⟨es', hheap, hmr⟩ := map_rel inv hat hlb
                obtain ⟨e', he', hr⟩ := stampE_ok he hmr
                have hgo : (getObj lr.b).run P w = .ok (.mapIter (some lb.b) since ⟨seen⟩ ck) w := by simp [getObj, Sem.run, h1]
                have hgo2 : (getObj lb.b).run P w = .ok (.map ⟨es'⟩ ck) w := by simp [getObj, Sem.run, hheap]
                have hback : (⟨seen⟩ : Array Nat).back? = some s := by rw [lastOf_eq] at hs; simpa using hs
                refine ⟨.tuple #[e'.key, e'.val], ?_, VRel.tuple_of (((LRel.nil β).cons hr.2.2).cons hr.2.1)⟩
                have he2 : (⟨es'⟩ : Array MapEntry).find? (·.born == s) = some e' := by rw [← he']; simp
                rw [hd0]
                exact entry_first _ _ hgo hgo2 hback he2
            · cases h
          · cases h
        · cases h
      · cases h
  · cases h
end
end Go.Ex
