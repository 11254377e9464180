/- A verified evaluator of Go functions on partly symbolic values, part 4 of 17. -/
import Derived.Test.YtcnhmjkmlncbhaaGreatDoorX3
import Derived.IntWalk
namespace Go.Ex
open Go.RowKit

noncomputable def lwrite (l : List Value) : Nat → List Value → List Value :=
  List.rec (motive := fun _ => Nat → List Value → List Value) (fun _ cs => cs) (fun v _ ih o cs => ih (Nat.add o 1) (lset cs o v)) l
theorem lwrite_nil (o : Nat) (cs : List Value) : lwrite [] o cs = cs := rfl
theorem lwrite_cons (v : Value) (l : List Value) (o : Nat) (cs : List Value) : lwrite (v :: l) o cs = lwrite l (o + 1) (cs.set o v) := by
  show lwrite l (o + 1) (lset cs o v) = _
  rw [lset_eq]
theorem lwrite_length (l : List Value) : ∀ (o : Nat) (cs : List Value), (lwrite l o cs).length = cs.length := by
  induction l with
  | nil => intros; rfl
  | cons v l ih => intro o cs; rw [lwrite_cons, ih]; simp
theorem lwrite_get (l : List Value) : ∀ (o : Nat) (cs : List Value) (i : Nat), o + l.length ≤ cs.length →
    (lwrite l o cs)[i]? = if o ≤ i ∧ i < o + l.length then l[i - o]? else cs[i]? := by
  induction l with
  | nil => intro o cs i _; rw [lwrite_nil, if_neg (fun e => by simp at e; omega)]
  | cons v l ih =>
    intro o cs i h
    rw [List.length_cons] at h
    rw [lwrite_cons, ih (o + 1) _ i (by simp; omega), List.length_cons]
    by_cases h1 : o + 1 ≤ i ∧ i < o + 1 + l.length
    · rw [if_pos h1, if_pos (by omega)]
      rw [show i - o = (i - (o + 1)) + 1 by omega]
      simp
    · rw [if_neg h1]
      by_cases h2 : o = i
      · subst h2
        rw [if_pos (by omega), List.getElem?_set_self (by omega)]
        simp
      · rw [if_neg (by omega), List.getElem?_set_ne h2]
theorem lwrite_rel {β : Ren} {l l' : List Value} (h : LRel β l l') : ∀ (o : Nat) {cs cs' : List Value}, LRel β cs cs' → LRel β (lwrite l o cs) (lwrite l' o cs') := by
  induction l generalizing l' with
  | nil => intro o cs cs' hc; rw [h.inv_nil]; exact hc
  | cons v l ih =>
    intro o cs cs' hc
    obtain ⟨v', r, rfl, hv, hr⟩ := h.inv_cons
    rw [lwrite_cons, lwrite_cons]
    exact ih hr (o + 1) (hc.set o hv)

/-- the cells of a value -/
noncomputable def vcells (v : Value) : Option (List Value) :=
  match v with
  | .agg ⟨l⟩ => some l
  | .chan (some (_ + 1)) => some [v]
  | .chan _ => none
  | .tuple _ => none
  | v => some [v]
noncomputable def one (v : Value) : Bool :=
  match v with
  | .agg _ => false
  | .chan (some (_ + 1)) => true
  | .chan _ => false
  | .tuple _ => false
  | _ => true
theorem rd_cell {z : Nat → Option (Array Value)} {d : D} {v : Value} (h : Rd z d v) (hc : d.cell = true) : v.cells = ⟨[v]⟩ ∧ v.oneCell' = true := by
  cases h <;> first | exact ⟨rfl, rfl⟩ | cases hc
theorem vcells_rel {β : Ren} {x x' : Value} {l : List Value} (h : vcells x = some l) (hx : VRel β x x') : ∃ l', x'.cells = ⟨l'⟩ ∧ LRel β l l' := by
  unfold vcells at h
  split at h
  · cases h
    cases hx with
    | agg _ p' hp h1 => exact ⟨p', rfl, hp, h1⟩
  · cases h
    refine ⟨[x'], ?_, LRel.cons hx (LRel.nil β)⟩
    cases hx with
    | sym c d _ h2 hc hr => exact (rd_cell hr hc).1
  · cases h
  · cases h
  · cases h
    rename_i h1 h2 h3 h4
    refine ⟨[x'], ?_, LRel.cons hx (LRel.nil β)⟩
    cases hx <;> first | rfl | exact absurd rfl (h1 _) | exact absurd rfl (h2 _) | exact absurd rfl (h3 _) | exact absurd rfl (h4 _)
theorem one_rel {β : Ren} {x x' : Value} (h : one x = true) (hx : VRel β x x') : x'.oneCell' = true := by
  cases hx with
  | sym c d _ h2 hc hr => exact (rd_cell hr hc).2
  | _ => first | rfl | cases h
theorem all_one {β : Ren} {l l' : List Value} (h : lall one l = true) (hl : LRel β l l') : ∀ v ∈ l', v.oneCell' = true := by
  intro v hv
  obtain ⟨i, hi, rfl⟩ := List.getElem_of_mem hv
  have hi2 : i < l.length := by rw [hl.1]; exact hi
  exact one_rel (lall_eq one l h l[i] (List.getElem_mem hi2)) (hl.2 i l[i] l'[i] (by simp [hi2]) (by simp [hi]))

/-! ### new blocks -/
section
variable {P : Program} {E : Env} (ok : E.Ok P) {w0 w : World} {β : Ren} {A : AW} (inv : Inv w0 E.G β A w)

/-- what an operation does, told by what the evaluator does -/
def Does (w0 : World) (G : GP) (β : Ren) (A : AW) (r : Result Value) (v : Value) (A' : AW) : Prop :=
  ∃ β' v' w', r = .ok v' w' ∧ VRel β' v v' ∧ Inv w0 G β' A' w' ∧ β.grow β' A.next

include inv in
theorem new_cells (cs : List Value) (cs' : List Value) (e : TypeId) (es : Nat) (ex : Bool) (hc : ∀ β', β.le β' → LRel β' cs cs') :
    Inv w0 E.G (β.put A.next ⟨w.heap.size, 0, es, cs'.length⟩) (A.add ⟨.cells cs, es, ex, false, e⟩) (w.alloc (.cells ⟨cs'⟩ e)) ∧ β.grow (β.put A.next ⟨w.heap.size, 0, es, cs'.length⟩) A.next := by
  have hle : β.le (β.put A.next ⟨w.heap.size, 0, es, cs'.length⟩) := inv.le_of_grow (Ren.grow_put β A.next _)
  have h := hc _ hle
  refine inv.new _ _ _ rfl ⟨⟨cs'⟩, e, (0, 0), rfl, rfl, by simp [h.1], fun i v hv => ?_, fun _ => rfl, fun _ => by simp [h.1], rfl, fun _ => rfl⟩
  obtain ⟨v', hv', hr⟩ := h.get hv
  exact ⟨v', by simpa using hv', hr⟩
theorem put_self (β : Ren) (n : Nat) (l : Loc) : (β.put n l) n = some l := by rw [Ren.put_f, if_pos rfl]

/-- a new block, and what its name is good for -/
def Fresh (β : Ren) (w : World) (N : Nat) (r : Result Value) (v : Value) (cs : List Value) (es : Nat) (e : TypeId) : Prop :=
  ∃ cs' v', r = .ok v' (w.alloc (.cells ⟨cs'⟩ e)) ∧ LRel β cs cs' ∧ ∀ β' : Ren, β' N = some ⟨w.heap.size, 0, es, cs'.length⟩ → VRel β' v v'
include inv in
theorem Fresh.does {r : Result Value} {v : Value} {cs : List Value} {es : Nat} {e : TypeId} (h : Fresh β w A.next r v cs es e) : Does w0 E.G β A r v (A.add ⟨.cells cs, es, true, false, e⟩) := by
  obtain ⟨cs', v', h1, h2, h3⟩ := h
  obtain ⟨g1, g2⟩ := new_cells inv cs cs' e es true (fun β' hb => h2.mono hb)
  exact ⟨_, v', _, h1, h3 _ (put_self _ _ _), g1, g2⟩

noncomputable def allocV (E : Env) (A : AW) (t : TypeId) : Option (Value × AW) :=
  match E.ti.get none t with
  | some r => bs r.zok (some (.pointer (some ⟨A.next, 0, none⟩), A.add ⟨.cells (lmap san1 r.zero), 1, true, false, t⟩)) none
  | none => none
include ok in
theorem alloc_fr {t : TypeId} {v : Value} {A' : AW} (h : allocV E A t = some (v, A')) (β : Ren) (w : World) : ∃ cs es e, A' = A.add ⟨.cells cs, es, true, false, e⟩ ∧ Fresh β w A.next ((Instr.alloc t true (.tuple #[])).run P w) v cs es e := by
  unfold allocV at h
  split at h
  · rename_i r hr
    replace h := bs_some h
    rcases h with ⟨hz, h⟩ | ⟨_, h⟩
    · cases h
      obtain ⟨_, i, hi, _, _, hz2⟩ := ok.ti t r hr
      obtain ⟨z, hz3, hz4⟩ := hz2 hz
      refine ⟨_, _, _, rfl, r.zero, .pointer (some ⟨w.heap.size, 0 + 0, none⟩), ?_, lmap_san1 β _, fun β' hN => .ptr A.next 0 _ hN⟩
      simp [Instr.alloc, zeroValue, typeInfo, hi, hz3, newVar, newRow, hz4]
    · cases h
  · cases h
include ok inv in
theorem alloc_ok {t : TypeId} {v : Value} {A' : AW} (h : allocV E A t = some (v, A')) : Does w0 E.G β A ((Instr.alloc t true (.tuple #[])).run P w) v A' := by
  obtain ⟨cs, es, e, rfl, hf⟩ := alloc_fr ok h β w
  exact Fresh.does inv hf

noncomputable def boxV (A : AW) (t : TypeId) (x : Value) : Option (Value × AW) :=
  match vcells x with
  | some l => some (.pointer (some ⟨A.next, 0, none⟩), A.add ⟨.cells l, 1, true, false, t⟩)
  | none => none
theorem box_fr {t : TypeId} {x x' v : Value} {A' : AW} (h : boxV A t x = some (v, A')) (hx : VRel β x x') (w : World) : ∃ cs es e, A' = A.add ⟨.cells cs, es, true, false, e⟩ ∧ Fresh β w A.next ((Instr.box t x').run P w) v cs es e := by
  unfold boxV at h
  split at h
  · rename_i l hl
    cases h
    obtain ⟨l', hc, hr⟩ := vcells_rel hl hx
    refine ⟨_, _, _, rfl, l', .pointer (some ⟨w.heap.size, 0 + 0, none⟩), ?_, hr, fun β' hN => .ptr A.next 0 _ hN⟩
    simp [Instr.box, newVar, newRow, hc]
  · cases h
include inv in
theorem box_ok {t : TypeId} {x x' v : Value} {A' : AW} (h : boxV A t x = some (v, A')) (hx : VRel β x x') : Does w0 E.G β A ((Instr.box t x').run P w) v A' := by
  obtain ⟨cs, es, e, rfl, hf⟩ := box_fr h hx w
  exact Fresh.does inv hf

/-! ### composite values -/
noncomputable def fillA (place : Nat → Option (Nat × Nat)) (ps : List (Nat × Value)) : List Value → Option (List Value) :=
  List.rec (motive := fun _ => List Value → Option (List Value)) (fun cs => some cs)
    (fun p _ ih cs => match place p.1, vcells p.2 with
      | some (off, size), some l => bs (Nat.beq (llen l) size && Nat.ble (Nat.add off (llen l)) (llen cs)) (ih (lwrite l off cs)) none
      | _, _ => none) ps
def PRel (β : Ren) : List (Nat × Value) → List (Nat × Value) → Prop
  | [], [] => True
  | p :: ps, q :: qs => p.1 = q.1 ∧ VRel β p.2 q.2 ∧ PRel β ps qs
  | _, _ => False
theorem foldl_lwrite (off : Nat) : ∀ (l : List Value) (k : Nat) (cs : List Value), (l.zipIdx k).foldl (fun (cs : Array Value) (p : Value × Nat) => cs.setIfInBounds (off + p.2) p.1) ⟨cs⟩ = ⟨lwrite l (off + k) cs⟩
  | [], _, _ => rfl
  | v :: l, k, cs => by
    rw [List.zipIdx_cons, List.foldl_cons, lwrite_cons]
    have : (⟨cs⟩ : Array Value).setIfInBounds (off + k) v = ⟨cs.set (off + k) v⟩ := by
      apply Array.ext'
      simp
    simp only [this]
    rw [foldl_lwrite off l (k + 1)]
    rfl
theorem fill_ok {β : Ren} {place place' : Nat → Option (Nat × Nat)} (hp : ∀ i p, place i = some p → place' i = some p) : ∀ (ps qs : List (Nat × Value)) (cs cs' r : List Value), fillA place ps cs = some r → PRel β ps qs → LRel β cs cs' →
    ∃ r', Instr.fill place' ⟨cs'⟩ qs = some ⟨r'⟩ ∧ LRel β r r'
  | [], qs, cs, cs', r, h, hq, hc => by
    cases qs with
    | nil => cases h; exact ⟨cs', rfl, hc⟩
    | cons _ _ => exact hq.elim
  | p :: ps, qs, cs, cs', r, h, hq, hc => by
    cases qs with
    | nil => exact hq.elim
    | cons q qs =>
      obtain ⟨i, x⟩ := p
      obtain ⟨i', x'⟩ := q
      obtain ⟨hi, hx, hrest⟩ := hq
      have hi' : i = i' := hi
      subst hi'
      have h' : (match place i, vcells x with
        | some (off, size), some l => bs (Nat.beq (llen l) size && Nat.ble (Nat.add off (llen l)) (llen cs)) (fillA place ps (lwrite l off cs)) none
        | _, _ => none) = some r := h
      clear h
      split at h'
      · rename_i off size l hpl hvc
        replace h' := bs_some h'
        rcases h' with ⟨hb, h'⟩ | ⟨_, h'⟩
        · rw [Bool.and_eq_true, llen_eq, llen_eq] at hb
          have hsz : l.length = size := Nat.eq_of_beq_eq_true hb.1
          have hle : off + l.length ≤ cs.length := Nat.le_of_ble_eq_true hb.2
          obtain ⟨l', hl', hlr⟩ := vcells_rel hvc hx
          obtain ⟨r', hr', hrr⟩ := fill_ok hp ps qs (lwrite l off cs) (lwrite l' off cs') r h' hrest (lwrite_rel hlr off hc)
          refine ⟨r', ?_, hrr⟩
          have hfold := foldl_lwrite off l' 0 cs'
          rw [Nat.add_zero] at hfold
          have hfold2 : (⟨l'⟩ : Array Value).zipIdx.foldl (fun (cs : Array Value) (p : Value × Nat) => cs.setIfInBounds (off + p.2) p.1) ⟨cs'⟩ = ⟨lwrite l' off cs'⟩ := by
            rw [← hfold, ← Array.foldl_toList]
            simp
          have hl1 := hlr.1
          have hc1 := hc.1
          unfold Instr.fill
          simp only [hp _ _ hpl, hl']
          rw [if_neg (by simp; omega)]
          exact (congrArg (fun z => Instr.fill place' z qs) hfold2).trans hr'
        · cases h'
      · cases h'

noncomputable def placeS (E : Env) (fs : List Field) (i : Nat) : Option (Nat × Nat) :=
  match nth fs i with
  | some fd => match E.ti.get none fd.type with | some r => some (fd.offset, r.size) | none => none
  | none => none
noncomputable def known (E : Env) (fd : Field) : Bool := match E.ti.get none fd.type with | some _ => true | none => false
noncomputable def buildV (E : Env) (t : TypeId) (ps : List (Nat × Value)) : Option Value :=
  match E.ti.get none t with
  | some ⟨.struct ⟨fs⟩, _, _, z, true⟩ => bs (lall (known E) fs) (match fillA (placeS E fs) ps (lmap san1 z) with | some r => some (.agg ⟨r⟩) | none => none) none
  | some ⟨.array _ e, _, _, z, true⟩ => match E.ti.get none e with
    | some re => match fillA (fun i => some (Nat.mul i re.size, re.size)) ps (lmap san1 z) with | some r => some (.agg ⟨r⟩) | none => none
    | none => none
  | _ => none
include ok in
theorem places_ok : ∀ (fs : List Field), (∀ fd ∈ fs, known E fd = true) → ∃ pl, fs.mapM (fun f => (P.info? f.type).map fun i => (f.offset, i.size)) = some pl ∧ ∀ i p, placeS E fs i = some p → pl[i]? = some p
  | [], _ => ⟨[], rfl, fun i p h => by unfold placeS at h; rw [nth_eq] at h; simp at h⟩
  | fd :: fs, hk => by
    obtain ⟨pl, h1, h2⟩ := places_ok fs (fun x hx => hk x (List.mem_cons_of_mem _ hx))
    have hk1 := hk fd List.mem_cons_self
    unfold known at hk1
    split at hk1
    · rename_i r hr
      obtain ⟨_, i, hi, hs, _⟩ := ok.ti fd.type r hr
      refine ⟨(fd.offset, i.size) :: pl, by simp [List.mapM_cons, hi, h1], fun j p hj => ?_⟩
      cases j with
      | zero =>
        unfold placeS at hj
        rw [nth_eq] at hj
        simp only [List.getElem?_cons_zero, hr] at hj
        cases hj
        simp [hs]
      | succ j =>
        unfold placeS at hj
        rw [nth_eq] at hj
        simp only [List.getElem?_cons_succ] at hj ⊢
        refine h2 j p ?_
        unfold placeS
        rw [nth_eq]
        exact hj
    · cases hk1
include ok in
theorem build_ok {t : TypeId} {ps qs : List (Nat × Value)} {v : Value} (h : buildV E t ps = some v) (hq : PRel β ps qs) (w : World) : ∃ v', (Instr.build t ⟨qs⟩).run P w = .ok v' w ∧ VRel β v v' := by
  unfold buildV at h
  split at h
  · rename_i fs _ _ z hr
    obtain ⟨hu, i, hi, _, _, hz⟩ := ok.ti t _ hr
    obtain ⟨z', hz1, hz2⟩ := hz rfl
    replace h := bs_some h
    rcases h with ⟨hk, h⟩ | ⟨_, h⟩
    · obtain ⟨pl, hpl, hpl2⟩ := places_ok (P := P) (E := E) ok fs (lall_eq _ _ hk)
      split at h
      · rename_i r hfill
        cases h
        obtain ⟨r', hr', hrr⟩ := fill_ok (β := β) (place' := (pl.toArray[·]?)) (fun j p hj => by simpa using hpl2 j p hj) ps qs _ z r hfill hq (lmap_san1 β z)
        refine ⟨.agg ⟨r'⟩, run_build w t ⟨qs⟩ ⟨r'⟩ ?_, VRel.agg_of hrr⟩
        unfold Program.built
        simp only [hi, hu, hz1, hpl, hz2]
        exact hr'
      · cases h
    · cases h
  · rename_i n e _ _ z hr
    obtain ⟨hu, i, hi, _, _, hz⟩ := ok.ti t _ hr
    obtain ⟨z', hz1, hz2⟩ := hz rfl
    split at h
    · rename_i re hre
      obtain ⟨_, ie, hie, hse, _⟩ := ok.ti e re hre
      split at h
      · rename_i r hfill
        cases h
        obtain ⟨r', hr', hrr⟩ := fill_ok (β := β) (place' := fun i => some (i * ie.size, ie.size)) (fun j p hj => by rw [hse]; exact hj) ps qs _ z r hfill hq (lmap_san1 β z)
        refine ⟨.agg ⟨r'⟩, run_build w t ⟨qs⟩ ⟨r'⟩ ?_, VRel.agg_of hrr⟩
        unfold Program.built
        simp only [hi, hu, hz1, hie, hz2]
        exact hr'
      · cases h
    · cases h
  · cases h
end
end Go.Ex
namespace Go.Ex
open Go.RowKit

noncomputable def lgen {α : Type} (f : Nat → α) (n : Nat) : List α → List α := Nat.rec (motive := fun _ => List α → List α) (fun acc => acc) (fun m ih acc => ih (f m :: acc)) n
theorem lgen_eq {α : Type} (f : Nat → α) : ∀ (n : Nat) (acc : List α), lgen f n acc = (List.range n).map f ++ acc
  | 0, acc => rfl
  | n + 1, acc => by
    show lgen f n (f n :: acc) = _
    rw [lgen_eq f n, List.range_succ]
    simp
section
variable {P : Program} {E : Env} (ok : E.Ok P) {w0 w : World} {β : Ren} {A : AW} (inv : Inv w0 E.G β A w)

/-! slice literals -/
noncomputable def buildSliceV (E : Env) (A : AW) (t : TypeId) (len : Nat) (ps : List (Nat × Value)) : Option (Value × AW) :=
  match E.ti.get none t with
  | some ⟨.slice e, _, _, _, _⟩ => match E.ti.get none e with
    | some re => bs (Nat.ble (Nat.mul len re.size) 16777216 && re.zok) (match fillA (fun i => some (Nat.mul i re.size, re.size)) ps (lgen (fun _ => J) (Nat.mul len re.size) []) with
      | some r => some (.slice (some ⟨A.next, 0, none⟩) len len, A.add ⟨.cells r, re.size, true, false, e⟩)
      | none => none) none
    | none => none
  | _ => none
theorem fillA_length {place : Nat → Option (Nat × Nat)} : ∀ (ps : List (Nat × Value)) (cs r : List Value), fillA place ps cs = some r → r.length = cs.length
  | [], cs, r, h => by cases h; rfl
  | p :: ps, cs, r, h => by
    have h' : (match place p.1, vcells p.2 with
        | some (off, size), some l => bs (Nat.beq (llen l) size && Nat.ble (Nat.add off (llen l)) (llen cs)) (fillA place ps (lwrite l off cs)) none
        | _, _ => none) = some r := h
    clear h
    split at h'
    · replace h' := bs_some h'
      rcases h' with ⟨_, h'⟩ | ⟨_, h'⟩
      · rw [fillA_length ps _ r h', lwrite_length]
      · cases h'
    · cases h'
include ok in
theorem buildSlice_fr {t : TypeId} {len : Nat} {ps qs : List (Nat × Value)} {v : Value} {A' : AW} (h : buildSliceV E A t len ps = some (v, A')) (hq : PRel β ps qs) (w : World) : ∃ cs es e, A' = A.add ⟨.cells cs, es, true, false, e⟩ ∧ Fresh β w A.next ((Instr.buildSlice t len ⟨qs⟩).run P w) v cs es e := by
  unfold buildSliceV at h
  split at h
  · rename_i e _ _ _ _ hr
    split at h
    · rename_i re hre
      replace h := bs_some h
      rcases h with ⟨hb, h⟩ | ⟨_, h⟩
      · rw [Bool.and_eq_true] at hb
        have hle : len * re.size ≤ 16777216 := Nat.le_of_ble_eq_true hb.1
        split at h
        · rename_i r hfill
          cases h
          have hu := (ok.ti t _ hr).1
          obtain ⟨_, ie, hie, hse, _, hz⟩ := ok.ti e re hre
          obtain ⟨z, hz1, hz2⟩ := hz hb.2
          obtain ⟨C, hC⟩ : ∃ C : List Value, ((Array.range (len * re.size)).map (fun x => (if len * re.size = 0 then #[] else (⟨re.zero⟩ : Array Value))[x % (if len * re.size = 0 then #[] else (⟨re.zero⟩ : Array Value)).size]!)) = ⟨C⟩ := ⟨_, rfl⟩
          have hCl : C.length = len * re.size := by have := congrArg Array.size hC; simpa using this.symm
          have hlg : (lgen (fun _ => J) (Nat.mul len re.size) []).length = len * re.size := by rw [lgen_eq]; simp
          have hJ : LRel β (lgen (fun _ => J) (Nat.mul len re.size) []) C := by
            refine ⟨by rw [hlg, hCl], fun i a b ha hb => ?_⟩
            rw [lgen_eq, List.append_nil, List.getElem?_map] at ha
            cases hq : (List.range (Nat.mul len re.size))[i]? with
            | none => rw [hq] at ha; cases ha
            | some j => rw [hq] at ha; cases ha; exact .junk _
          obtain ⟨r', hr', hrr⟩ := fill_ok (β := β) (place' := fun i => some (i * re.size, re.size)) (fun j p hj => hj) ps qs _ C r hfill hq hJ
          have hlen : r'.length = len * re.size := by rw [← hrr.1, fillA_length ps _ r hfill, hlg]
          refine ⟨_, _, _, rfl, r', .slice (some ⟨w.heap.size, 0 + 0, none⟩) len len, ?_, hrr, fun β' hN => .slice A.next 0 len len len _ hN (Nat.le_refl _) (Nat.le_refl _) (by simp [hlen])⟩
          have hno : ¬ (2 ^ 24 : Nat) < len * re.size := by omega
          by_cases h0 : len * re.size = 0
          · rw [if_pos h0] at hC
            simp only [h0] at hC
            simp [Instr.buildSlice, run_underlying hu, run_size ok hre, hno, h0]
            simp at hC
            rw [hC]
            simp [hr', newRow]
          · rw [if_neg h0] at hC
            simp [Instr.buildSlice, run_underlying hu, run_size ok hre, hno, h0, zeroValue, typeInfo, hie, hz1, hz2]
            simp at hC
            rw [hC]
            simp [hr', newRow]
        · cases h
      · cases h
    · cases h
  · cases h

include ok inv in
theorem buildSlice_ok {t : TypeId} {len : Nat} {ps qs : List (Nat × Value)} {v : Value} {A' : AW} (h : buildSliceV E A t len ps = some (v, A')) (hq : PRel β ps qs) : Does w0 E.G β A ((Instr.buildSlice t len ⟨qs⟩).run P w) v A' := by
  obtain ⟨cs, es, e, rfl, hf⟩ := buildSlice_fr ok h hq w
  exact Fresh.does inv hf

/-! make -/
noncomputable def natOf (x : Value) : Option Nat := match x with | .int .i64 (.ofNat n) => some n | _ => none
noncomputable def makeSliceV (E : Env) (A : AW) (t : TypeId) (l c : Value) : Option (Value × AW) :=
  match E.ti.get none t, natOf l, natOf c with
  | some ⟨.slice e, _, _, _, _⟩, some l, some c => match E.ti.get none e with
    | some re => bs (re.zok && Nat.beq (llen re.zero) re.size && Nat.ble l c && Nat.ble c 9223372036854775807 && Nat.ble (Nat.mul c re.bytes) 140737488355328)
      (some (.slice (some ⟨A.next, 0, none⟩) l c, A.add ⟨.cells (lgen (fun i => match nth re.zero (Nat.mod i re.size) with | some v => san1 v | none => J) (Nat.mul c re.size) []), re.size, true, false, e⟩)) none
    | none => none
  | _, _, _ => none
theorem natOf_ok {x x' : Value} {n : Nat} (h : natOf x = some n) (hx : VRel β x x') : x' = .int .i64 (n : Int) := by
  unfold natOf at h
  split at h
  · cases h; cases hx; rfl
  · cases h
include ok in
theorem makeSlice_fr {t : TypeId} {l c l' c' v : Value} {A' : AW} (h : makeSliceV E A t l c = some (v, A')) (hl : VRel β l l') (hc : VRel β c c') (w : World) : ∃ cs es e, A' = A.add ⟨.cells cs, es, true, false, e⟩ ∧ Fresh β w A.next ((Instr.makeSlice t l' c').run P w) v cs es e := by
  unfold makeSliceV at h
  split at h
  · rename_i e _ _ _ _ ln cn hr hln hcn
    split at h
    · rename_i re hre
      replace h := bs_some h
      rcases h with ⟨hb, h⟩ | ⟨_, h⟩
      · simp only [Bool.and_eq_true] at hb
        obtain ⟨⟨⟨⟨hzok, hzl⟩, hlc⟩, hc63⟩, hby⟩ := hb
        have hzl' := Nat.eq_of_beq_eq_true hzl
        rw [llen_eq] at hzl'
        have hlc' := Nat.le_of_ble_eq_true hlc
        have hc63' := Nat.le_of_ble_eq_true hc63
        have hby' : cn * re.bytes ≤ 140737488355328 := Nat.le_of_ble_eq_true hby
        cases h
        have hu := (ok.ti t _ hr).1
        obtain ⟨_, ie, hie, hse, hbe, hz⟩ := ok.ti e re hre
        obtain ⟨z, hz1, hz2⟩ := hz hzok
        have e1 := natOf_ok hln hl
        have e2 := natOf_ok hcn hc
        subst e1 e2
        obtain ⟨C, hC⟩ : ∃ C : List Value, ((Array.range (cn * re.size)).map (fun x => (if cn * re.size = 0 then #[] else (⟨re.zero⟩ : Array Value))[x % (if cn * re.size = 0 then #[] else (⟨re.zero⟩ : Array Value)).size]!)) = ⟨C⟩ := ⟨_, rfl⟩
        have hCl : C.length = cn * re.size := by have := congrArg Array.size hC; simpa using this.symm
        have hrel : ∀ β', LRel β' (lgen (fun i => match nth re.zero (Nat.mod i re.size) with | some v => san1 v | none => J) (Nat.mul cn re.size) []) C := fun β' => by
          rw [lgen_eq, List.append_nil]
          refine ⟨by rw [List.length_map, List.length_range]; exact hCl.symm, fun i a b ha hb => ?_⟩
          have hi : i < cn * re.size := by rw [← hCl]; exact (List.getElem?_eq_some_iff.1 hb).1
          have h0 : ¬ cn * re.size = 0 := by omega
          rw [List.getElem?_map, show Nat.mul cn re.size = cn * re.size from rfl, List.getElem?_range hi] at ha
          simp only [Option.map_some, Option.some.injEq] at ha
          have hsz : 0 < re.size := by rcases Nat.eq_zero_or_pos re.size with e | e; · rw [e] at hi; omega
                                       · exact e
          have hm : i % re.size < re.zero.length := by rw [hzl']; exact Nat.mod_lt _ hsz
          have hCi : C[i]? = some (re.zero[i % re.size]) := by
            have h2 := congrArg (fun a : Array Value => a[i]?) hC
            simp only [if_neg h0] at h2
            rw [Array.getElem?_map, Array.getElem?_range] at h2
            rw [if_pos hi] at h2
            simp only [Option.map_some, List.size_toArray, hzl'] at h2
            rw [show C[i]? = (⟨C⟩ : Array Value)[i]? by simp, ← h2]
            simp [hm]
          rw [hCi] at hb
          cases hb
          rw [← ha]
          have : nth re.zero (Nat.mod i re.size) = some re.zero[i % re.size] := by rw [nth_eq]; show re.zero[i % re.size]? = _; simp [hm]
          rw [this]
          exact san1_rel β' _
        refine ⟨_, _, _, rfl, C, .slice (some ⟨w.heap.size, 0 + 0, none⟩) ln cn, ?_, hrel β, fun β' hN => .slice A.next 0 ln cn cn _ hN hlc' (Nat.le_refl _) (by simp [hCl])⟩
        have w1 : IntKind.i64.wrap (ln : Int) = (ln : Int) := IntWalk.i64_in _ (by omega)
        have w2 : IntKind.i64.wrap (cn : Int) = (cn : Int) := IntWalk.i64_in _ (by omega)
        have hb2 : ¬ ((281474976710656 : Int) < (re.bytes : Int) * (cn : Int)) := by
          have h5 : ((cn * re.bytes : Nat) : Int) ≤ 140737488355328 := by omega
          rw [Int.natCast_mul, Int.mul_comm] at h5
          omega
        have hroom : ¬ roomBytes < cn * re.bytes := by rw [show roomBytes = 140737488355328 from rfl]; omega
        have hneg : ¬ ((cn : Int) < 0) := by omega
        have hneg2 : ¬ ((ln : Int) < 0) := by omega
        have hlc2 : ¬ ((cn : Int) < (ln : Int)) := by omega
        by_cases h0 : cn * re.size = 0
        · rw [if_pos h0] at hC
          simp [Instr.makeSlice, run_underlying hu, asInt, asIntOf, typeInfo, hie, hbe, w1, w2, hb2, hneg, hneg2, hlc2, askRoom, hroom, run_size ok hre, h0, newRow]
          simp [h0] at hC
          rw [hC]
        · rw [if_neg h0] at hC
          simp [Instr.makeSlice, run_underlying hu, asInt, asIntOf, typeInfo, hie, hbe, w1, w2, hb2, hneg, hneg2, hlc2, askRoom, hroom, run_size ok hre, h0, newRow, zeroValue, hz1, hz2]
          simp at hC
          rw [hC]
      · cases h
    · cases h
  · cases h
include ok inv in
theorem makeSlice_ok {t : TypeId} {l c l' c' v : Value} {A' : AW} (h : makeSliceV E A t l c = some (v, A')) (hl : VRel β l l') (hc : VRel β c c') : Does w0 E.G β A ((Instr.makeSlice t l' c').run P w) v A' := by
  obtain ⟨cs, es, e, rfl, hf⟩ := makeSlice_fr ok h hl hc w
  exact Fresh.does inv hf
end
end Go.Ex
namespace Go.Ex
open Go.RowKit
section
variable {P : Program} {E : Env} (ok : E.Ok P) {w0 w : World} {β : Ren} {A : AW} (inv : Inv w0 E.G β A w)

theorem grownBy_setRow (w : World) (g : Nat) (cs : Array Value) : w.grownBy (w.setRow g cs) (some g) :=
  ⟨rfl, rfl, rfl, by simp, fun k _ hk => setRow_other w g k cs (fun e => hk (by rw [e]))⟩

/-- a list of cells with a part written anew -/
theorem spliced (cur : Array Value) (o : Nat) (vs : List Value) (h : o + vs.length ≤ cur.size) (j : Nat) :
    ((cur.toList.take o ++ vs ++ cur.toList.drop (o + vs.length)).toArray)[j]? = if o ≤ j ∧ j < o + vs.length then vs[j - o]? else cur[j]? := by
  have hsz : (cur.toList.take o).length = o := by simp; omega
  rw [List.getElem?_toArray, List.append_assoc]
  by_cases h1 : j < o
  · rw [List.getElem?_append_left (by omega), if_neg (by omega), List.getElem?_take, if_pos h1, Array.getElem?_toList]
  · rw [List.getElem?_append_right (by omega), hsz]
    by_cases h2 : j < o + vs.length
    · rw [List.getElem?_append_left (by omega), if_pos (by omega)]
    · rw [List.getElem?_append_right (by omega), if_neg (by omega), List.getElem?_drop, Array.getElem?_toList]
      congr 1
      omega
theorem spliced_size (cur : Array Value) (o : Nat) (vs : List Value) (h : o + vs.length ≤ cur.size) : ((cur.toList.take o ++ vs ++ cur.toList.drop (o + vs.length)).toArray).size = cur.size := by
  simp; omega

include inv in
theorem write_ok {B : Nat} {cs : List Value} {es : Nat} {ex : Bool} {ty : TypeId} (hg : A.get B = some ⟨.cells cs, es, ex, false, ty⟩) (hB : E.G.n ≤ B) {l : Loc} (hl : β B = some l) {o : Nat} {vs vs' : List Value} (hv : LRel β vs vs') (hlen : o + vs.length ≤ cs.length)
    (h1 : ∀ v ∈ vs', v.oneCell' = true) : ∃ w', (storeCells ⟨l.b, l.d + o, none⟩ vs' 0).run P w = .ok () w' ∧ Inv w0 E.G β (A.put B (some ⟨.cells (lwrite vs o cs), es, ex, false, ty⟩)) w' := by
  obtain ⟨cur, e, fz, k1, k2, k3, k4, k5, k6, k7⟩ := inv.cont B _ l hg hl
  obtain rfl := k5 rfl
  have hv1 := hv.1
  have hfit : l.d + o + 0 + vs'.length ≤ cur.size := by omega
  have hst := run_storeCells_at (P := P) l.b (l.d + o) e vs' 0 cur w k1 hfit h1
  rw [Nat.add_zero] at hst
  refine ⟨_, hst, inv.write B l _ _ hg hl hB (grownBy_setRow w l.b _) (by simp) ?_⟩
  rw [setRow_heap w l.b cur _ e (0, 0) k1]
  refine ⟨_, e, (0, 0), rfl, by rw [spliced_size _ _ _ (by omega)]; exact k2, by rw [lwrite_length]; exact k3, fun i v hi => ?_, fun _ => rfl, fun hx => by rw [lwrite_length]; exact k6 hx, k7⟩
  rw [lwrite_get vs o cs i hlen] at hi
  rw [spliced _ _ _ (by omega)]
  by_cases hin : o ≤ i ∧ i < o + vs.length
  · rw [if_pos hin] at hi
    rw [if_pos (by omega), show l.d + i - (l.d + o) = i - o by omega]
    exact hv.get hi
  · rw [if_neg hin] at hi
    rw [if_neg (by omega)]
    exact k4 i v hi

noncomputable def storeV (E : Env) (A : AW) (t : TypeId) (a x : Value) : Option AW :=
  match a with
  | .pointer (some ⟨B, o, none⟩) =>
    match E.ti.get none t, vcells x, A.get B with
    | some r, some l, some ⟨.cells cs, es, ex, false, ty⟩ =>
      bs (lall one l && Nat.beq (llen l) r.size && Nat.ble E.G.n B && Nat.ble (Nat.add o (llen l)) (llen cs)) (some (A.put B (some ⟨.cells (lwrite l o cs), es, ex, false, ty⟩))) none
    | _, _, _ => none
  | _ => none
include ok inv in
theorem store_ok {t : TypeId} {a a' x x' : Value} {A' : AW} (h : storeV E A t a x = some A') (ha : VRel β a a') (hx : VRel β x x') : ∃ w', (Instr.storeAt t a' x').run P w = .ok () w' ∧ Inv w0 E.G β A' w' := by
  unfold storeV at h
  split at h
  · rename_i B o
    split at h
    · rename_i r l cs es ex ty hr hvc hg
      replace h := bs_some h
      rcases h with ⟨hb, h⟩ | ⟨_, h⟩
      · simp only [Bool.and_eq_true, llen_eq] at hb
        obtain ⟨⟨⟨hone, hsz⟩, hG⟩, hle⟩ := hb
        have hsz' := Nat.eq_of_beq_eq_true hsz
        have hG' := Nat.le_of_ble_eq_true hG
        have hle' : o + l.length ≤ cs.length := Nat.le_of_ble_eq_true hle
        cases h
        cases ha with
        | ptr _ _ lc hlc =>
          obtain ⟨l', hl', hlr⟩ := vcells_rel hvc hx
          obtain ⟨w', hrun, hinv⟩ := write_ok (P := P) inv hg hG' hlc hlr hle' (all_one hone hlr)
          refine ⟨w', ?_, hinv⟩
          have h5 : l'.length = r.size := by rw [← hlr.1, hsz']
          simp [Instr.storeAt, Instr.sureAddr, storeVar, run_size ok hr, hl', h5, hrun]
      · cases h
    · cases h
  · cases h

/-! ### append -/

/-- a block that nothing known leads to any more is named anew -/
theorem Inv.adopt (h : Inv w0 E.G β A w) {w' : World} (l : Loc) (blk : Blk) (hl1 : l.b < w.heap.size) (hl2 : w0.heap.size ≤ l.b ∨ β.x l.b) (hz : β.z l.b = none) (hno : ∀ C lc, β C = some lc → lc.b = l.b → A.get C = none)
    (hw : w.grownBy w' (some l.b)) (hsz : w'.heap.size = w.heap.size) (hb : BRel (β.put A.next l) l blk w'.heap[l.b]?) (hp : Plain blk := by intro c h; cases h) :
    Inv w0 E.G (β.put A.next l) (A.add blk) w' ∧ β.grow (β.put A.next l) A.next := by
  have hle : β.le (β.put A.next l) := h.le_of_grow (Ren.grow_put β A.next l)
  have hn : A.get A.next = none := h.nxt _ (Nat.le_refl _)
  have hput : ∀ B lb, β.put A.next l B = some lb → (B = A.next ∧ lb = l) ∨ (B ≠ A.next ∧ β B = some lb) := fun B lb e => by
    rw [Ren.put_f] at e
    split at e
    · cases e; exact .inl ⟨by assumption, rfl⟩
    · exact .inr ⟨by assumption, e⟩
  have old : ∀ B, B ≠ A.next → (A.add blk).get B = A.get B := fun B hB => by
    rcases A.get_add blk hn B with ⟨_, e⟩ | e
    · exact absurd e hB
    · exact e
  refine ⟨⟨h.below.grown hw hl2, fun B lb e => ?_, fun B hB => ?_, fun B lb e => ?_, fun B B' lb lb' e e' hbb ha ha' => ?_, fun B k lb hk e => ?_, fun g hg => ?_,
    fun b cs e => grown_frz hw (fun e2 => by have e' : β.z b = some cs := e; rw [e2, hz] at e'; cases e') (h.frz b cs e), fun B lb kb hG e ha hs => ?_, h.nds, fun B k hk => ?_, fun B v e => Nat.lt_succ_of_lt (h.odom B v e), h.lay, h.xg, h.gsz, h.zo⟩, Ren.grow_put β A.next l⟩
  · show B < A.next + 1
    rcases hput B lb e with ⟨e1, _⟩ | ⟨_, e⟩
    · omega
    · exact Nat.lt_succ_of_lt (h.dom B lb e)
  · have hB' : A.next + 1 ≤ B := hB
    rw [old B (by omega)]
    exact h.nxt B (by omega)
  · rw [hsz]
    rcases hput B lb e with ⟨_, e2⟩ | ⟨_, e⟩
    · rw [e2]; exact ⟨hl1, .inr hl2⟩
    · exact h.loc B lb e
  · rcases hput B lb e with ⟨h1, h2⟩ | ⟨hB, f⟩ <;> rcases hput B' lb' e' with ⟨h1', h2'⟩ | ⟨hB', f'⟩
    · rw [h1, h1']
    · rw [h2] at hbb; rw [old B' hB', hno B' lb' f' hbb.symm] at ha'; cases ha'
    · rw [h2'] at hbb; rw [old B hB, hno B lb f hbb] at ha; cases ha
    · rw [old B hB] at ha; rw [old B' hB'] at ha'; exact h.inj B B' lb lb' f f' hbb ha ha'
  · rcases hput B lb e with ⟨h1, h2⟩ | ⟨hB, f⟩
    · rw [h1] at hk
      rw [h2]
      rcases A.get_add blk hn A.next with ⟨e2, _⟩ | e2
      · rw [e2] at hk; cases hk; exact hb
      · rw [e2, hn] at hk; cases hk
    · rw [old B hB] at hk
      have hne : lb.b ≠ l.b := fun e3 => by rw [hno B lb f e3] at hk; cases hk
      rw [hw.block lb.b (h.loc B lb f).1 (fun e3 => hne (Option.some.inj e3))]
      exact (h.cont B k lb hk f).mono hle
  · obtain ⟨lg, a, b, c⟩ := h.glob g hg
    exact ⟨lg, hle.f _ _ a, b, c⟩
  · rcases hput B lb e with ⟨_, h2⟩ | ⟨hB, f⟩
    · rw [h2]; exact hz
    · rw [old B hB] at ha; exact h.sep B lb kb hG f ha hs
  · rcases A.get_add blk hn B with ⟨e2, _⟩ | e2
    · rw [e2] at hk; cases hk; exact hp.ok
    · rw [e2] at hk; exact (h.own B k hk).mono hle

/-- what is appended: how many elements, and their cells -/
noncomputable def srcV (A : AW) (size : Nat) (x : Value) : Option (Nat × List Value) :=
  match x with
  | .slice none 0 0 => some (0, [])
  | .slice (some ⟨B, o, none⟩) n _ => bs (Nat.beq n 0) (some (0, [])) (match cellsAt A B with
    | some cs => match ltake (Nat.mul n size) (ldrop o cs) with | some l => bs (lall one l) (some (n, l)) none | none => none
    | none => none)
  | .string ⟨⟨l⟩⟩ => bs (Nat.beq size 1) (some (llen l, lmap (fun b => Value.int .u8 (.ofNat b.toNat)) l)) none
  | _ => none
noncomputable def srcKind (d : TypeDesc) (x : Value) : Bool :=
  match d, x with
  | .slice _, .slice _ _ _ => true
  | .string, .string _ => true
  | _, _ => false
include inv in
theorem src_ok {size : Nat} {tx : TypeId} {d : TypeDesc} (hu : P.underlying tx = some d) {x x' : Value} {n : Nat} {l : List Value} (h : srcV A size x = some (n, l)) (hk : srcKind d x = true) (hx : VRel β x x') : ∃ l', LRel β l l' ∧ Src P size tx x' n l' w := by
  unfold srcV at h
  split at h
  · cases h; cases hx
    cases d <;> first | (cases hk; done) | exact ⟨[], LRel.nil β, Src.ofNil w hu 0⟩
  · rename_i B o n' c
    have hsl : ∃ e, d = .slice e := by cases d <;> first | (cases hk; done) | exact ⟨_, rfl⟩
    obtain ⟨e, rfl⟩ := hsl
    replace h := bs_some h
    rcases h with ⟨h0, h⟩ | ⟨h0, h⟩
    · have h0' := Nat.eq_of_beq_eq_true h0
      subst h0'
      cases h
      cases hx with
      | slice _ _ _ _ c' lc hlc hn hc he => exact ⟨[], LRel.nil β, Src.ofSlice w hu _ 0 c' [] (by simp) (fun j u hu => by simp at hu) (fun u hu => by cases hu)⟩
      | empty _ a' c' => exact ⟨[], LRel.nil β, Src.ofSlice w hu _ 0 c' [] (by simp) (fun j u hu => by simp at hu) (fun u hu => by cases hu)⟩
    · split at h
      · rename_i cs hcs
        split at h
        · rename_i q hq
          replace h := bs_some h
          rcases h with ⟨hone, h⟩ | ⟨_, h⟩
          · cases h
            cases hx with
            | slice _ _ _ _ c' lc hlc hn hc he =>
              obtain ⟨l', hl', hlen, hat⟩ := range_rel inv hcs hlc o _ l hq
              exact ⟨l', hl', Src.ofSlice w hu _ n c' l' (by rw [← hl'.1, hlen]; rfl) (fun j u hu => by rw [Addr.add_mid]; exact hat j u hu) (all_one hone hl')⟩
            | empty _ a' c' => cases h0
          · cases h
        · cases h
      · cases h
  · rename_i s
    have hsl : d = .string := by cases d <;> first | (cases hk; done) | rfl
    subst hsl
    replace h := bs_some h
    rcases h with ⟨h0, h⟩ | ⟨_, h⟩
    · have h0' := Nat.eq_of_beq_eq_true h0
      subst h0'
      cases h; cases hx
      refine ⟨byteCells ⟨⟨s⟩⟩, ?_, ?_⟩
      · have : lmap (fun b : UInt8 => Value.int .u8 (.ofNat b.toNat)) s = byteCells ⟨⟨s⟩⟩ := by rw [lmap_eq]; rfl
        rw [this]
        refine ⟨rfl, fun i v v' a b => ?_⟩
        rw [a] at b
        cases b
        unfold byteCells at a
        rw [List.getElem?_map] at a
        obtain ⟨q, _, rfl⟩ := Option.map_eq_some_iff.1 a
        exact .int _ _
      · have := Src.ofString (P := P) w hu ⟨⟨s⟩⟩
        rw [llen_eq]
        exact this
    · cases h
  · cases h
end
end Go.Ex
