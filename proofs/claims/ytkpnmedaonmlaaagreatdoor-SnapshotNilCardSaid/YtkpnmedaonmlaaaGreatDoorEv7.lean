/- A verified evaluator for closed calls, part 7: new memory and stores. -/
import Derived.Test.YtkpnmedaonmlaaaGreatDoorEv6
namespace Go.Ev
open Go.RowKit

noncomputable def lwrite (l : List Value) : Nat → List Value → List Value :=
  List.rec (motive := fun _ => Nat → List Value → List Value) (fun _ cs => cs) (fun v _ ih o cs => ih (Nat.add o 1) (lset cs o v)) l
theorem lwrite_nil (o : Nat) (cs : List Value) : lwrite [] o cs = cs := rfl
theorem lwrite_cons (v : Value) (l : List Value) (o : Nat) (cs : List Value) : lwrite (v :: l) o cs = lwrite l (o + 1) (cs.set o v) := by
  show lwrite l (o + 1) (lset cs o v) = _
  rw [lset_eq]
theorem lwrite_length (l : List Value) : ∀ (o : Nat) (cs : List Value), (lwrite l o cs).length = cs.length := by
  induction l with
  | nil => intros; rfl
  | cons v l ih => intro o cs; rw [lwrite_cons, ih]; simp
theorem lwrite_get (l : List Value) : ∀ (o : Nat) (cs : List Value) (i : Nat), o + l.length ≤ cs.length →
    (lwrite l o cs)[i]? = if o ≤ i ∧ i < o + l.length then l[i - o]? else cs[i]? := by
  induction l with
  | nil => intro o cs i _; rw [lwrite_nil, if_neg (fun e => by simp at e; omega)]
  | cons v l ih =>
    intro o cs i h
    rw [List.length_cons] at h
    rw [lwrite_cons, ih (o + 1) _ i (by simp; omega), List.length_cons]
    by_cases h1 : o + 1 ≤ i ∧ i < o + 1 + l.length
    · rw [if_pos h1, if_pos (by omega)]
      rw [show i - o = (i - (o + 1)) + 1 by omega]
      simp
    · rw [if_neg h1]
      by_cases h2 : o = i
      · subst h2
        rw [if_pos (by omega), List.getElem?_set_self (by omega)]
        simp
      · rw [if_neg (by omega), List.getElem?_set_ne h2]
theorem lwrite_rel {β : Ren} {l l' : List Value} (h : LRel β l l') : ∀ (o : Nat) {cs cs' : List Value}, LRel β cs cs' → LRel β (lwrite l o cs) (lwrite l' o cs') := by
  induction l generalizing l' with
  | nil => intro o cs cs' hc; rw [h.inv_nil]; exact hc
  | cons v l ih =>
    intro o cs cs' hc
    obtain ⟨v', r, rfl, hv, hr⟩ := h.inv_cons
    rw [lwrite_cons, lwrite_cons]
    exact ih hr (o + 1) (hc.set o hv)

/-- the cells of a value -/
noncomputable def vcells (v : Value) : Option (List Value) :=
  match v with
  | .agg ⟨l⟩ => some l
  | .chan _ => none
  | .tuple _ => none
  | v => some [v]
noncomputable def one (v : Value) : Bool :=
  match v with
  | .agg _ => false
  | .chan _ => false
  | .tuple _ => false
  | _ => true
theorem vcells_rel {β : Ren} {x x' : Value} {l : List Value} (h : vcells x = some l) (hx : VRel β x x') : ∃ l', x'.cells = ⟨l'⟩ ∧ LRel β l l' := by
  unfold vcells at h
  split at h
  · cases h
    cases hx with
    | agg _ p' hp h1 => exact ⟨p', rfl, hp, h1⟩
  · cases h
  · cases h
  · cases h
    rename_i h1 h2 h3
    refine ⟨[x'], ?_, LRel.cons hx (LRel.nil β)⟩
    cases hx <;> first | rfl | exact absurd rfl (h1 _) | exact absurd rfl (h2 _) | exact absurd rfl (h3 _)
theorem one_rel {β : Ren} {x x' : Value} (h : one x = true) (hx : VRel β x x') : x'.oneCell' = true := by
  cases hx <;> first | rfl | cases h
theorem all_one {β : Ren} {l l' : List Value} (h : lall one l = true) (hl : LRel β l l') : ∀ v ∈ l', v.oneCell' = true := by
  intro v hv
  obtain ⟨i, hi, rfl⟩ := List.getElem_of_mem hv
  have hi2 : i < l.length := by rw [hl.1]; exact hi
  exact one_rel (lall_eq one l h l[i] (List.getElem_mem hi2)) (hl.2 i l[i] l'[i] (by simp [hi2]) (by simp [hi]))

/-! ### new blocks -/
section
variable {P : Program} {E : Env} (ok : E.Ok P) {w0 w : World} {β : Ren} {A : AW} (inv : Inv w0 E.G β A w)

/-- what an operation does, told by what the evaluator does -/
def Does (w0 : World) (G : Nat) (β : Ren) (A : AW) (r : Result Value) (v : Value) (A' : AW) : Prop :=
  ∃ β' v' w', r = .ok v' w' ∧ VRel β' v v' ∧ Inv w0 G β' A' w' ∧ β.grow β' A.next

include inv in
theorem new_cells (cs : List Value) (cs' : List Value) (e : TypeId) (es : Nat) (ex : Bool) (hc : ∀ β', β.le β' → LRel β' cs cs') :
    Inv w0 E.G (β.put A.next ⟨w.heap.size, 0, es, cs'.length⟩) (A.add ⟨.cells cs, es, ex, false, e⟩) (w.alloc (.cells ⟨cs'⟩ e)) ∧ β.grow (β.put A.next ⟨w.heap.size, 0, es, cs'.length⟩) A.next := by
  have hle : β.le (β.put A.next ⟨w.heap.size, 0, es, cs'.length⟩) := (Ren.grow_put β A.next _).le inv.dom
  have h := hc _ hle
  refine inv.new _ _ _ rfl ⟨⟨cs'⟩, e, (0, 0), rfl, rfl, by simp [h.1], fun i v hv => ?_, fun _ => rfl, fun _ => by simp [h.1], rfl, fun _ => rfl⟩
  obtain ⟨v', hv', hr⟩ := h.get hv
  exact ⟨v', by simpa using hv', hr⟩
theorem put_self (β : Ren) (n : Nat) (l : Loc) : (β.put n l) n = some l := by unfold Ren.put; rw [if_pos rfl]

/-- a new block, and what its name is good for -/
def Fresh (β : Ren) (w : World) (N : Nat) (r : Result Value) (v : Value) (cs : List Value) (es : Nat) (e : TypeId) : Prop :=
  ∃ cs' v', r = .ok v' (w.alloc (.cells ⟨cs'⟩ e)) ∧ LRel β cs cs' ∧ ∀ β' : Ren, β' N = some ⟨w.heap.size, 0, es, cs'.length⟩ → VRel β' v v'
include inv in
theorem Fresh.does {r : Result Value} {v : Value} {cs : List Value} {es : Nat} {e : TypeId} (h : Fresh β w A.next r v cs es e) : Does w0 E.G β A r v (A.add ⟨.cells cs, es, true, false, e⟩) := by
  obtain ⟨cs', v', h1, h2, h3⟩ := h
  obtain ⟨g1, g2⟩ := new_cells inv cs cs' e es true (fun β' hb => h2.mono hb)
  exact ⟨_, v', _, h1, h3 _ (put_self _ _ _), g1, g2⟩

noncomputable def allocV (E : Env) (A : AW) (t : TypeId) : Option (Value × AW) :=
  match E.ti.get none t with
  | some r => bs r.zok (some (.pointer (some ⟨A.next, 0, none⟩), A.add ⟨.cells (lmap san1 r.zero), 1, true, false, t⟩)) none
  | none => none
include ok in
theorem alloc_fr {t : TypeId} {v : Value} {A' : AW} (h : allocV E A t = some (v, A')) (β : Ren) (w : World) : ∃ cs es e, A' = A.add ⟨.cells cs, es, true, false, e⟩ ∧ Fresh β w A.next ((Instr.alloc t true (.tuple #[])).run P w) v cs es e := by
  unfold allocV at h
  split at h
  · rename_i r hr
    replace h := bs_some h
    rcases h with ⟨hz, h⟩ | ⟨_, h⟩
    · cases h
      obtain ⟨_, i, hi, _, _, hz2⟩ := ok.ti t r hr
      obtain ⟨z, hz3, hz4⟩ := hz2 hz
      refine ⟨_, _, _, rfl, r.zero, .pointer (some ⟨w.heap.size, 0 + 0, none⟩), ?_, lmap_san1 β _, fun β' hN => .ptr A.next 0 _ hN⟩
      simp [Instr.alloc, zeroValue, typeInfo, hi, hz3, newVar, newRow, hz4]
    · cases h
  · cases h
include ok inv in
theorem alloc_ok {t : TypeId} {v : Value} {A' : AW} (h : allocV E A t = some (v, A')) : Does w0 E.G β A ((Instr.alloc t true (.tuple #[])).run P w) v A' := by
  obtain ⟨cs, es, e, rfl, hf⟩ := alloc_fr ok h β w
  exact Fresh.does inv hf

noncomputable def boxV (A : AW) (t : TypeId) (x : Value) : Option (Value × AW) :=
  match vcells x with
  | some l => some (.pointer (some ⟨A.next, 0, none⟩), A.add ⟨.cells l, 1, true, false, t⟩)
  | none => none
theorem box_fr {t : TypeId} {x x' v : Value} {A' : AW} (h : boxV A t x = some (v, A')) (hx : VRel β x x') (w : World) : ∃ cs es e, A' = A.add ⟨.cells cs, es, true, false, e⟩ ∧ Fresh β w A.next ((Instr.box t x').run P w) v cs es e := by
  unfold boxV at h
  split at h
  · rename_i l hl
    cases h
    obtain ⟨l', hc, hr⟩ := vcells_rel hl hx
    refine ⟨_, _, _, rfl, l', .pointer (some ⟨w.heap.size, 0 + 0, none⟩), ?_, hr, fun β' hN => .ptr A.next 0 _ hN⟩
    simp [Instr.box, newVar, newRow, hc]
  · cases h
include inv in
theorem box_ok {t : TypeId} {x x' v : Value} {A' : AW} (h : boxV A t x = some (v, A')) (hx : VRel β x x') : Does w0 E.G β A ((Instr.box t x').run P w) v A' := by
  obtain ⟨cs, es, e, rfl, hf⟩ := box_fr h hx w
  exact Fresh.does inv hf

/-! ### composite values -/
noncomputable def fillA (place : Nat → Option (Nat × Nat)) (ps : List (Nat × Value)) : List Value → Option (List Value) :=
  List.rec (motive := fun _ => List Value → Option (List Value)) (fun cs => some cs)
    (fun p _ ih cs => match place p.1, vcells p.2 with
      | some (off, size), some l => bs (Nat.beq (llen l) size && Nat.ble (Nat.add off (llen l)) (llen cs)) (ih (lwrite l off cs)) none
      | _, _ => none) ps
def PRel (β : Ren) : List (Nat × Value) → List (Nat × Value) → Prop
  | [], [] => True
  | p :: ps, q :: qs => p.1 = q.1 ∧ VRel β p.2 q.2 ∧ PRel β ps qs
  | _, _ => False
theorem foldl_lwrite (off : Nat) : ∀ (l : List Value) (k : Nat) (cs : List Value), (l.zipIdx k).foldl (fun (cs : Array Value) (p : Value × Nat) => cs.setIfInBounds (off + p.2) p.1) ⟨cs⟩ = ⟨lwrite l (off + k) cs⟩
  | [], _, _ => rfl
  | v :: l, k, cs => by
    rw [List.zipIdx_cons, List.foldl_cons, lwrite_cons]
    have : (⟨cs⟩ : Array Value).setIfInBounds (off + k) v = ⟨cs.set (off + k) v⟩ := by
      apply Array.ext'
      simp
    simp only [this]
    rw [foldl_lwrite off l (k + 1)]
    rfl
theorem fill_ok {β : Ren} {place place' : Nat → Option (Nat × Nat)} (hp : ∀ i p, place i = some p → place' i = some p) : ∀ (ps qs : List (Nat × Value)) (cs cs' r : List Value), fillA place ps cs = some r → PRel β ps qs → LRel β cs cs' →
    ∃ r', Instr.fill place' ⟨cs'⟩ qs = some ⟨r'⟩ ∧ LRel β r r'
  | [], qs, cs, cs', r, h, hq, hc => by
    cases qs with
    | nil => cases h; exact ⟨cs', rfl, hc⟩
    | cons _ _ => exact hq.elim
  | p :: ps, qs, cs, cs', r, h, hq, hc => by
    cases qs with
    | nil => exact hq.elim
    | cons q qs =>
      obtain ⟨i, x⟩ := p
      obtain ⟨i', x'⟩ := q
      obtain ⟨hi, hx, hrest⟩ := hq
      have hi' : i = i' := hi
      subst hi'
      have h' : (match place i, vcells x with
        | some (off, size), some l => bs (Nat.beq (llen l) size && Nat.ble (Nat.add off (llen l)) (llen cs)) (fillA place ps (lwrite l off cs)) none
        | _, _ => none) = some r := h
      clear h
      split at h'
      · rename_i off size l hpl hvc
        replace h' := bs_some h'
        rcases h' with ⟨hb, h'⟩ | ⟨_, h'⟩
        · rw [Bool.and_eq_true, llen_eq, llen_eq] at hb
          have hsz : l.length = size := Nat.eq_of_beq_eq_true hb.1
          have hle : off + l.length ≤ cs.length := Nat.le_of_ble_eq_true hb.2
          obtain ⟨l', hl', hlr⟩ := vcells_rel hvc hx
          obtain ⟨r', hr', hrr⟩ := fill_ok hp ps qs (lwrite l off cs) (lwrite l' off cs') r h' hrest (lwrite_rel hlr off hc)
          refine ⟨r', ?_, hrr⟩
          have hfold := foldl_lwrite off l' 0 cs'
          rw [Nat.add_zero] at hfold
          have hfold2 : (⟨l'⟩ : Array Value).zipIdx.foldl (fun (cs : Array Value) (p : Value × Nat) => cs.setIfInBounds (off + p.2) p.1) ⟨cs'⟩ = ⟨lwrite l' off cs'⟩ := by
            rw [← hfold, ← Array.foldl_toList]
            simp
          have hl1 := hlr.1
          have hc1 := hc.1
          unfold Instr.fill
          simp only [hp _ _ hpl, hl']
          rw [if_neg (by simp; omega)]
          exact (congrArg (fun z => Instr.fill place' z qs) hfold2).trans hr'
        · cases h'
      · cases h'

noncomputable def placeS (E : Env) (fs : List Field) (i : Nat) : Option (Nat × Nat) :=
  match nth fs i with
  | some fd => match E.ti.get none fd.type with | some r => some (fd.offset, r.size) | none => none
  | none => none
noncomputable def known (E : Env) (fd : Field) : Bool := match E.ti.get none fd.type with | some _ => true | none => false
noncomputable def buildV (E : Env) (t : TypeId) (ps : List (Nat × Value)) : Option Value :=
  match E.ti.get none t with
  | some ⟨.struct ⟨fs⟩, _, _, z, true⟩ => bs (lall (known E) fs) (match fillA (placeS E fs) ps (lmap san1 z) with | some r => some (.agg ⟨r⟩) | none => none) none
  | some ⟨.array _ e, _, _, z, true⟩ => match E.ti.get none e with
    | some re => match fillA (fun i => some (Nat.mul i re.size, re.size)) ps (lmap san1 z) with | some r => some (.agg ⟨r⟩) | none => none
    | none => none
  | _ => none
include ok in
theorem places_ok : ∀ (fs : List Field), (∀ fd ∈ fs, known E fd = true) → ∃ pl, fs.mapM (fun f => (P.info? f.type).map fun i => (f.offset, i.size)) = some pl ∧ ∀ i p, placeS E fs i = some p → pl[i]? = some p
  | [], _ => ⟨[], rfl, fun i p h => by unfold placeS at h; rw [nth_eq] at h; simp at h⟩
  | fd :: fs, hk => by
    obtain ⟨pl, h1, h2⟩ := places_ok fs (fun x hx => hk x (List.mem_cons_of_mem _ hx))
    have hk1 := hk fd List.mem_cons_self
    unfold known at hk1
    split at hk1
    · rename_i r hr
      obtain ⟨_, i, hi, hs, _⟩ := ok.ti fd.type r hr
      refine ⟨(fd.offset, i.size) :: pl, by simp [List.mapM_cons, hi, h1], fun j p hj => ?_⟩
      cases j with
      | zero =>
        unfold placeS at hj
        rw [nth_eq] at hj
        simp only [List.getElem?_cons_zero, hr] at hj
        cases hj
        simp [hs]
      | succ j =>
        unfold placeS at hj
        rw [nth_eq] at hj
        simp only [List.getElem?_cons_succ] at hj ⊢
        refine h2 j p ?_
        unfold placeS
        rw [nth_eq]
        exact hj
    · cases hk1
include ok in
theorem build_ok {t : TypeId} {ps qs : List (Nat × Value)} {v : Value} (h : buildV E t ps = some v) (hq : PRel β ps qs) (w : World) : ∃ v', (Instr.build t ⟨qs⟩).run P w = .ok v' w ∧ VRel β v v' := by
  unfold buildV at h
  split at h
  · rename_i fs _ _ z hr
    obtain ⟨hu, i, hi, _, _, hz⟩ := ok.ti t _ hr
    obtain ⟨z', hz1, hz2⟩ := hz rfl
    replace h := bs_some h
    rcases h with ⟨hk, h⟩ | ⟨_, h⟩
    · obtain ⟨pl, hpl, hpl2⟩ := places_ok (P := P) (E := E) ok fs (lall_eq _ _ hk)
      split at h
      · rename_i r hfill
        cases h
        obtain ⟨r', hr', hrr⟩ := fill_ok (β := β) (place' := (pl.toArray[·]?)) (fun j p hj => by simpa using hpl2 j p hj) ps qs _ z r hfill hq (lmap_san1 β z)
        refine ⟨.agg ⟨r'⟩, run_build w t ⟨qs⟩ ⟨r'⟩ ?_, VRel.agg_of hrr⟩
        unfold Program.built
        simp only [hi, hu, hz1, hpl, hz2]
        exact hr'
      · cases h
    · cases h
  · rename_i n e _ _ z hr
    obtain ⟨hu, i, hi, _, _, hz⟩ := ok.ti t _ hr
    obtain ⟨z', hz1, hz2⟩ := hz rfl
    split at h
    · rename_i re hre
      obtain ⟨_, ie, hie, hse, _⟩ := ok.ti e re hre
      split at h
      · rename_i r hfill
        cases h
        obtain ⟨r', hr', hrr⟩ := fill_ok (β := β) (place' := fun i => some (i * ie.size, ie.size)) (fun j p hj => by rw [hse]; exact hj) ps qs _ z r hfill hq (lmap_san1 β z)
        refine ⟨.agg ⟨r'⟩, run_build w t ⟨qs⟩ ⟨r'⟩ ?_, VRel.agg_of hrr⟩
        unfold Program.built
        simp only [hi, hu, hz1, hie, hz2]
        exact hr'
      · cases h
    · cases h
  · cases h
end
end Go.Ev
