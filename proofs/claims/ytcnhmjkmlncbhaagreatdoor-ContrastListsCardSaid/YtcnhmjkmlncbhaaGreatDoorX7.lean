/- A verified evaluator of Go functions on partly symbolic values, part 7 of 17. -/
import Derived.Test.YtcnhmjkmlncbhaaGreatDoorX6
import Derived.IntWalk
namespace Go.Ex
open Go.RowKit
section
variable {P : Program} {E : Env} (ok : E.Ok P) {w0 w : World} {β : Ren} {A : AW} (inv : Inv w0 E.G β A w)

noncomputable def makeMapV (A : AW) : Value × AW := (.map (some A.next), A.add ⟨.map [] 0, 1, true, false, 0⟩)
include inv in
theorem makeMap_ok (t : TypeId) : Does w0 E.G β A ((Instr.makeMap t none).run P w) (makeMapV A).1 (makeMapV A).2 := by
  obtain ⟨h1, h2⟩ := inv.new ⟨.map [] 0, 1, true, false, 0⟩ (.map #[] 0) ⟨w.heap.size, 0, 1, 0⟩ rfl ⟨#[], rfl, rfl, fun i e e' h => by simp at h⟩
  exact ⟨_, .map (some w.heap.size), _, by simp [Instr.makeMap], .map A.next _ (put_self _ _ _), h1, h2⟩

noncomputable def rangeV (E : Env) (A : AW) (t : TypeId) (x : Value) : Option (Value × AW) :=
  match E.ti.get none t, x with
  | some ⟨.map _ _, _, _, _, _⟩, .map none => some (.pointer (some ⟨A.next, 0, none⟩), A.add ⟨.iter none 0 [] 0, 1, true, false, 0⟩)
  | some ⟨.map _ _, _, _, _, _⟩, .map (some B) => match mapAt A B with
    | some (_, ck) => some (.pointer (some ⟨A.next, 0, none⟩), A.add ⟨.iter (some B) ck [] ck, 1, true, false, 0⟩)
    | none => none
  | _, _ => none
theorem rangeV_next {t : TypeId} {x v : Value} {A' : AW} (h : rangeV E A t x = some (v, A')) : A.next ≤ A'.next := by
  unfold rangeV at h
  split at h
  · cases h; exact Nat.le_succ _
  · split at h
    · cases h; exact Nat.le_succ _
    · cases h
  · cases h
include ok inv in
theorem range_ok {t : TypeId} {x x' v : Value} {A' : AW} (h : rangeV E A t x = some (v, A')) (hx : VRel β x x') : Does w0 E.G β A ((Instr.range t x').run P w) v A' := by
  unfold rangeV at h
  split at h
  · rename_i hr
    have hu := (ok.ti t _ hr).1
    cases h; cases hx
    obtain ⟨h1, h2⟩ := inv.new ⟨.iter none 0 [] 0, 1, true, false, 0⟩ (.mapIter none 0 #[] 0) ⟨w.heap.size, 0, 1, 0⟩ rfl ⟨rfl, none, rfl, .inl ⟨rfl, rfl⟩⟩
    exact ⟨_, .pointer (some ⟨w.heap.size, 0 + 0, none⟩), _, by simp [Instr.range, run_underlying hu], .ptr A.next 0 _ (put_self _ _ _), h1, h2⟩
  · rename_i B hr
    have hu := (ok.ti t _ hr).1
    split at h
    · rename_i es ck hat
      cases h
      cases hx with
      | map _ l hl =>
        obtain ⟨es', hheap, _⟩ := map_rel inv hat hl
        have hle : β.le (β.put A.next ⟨w.heap.size, 0, 1, 0⟩) := inv.le_of_grow (Ren.grow_put β A.next _)
        obtain ⟨h1, h2⟩ := inv.new ⟨.iter (some B) ck [] ck, 1, true, false, 0⟩ (.mapIter (some l.b) ck #[] ck) ⟨w.heap.size, 0, 1, 0⟩ rfl ⟨rfl, some l.b, rfl, .inr ⟨B, l, rfl, hle.f _ _ hl, rfl⟩⟩
        refine ⟨_, .pointer (some ⟨w.heap.size, 0 + 0, none⟩), _, ?_, .ptr A.next 0 _ (put_self _ _ _), h1, h2⟩
        have hgo : (getObj l.b).run P w = .ok (.map ⟨es'⟩ ck) w := by simp [getObj, Sem.run, hheap]
        simp [Instr.range, run_underlying hu, hgo]
    · cases h
  · cases h

/-! next -/
noncomputable def iterAt (A : AW) (R : Nat) : Option (Option Nat × Nat × List Nat × Nat) := match A.get R with | some ⟨.iter m since seen st, _, _, _, _⟩ => some (m, since, seen, st) | _ => none
noncomputable def iterPut (A : AW) (R : Nat) (o : AO) : AW := match A.get R with | some ⟨_, a, b, c, d⟩ => A.put R (some ⟨o, a, b, c, d⟩) | none => A
theorem iterPut_next (R : Nat) (o : AO) : (iterPut A R o).next = A.next := by unfold iterPut; split <;> rfl
noncomputable def lfilter {α : Type} (f : α → Bool) (l : List α) : List α := List.rec (motive := fun _ => List α) [] (fun a _ ih => bs (f a) (a :: ih) ih) l
theorem lfilter_eq {α : Type} (f : α → Bool) (l : List α) : lfilter f l = l.filter f := by
  induction l with
  | nil => rfl
  | cons a l ih =>
    show bs (f a) (a :: lfilter f l) (lfilter f l) = _
    rw [ih, List.filter_cons]
    cases f a <;> rfl
noncomputable def lin (i : Nat) (l : List Nat) : Bool := List.rec (motive := fun _ => Bool) false (fun a _ ih => bs (Nat.beq a i) true ih) l
theorem lin_mem {i : Nat} : ∀ {l : List Nat}, lin i l = true → i ∈ l
  | [], h => by cases h
  | a :: l, h => by
    have h' : bs (Nat.beq a i) true (lin i l) = true := h
    cases hb : Nat.beq a i with
    | true => rw [Nat.eq_of_beq_eq_true hb]; exact List.mem_cons_self
    | false => rw [hb, bs_false] at h'; exact List.mem_cons_of_mem _ (lin_mem h')
theorem lin_eq (i : Nat) : ∀ (l : List Nat), lin i l = l.contains i
  | [] => rfl
  | a :: l => by
    show bs (Nat.beq a i) true (lin i l) = _
    rw [lin_eq i l, List.contains_cons, nbeq]
    by_cases h : a = i
    · subst h; simp [bs]
    · rw [decide_eq_false h, bs_false]
      have : (i == a) = false := by simp; exact fun e => h e.symm
      rw [this]; rfl
noncomputable def oldE (since : Nat) (seen : List Nat) (es : List MapEntry) : List MapEntry := lfilter (fun e => Nat.blt e.born since && not (lin e.born seen)) es
noncomputable def newE (since : Nat) (seen : List Nat) (es : List MapEntry) : List MapEntry := lfilter (fun e => not (Nat.blt e.born since) && not (lin e.born seen)) es
noncomputable def cands (since : Nat) (seen : List Nat) (es : List MapEntry) : List (Option MapEntry) :=
  lapp (match oldE since seen es with | [] => [none] | _ => []) (lmap some (lapp (oldE since seen es) (newE since seen es)))
theorem MRel.filter {es es' : List MapEntry} {p p' : MapEntry → Bool} (hp : ∀ e e', e.born = e'.born → p e = p' e') : MRel β es es' → MRel β (es.filter p) (es'.filter p') := by
  induction es generalizing es' with
  | nil => intro h; rw [h.inv_nil]; exact ⟨rfl, fun i e e' h => by simp at h⟩
  | cons e es ih =>
    intro h
    obtain ⟨e', es'', rfl, he, hm⟩ := h.inv_cons
    have hpp := hp e e' he.1
    have ihm := ih hm
    rw [List.filter_cons, List.filter_cons, ← hpp]
    cases p e with
    | false => exact ihm
    | true =>
      refine ⟨by simpa using ihm.1, fun i a b ha hb => ?_⟩
      cases i with
      | zero => simp at ha hb; subst ha; subst hb; exact he
      | succ i => simp at ha hb; exact ihm.2 i a b ha hb
theorem MRel.append {a a' b b' : List MapEntry} (h : MRel β a a') (k : MRel β b b') : MRel β (a ++ b) (a' ++ b') := by
  induction a generalizing a' with
  | nil => rw [h.inv_nil]; exact k
  | cons e a ih =>
    obtain ⟨e', l', rfl, h1, h2⟩ := h.inv_cons
    have := ih h2
    refine ⟨by simpa using this.1, fun i x y hx hy => ?_⟩
    cases i with
    | zero => simp at hx hy; subst hx; subst hy; exact h1
    | succ i => simp at hx hy; exact this.2 i x y hx hy

noncomputable def nextV (E : Env) (A : AW) (it : Value) : Option (List (Value × AW)) :=
  match it with
  | .pointer (some ⟨R, 0, none⟩) => bs (Nat.ble E.G.n R) (match iterAt A R with
    | some (none, _, _, _) => some [(.tuple ⟨[.bool false]⟩, A)]
    | some (some B, since, seen, st) => match mapAt A B with
      | some (es, ck) => bs (match seen, es with | [], _ => true | _, [] => true | _, es => not (lall (fun e => Nat.ble st e.born) es))
          (some (lmap (fun c => match c with
            | none => (.tuple ⟨[.bool false]⟩, A)
            | some e => (.tuple ⟨[.bool true, e.key, e.val]⟩, iterPut A R (.iter (some B) since (lapp seen [e.born]) ck))) (cands since seen es))) none
      | none => none
    | none => none) none
  | _ => none
include inv in
theorem iter_rel {R : Nat} {m : Option Nat} {since : Nat} {seen : List Nat} {st : Nat} (h : iterAt A R = some (m, since, seen, st)) {l : Loc} (hl : β R = some l) : l.d = 0 ∧ ∃ m', w.heap[l.b]? = some (.mapIter m' since ⟨seen⟩ st) ∧ ((m = none ∧ m' = none) ∨ ∃ B lb, m = some B ∧ β B = some lb ∧ m' = some lb.b) := by
  unfold iterAt at h
  split at h
  · rename_i hg
    cases h
    exact inv.cont R _ l hg hl
  · cases h
include inv in
theorem iter_put {R : Nat} {m : Option Nat} {since : Nat} {seen : List Nat} {st : Nat} (h : iterAt A R = some (m, since, seen, st)) (hG : E.G.n ≤ R) {l : Loc} (hl : β R = some l) {B : Nat} {lb : Loc} (hB : β B = some lb) (since2 : Nat) (seen2 : List Nat) (st2 : Nat) :
    (setObj l.b (.mapIter (some lb.b) since2 ⟨seen2⟩ st2)).run P w = .ok () { w with heap := w.heap.setIfInBounds l.b (.mapIter (some lb.b) since2 ⟨seen2⟩ st2) } ∧ Inv w0 E.G β (iterPut A R (.iter (some B) since2 seen2 st2)) { w with heap := w.heap.setIfInBounds l.b (.mapIter (some lb.b) since2 ⟨seen2⟩ st2) } := by
  obtain ⟨hd0, m', h1, _⟩ := iter_rel inv h hl
  have hlt : l.b < w.heap.size := (Array.getElem?_eq_some_iff.1 h1).1
  unfold iterAt at h
  split at h
  · rename_i e0 c0 s0 t0 a b c d hg
    refine ⟨by simp [setObj, Sem.run, h1], ?_⟩
    unfold iterPut
    rw [hg]
    refine inv.write R l _ _ hg hl hG ⟨rfl, rfl, rfl, by simp, fun k hk hne => ?_⟩ (by simp) ?_
    · show (w.heap.setIfInBounds l.b _)[k]? = _
      rw [Array.getElem?_setIfInBounds_ne (fun e => hne (by rw [e]))]
    · show BRel β l _ ((w.heap.setIfInBounds l.b _)[l.b]?)
      rw [Array.getElem?_setIfInBounds_self_of_lt hlt]
      exact ⟨hd0, some lb.b, rfl, .inr ⟨B, lb, rfl, hB, rfl⟩⟩
  · cases h

theorem next_first {w : World} {r b : Nat} {since st ck : Nat} {ty : TypeId} (sn : Array Nat) (es : Array MapEntry) (cs : Array (Option MapEntry)) {i : Nat} {dr : Nat}
    (hgo : (getObj r).run P w = .ok (.mapIter (some b) since sn st) w) (hgo2 : (getObj b).run P w = .ok (.map es ck) w)
    (hall : (!sn.isEmpty && !es.isEmpty && es.all (fun e => decide (e.born ≥ st))) = false)
    (hcs : cs = (if ((es.filter fun e => !sn.contains e.born).filter (·.born < since)).isEmpty then #[none] else #[]) ++ (((es.filter fun e => !sn.contains e.born).filter (·.born < since)) ++ ((es.filter fun e => !sn.contains e.born).filter (·.born ≥ since))).map some)
    (hch : (choose (.mapNext cs.size)).run P w = .ok i { w with drawn := dr }) :
    (Instr.next (.pointer (some ⟨r, 0, none⟩)) false ty).run P w = (match cs[i]? with
                      | some (some e) => (do
                        setObj r (.mapIter (some b) since (sn.push e.born) ck)
                        pure (.tuple #[.bool true, e.key, e.val]) : Sem Value)
                      | some none => pure (.tuple #[.bool false])
                      | none => stuck "Next: no such candidate").run P { w with drawn := dr } := by
  subst hcs
  simp only [Instr.next, Sem.run_bind, hgo, Result.andThen_ok, hgo2, hall, Bool.false_eq_true, if_false, Sem.run_pure, hch]
  rfl

theorem choose_next (n : Nat) (hn : 0 < n) (w : World) : ∃ i d, i < n ∧ (choose (.mapNext n)).run P w = .ok i { w with drawn := d } := by
  by_cases h : n ≤ 1
  · refine ⟨0, w.drawn, hn, ?_⟩
    simp [choose, Sem.run, Question.forced, h]
  · refine ⟨w.tape w.drawn (.mapNext n) % n, w.drawn + 1, Nat.mod_lt _ hn, ?_⟩
    simp [choose, Sem.run, Question.forced, h, Question.cut]
/-- the candidates as the model lists them -/
def candM (since : Nat) (seen : List Nat) (es' : List MapEntry) : List (Option MapEntry) :=
  (if (es'.filter (fun e => decide (e.born < since) && !seen.contains e.born)).isEmpty then [none] else []) ++
    ((es'.filter (fun e => decide (e.born < since) && !seen.contains e.born)) ++ (es'.filter (fun e => decide (since ≤ e.born) && !seen.contains e.born))).map some
theorem cand_rel {since : Nat} {seen : List Nat} {es es' : List MapEntry} (h : MRel β es es') : (cands since seen es).length = (candM since seen es').length ∧ 0 < (candM since seen es').length ∧
    ∀ (i : Nat) (c c' : Option MapEntry), (cands since seen es)[i]? = some c → (candM since seen es')[i]? = some c' → (c = none ∧ c' = none) ∨ ∃ e e', c = some e ∧ c' = some e' ∧ ERel β e e' := by
  have ho : oldE since seen es = es.filter (fun e => decide (e.born < since) && !seen.contains e.born) := by
    unfold oldE
    rw [lfilter_eq]
    apply List.filter_congr
    intro e _
    rw [nblt, lin_eq]
  have hn : newE since seen es = es.filter (fun e => decide (since ≤ e.born) && !seen.contains e.born) := by
    unfold newE
    rw [lfilter_eq]
    apply List.filter_congr
    intro e _
    rw [nblt, lin_eq]
    congr 1
    by_cases hb : e.born < since
    · rw [decide_eq_true hb, decide_eq_false (by omega)]; rfl
    · rw [decide_eq_false hb, decide_eq_true (by omega)]; rfl
  have h1 : MRel β (oldE since seen es) (es'.filter (fun e => decide (e.born < since) && !seen.contains e.born)) := by
    rw [ho]; exact h.filter (fun e e' hb => by rw [hb])
  have h2 : MRel β (newE since seen es) (es'.filter (fun e => decide (since ≤ e.born) && !seen.contains e.born)) := by
    rw [hn]; exact h.filter (fun e e' hb => by rw [hb])
  unfold candM cands
  rw [lapp_eq, lmap_eq, lapp_eq]
  generalize oldE since seen es = O at *
  generalize newE since seen es = N at *
  generalize es'.filter (fun e => decide (e.born < since) && !seen.contains e.born) = O' at *
  generalize es'.filter (fun e => decide (since ≤ e.born) && !seen.contains e.born) = N' at *
  have h12 := h1.append h2
  have tail : ∀ (i : Nat) (c c' : Option MapEntry), ((O ++ N).map some)[i]? = some c → ((O' ++ N').map some)[i]? = some c' → ∃ e e', c = some e ∧ c' = some e' ∧ ERel β e e' := fun i c c' hc hc' => by
    rw [List.getElem?_map] at hc hc'
    obtain ⟨e, he, rfl⟩ := Option.map_eq_some_iff.1 hc
    obtain ⟨e', he', rfl⟩ := Option.map_eq_some_iff.1 hc'
    exact ⟨e, e', rfl, rfl, h12.2 i e e' he he'⟩
  cases O with
  | nil =>
    have := h1.inv_nil
    subst this
    refine ⟨by simp; simpa using h12.1, by simp, fun i c c' hc hc' => ?_⟩
    cases i with
    | zero => simp at hc hc'; exact .inl ⟨hc.symm, hc'.symm⟩
    | succ i => exact .inr (tail i c c' (by simpa using hc) (by simpa using hc'))
  | cons e O =>
    obtain ⟨e', O'', rfl, _, _⟩ := h1.inv_cons
    refine ⟨by simp; have := h12.1; simp at this; omega, by simp, fun i c c' hc hc' => .inr (tail i c c' (by simpa using hc) (by simpa using hc'))⟩
theorem all_rel {st : Nat} {es es' : List MapEntry} (h : MRel β es es') : es'.all (fun e => decide (st ≤ e.born)) = lall (fun e => Nat.ble st e.born) es := by
  induction es generalizing es' with
  | nil => rw [h.inv_nil]; rfl
  | cons e es ih =>
    obtain ⟨e', es'', rfl, he, hm⟩ := h.inv_cons
    rw [List.all_cons, ih hm, ← he.1]
    show _ = bs (Nat.ble st e.born) (lall (fun e => Nat.ble st e.born) es) false
    by_cases hb : st ≤ e.born
    · rw [decide_eq_true hb, Nat.ble_eq_true_of_le hb]; simp [bs]
    · rw [decide_eq_false hb]
      cases hq : Nat.ble st e.born with
      | false => simp [bs]
      | true => exact absurd (Nat.le_of_ble_eq_true hq) hb

include inv in
theorem next_ok {it it' : Value} {l : List (Value × AW)} {ty : TypeId} (h : nextV E A it = some l) (hi : VRel β it it') : ∃ p ∈ l, Does w0 E.G β A ((Instr.next it' false ty).run P w) p.1 p.2 ∧ A.next ≤ p.2.next := by
  unfold nextV at h
  split at h
  · rename_i R
    replace h := bs_some h
    rcases h with ⟨hG, h⟩ | ⟨_, h⟩
    · have hG' := Nat.le_of_ble_eq_true hG
      cases hi with
      | ptr _ _ lr hlr =>
        split at h
        · rename_i since seen st hit
          cases h
          obtain ⟨hd0, m', h1, h2⟩ := iter_rel inv hit hlr
          rcases h2 with ⟨_, rfl⟩ | ⟨_, _, e, _⟩
          · refine ⟨_, List.mem_cons_self, ⟨β, .tuple #[.bool false], w, ?_, VRel.tuple_of ((LRel.nil β).cons (.bool false)), inv, Ren.grow_refl _ _⟩, Nat.le_refl _⟩
            have hgo : (getObj lr.b).run P w = .ok (.mapIter none since ⟨seen⟩ st) w := by simp [getObj, Sem.run, h1]
            simp [Instr.next, hgo, hd0]
          · cases e
        · rename_i B since seen st hit
          split at h
          · rename_i es ck hat
            replace h := bs_some h
            rcases h with ⟨hch, h⟩ | ⟨_, h⟩
            · cases h
              obtain ⟨hd0, m', h1, h2⟩ := iter_rel inv hit hlr
              rcases h2 with ⟨e, _⟩ | ⟨B2, lb, e, hlb, rfl⟩
              · cases e
              · cases e
                obtain ⟨es', hheap, hmr⟩ := map_rel inv hat hlb
                obtain ⟨c1, c2, c3⟩ := cand_rel (since := since) (seen := seen) hmr
                obtain ⟨i, dr, hi, hch2⟩ := choose_next (P := P) (candM since seen es').length c2 w
                have hgo : (getObj lr.b).run P w = .ok (.mapIter (some lb.b) since ⟨seen⟩ st) w := by simp [getObj, Sem.run, h1]
                have hgo2 : (getObj lb.b).run P w = .ok (.map ⟨es'⟩ ck) w := by simp [getObj, Sem.run, hheap]
                have hi2 : i < (cands since seen es).length := by rw [c1]; exact hi
                have hcnd : (⟨candM since seen es'⟩ : Array (Option MapEntry)) = (if ((⟨es'⟩ : Array MapEntry).filter (fun e => !(⟨seen⟩ : Array Nat).contains e.born) |>.filter (·.born < since)).isEmpty then #[none] else #[]) ++ (((⟨es'⟩ : Array MapEntry).filter (fun e => !(⟨seen⟩ : Array Nat).contains e.born) |>.filter (·.born < since)) ++ ((⟨es'⟩ : Array MapEntry).filter (fun e => !(⟨seen⟩ : Array Nat).contains e.born) |>.filter (·.born ≥ since))).map some := by
                  apply Array.ext'
                  unfold candM
                  have hcs : ∀ x, (⟨seen⟩ : Array Nat).contains x = seen.contains x := fun x => by simp
                  have he : ((⟨es'⟩ : Array MapEntry).filter (fun e => !(⟨seen⟩ : Array Nat).contains e.born) |>.filter (fun x => decide (x.born < since))).isEmpty = (es'.filter (fun e => decide (e.born < since) && !seen.contains e.born)).isEmpty := by
                    rw [← Array.isEmpty_toList]
                    simp only [Array.toList_filter', List.filter_filter, hcs]
                  rw [he]
                  simp only [Array.toList_append, Array.toList_map, Array.toList_filter', List.filter_filter, hcs]
                  cases (es'.filter (fun e => decide (e.born < since) && !seen.contains e.born)).isEmpty <;> rfl
                have hall : (!(⟨seen⟩ : Array Nat).isEmpty && !(⟨es'⟩ : Array MapEntry).isEmpty && (⟨es'⟩ : Array MapEntry).all (fun e => decide (e.born ≥ st))) = false := by
                  have h8 := all_rel (st := st) hmr
                  cases seen with
                  | nil => rfl
                  | cons s0 sr =>
                    cases es with
                    | nil => rw [hmr.inv_nil]; rfl
                    | cons e0 er =>
                      simp only [Bool.not_eq_true'] at hch
                      rw [hch] at h8
                      have h9 : (⟨es'⟩ : Array MapEntry).all (fun e => decide (e.born ≥ st)) = false := by rw [← h8]; simp
                      rw [h9]; simp
                have hit0 : (Value.pointer (some ⟨lr.b, lr.d + 0, none⟩)) = .pointer (some ⟨lr.b, 0, none⟩) := by rw [hd0]
                rw [hit0]
                have hc4 := c3 i (cands since seen es)[i] (candM since seen es')[i] (by simp [hi2]) (by simp [hi])
                refine ⟨_, (by rw [lmap_eq]; exact List.mem_map.2 ⟨(cands since seen es)[i], List.getElem_mem hi2, rfl⟩), ?_, ?_⟩
                · have hfirst : (Instr.next (.pointer (some ⟨lr.b, 0, none⟩)) false ty).run P w = (match (candM since seen es')[i]? with
                      | some (some e) => (do
                        setObj lr.b (.mapIter (some lb.b) since ((⟨seen⟩ : Array Nat).push e.born) ck)
                        pure (.tuple #[.bool true, e.key, e.val]) : Sem Value)
                      | some none => pure (.tuple #[.bool false])
                      | none => stuck "Next: no such candidate").run P { w with drawn := dr } := by
                    have h0 := next_first (P := P) (ty := ty) (⟨seen⟩ : Array Nat) (⟨es'⟩ : Array MapEntry) (⟨candM since seen es'⟩ : Array (Option MapEntry)) hgo hgo2 hall hcnd (by rw [List.size_toArray]; exact hch2)
                    rw [h0]
                    have : (⟨candM since seen es'⟩ : Array (Option MapEntry))[i]? = (candM since seen es')[i]? := by simp
                    rw [this]
                  rw [hfirst]
                  have hci : (candM since seen es')[i]? = some (candM since seen es')[i] := by simp [hi]
                  rw [hci]
                  rcases hc4 with ⟨e1, e2⟩ | ⟨e, e', e1, e2, hb, hk, hv⟩
                  · rw [e1, e2]
                    exact ⟨β, .tuple #[.bool false], _, rfl, VRel.tuple_of ((LRel.nil β).cons (.bool false)), inv.drew dr, Ren.grow_refl _ _⟩
                  · rw [e1, e2]
                    have hpush : (⟨seen⟩ : Array Nat).push e'.born = ⟨seen ++ [e.born]⟩ := by apply Array.ext'; simp [hb]
                    obtain ⟨hr5, hi5⟩ := iter_put (P := P) (inv.drew dr) hit hG' hlr hlb since (seen ++ [e.born]) ck
                    refine ⟨β, .tuple #[.bool true, e'.key, e'.val], { w with drawn := dr, heap := w.heap.setIfInBounds lr.b (Obj.mapIter (some lb.b) since { toList := seen ++ [e.born] } ck) }, ?_, VRel.tuple_of (((LRel.nil β).cons hv |>.cons hk).cons (.bool true)), ?_, Ren.grow_refl _ _⟩
                    · show Sem.run P (do setObj lr.b (.mapIter (some lb.b) since ((⟨seen⟩ : Array Nat).push e'.born) ck); pure (.tuple #[.bool true, e'.key, e'.val]) : Sem Value) _ = _
                      rw [hpush]
                      simp only [Sem.run_bind, hr5, Result.andThen_ok]
                      rfl
                    · simp only [lapp_eq]; exact hi5
                · split
                  · exact Nat.le_refl _
                  · rw [iterPut_next]; exact Nat.le_refl _
            · cases h
          · cases h
        · cases h
    · cases h
  · cases h
end
end Go.Ex
namespace Go.Ex
open Go.RowKit
section
variable {P : Program} {E : Env} (ok : E.Ok P) {w0 w : World} {β : Ren} {A : AW} (inv : Inv w0 E.G β A w)

/-- what a copy into dl elements takes of its source -/
noncomputable def cutSrc (dl : Nat) (x : Value) : Option (Nat × Value) :=
  match x with
  | .slice none 0 0 => some (0, .slice none 0 0)
  | .slice (some a) n c => bs (Nat.ble n dl) (some (n, .slice (some a) n c)) (some (dl, .slice (some a) dl c))
  | .string ⟨⟨l⟩⟩ => bs (Nat.ble (llen l) dl) (some (llen l, .string ⟨⟨l⟩⟩)) none
  | _ => none
theorem cutSrc_ok {dl n : Nat} {x x' y : Value} (h : cutSrc dl x = some (n, y)) (hx : VRel β x x') : ∃ y' k, VRel β y y' ∧ (∀ w, (Builtin.lenOf x').run P w = .ok k w) ∧ Nat.min k dl = n ∧ ∀ size, Builtin.firstCells size n x' = Builtin.firstCells size n y' := by
  unfold cutSrc at h
  split at h
  · cases h; cases hx; exact ⟨_, 0, .slice0, fun _ => rfl, by simp, fun _ => rfl⟩
  · rename_i a n0 c
    replace h := bs_some h
    rcases h with ⟨hb, h⟩ | ⟨hb, h⟩
    · have hb' := Nat.le_of_ble_eq_true hb
      cases h
      cases hx with
      | slice B o _ _ c' l hl hn hc he => exact ⟨_, n, .slice B o _ _ c' l hl hn hc he, fun _ => rfl, Nat.min_eq_left hb', fun _ => rfl⟩
      | empty o a' c' => exact ⟨_, 0, .empty o a' c', fun _ => rfl, Nat.min_eq_left hb', fun _ => rfl⟩
    · have hb' : dl < n0 := by
        rcases Nat.lt_or_ge dl n0 with h | h
        · exact h
        · rw [Nat.ble_eq_true_of_le h] at hb; cases hb
      cases h
      cases hx with
      | slice B o _ _ c' l hl hn hc he => exact ⟨_, n0, .slice B o dl c c' l hl (by omega) hc he, fun _ => rfl, Nat.min_eq_right (Nat.le_of_lt hb'), fun _ => rfl⟩
      | empty o a' c' => omega
  · rename_i l
    replace h := bs_some h
    rcases h with ⟨hb, h⟩ | ⟨_, h⟩
    · have hb' := Nat.le_of_ble_eq_true hb
      rw [llen_eq] at hb'
      cases h; cases hx
      rw [llen_eq]
      exact ⟨_, l.length, .string _, fun _ => rfl, Nat.min_eq_left hb', fun _ => rfl⟩
    · cases h
  · cases h

noncomputable def copyV (E : Env) (A : AW) (t tx : TypeId) (d x : Value) : Option (Value × AW) :=
  match E.ti.get none t, E.ti.get none tx with
  | some ⟨.slice e, _, _, _, _⟩, some rx => match E.ti.get none e with
    | some re => match d with
      | .slice base dl _ => match cutSrc dl x with
        | some (n, y) => bs (srcKind rx.desc y) (match srcV A re.size y with
          | some (m, l) => bs (Nat.beq m n) (bs (Nat.beq n 0) (some (.int .i64 (.ofNat n), A)) (match base with
            | some ⟨B, o, none⟩ => bs (Nat.beq B TAINT) none (match A.get B with
              | some ⟨.cells cs, es, ex, false, ty⟩ => bs (Nat.ble E.G.n B && Nat.ble (Nat.add o (llen l)) (llen cs)) (some (.int .i64 (.ofNat n), A.put B (some ⟨.cells (lwrite l o cs), es, ex, false, ty⟩))) none
              | _ => none)
            | _ => none)) none
          | none => none) none
        | none => none
      | _ => none
    | none => none
  | _, _ => none
theorem copyV_next {t tx : TypeId} {d x v : Value} {A' : AW} (h : copyV E A t tx d x = some (v, A')) : A.next ≤ A'.next := by
  unfold copyV at h
  repeat' first
    | (replace h := bs_some h; rcases h with ⟨_, h⟩ | ⟨_, h⟩)
    | split at h
  all_goals cases h
  all_goals exact Nat.le_refl _
include ok inv in
theorem copy_ok {t tx ty : TypeId} {d d' x x' v : Value} {A' : AW} (h : copyV E A t tx d x = some (v, A')) (hd : VRel β d d') (hx : VRel β x x') : Does w0 E.G β A ((Builtin.copy_ #[t, tx] ty #[d', x']).run P w) v A' := by
  unfold copyV at h
  split at h
  · rename_i e _ _ _ _ rx hr hrx
    split at h
    · rename_i re hre
      split at h
      · rename_i base dl dc
        split at h
        · rename_i n y hcut
          obtain ⟨y', k, hy, hlen, hmin, hfc⟩ := cutSrc_ok (P := P) hcut hx
          replace h := bs_some h
          rcases h with ⟨hk, h⟩ | ⟨_, h⟩
          · split at h
            · rename_i m l hsrc
              replace h := bs_some h
              rcases h with ⟨hmn, h⟩ | ⟨_, h⟩
              · have hmn' := Nat.eq_of_beq_eq_true hmn
                subst hmn'
                have hu := (ok.ti t _ hr).1
                have hux := (ok.ti tx _ hrx).1
                obtain ⟨l', hl', hS⟩ := src_ok (P := P) inv hux hsrc hk hy
                have hcells := hS.cells
                replace h := bs_some h
                rcases h with ⟨h0, h⟩ | ⟨h0, h⟩
                · have h0' := Nat.eq_of_beq_eq_true h0
                  subst h0'
                  cases h
                  have hl0 : l' = [] := by
                    have := hS.newsLen
                    rw [Nat.zero_mul] at this
                    exact List.eq_nil_of_length_eq_zero this
                  subst hl0
                  refine ⟨β, .int .i64 0, w, ?_, .int _ _, inv, Ren.grow_refl _ _⟩
                  cases hd with
                  | slice0 => simp [Builtin.copy_, run_underlying hu, hlen, hmin, run_size ok hre, hfc, hcells, goInt]
                  | slice B o _ _ c' lb hlb hn hc he => simp [Builtin.copy_, run_underlying hu, hlen, hmin, run_size ok hre, hfc, hcells, goInt, storeCells]
                  | empty o a' c' => simp [Builtin.copy_, run_underlying hu, hlen, hmin, run_size ok hre, hfc, hcells, goInt, storeCells]
                · split at h
                  · rename_i B o
                    replace h := bs_some h
                    rcases h with ⟨_, h⟩ | ⟨hT, h⟩
                    · cases h
                    · split at h
                      · rename_i cs es ex tyb hg
                        replace h := bs_some h
                        rcases h with ⟨hb, h⟩ | ⟨_, h⟩
                        · simp only [Bool.and_eq_true, llen_eq] at hb
                          obtain ⟨hG, hle⟩ := hb
                          have hG' := Nat.le_of_ble_eq_true hG
                          have hle' : o + l.length ≤ cs.length := Nat.le_of_ble_eq_true hle
                          cases h
                          cases hd with
                          | slice _ _ _ _ c' lb hlb hn hc he =>
                            obtain ⟨w', hrun, hinv⟩ := write_ok (P := P) inv hg hG' hlb hl' hle' hS.one
                            refine ⟨β, .int .i64 (.ofNat m), w', ?_, .int _ _, hinv, Ren.grow_refl _ _⟩
                            simp [Builtin.copy_, run_underlying hu, hlen, hmin, run_size ok hre, hfc, hcells, goInt, hrun]
                          | empty _ a' c' => cases hT
                        · cases h
                      · cases h
                  · cases h
              · cases h
            · cases h
          · cases h
        · cases h
      · cases h
    · cases h
  · cases h

/-- max (true) or min of integers -/
noncomputable def maxL (b : Bool) (k : IntKind) : List Value → Int → Option Value
  | [], x => some (.int k x)
  | .int _ y :: r, x => maxL b k r (bs b (bs (ilt x y) y x) (bs (ilt y x) y x))
  | _ :: _, _ => none
noncomputable def maxV (b : Bool) (l : List Value) : Option Value := match l with | .int k x :: r => maxL b k r x | _ => none
theorem maxL_ok {b : Bool} {k : IntKind} {v : Value} : ∀ {l l' : List Value} {x : Int}, maxL b k l x = some v → LRel β l l' → (l'.foldlM (bs b Builtin.max2 Builtin.min2) (.int k x)).run P w = .ok v w ∧ ∃ n, v = .int k n
  | [], l', x, h, hl => by
    have : l' = [] := List.eq_nil_of_length_eq_zero hl.1.symm
    subst this
    cases h
    exact ⟨rfl, _, rfl⟩
  | y :: r, [], x, h, hl => by cases hl.1
  | y :: r, y' :: r', x, h, hl => by
    have hy : VRel β y y' := hl.2 0 y y' rfl rfl
    have hr : LRel β r r' := ⟨by have := hl.1; simpa using this, fun i v v' a b => hl.2 (i + 1) v v' (by simpa using a) (by simpa using b)⟩
    have hkey : ∃ k2 n, y = .int k2 n ∧ maxL b k r (bs b (bs (ilt x n) n x) (bs (ilt n x) n x)) = some v := by
      cases y <;> first | (cases h; done) | exact ⟨_, _, rfl, h⟩
    obtain ⟨k2, n, rfl, h2⟩ := hkey
    cases hy
    have ih := maxL_ok h2 hr
    refine ⟨?_, ih.2⟩
    rw [List.foldlM_cons]
    have h1 : (bs b Builtin.max2 Builtin.min2 (.int k x) (.int k2 n)) = (pure (.int k (bs b (bs (ilt x n) n x) (bs (ilt n x) n x))) : Sem Value) := by
      cases b
      · change Builtin.min2 (.int k x) (.int k2 n) = pure (.int k (bs (ilt n x) n x))
        unfold Builtin.min2
        by_cases hlt : n < x <;> simp [ilt_eq, hlt, bs]
      · change Builtin.max2 (.int k x) (.int k2 n) = pure (.int k (bs (ilt x n) n x))
        unfold Builtin.max2
        by_cases hlt : x < n <;> simp [ilt_eq, hlt, bs]
    rw [h1]
    simpa using ih.1
theorem max_ok {tys : Array TypeId} {ty : TypeId} {l l' : List Value} {v : Value} (h : maxV true l = some v) (hl : LRel β l l') : (Builtin.max_ tys ty ⟨l'⟩).run P w = .ok v w ∧ VRel β v v := by
  unfold maxV at h
  split at h
  · rename_i k x r
    match l', hl with
    | [], hl => cases hl.1
    | y' :: r', hl =>
      have hy : VRel β (.int k x) y' := hl.2 0 _ y' rfl rfl
      have hr : LRel β r r' := ⟨by have := hl.1; simpa using this, fun i v v' a b => hl.2 (i + 1) v v' (by simpa using a) (by simpa using b)⟩
      cases hy
      obtain ⟨h1, n, rfl⟩ := maxL_ok (P := P) (w := w) h hr
      exact ⟨h1, .int _ _⟩
  · cases h
theorem min_ok {tys : Array TypeId} {ty : TypeId} {l l' : List Value} {v : Value} (h : maxV false l = some v) (hl : LRel β l l') : (Builtin.min_ tys ty ⟨l'⟩).run P w = .ok v w ∧ VRel β v v := by
  unfold maxV at h
  split at h
  · rename_i k x r
    match l', hl with
    | [], hl => cases hl.1
    | y' :: r', hl =>
      have hy : VRel β (.int k x) y' := hl.2 0 _ y' rfl rfl
      have hr : LRel β r r' := ⟨by have := hl.1; simpa using this, fun i v v' a b => hl.2 (i + 1) v v' (by simpa using a) (by simpa using b)⟩
      cases hy
      obtain ⟨h1, n, rfl⟩ := maxL_ok (P := P) (w := w) h hr
      exact ⟨h1, .int _ _⟩
  · cases h
/-! clear, of a slice -/
noncomputable def zeroL (re : Row) (n : Nat) : List Value := lgen (fun i => match nth re.zero (Nat.mod i re.size) with | some v => san1 v | none => J) (Nat.mul n re.size) []
noncomputable def clearV (E : Env) (A : AW) (t : TypeId) (s : Value) : Option (Value × AW) :=
  match E.ti.get none t with
  | some ⟨.slice e, _, _, _, _⟩ => match E.ti.get none e with
    | some re => match s with
      | .slice none _ _ => some (.tuple ⟨[]⟩, A)
      | .slice (some _) 0 _ => some (.tuple ⟨[]⟩, A)
      | .slice (some ⟨B, o, none⟩) n _ => match A.get B with
        | some ⟨.cells cs, es, ex, false, ty⟩ => bs (re.zok && Nat.beq (llen re.zero) re.size && lall one (zeroL re n) && Nat.ble E.G.n B && Nat.ble (Nat.add o (llen (zeroL re n))) (llen cs)) (some (.tuple ⟨[]⟩, A.put B (some ⟨.cells (lwrite (zeroL re n) o cs), es, ex, false, ty⟩))) none
        | _ => none
      | _ => none
    | none => none
  | _ => none
theorem clearV_next {t : TypeId} {x v : Value} {A' : AW} (h : clearV E A t x = some (v, A')) : A.next ≤ A'.next := by
  unfold clearV at h
  repeat' first
    | (replace h := bs_some h; rcases h with ⟨_, h⟩ | ⟨_, h⟩)
    | split at h
  all_goals cases h
  all_goals exact Nat.le_refl _
theorem zeroL_rel {β : Ren} {re : Row} {n : Nat} (hzl : re.zero.length = re.size) : LRel β (zeroL re n) (Builtin.zeroCells ⟨re.zero⟩ n).toList := by
  unfold zeroL
  rw [lgen_eq, List.append_nil]
  refine ⟨by simp [Builtin.zeroCells, hzl], fun i a b ha hb => ?_⟩
  have hi : i < n * re.size := by
    have := (List.getElem?_eq_some_iff.1 ha).1
    simpa using this
  rw [List.getElem?_map, show Nat.mul n re.size = n * re.size from rfl, List.getElem?_range hi] at ha
  simp only [Option.map_some, Option.some.injEq] at ha
  have hsz : 0 < re.size := by
    rcases Nat.eq_zero_or_pos re.size with e | e
    · rw [e] at hi; omega
    · exact e
  have hm : i % re.size < re.zero.length := by rw [hzl]; exact Nat.mod_lt _ hsz
  have hbi : (Builtin.zeroCells ⟨re.zero⟩ n).toList[i]? = some (re.zero[i % re.size]) := by
    simp [Builtin.zeroCells, hzl, hi, List.getElem?_eq_getElem hm]
  rw [hbi] at hb
  cases hb
  rw [← ha]
  have : nth re.zero (Nat.mod i re.size) = some (re.zero[i % re.size]) := by rw [nth_eq]; exact List.getElem?_eq_getElem hm
  rw [this]
  exact san1_rel β _
include ok inv in
theorem clear_ok {t ty : TypeId} {x x' v : Value} {A' : AW} (h : clearV E A t x = some (v, A')) (hx : VRel β x x') : Does w0 E.G β A ((Builtin.clear_ #[t] ty #[x']).run P w) v A' := by
  unfold clearV at h
  split at h
  · rename_i e _ _ _ _ hr
    have hu := (ok.ti t _ hr).1
    split at h
    · rename_i re hre
      split at h
      · cases h
        refine ⟨β, .tuple #[], w, ?_, VRel.undef, inv, Ren.grow_refl _ _⟩
        cases hx; simp [Builtin.clear_, run_underlying hu]
      · cases h
        refine ⟨β, .tuple #[], w, ?_, VRel.undef, inv, Ren.grow_refl _ _⟩
        cases hx <;> simp [Builtin.clear_, run_underlying hu]
      · rename_i B o n c hn0
        split at h
        · rename_i cs es ex tyb hg
          replace h := bs_some h
          rcases h with ⟨hb, h⟩ | ⟨_, h⟩
          · simp only [Bool.and_eq_true] at hb
            obtain ⟨⟨⟨⟨hzok, hzl⟩, hone⟩, hG⟩, hle⟩ := hb
            have hzl' := Nat.eq_of_beq_eq_true hzl
            rw [llen_eq] at hzl'
            have hG' := Nat.le_of_ble_eq_true hG
            have hle' := Nat.le_of_ble_eq_true hle
            rw [llen_eq, llen_eq] at hle'
            cases h
            obtain ⟨_, ie, hie, hse, hbe, hz⟩ := ok.ti e re hre
            obtain ⟨z, hz1, hz2⟩ := hz hzok
            have hrel := zeroL_rel (β := β) (n := n) hzl'
            cases hx with
            | slice _ _ _ _ c' lb hlb hn hc he =>
              obtain ⟨w', hrun, hinv⟩ := write_ok (P := P) inv hg hG' hlb hrel hle' (all_one hone hrel)
              refine ⟨β, .tuple #[], w', ?_, VRel.undef, hinv, Ren.grow_refl _ _⟩
              obtain ⟨m, rfl⟩ : ∃ m, n = m + 1 := ⟨n - 1, by cases n with | zero => exact (hn0 rfl).elim | succ m => rfl⟩
              have hzv : (zeroValue e).run P w = .ok z w := by simp [zeroValue, typeInfo, hie, hz1]
              simp [Builtin.clear_, run_underlying hu, hzv, hz2, hrun]
            | empty _ a' c' => exact (hn0 rfl).elim
          · cases h
        · cases h
      · cases h
    · cases h
  · cases h
/-! cap, of a slice that is nil -/
noncomputable def capV (E : Env) (A : AW) (t : TypeId) (x : Value) : Option Value :=
  match E.ti.get none t, x with
  | some ⟨.slice _, _, _, _, _⟩, .slice none 0 0 => some (.int .i64 0)
  | some ⟨.slice _, _, _, _, _⟩, .slice (some ⟨B, o, none⟩) n c => match A.get B with
    | some ⟨.cells cs, es, true, _, _⟩ => bs (Nat.ble 1 es && Nat.beq (Nat.add o (Nat.mul c es)) (llen cs) && bs (Nat.beq B TAINT) false true) (some (.int .i64 (.ofNat c))) none
    | _ => none
  | _, _ => none
include ok inv in
theorem cap_ok {t ty : TypeId} {x x' v : Value} (h : capV E A t x = some v) (hx : VRel β x x') : ∃ v', (Builtin.cap_ #[t] ty #[x']).run P w = .ok v' w ∧ VRel β v v' := by
  unfold capV at h
  split at h
  · rename_i hr
    have hu := (ok.ti t _ hr).1
    cases h
    cases hx
    exact ⟨_, by simp [Builtin.cap_, run_underlying hu, goInt], .int _ _⟩
  · rename_i B o n c hr
    have hu := (ok.ti t _ hr).1
    split at h
    · rename_i cs es ro ty hg
      replace h := bs_some h
      rcases h with ⟨hb, h⟩ | ⟨_, h⟩ <;> cases h
      simp only [Bool.and_eq_true, llen_eq] at hb
      obtain ⟨⟨h1, h2⟩, h3⟩ := hb
      have h1' := Nat.le_of_ble_eq_true h1
      have h2' : o + c * es = cs.length := Nat.eq_of_beq_eq_true h2
      cases hx with
      | slice _ _ _ _ c' l hl hn hc he =>
        obtain ⟨cur, e, fz, k1, k2, k3, k4, k5, k6, k7⟩ := inv.cont B _ l hg hl
        obtain ⟨x1, x2⟩ := k6 rfl
        have k7' : l.es = es := k7.1
        rw [k7'] at he
        have h8 : c' * es ≤ c * es := by omega
        have h9 : c' ≤ c := Nat.le_of_mul_le_mul_right h8 (by omega)
        have : c' = c := by omega
        subst this
        exact ⟨_, by simp [Builtin.cap_, run_underlying hu, goInt], .int _ _⟩
      | empty => exact absurd h3 (by decide)
    · cases h
  · cases h
/-! append of zeros, onto nil -/
noncomputable def zappV (E : Env) (A : AW) (t tx : TypeId) (s x : Value) : Option (Value × AW) :=
  match E.ti.get none t, E.ti.get none tx with
  | some ⟨.slice e, _, _, _, _⟩, some ⟨.int _, _, _, _, _⟩ => match E.ti.get none e with
    | some re => match s, x with
      | .slice none 0 0, .int .i64 (.ofNat n) => bs (re.zok && Nat.beq (llen re.zero) re.size && Nat.ble 1 re.size && Nat.ble 1 n && Nat.ble n 9223372036854775807 && Nat.ble (Nat.mul n re.bytes) 140737488355328)
        (some (.slice (some ⟨A.next, 0, none⟩) n n, A.add ⟨.cells (zeroL re n), re.size, false, false, e⟩)) none
      | _, _ => none
    | none => none
  | _, _ => none
theorem zappV_next {t tx : TypeId} {s x v : Value} {A' : AW} (h : zappV E A t tx s x = some (v, A')) : A.next ≤ A'.next := by
  unfold zappV at h
  repeat' first
    | (replace h := bs_some h; rcases h with ⟨_, h⟩ | ⟨_, h⟩)
    | split at h
  all_goals cases h
  all_goals exact Nat.le_succ _
theorem run_append_zeros (t tx ty e : TypeId) (k : IntKind) (i : TypeInfo) (z : Value) (ht : P.underlying t = some (.slice e)) (hx : P.underlying tx = some (.int k)) (hi : P.info? e = some i) (hz : i.zero = some z) (n : Nat) (h0 : 0 < n) (hs : 0 < i.size) (h63 : (n : Int) ≤ 9223372036854775807)
    (h48 : n * i.bytes ≤ 140737488355328) (w : World) :
    (Builtin.append_ #[t, tx] ty #[.slice none 0 0, .int .i64 n]).run P w = .ok (.slice (some ⟨w.heap.size, 0, none⟩) n (grownCap w n 0 e)) (w.drew.alloc (.cells (Builtin.zeroCells z.cells n ++ Builtin.zeroCells z.cells (grownCap w n 0 e - n)) e)) := by
  have hw : IntKind.i64.wrap (n : Int) = n := IntWalk.i64_in _ (by omega)
  have h1 : ¬ ((n : Int) < 0) := by omega
  have h2 : ¬ ((281474976710656 : Int) < (n : Int) * (i.bytes : Int)) := by
    have : ((n * i.bytes : Nat) : Int) ≤ ((140737488355328 : Nat) : Int) := Int.ofNat_le.2 h48
    rw [Int.natCast_mul] at this
    omega
  have hn : ¬ (n ≤ 0) := by omega
  have hns : ¬ (n * i.size = 0) := fun e => by rcases Nat.mul_eq_zero.1 e with h | h <;> omega
  have hcap : Builtin.nextslicecap n 0 = n := by unfold Builtin.nextslicecap; rw [if_pos (by omega)]
  have h63' : ¬ ((9223372036854775807 : Int) < (n : Int)) := by omega
  have h48' : ¬ (281474976710656 < n * i.bytes) := by omega
  simp [Builtin.append_, run_underlying ht, run_underlying hx, sizeOf, typeInfo, zeroValue, hi, hz, asInt, asIntOf, hw, h1, h2, hn, hns, hcap, h63', h48', Question.forced, Builtin.firstCells, newRow, grownCap]
  omega
include ok inv in
theorem zapp_ok {t tx ty : TypeId} {s s' x x' v : Value} {A' : AW} (h : zappV E A t tx s x = some (v, A')) (hs : VRel β s s') (hx : VRel β x x') : Does w0 E.G β A ((Builtin.append_ #[t, tx] ty #[s', x']).run P w) v A' := by
  unfold zappV at h
  split at h
  · rename_i e _ _ _ _ k _ _ _ _ hr hrx
    have hu := (ok.ti t _ hr).1
    have hux := (ok.ti tx _ hrx).1
    split at h
    · rename_i re hre
      split at h
      · rename_i n
        replace h := bs_some h
        rcases h with ⟨hb, h⟩ | ⟨_, h⟩
        · simp only [Bool.and_eq_true] at hb
          obtain ⟨⟨⟨⟨⟨hzok, hzl⟩, hs1⟩, hn1⟩, hn63⟩, hby⟩ := hb
          have hzl' := Nat.eq_of_beq_eq_true hzl
          rw [llen_eq] at hzl'
          have hs1' := Nat.le_of_ble_eq_true hs1
          have hn1' := Nat.le_of_ble_eq_true hn1
          have hn63' := Nat.le_of_ble_eq_true hn63
          have hby' : n * re.bytes ≤ 140737488355328 := Nat.le_of_ble_eq_true hby
          cases h
          cases hs; cases hx
          obtain ⟨_, ie, hie, hse, hbe, hz⟩ := ok.ti e re hre
          obtain ⟨z, hz1, hz2⟩ := hz hzok
          have hrun := run_append_zeros (P := P) t tx ty e k ie z hu hux hie hz1 n (by omega) (by omega) (by omega) (by rw [hbe]; exact hby') w
          have hge := grownCap_ge w n 0 e
          have hrel := fun β' : Ren => zeroL_rel (β := β') (n := n) hzl'
          rw [hz2] at hrun
          obtain ⟨g1, g2⟩ := new_more inv (zeroL re n) (Builtin.zeroCells ⟨re.zero⟩ n).toList (Builtin.zeroCells ⟨re.zero⟩ (grownCap w n 0 e - n)).toList e re.size (Builtin.zeroCells ⟨re.zero⟩ n ++ Builtin.zeroCells ⟨re.zero⟩ (grownCap w n 0 e - n)) (by simp) (fun β' _ => hrel β')
          refine ⟨_, _, _, hrun, ?_, g1, g2⟩
          exact VRel.slice (β := β.put A.next ⟨w.heap.size, 0, re.size, (Builtin.zeroCells ⟨re.zero⟩ n ++ Builtin.zeroCells ⟨re.zero⟩ (grownCap w n 0 e - n)).size⟩) A.next 0 n n (grownCap w n 0 e) _ (put_self _ _ _) (Nat.le_refl _) (by omega) (by
            simp only [Array.size_append, zeroCells_size, List.size_toArray, hzl', Nat.zero_add, ← Nat.add_mul]
            apply Nat.mul_le_mul_right
            omega)
        · cases h
      · cases h
    · cases h
  · cases h
end
end Go.Ex
