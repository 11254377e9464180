/- A verified evaluator for closed calls: ranging over maps. -/
import Derived.Test.YtkpnmedaonmlaaaGreatDoorEvO
namespace Go.Ev
open Go.RowKit
section
variable {P : Program} {E : Env} (ok : E.Ok P) {w0 w : World} {β : Ren} {A : AW} (inv : Inv w0 E.G β A w)

noncomputable def makeMapV (A : AW) : Value × AW := (.map (some A.next), A.add ⟨.map [] 0, 1, true, false, 0⟩)
include inv in
theorem makeMap_ok (t : TypeId) : Does w0 E.G β A ((Instr.makeMap t none).run P w) (makeMapV A).1 (makeMapV A).2 := by
  obtain ⟨h1, h2⟩ := inv.new ⟨.map [] 0, 1, true, false, 0⟩ (.map #[] 0) ⟨w.heap.size, 0, 1, 0⟩ rfl ⟨#[], rfl, rfl, fun i e e' h => by simp at h⟩
  exact ⟨_, .map (some w.heap.size), _, by simp [Instr.makeMap], .map A.next _ (put_self _ _ _), h1, h2⟩

noncomputable def rangeV (E : Env) (A : AW) (t : TypeId) (x : Value) : Option (Value × AW) :=
  match E.ti.get none t, x with
  | some ⟨.map _ _, _, _, _, _⟩, .map none => some (.pointer (some ⟨A.next, 0, none⟩), A.add ⟨.iter none 0 [] 0, 1, true, false, 0⟩)
  | some ⟨.map _ _, _, _, _, _⟩, .map (some B) => match mapAt A B with
    | some (_, ck) => some (.pointer (some ⟨A.next, 0, none⟩), A.add ⟨.iter (some B) ck [] ck, 1, true, false, 0⟩)
    | none => none
  | _, _ => none
theorem rangeV_next {t : TypeId} {x v : Value} {A' : AW} (h : rangeV E A t x = some (v, A')) : A.next ≤ A'.next := by
  unfold rangeV at h
  split at h
  · cases h; exact Nat.le_succ _
  · split at h
    · cases h; exact Nat.le_succ _
    · cases h
  · cases h
include ok inv in
theorem range_ok {t : TypeId} {x x' v : Value} {A' : AW} (h : rangeV E A t x = some (v, A')) (hx : VRel β x x') : Does w0 E.G β A ((Instr.range t x').run P w) v A' := by
  unfold rangeV at h
  split at h
  · rename_i hr
    have hu := (ok.ti t _ hr).1
    cases h; cases hx
    obtain ⟨h1, h2⟩ := inv.new ⟨.iter none 0 [] 0, 1, true, false, 0⟩ (.mapIter none 0 #[] 0) ⟨w.heap.size, 0, 1, 0⟩ rfl ⟨rfl, none, rfl, .inl ⟨rfl, rfl⟩⟩
    exact ⟨_, .pointer (some ⟨w.heap.size, 0 + 0, none⟩), _, by simp [Instr.range, run_underlying hu], .ptr A.next 0 _ (put_self _ _ _), h1, h2⟩
  · rename_i B hr
    have hu := (ok.ti t _ hr).1
    split at h
    · rename_i es ck hat
      cases h
      cases hx with
      | map _ l hl =>
        obtain ⟨es', hheap, _⟩ := map_rel inv hat hl
        have hle : β.le (β.put A.next ⟨w.heap.size, 0, 1, 0⟩) := (Ren.grow_put β A.next _).le inv.dom
        obtain ⟨h1, h2⟩ := inv.new ⟨.iter (some B) ck [] ck, 1, true, false, 0⟩ (.mapIter (some l.b) ck #[] ck) ⟨w.heap.size, 0, 1, 0⟩ rfl ⟨rfl, some l.b, rfl, .inr ⟨B, l, rfl, hle _ _ hl, rfl⟩⟩
        refine ⟨_, .pointer (some ⟨w.heap.size, 0 + 0, none⟩), _, ?_, .ptr A.next 0 _ (put_self _ _ _), h1, h2⟩
        have hgo : (getObj l.b).run P w = .ok (.map ⟨es'⟩ ck) w := by simp [getObj, Sem.run, hheap]
        simp [Instr.range, run_underlying hu, hgo]
    · cases h
  · cases h

/-! next -/
noncomputable def iterAt (A : AW) (R : Nat) : Option (Option Nat × Nat × List Nat × Nat) := match A.get R with | some ⟨.iter m since seen st, _, _, _, _⟩ => some (m, since, seen, st) | _ => none
noncomputable def iterPut (A : AW) (R : Nat) (o : AO) : AW := match A.get R with | some ⟨_, a, b, c, d⟩ => A.put R (some ⟨o, a, b, c, d⟩) | none => A
theorem iterPut_next (R : Nat) (o : AO) : (iterPut A R o).next = A.next := by unfold iterPut; split <;> rfl
noncomputable def lfilter {α : Type} (f : α → Bool) (l : List α) : List α := List.rec (motive := fun _ => List α) [] (fun a _ ih => bs (f a) (a :: ih) ih) l
theorem lfilter_eq {α : Type} (f : α → Bool) (l : List α) : lfilter f l = l.filter f := by
  induction l with
  | nil => rfl
  | cons a l ih =>
    show bs (f a) (a :: lfilter f l) (lfilter f l) = _
    rw [ih, List.filter_cons]
    cases f a <;> rfl
noncomputable def lin (i : Nat) (l : List Nat) : Bool := List.rec (motive := fun _ => Bool) false (fun a _ ih => bs (Nat.beq a i) true ih) l
theorem lin_mem {i : Nat} : ∀ {l : List Nat}, lin i l = true → i ∈ l
  | [], h => by cases h
  | a :: l, h => by
    have h' : bs (Nat.beq a i) true (lin i l) = true := h
    cases hb : Nat.beq a i with
    | true => rw [Nat.eq_of_beq_eq_true hb]; exact List.mem_cons_self
    | false => rw [hb, bs_false] at h'; exact List.mem_cons_of_mem _ (lin_mem h')
theorem lin_eq (i : Nat) : ∀ (l : List Nat), lin i l = l.contains i
  | [] => rfl
  | a :: l => by
    show bs (Nat.beq a i) true (lin i l) = _
    rw [lin_eq i l, List.contains_cons, nbeq]
    by_cases h : a = i
    · subst h; simp [bs]
    · rw [decide_eq_false h, bs_false]
      have : (i == a) = false := by simp; exact fun e => h e.symm
      rw [this]; rfl
noncomputable def oldE (since : Nat) (seen : List Nat) (es : List MapEntry) : List MapEntry := lfilter (fun e => Nat.blt e.born since && not (lin e.born seen)) es
noncomputable def newE (since : Nat) (seen : List Nat) (es : List MapEntry) : List MapEntry := lfilter (fun e => not (Nat.blt e.born since) && not (lin e.born seen)) es
noncomputable def cands (since : Nat) (seen : List Nat) (es : List MapEntry) : List (Option MapEntry) :=
  lapp (match oldE since seen es with | [] => [none] | _ => []) (lmap some (lapp (oldE since seen es) (newE since seen es)))
theorem MRel.filter {es es' : List MapEntry} {p p' : MapEntry → Bool} (hp : ∀ e e', e.born = e'.born → p e = p' e') : MRel β es es' → MRel β (es.filter p) (es'.filter p') := by
  induction es generalizing es' with
  | nil => intro h; rw [h.inv_nil]; exact ⟨rfl, fun i e e' h => by simp at h⟩
  | cons e es ih =>
    intro h
    obtain ⟨e', es'', rfl, he, hm⟩ := h.inv_cons
    have hpp := hp e e' he.1
    have ihm := ih hm
    rw [List.filter_cons, List.filter_cons, ← hpp]
    cases p e with
    | false => exact ihm
    | true =>
      refine ⟨by simpa using ihm.1, fun i a b ha hb => ?_⟩
      cases i with
      | zero => simp at ha hb; subst ha; subst hb; exact he
      | succ i => simp at ha hb; exact ihm.2 i a b ha hb
theorem MRel.append {a a' b b' : List MapEntry} (h : MRel β a a') (k : MRel β b b') : MRel β (a ++ b) (a' ++ b') := by
  induction a generalizing a' with
  | nil => rw [h.inv_nil]; exact k
  | cons e a ih =>
    obtain ⟨e', l', rfl, h1, h2⟩ := h.inv_cons
    have := ih h2
    refine ⟨by simpa using this.1, fun i x y hx hy => ?_⟩
    cases i with
    | zero => simp at hx hy; subst hx; subst hy; exact h1
    | succ i => simp at hx hy; exact this.2 i x y hx hy

noncomputable def nextV (E : Env) (A : AW) (it : Value) : Option (List (Value × AW)) :=
  match it with
  | .pointer (some ⟨R, 0, none⟩) => bs (Nat.ble E.G R) (match iterAt A R with
    | some (none, _, _, _) => some [(.tuple ⟨[.bool false]⟩, A)]
    | some (some B, since, seen, st) => match mapAt A B with
      | some (es, ck) => bs (match seen, es with | [], _ => true | _, [] => true | _, es => not (lall (fun e => Nat.ble st e.born) es))
          (some (lmap (fun c => match c with
            | none => (.tuple ⟨[.bool false]⟩, A)
            | some e => (.tuple ⟨[.bool true, e.key, e.val]⟩, iterPut A R (.iter (some B) since (lapp seen [e.born]) ck))) (cands since seen es))) none
      | none => none
    | none => none) none
  | _ => none
include inv in
theorem iter_rel {R : Nat} {m : Option Nat} {since : Nat} {seen : List Nat} {st : Nat} (h : iterAt A R = some (m, since, seen, st)) {l : Loc} (hl : β R = some l) : l.d = 0 ∧ ∃ m', w.heap[l.b]? = some (.mapIter m' since ⟨seen⟩ st) ∧ ((m = none ∧ m' = none) ∨ ∃ B lb, m = some B ∧ β B = some lb ∧ m' = some lb.b) := by
  unfold iterAt at h
  split at h
  · rename_i hg
    cases h
    exact inv.cont R _ l hg hl
  · cases h
include inv in
theorem iter_put {R : Nat} {m : Option Nat} {since : Nat} {seen : List Nat} {st : Nat} (h : iterAt A R = some (m, since, seen, st)) (hG : E.G ≤ R) {l : Loc} (hl : β R = some l) {B : Nat} {lb : Loc} (hB : β B = some lb) (since2 : Nat) (seen2 : List Nat) (st2 : Nat) :
    (setObj l.b (.mapIter (some lb.b) since2 ⟨seen2⟩ st2)).run P w = .ok () { w with heap := w.heap.setIfInBounds l.b (.mapIter (some lb.b) since2 ⟨seen2⟩ st2) } ∧ Inv w0 E.G β (iterPut A R (.iter (some B) since2 seen2 st2)) { w with heap := w.heap.setIfInBounds l.b (.mapIter (some lb.b) since2 ⟨seen2⟩ st2) } := by
  obtain ⟨hd0, m', h1, _⟩ := iter_rel inv h hl
  have hlt : l.b < w.heap.size := (Array.getElem?_eq_some_iff.1 h1).1
  unfold iterAt at h
  split at h
  · rename_i e0 c0 s0 t0 a b c d hg
    refine ⟨by simp [setObj, Sem.run, h1], ?_⟩
    unfold iterPut
    rw [hg]
    refine inv.write R l _ _ hg hl hG ⟨rfl, rfl, rfl, by simp, fun k hk hne => ?_⟩ (by simp) ?_
    · show (w.heap.setIfInBounds l.b _)[k]? = _
      rw [Array.getElem?_setIfInBounds_ne (fun e => hne (by rw [e]))]
    · show BRel β l _ ((w.heap.setIfInBounds l.b _)[l.b]?)
      rw [Array.getElem?_setIfInBounds_self_of_lt hlt]
      exact ⟨hd0, some lb.b, rfl, .inr ⟨B, lb, rfl, hB, rfl⟩⟩
  · cases h

theorem next_first {w : World} {r b : Nat} {since st ck : Nat} {ty : TypeId} (sn : Array Nat) (es : Array MapEntry) (cs : Array (Option MapEntry)) {i : Nat} {dr : Nat}
    (hgo : (getObj r).run P w = .ok (.mapIter (some b) since sn st) w) (hgo2 : (getObj b).run P w = .ok (.map es ck) w)
    (hall : (!sn.isEmpty && !es.isEmpty && es.all (fun e => decide (e.born ≥ st))) = false)
    (hcs : cs = (if ((es.filter fun e => !sn.contains e.born).filter (·.born < since)).isEmpty then #[none] else #[]) ++ (((es.filter fun e => !sn.contains e.born).filter (·.born < since)) ++ ((es.filter fun e => !sn.contains e.born).filter (·.born ≥ since))).map some)
    (hch : (choose (.mapNext cs.size)).run P w = .ok i { w with drawn := dr }) :
    (Instr.next (.pointer (some ⟨r, 0, none⟩)) false ty).run P w = (match cs[i]? with
                      | some (some e) => (do
                        setObj r (.mapIter (some b) since (sn.push e.born) ck)
                        pure (.tuple #[.bool true, e.key, e.val]) : Sem Value)
                      | some none => pure (.tuple #[.bool false])
                      | none => stuck "Next: no such candidate").run P { w with drawn := dr } := by
  subst hcs
  simp only [Instr.next, Sem.run_bind, hgo, Result.andThen_ok, hgo2, hall, Bool.false_eq_true, if_false, Sem.run_pure, hch]
  rfl

theorem choose_next (n : Nat) (hn : 0 < n) (w : World) : ∃ i d, i < n ∧ (choose (.mapNext n)).run P w = .ok i { w with drawn := d } := by
  by_cases h : n ≤ 1
  · refine ⟨0, w.drawn, hn, ?_⟩
    simp [choose, Sem.run, Question.forced, h]
  · refine ⟨w.tape w.drawn (.mapNext n) % n, w.drawn + 1, Nat.mod_lt _ hn, ?_⟩
    simp [choose, Sem.run, Question.forced, h, Question.cut]
/-- the candidates as the model lists them -/
def candM (since : Nat) (seen : List Nat) (es' : List MapEntry) : List (Option MapEntry) :=
  (if (es'.filter (fun e => decide (e.born < since) && !seen.contains e.born)).isEmpty then [none] else []) ++
    ((es'.filter (fun e => decide (e.born < since) && !seen.contains e.born)) ++ (es'.filter (fun e => decide (since ≤ e.born) && !seen.contains e.born))).map some
theorem cand_rel {since : Nat} {seen : List Nat} {es es' : List MapEntry} (h : MRel β es es') : (cands since seen es).length = (candM since seen es').length ∧ 0 < (candM since seen es').length ∧
    ∀ (i : Nat) (c c' : Option MapEntry), (cands since seen es)[i]? = some c → (candM since seen es')[i]? = some c' → (c = none ∧ c' = none) ∨ ∃ e e', c = some e ∧ c' = some e' ∧ ERel β e e' := by
  have ho : oldE since seen es = es.filter (fun e => decide (e.born < since) && !seen.contains e.born) := by
    unfold oldE
    rw [lfilter_eq]
    apply List.filter_congr
    intro e _
    rw [nblt, lin_eq]
  have hn : newE since seen es = es.filter (fun e => decide (since ≤ e.born) && !seen.contains e.born) := by
    unfold newE
    rw [lfilter_eq]
    apply List.filter_congr
    intro e _
    rw [nblt, lin_eq]
    congr 1
    by_cases hb : e.born < since
    · rw [decide_eq_true hb, decide_eq_false (by omega)]; rfl
    · rw [decide_eq_false hb, decide_eq_true (by omega)]; rfl
  have h1 : MRel β (oldE since seen es) (es'.filter (fun e => decide (e.born < since) && !seen.contains e.born)) := by
    rw [ho]; exact h.filter (fun e e' hb => by rw [hb])
  have h2 : MRel β (newE since seen es) (es'.filter (fun e => decide (since ≤ e.born) && !seen.contains e.born)) := by
    rw [hn]; exact h.filter (fun e e' hb => by rw [hb])
  unfold candM cands
  rw [lapp_eq, lmap_eq, lapp_eq]
  generalize oldE since seen es = O at *
  generalize newE since seen es = N at *
  generalize es'.filter (fun e => decide (e.born < since) && !seen.contains e.born) = O' at *
  generalize es'.filter (fun e => decide (since ≤ e.born) && !seen.contains e.born) = N' at *
  have h12 := h1.append h2
  have tail : ∀ (i : Nat) (c c' : Option MapEntry), ((O ++ N).map some)[i]? = some c → ((O' ++ N').map some)[i]? = some c' → ∃ e e', c = some e ∧ c' = some e' ∧ ERel β e e' := fun i c c' hc hc' => by
    rw [List.getElem?_map] at hc hc'
    obtain ⟨e, he, rfl⟩ := Option.map_eq_some_iff.1 hc
    obtain ⟨e', he', rfl⟩ := Option.map_eq_some_iff.1 hc'
    exact ⟨e, e', rfl, rfl, h12.2 i e e' he he'⟩
  cases O with
  | nil =>
    have := h1.inv_nil
    subst this
    refine ⟨by simp; simpa using h12.1, by simp, fun i c c' hc hc' => ?_⟩
    cases i with
    | zero => simp at hc hc'; exact .inl ⟨hc.symm, hc'.symm⟩
    | succ i => exact .inr (tail i c c' (by simpa using hc) (by simpa using hc'))
  | cons e O =>
    obtain ⟨e', O'', rfl, _, _⟩ := h1.inv_cons
    refine ⟨by simp; have := h12.1; simp at this; omega, by simp, fun i c c' hc hc' => .inr (tail i c c' (by simpa using hc) (by simpa using hc'))⟩
theorem all_rel {st : Nat} {es es' : List MapEntry} (h : MRel β es es') : es'.all (fun e => decide (st ≤ e.born)) = lall (fun e => Nat.ble st e.born) es := by
  induction es generalizing es' with
  | nil => rw [h.inv_nil]; rfl
  | cons e es ih =>
    obtain ⟨e', es'', rfl, he, hm⟩ := h.inv_cons
    rw [List.all_cons, ih hm, ← he.1]
    show _ = bs (Nat.ble st e.born) (lall (fun e => Nat.ble st e.born) es) false
    by_cases hb : st ≤ e.born
    · rw [decide_eq_true hb, Nat.ble_eq_true_of_le hb]; simp [bs]
    · rw [decide_eq_false hb]
      cases hq : Nat.ble st e.born with
      | false => simp [bs]
      | true => exact absurd (Nat.le_of_ble_eq_true hq) hb

include inv in
theorem next_ok {it it' : Value} {l : List (Value × AW)} {ty : TypeId} (h : nextV E A it = some l) (hi : VRel β it it') : ∃ p ∈ l, Does w0 E.G β A ((Instr.next it' false ty).run P w) p.1 p.2 ∧ A.next ≤ p.2.next := by
  unfold nextV at h
  split at h
  · rename_i R
    replace h := bs_some h
    rcases h with ⟨hG, h⟩ | ⟨_, h⟩
    · have hG' := Nat.le_of_ble_eq_true hG
      cases hi with
      | ptr _ _ lr hlr =>
        split at h
        · rename_i since seen st hit
          cases h
          obtain ⟨hd0, m', h1, h2⟩ := iter_rel inv hit hlr
          rcases h2 with ⟨_, rfl⟩ | ⟨_, _, e, _⟩
          · refine ⟨_, List.mem_cons_self, ⟨β, .tuple #[.bool false], w, ?_, VRel.tuple_of ((LRel.nil β).cons (.bool false)), inv, Ren.grow_refl _ _⟩, Nat.le_refl _⟩
            have hgo : (getObj lr.b).run P w = .ok (.mapIter none since ⟨seen⟩ st) w := by simp [getObj, Sem.run, h1]
            simp [Instr.next, hgo, hd0]
          · cases e
        · rename_i B since seen st hit
          split at h
          · rename_i es ck hat
            replace h := bs_some h
            rcases h with ⟨hch, h⟩ | ⟨_, h⟩
            · cases h
              obtain ⟨hd0, m', h1, h2⟩ := iter_rel inv hit hlr
              rcases h2 with ⟨e, _⟩ | ⟨B2, lb, e, hlb, rfl⟩
              · cases e
              · cases e
                obtain ⟨es', hheap, hmr⟩ := map_rel inv hat hlb
                obtain ⟨c1, c2, c3⟩ := cand_rel (since := since) (seen := seen) hmr
                obtain ⟨i, dr, hi, hch2⟩ := choose_next (P := P) (candM since seen es').length c2 w
                have hgo : (getObj lr.b).run P w = .ok (.mapIter (some lb.b) since ⟨seen⟩ st) w := by simp [getObj, Sem.run, h1]
                have hgo2 : (getObj lb.b).run P w = .ok (.map ⟨es'⟩ ck) w := by simp [getObj, Sem.run, hheap]
                have hi2 : i < (cands since seen es).length := by rw [c1]; exact hi
                have hcnd : (⟨candM since seen es'⟩ : Array (Option MapEntry)) = (if ((⟨es'⟩ : Array MapEntry).filter (fun e => !(⟨seen⟩ : Array Nat).contains e.born) |>.filter (·.born < since)).isEmpty then #[none] else #[]) ++ (((⟨es'⟩ : Array MapEntry).filter (fun e => !(⟨seen⟩ : Array Nat).contains e.born) |>.filter (·.born < since)) ++ ((⟨es'⟩ : Array MapEntry).filter (fun e => !(⟨seen⟩ : Array Nat).contains e.born) |>.filter (·.born ≥ since))).map some := by
                  apply Array.ext'
                  unfold candM
                  have hcs : ∀ x, (⟨seen⟩ : Array Nat).contains x = seen.contains x := fun x => by simp
                  have he : ((⟨es'⟩ : Array MapEntry).filter (fun e => !(⟨seen⟩ : Array Nat).contains e.born) |>.filter (fun x => decide (x.born < since))).isEmpty = (es'.filter (fun e => decide (e.born < since) && !seen.contains e.born)).isEmpty := by
                    rw [← Array.isEmpty_toList]
                    simp only [Array.toList_filter', List.filter_filter, hcs]
                  rw [he]
                  simp only [Array.toList_append, Array.toList_map, Array.toList_filter', List.filter_filter, hcs]
                  cases (es'.filter (fun e => decide (e.born < since) && !seen.contains e.born)).isEmpty <;> rfl
                have hall : (!(⟨seen⟩ : Array Nat).isEmpty && !(⟨es'⟩ : Array MapEntry).isEmpty && (⟨es'⟩ : Array MapEntry).all (fun e => decide (e.born ≥ st))) = false := by
                  have h8 := all_rel (st := st) hmr
                  cases seen with
                  | nil => rfl
                  | cons s0 sr =>
                    cases es with
                    | nil => rw [hmr.inv_nil]; rfl
                    | cons e0 er =>
                      simp only [Bool.not_eq_true'] at hch
                      rw [hch] at h8
                      have h9 : (⟨es'⟩ : Array MapEntry).all (fun e => decide (e.born ≥ st)) = false := by rw [← h8]; simp
                      rw [h9]; simp
                have hit0 : (Value.pointer (some ⟨lr.b, lr.d + 0, none⟩)) = .pointer (some ⟨lr.b, 0, none⟩) := by rw [hd0]
                rw [hit0]
                have hc4 := c3 i (cands since seen es)[i] (candM since seen es')[i] (by simp [hi2]) (by simp [hi])
                refine ⟨_, (by rw [lmap_eq]; exact List.mem_map.2 ⟨(cands since seen es)[i], List.getElem_mem hi2, rfl⟩), ?_, ?_⟩
                · have hfirst : (Instr.next (.pointer (some ⟨lr.b, 0, none⟩)) false ty).run P w = (match (candM since seen es')[i]? with
                      | some (some e) => (do
                        setObj lr.b (.mapIter (some lb.b) since ((⟨seen⟩ : Array Nat).push e.born) ck)
                        pure (.tuple #[.bool true, e.key, e.val]) : Sem Value)
                      | some none => pure (.tuple #[.bool false])
                      | none => stuck "Next: no such candidate").run P { w with drawn := dr } := by
                    have h0 := next_first (P := P) (ty := ty) (⟨seen⟩ : Array Nat) (⟨es'⟩ : Array MapEntry) (⟨candM since seen es'⟩ : Array (Option MapEntry)) hgo hgo2 hall hcnd (by rw [List.size_toArray]; exact hch2)
                    rw [h0]
                    have : (⟨candM since seen es'⟩ : Array (Option MapEntry))[i]? = (candM since seen es')[i]? := by simp
                    rw [this]
                  rw [hfirst]
                  have hci : (candM since seen es')[i]? = some (candM since seen es')[i] := by simp [hi]
                  rw [hci]
                  rcases hc4 with ⟨e1, e2⟩ | ⟨e, e', e1, e2, hb, hk, hv⟩
                  · rw [e1, e2]
                    exact ⟨β, .tuple #[.bool false], _, rfl, VRel.tuple_of ((LRel.nil β).cons (.bool false)), inv.drew dr, Ren.grow_refl _ _⟩
                  · rw [e1, e2]
                    have hpush : (⟨seen⟩ : Array Nat).push e'.born = ⟨seen ++ [e.born]⟩ := by apply Array.ext'; simp [hb]
                    obtain ⟨hr5, hi5⟩ := iter_put (P := P) (inv.drew dr) hit hG' hlr hlb since (seen ++ [e.born]) ck
                    refine ⟨β, .tuple #[.bool true, e'.key, e'.val], { w with drawn := dr, heap := w.heap.setIfInBounds lr.b (Obj.mapIter (some lb.b) since { toList := seen ++ [e.born] } ck) }, ?_, VRel.tuple_of (((LRel.nil β).cons hv |>.cons hk).cons (.bool true)), ?_, Ren.grow_refl _ _⟩
                    · show Sem.run P (do setObj lr.b (.mapIter (some lb.b) since ((⟨seen⟩ : Array Nat).push e'.born) ck); pure (.tuple #[.bool true, e'.key, e'.val]) : Sem Value) _ = _
                      rw [hpush]
                      simp only [Sem.run_bind, hr5, Result.andThen_ok]
                      rfl
                    · simp only [lapp_eq]; exact hi5
                · split
                  · exact Nat.le_refl _
                  · rw [iterPut_next]; exact Nat.le_refl _
            · cases h
          · cases h
        · cases h
    · cases h
  · cases h
end
end Go.Ev
