/- A verified evaluator for closed calls, part 20: regions that draw their order: one step of any order. -/
import Derived.Test.YtkpnmedaonmlaaaGreatDoorEv19
namespace Go.Ev
open Go.RowKit

theorem gv_put {ops : List Oper} (hs : Slots ops) {tr : List Tr} (hw : WfTr ops tr) {x0 : Tr} (hx : x0 ∈ tr) {D : Nat → Prop} (hD : ¬ D x0.i) (g0 : Gt) (t : Nat) :
    gv (fun j => D j ∨ j = x0.i) tr g0 t = updO (gv D tr g0) x0.dst x0.v t := by
  rw [updO_get]
  obtain ⟨o0, ho0, hd0⟩ := hw.op x0 hx
  have same : ∀ x ∈ tr, ∀ y ∈ tr, x.dst = some t → y.dst = some t → x = y := fun x hx y hy h1 h2 => by
    obtain ⟨ox, hox, hdx⟩ := hw.op x hx
    obtain ⟨oy, hoy, hdy⟩ := hw.op y hy
    exact hw.uniq x hx y hy (hs.2 _ _ _ _ t hox hoy (hdx ▸ h1) (hdy ▸ h2))
  by_cases hd : x0.dst = some t
  · rw [if_pos hd]
    rcases gv_spec (fun j => D j ∨ j = x0.i) g0 t tr with ⟨x, hx1, _, hxt, hv⟩ | ⟨hno, _⟩
    · rw [hv, same x hx1 x0 hx hxt hd]
    · exact absurd hd (hno x0 hx (.inr rfl))
  · rw [if_neg hd]
    rcases gv_spec (fun j => D j ∨ j = x0.i) g0 t tr with ⟨x, hx1, hDx, hxt, hv⟩ | ⟨hno, hv⟩
    · have hDx' : D x.i := hDx.resolve_right (fun e => hd (by rw [← hw.uniq x hx1 x0 hx e]; exact hxt))
      rcases gv_spec D g0 t tr with ⟨y, hy, _, hyt, hv2⟩ | ⟨hno2, _⟩
      · rw [hv, hv2, same x hx1 y hy hxt hyt]
      · exact absurd hxt (hno2 x hx1 hDx')
    · rcases gv_spec D g0 t tr with ⟨y, hy, hDy, hyt, _⟩ | ⟨_, hv2⟩
      · exact absurd hyt (hno y hy (.inl hDy))
      · rw [hv, hv2]
theorem FRel.updO {β : Ren} {n : Nat} {g : Gt} {a : Act} (h : FRel β n g a.tmps) {dst : Option Tmp} (hd : ∀ d, dst = some d → d < n) {v v' : Value} (hv : VRel β v v') : FRel β n (Go.Ev.updO g dst v) (a.put dst v').tmps := by
  cases dst with
  | none => exact h
  | some d =>
    have hdn := hd d rfl
    refine ⟨by simp [Act.put, h.1], fun t => ?_⟩
    rw [updO_get]
    show VRel β _ ((a.tmps.setIfInBounds d v').getD t undef)
    by_cases hdt : d = t
    · subst hdt
      have hs : d < a.tmps.size := by rw [h.1]; exact hdn
      rw [if_pos rfl]
      have : (a.tmps.setIfInBounds d v').getD d undef = v' := by simp [hs]
      rw [this]; exact hv
    · rw [if_neg (fun e => hdt (Option.some.inj e))]
      have : (a.tmps.setIfInBounds d v').getD t undef = a.tmps.getD t undef := by simp [Array.getElem?_setIfInBounds_ne hdt]
      rw [this]; exact h.2 t
theorem FRel.ext {β : Ren} {n : Nat} {g g' : Gt} {tmps : Array Value} (h : FRel β n g tmps) (e : ∀ t, g' t = g t) : FRel β n g' tmps := ⟨h.1, fun t => by rw [e t]; exact h.2 t⟩

theorem wantA_congr {ops : List Oper} {g g' : Gt} {o : Oper} (h : ∀ t ∈ o.looksAt ⟨ops⟩, g t = g' t) : wantA ops g o = wantA ops g' o := by
  unfold wantA
  split
  · rfl
  · rename_i j want hg
    rw [nth_eq]
    cases hj : ops[j]? with
    | none => rfl
    | some og =>
      cases hd : og.dst with
      | none => simp only [hd]
      | some t =>
        simp only [hd]
        rw [h t (by
          unfold Oper.looksAt
          rw [hg]
          refine List.mem_append_right _ ?_
          simp [hj, hd])]
theorem opnds_congr {E : Env} {ops : List Oper} {g g' : Gt} {o : Oper} (h : ∀ t ∈ o.looksAt ⟨ops⟩, g t = g' t) : ∀ x ∈ o.op.operands, ev E g x = ev E g' x := fun x hx => ev_congr fun t ht => h t (by
  unfold Oper.looksAt
  refine List.mem_append_left _ (List.mem_filterMap.2 ⟨x, by simpa using hx, by rw [ht]⟩))

structure PE (E : Env) (sq : List (Nat × List IntKind)) (ops : List Oper) (g0 : Gt) (tr : List Tr) (e : Ent) : Prop where
  ex : ∃ pre x0 tl, tr = pre ++ x0 :: tl ∧ x0.i = e.i ∧ x0.v = e.v ∧ WfTr ops (x0 :: tl) ∧ e.g = gv (fun _ => True) tl g0
  op : ops[e.i]? = some e.o
  kind : kindOf E e.o.op ≤ 1
  want : wantA ops e.g e.o = some e.wanted
  unw : e.wanted = false → e.v = undef
  qt : e.wanted = true → e.nb = none → kindOf E e.o.op = 0 ∧ ∃ A1, opA E sq A1 e.g e.o.op = .val e.v A1
  fr : e.wanted = true → ∀ N blk, e.nb = some (N, blk) → kindOf E e.o.op = 1 ∧ ∃ A1 A2, A1.next = N ∧ A1.get N = none ∧ opA E sq A1 e.g e.o.op = .val e.v A2 ∧ A2.get N = some blk
theorem PE.cons {E : Env} {sq : List (Nat × List IntKind)} {ops : List Oper} {g0 : Gt} {tr : List Tr} {e : Ent} (h : PE E sq ops g0 tr e) (x : Tr) : PE E sq ops g0 (x :: tr) e := by
  obtain ⟨pre, x0, tl, h1, h2⟩ := h.ex
  exact ⟨⟨x :: pre, x0, tl, by rw [h1]; rfl, h2⟩, h.op, h.kind, h.want, h.unw, h.qt, h.fr⟩

structure PJ (w0 : World) (E : Env) (n : Nat) (ops : List Oper) (g0 : Gt) (β0 : Ren) (A0 : AW) (ds : List Deferred) (D : Nat → Prop) (β : Ren) (A : AW) (pend : List Ent) (tr : List Tr) (a : Act) (w : World) : Prop where
  clo : Clo ops D
  effs : ∀ x ∈ tr, ∀ o, ops[x.i]? = some o → 2 ≤ kindOf E o.op → D x.i
  un : ∀ x ∈ tr, ¬ D x.i → ∃ e ∈ pend, e.i = x.i
  only : ∀ j, D j → ∃ x ∈ tr, x.i = j
  frame : FRel β n (gv D tr g0) a.tmps
  inv : Inv w0 E.G β A w
  fresh : ∀ e ∈ pend, ¬ D e.i → ∀ N blk, e.nb = some (N, blk) → β N = none ∧ N < A.next ∧ A0.next ≤ N
  grow : β0.grow β A0.next
  nxt : A0.next ≤ A.next
  defers : a.defers = ds

section
variable {P : Program} {E : Env} (ok : E.Ok P) {sq : List (Nat × List IntKind)} (sok : E.Seq P sq) {w0 : World} {n : Nat} {ops : List Oper} (hs : Slots ops) (hdst : ∀ o ∈ ops, ∀ d, o.dst = some d → d < n) {g0 : Gt} {β0 : Ren} {A0 : AW} {ds : List Deferred} {ro : Option Nat}
include ok sok hs hdst

theorem calm_step {D : Nat → Prop} {β : Ren} {A : AW} {pend : List Ent} {tr : List Tr} {a : Act} {w : World} (hw : WfTr ops tr) (j : PJ w0 E n ops g0 β0 A0 ds D β A pend tr a w) (hpe : ∀ e ∈ pend, PE E sq ops g0 tr e) (hnb : ∀ e ∈ pend, ∀ e' ∈ pend, ∀ N b b', e.nb = some (N, b) → e'.nb = some (N, b') → e.i = e'.i)
    {e : Ent} (he : e ∈ pend) (hst : stab E sq A e = true) (hn : ¬ D e.i) (hr : ∀ ed ∈ e.o.after.toList, Region.binds .any ed = true → D ed.on) {Q : Exit → Act → World → Prop} {K : Act → World → Prop}
    (hK : ∀ β' a' w', PJ w0 E n ops g0 β0 A0 ds (fun x => D x ∨ x = e.i) β' A pend tr a' w' → K a' w') : wpOpIn (wideR ro) 0 P ⟨ops⟩ Q e.i K a w := by
  have pe := hpe e he
  obtain ⟨pre, x0, tl, htr, hx0, hxv, hw0, hg⟩ := pe.ex
  have hx0m : x0 ∈ tr := by rw [htr]; exact List.mem_append_right _ List.mem_cons_self
  have hx0d : x0.dst = e.o.dst := by
    obtain ⟨o1, ho1, hd1⟩ := hw.op x0 hx0m
    rw [hx0, pe.op] at ho1; cases ho1; exact hd1
  have ag : ∀ t ∈ e.o.looksAt ⟨ops⟩, gv D tr g0 t = e.g t := fun t ht => by rw [hg]; exact agree hs j.clo pe.op hr hn htr hx0 hw hw0 g0 ht
  have hom : e.o ∈ ops := List.mem_of_getElem? pe.op
  have hclo : Clo ops (fun x => D x ∨ x = e.i) := fun i oi hi hd ed hed hb => by
    rcases hd with hd | hd
    · exact .inl (j.clo i oi hi hd ed hed hb)
    · subst hd; rw [pe.op] at hi; cases hi; exact .inl (hr ed hed hb)
  have mk : ∀ β' v' w', VRel β' e.v v' → Inv w0 E.G β' A w' → β.le β' → (∀ B, B < A.next → (∀ N b, e.nb = some (N, b) → B ≠ N) → β' B = β B) → β0.grow β' A0.next → PJ w0 E n ops g0 β0 A0 ds (fun x => D x ∨ x = e.i) β' A pend tr (a.put e.o.dst v') w' := fun β' v' w' hv hinv hle hgrow hg0 => by
    refine ⟨hclo, fun x hx o ho hk => .inl (j.effs x hx o ho hk), fun x hx hnx => j.un x hx (fun h => hnx (.inl h)), fun i hi => ?_, ?_, hinv, fun e' he' hne' N blk hnb' => ?_, hg0, j.nxt, ?_⟩
    · rcases hi with hi | hi
      · exact j.only i hi
      · exact ⟨x0, hx0m, hx0.trans hi.symm⟩
    · have h1 := (j.frame.mono hle).updO (dst := e.o.dst) (fun d hd => hdst e.o hom d hd) hv
      refine h1.ext (fun t => ?_)
      have h2 := gv_put hs hw hx0m (D := D) (by rw [hx0]; exact hn) g0 t
      rw [hx0, hx0d, hxv] at h2
      exact h2
    · obtain ⟨h1, h2, h3⟩ := j.fresh e' he' (fun h => hne' (.inl h)) N blk hnb'
      refine ⟨?_, h2, h3⟩
      rw [hgrow N h2 (fun N2 b2 hb2 hNN => by subst hNN; exact hne' (.inr (hnb e' he' e he N blk b2 hnb' hb2)))]
      exact h1
    · cases e.o.dst <;> exact j.defers
  unfold wpOpIn
  have hop : (⟨ops⟩ : Array Oper)[e.i]? = some e.o := by simpa using pe.op
  simp only [hop]
  have hwant := want_ok (a := a) (by rw [wantA_congr ag]; exact pe.want) j.frame
  rw [hwant]
  cases hwd : e.wanted with
  | false =>
    rw [if_neg (by simp)]
    refine ⟨fun _ _ => trivial, hK β _ w (mk β undef w ?_ j.inv (Ren.le_refl _) (fun _ _ _ => rfl) j.grow)⟩
    rw [pe.unw hwd]; exact VRel.undef
  | true =>
    rw [if_pos rfl]
    unfold Oper.wpIn
    refine ⟨fun _ _ => trivial, ?_⟩
    have oc : ∀ A1, opA E sq A1 (gv D tr g0) e.o.op = opA E sq A1 e.g e.o.op := fun A1 => opA_congr (opnds_congr ag)
    cases hnbe : e.nb with
    | none =>
      obtain ⟨hk0, A1, hA1⟩ := pe.qt hwd hnbe
      have hnow : opA E sq A (gv D tr g0) e.o.op = .val e.v A := by
        rw [oc]
        unfold stab at hst
        rw [hwd, bs_true, hnbe] at hst
        simp only [opD_eq] at hst
        cases hp : pureOp e.o.op with
        | true => exact (pure_any hp hA1).2
        | false =>
          rw [hp, bs_false] at hst
          split at hst
          · rename_i v2 A3 h3
            have := quiet_same hk0 h3
            subst this
            rw [h3, veq_eq hst]
          · cases hst
      obtain ⟨β', v', w', hrun, hv, hinv, hgr, _⟩ := op_ok ok sok j.inv j.frame hnow
      have res := hK β' _ w' (mk β' v' w' hv hinv (hgr.le j.inv.dom) (fun B hB _ => hgr B hB) (Ren.grow_trans j.grow hgr j.nxt))
      rw [semAt_of hnow (by simp)]
      rcases hrun with hr1 | ⟨hr1, rfl⟩
      · rw [hr1]; exact res
      · rw [hr1]; exact res
    | some nb =>
      obtain ⟨N, blk⟩ := nb
      obtain ⟨hk1, A1, A2, hN1, hN0, hA1, hA2⟩ := pe.fr hwd N blk hnbe
      obtain ⟨cs, es, cs', ty, v', hadd, hrun, hcs, hv⟩ := fresh_ok (A := A1) ok j.inv j.frame hk1 ((oc A1).trans hA1)
      have hblk : blk = ⟨.cells cs, es, true, false, ty⟩ := by
        rw [hadd] at hA2
        rcases A1.get_add ⟨.cells cs, es, true, false, ty⟩ (by rw [hN1]; exact hN0) N with ⟨e1, _⟩ | e1
        · rw [e1] at hA2; cases hA2; rfl
        · rw [e1, hN0] at hA2; cases hA2
      obtain ⟨hbN, hNlt, hN0'⟩ := j.fresh e he hn N blk hnbe
      have hle : β.le (β.put N ⟨w.heap.size, 0, es, cs'.length⟩) := fun B lb eb => by
        unfold Ren.put
        rw [if_neg (fun e2 => by rw [e2, hbN] at eb; cases eb)]
        exact eb
      have hinv := j.inv.map N hNlt hbN (.cells ⟨cs'⟩ ty) ⟨w.heap.size, 0, es, cs'.length⟩ rfl (fun b hb => by
        unfold stab at hst
        rw [hwd, bs_true, hnbe] at hst
        simp only [hb] at hst
        have := blkEq_eq hst
        subst this
        rw [hblk]
        have hcs2 := hcs.mono hle
        refine ⟨⟨cs'⟩, ty, (0, 0), rfl, rfl, by simp [hcs2.1], fun i v hv => ?_, fun _ => rfl, fun _ => by simp [hcs2.1], rfl, fun _ => rfl⟩
        obtain ⟨v2, hv2, hr2⟩ := hcs2.get hv
        exact ⟨v2, by simpa using hv2, hr2⟩)
      rw [semAt_of hA1 (by simp), hrun]
      refine hK _ _ _ (mk _ v' _ (hv _ (by rw [hN1]; exact put_self _ _ _)) hinv hle (fun B hB hne => ?_) (fun B hB => ?_))
      · unfold Ren.put
        rw [if_neg (hne N blk hnbe)]
      · unfold Ren.put
        by_cases hBN : B = N
        · omega
        · rw [if_neg hBN]; exact j.grow B hB
end
end Go.Ev
