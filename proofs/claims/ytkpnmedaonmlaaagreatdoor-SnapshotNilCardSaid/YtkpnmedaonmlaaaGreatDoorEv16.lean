/- A verified evaluator for closed calls, part 16: regions that draw their order: masks, traces. -/
import Derived.Test.YtkpnmedaonmlaaaGreatDoorEv15
import Derived.Orders
namespace Go.Ev
open Go.RowKit

noncomputable def bit (m i : Nat) : Bool := Nat.beq (Nat.mod (Nat.div m (Nat.pow 2 i)) 2) 1
theorem bit_eq (m i : Nat) : bit m i = m.testBit i := by
  unfold bit
  rw [nbeq, Nat.testBit_eq_decide_div_mod_eq]
  rfl
noncomputable def updN (g : Nat → Nat) (i m : Nat) : Nat → Nat := fun k => bs (Nat.beq k i) m (g k)
noncomputable def preE (g : Nat → Nat) (l : List Edge) : Nat :=
  List.rec (motive := fun _ => Nat) 0 (fun e _ s => bs (Region.binds .any e) (Nat.lor s (Nat.lor (Nat.pow 2 e.on) (g e.on))) s) l
noncomputable def bfF (ops : List Oper) : Nat → (Nat → Nat) → (Nat → Nat) :=
  List.rec (motive := fun _ => Nat → (Nat → Nat) → (Nat → Nat)) (fun _ g => g) (fun o _ ih i g => ih (Nat.add i 1) (updN g i (preE g o.after.toList))) ops
noncomputable def bfs (ops : List Oper) : Nat → Nat := bfF ops 0 (fun _ => 0)

/-- closed under the edges that bind -/
def Clo (ops : List Oper) (D : Nat → Prop) : Prop := ∀ j oj, ops[j]? = some oj → D j → ∀ e ∈ oj.after.toList, Region.binds .any e = true → D e.on

theorem pre_bits (D : Nat → Prop) (g : Nat → Nat) (hg : ∀ k j, (g k).testBit j = true → D k → D j) : ∀ (l : List Edge), (∀ e ∈ l, Region.binds .any e = true → D e.on) → ∀ j, (preE g l).testBit j = true → D j
  | [], _, j, h => by rw [show preE g [] = 0 from rfl, Nat.zero_testBit] at h; cases h
  | e :: l, hl, j, h => by
    have ih := pre_bits D g hg l (fun x hx => hl x (List.mem_cons_of_mem _ hx)) j
    have h' : (bs (Region.binds .any e) (Nat.lor (preE g l) (Nat.lor (Nat.pow 2 e.on) (g e.on))) (preE g l)).testBit j = true := h
    cases hb : Region.binds .any e with
    | false => rw [hb, bs_false] at h'; exact ih h'
    | true =>
      rw [hb, bs_true] at h'
      have h2 : ((preE g l) ||| (2 ^ e.on ||| g e.on)).testBit j = true := h'
      rw [Nat.testBit_or, Nat.testBit_or, Bool.or_eq_true, Bool.or_eq_true] at h2
      have hD := hl e List.mem_cons_self hb
      rcases h2 with h2 | h2 | h2
      · exact ih h2
      · rw [Nat.testBit_two_pow] at h2
        have : e.on = j := by simpa using h2
        exact this ▸ hD
      · exact hg e.on j h2 hD
theorem bfF_good {ops : List Oper} {D : Nat → Prop} (hD : Clo ops D) : ∀ (l : List Oper) (i : Nat) (g : Nat → Nat), (∀ k, l[k]? = ops[i + k]?) → (∀ k j, (g k).testBit j = true → D k → D j) → ∀ k j, (bfF l i g k).testBit j = true → D k → D j
  | [], _, _, _, hg => hg
  | o :: l, i, g, hl, hg => by
    refine bfF_good hD l (i + 1) (updN g i (preE g o.after.toList)) (fun k => ?_) (fun k j h hk => ?_)
    · have := hl (k + 1)
      rw [List.getElem?_cons_succ] at this
      rw [this]
      congr 1
      omega
    · unfold updN at h
      rw [nbeq] at h
      by_cases hki : k = i
      · rw [decide_eq_true hki, bs_true] at h
        subst hki
        have ho : ops[k]? = some o := by have := hl 0; simpa using this.symm
        exact pre_bits D g hg _ (hD k o ho hk) j h
      · rw [decide_eq_false hki, bs_false] at h
        exact hg k j h hk
theorem bfs_closed {ops : List Oper} {D : Nat → Prop} (hD : Clo ops D) {k j : Nat} (h : bit (bfs ops k) j = true) (hk : D k) : D j := by
  rw [bit_eq] at h
  exact bfF_good hD ops 0 (fun _ => 0) (fun k => by simp) (fun k j h => by rw [Nat.zero_testBit] at h; cases h) k j h hk
/-- an operation whose direct predecessors are done: so are all its predecessors -/
theorem bfs_ready {ops : List Oper} {D : Nat → Prop} (hD : Clo ops D) {k j : Nat} {o : Oper} (ho : ops[k]? = some o) (hr : ∀ e ∈ o.after.toList, Region.binds .any e = true → D e.on) (h : bit (bfs ops k) j = true) : D j ∨ j = k := by
  have hD' : Clo ops (fun x => D x ∨ x = k) := fun i oi hi hd e he hb => by
    rcases hd with hd | rfl
    · exact .inl (hD i oi hi hd e he hb)
    · rw [ho] at hi; cases hi; exact .inl (hr e he hb)
  exact bfs_closed hD' h (.inr rfl)

/-! ### traces -/
structure Tr where
  i : Nat
  dst : Option Tmp
  v : Value
noncomputable def updO (g : Gt) (dst : Option Tmp) (v : Value) : Gt := match dst with | none => g | some d => fun t => bs (Nat.beq t d) v (g t)
theorem updO_get (g : Gt) (dst : Option Tmp) (v : Value) (t : Nat) : updO g dst v t = if dst = some t then v else g t := by
  cases dst with
  | none => rw [if_neg (by simp)]; rfl
  | some d =>
    show bs (Nat.beq t d) v (g t) = _
    rw [nbeq]
    by_cases h : t = d
    · subst h; rw [decide_eq_true rfl, if_pos rfl]; rfl
    · rw [decide_eq_false h, if_neg (fun e => h (Option.some.inj e).symm)]; rfl
open Classical in
/-- the frame after those of a trace (the latest first) that are in D -/
noncomputable def gv (D : Nat → Prop) : List Tr → Gt → Gt
  | [], g0 => g0
  | x :: tr, g0 => if D x.i then updO (gv D tr g0) x.dst x.v else gv D tr g0
theorem gv_spec (D : Nat → Prop) (g0 : Gt) (t : Nat) : ∀ tr : List Tr, (∃ x ∈ tr, D x.i ∧ x.dst = some t ∧ gv D tr g0 t = x.v) ∨ ((∀ x ∈ tr, D x.i → x.dst ≠ some t) ∧ gv D tr g0 t = g0 t)
  | [] => .inr ⟨fun x hx => (by cases hx), rfl⟩
  | x :: tr => by
    by_cases hD : D x.i
    · have e : gv D (x :: tr) g0 t = updO (gv D tr g0) x.dst x.v t := by rw [gv, if_pos hD]
      rw [e, updO_get]
      by_cases hd : x.dst = some t
      · rw [if_pos hd]; exact .inl ⟨x, List.mem_cons_self, hD, hd, rfl⟩
      · rw [if_neg hd]
        rcases gv_spec D g0 t tr with ⟨y, hy, a, b, c⟩ | ⟨a, b⟩
        · exact .inl ⟨y, List.mem_cons_of_mem _ hy, a, b, c⟩
        · refine .inr ⟨fun y hy hDy => ?_, b⟩
          cases hy with
          | head => exact hd
          | tail _ hy => exact a y hy hDy
    · have e : gv D (x :: tr) g0 t = gv D tr g0 t := by rw [gv, if_neg hD]
      rw [e]
      rcases gv_spec D g0 t tr with ⟨y, hy, a, b, c⟩ | ⟨a, b⟩
      · exact .inl ⟨y, List.mem_cons_of_mem _ hy, a, b, c⟩
      · refine .inr ⟨fun y hy hDy => ?_, b⟩
        cases hy with
        | head => exact absurd hDy hD
        | tail _ hy => exact a y hy hDy
theorem gv_all_cons (x : Tr) (tr : List Tr) (g0 : Gt) : gv (fun _ => True) (x :: tr) g0 = updO (gv (fun _ => True) tr g0) x.dst x.v := by
  rw [gv, if_pos trivial]

/-- what a trace (the latest first) obeys -/
def WfTr (ops : List Oper) : List Tr → Prop
  | [] => True
  | x :: tr => WfTr ops tr ∧ (∀ y ∈ tr, y.i ≠ x.i) ∧ ∃ o, ops[x.i]? = some o ∧ x.dst = o.dst ∧ ∀ e ∈ o.after.toList, Region.binds .any e = true → ∃ y ∈ tr, y.i = e.on
theorem WfTr.clo {ops : List Oper} : ∀ {tr : List Tr}, WfTr ops tr → Clo ops (fun j => ∃ y ∈ tr, y.i = j)
  | [], _ => fun j oj _ ⟨y, hy, _⟩ => by cases hy
  | x :: tr, ⟨h1, h2, o, ho, hd, he⟩ => fun j oj hj ⟨y, hy, hyj⟩ e hee hb => by
    cases hy with
    | head =>
      subst hyj
      rw [ho] at hj; cases hj
      obtain ⟨z, hz, hzi⟩ := he e hee hb
      exact ⟨z, List.mem_cons_of_mem _ hz, hzi⟩
    | tail _ hy =>
      obtain ⟨z, hz, hzi⟩ := h1.clo j oj hj ⟨y, hy, hyj⟩ e hee hb
      exact ⟨z, List.mem_cons_of_mem _ hz, hzi⟩
theorem WfTr.op {ops : List Oper} : ∀ {tr : List Tr}, WfTr ops tr → ∀ x ∈ tr, ∃ o, ops[x.i]? = some o ∧ x.dst = o.dst
  | [], _, x, hx => by cases hx
  | y :: tr, ⟨h1, _, o, ho, hd, _⟩, x, hx => by
    cases hx with
    | head => exact ⟨o, ho, hd⟩
    | tail _ hx => exact h1.op x hx
theorem WfTr.uniq {ops : List Oper} : ∀ {tr : List Tr}, WfTr ops tr → ∀ x ∈ tr, ∀ y ∈ tr, x.i = y.i → x = y
  | [], _, x, hx, _, _, _ => by cases hx
  | z :: tr, ⟨h1, h2, _⟩, x, hx, y, hy, e => by
    cases hx with
    | head => cases hy with
      | head => rfl
      | tail _ hy => exact absurd e.symm (h2 y hy)
    | tail _ hx => cases hy with
      | head => exact absurd e (h2 x hx)
      | tail _ hy => exact h1.uniq x hx y hy e

/-- the static look: writers and readers of one slot are ordered; no slot is written twice -/
noncomputable def looks (ops : List Oper) (o : Oper) (t : Tmp) : Bool := (o.looksAt ⟨ops⟩).contains t
def Slots (ops : List Oper) : Prop :=
  (∀ (i : Nat) (oi : Oper) (j : Nat) (oj : Oper) (t : Tmp), ops[i]? = some oi → ops[j]? = some oj → t ∈ oi.looksAt ⟨ops⟩ → oj.dst = some t → j = i ∨ bit (bfs ops i) j = true ∨ bit (bfs ops j) i = true) ∧
  (∀ (i : Nat) (oi : Oper) (j : Nat) (oj : Oper) (t : Tmp), ops[i]? = some oi → ops[j]? = some oj → oi.dst = some t → oj.dst = some t → i = j)

/-- the operands of an operation read alike in every order -/
theorem agree {ops : List Oper} (hs : Slots ops) {D : Nat → Prop} (hD : Clo ops D) {i : Nat} {o : Oper} (ho : ops[i]? = some o) (hr : ∀ e ∈ o.after.toList, Region.binds .any e = true → D e.on) (hni : ¬ D i)
    {tr tl pre : List Tr} {x0 : Tr} (htr : tr = pre ++ x0 :: tl) (hx0 : x0.i = i) (hw : WfTr ops tr) (hw0 : WfTr ops (x0 :: tl)) (g0 : Gt) {t : Tmp} (ht : t ∈ o.looksAt ⟨ops⟩) : gv D tr g0 t = gv (fun _ => True) tl g0 t := by
  have sub : ∀ y ∈ tl, y ∈ tr := fun y hy => by rw [htr]; exact List.mem_append_right _ (List.mem_cons_of_mem _ hy)
  have subx : x0 ∈ tr := by rw [htr]; exact List.mem_append_right _ List.mem_cons_self
  obtain ⟨hwt, hnot, o', ho', _, hedge⟩ := hw0
  rw [hx0, ho] at ho'
  cases ho'
  have inTl : ∀ j, bit (bfs ops i) j = true → j ≠ i → ∃ y ∈ tl, y.i = j := fun j hb hne =>
    (bfs_ready (hwt.clo) ho hedge hb).resolve_right hne
  rcases gv_spec D g0 t tr with ⟨x, hx, hDx, hxt, hv⟩ | ⟨hno, hv⟩
  · obtain ⟨ox, hox, hdx⟩ := hw.op x hx
    have hxi : x.i ≠ i := fun e => hni (e ▸ hDx)
    rcases hs.1 i o x.i ox t ho hox ht (hdx ▸ hxt) with e | e | e
    · exact absurd e hxi
    · obtain ⟨y, hy, hyi⟩ := inTl x.i e hxi
      have hyx : y = x := hw.uniq y (sub y hy) x hx hyi
      subst hyx
      rcases gv_spec (fun _ => True) g0 t tl with ⟨z, hz, _, hzt, hv2⟩ | ⟨hno2, _⟩
      · obtain ⟨oz, hoz, hdz⟩ := hw.op z (sub z hz)
        have := hs.2 z.i oz y.i ox t hoz hox (hdz ▸ hzt) (hdx ▸ hxt)
        have hzy : z = y := hw.uniq z (sub z hz) y hx this
        rw [hv, hv2, hzy]
      · exact absurd hxt (hno2 y hy trivial)
    · exact absurd (bfs_closed hD e hDx) hni
  · rcases gv_spec (fun _ => True) g0 t tl with ⟨y, hy, _, hyt, _⟩ | ⟨_, hv2⟩
    · exfalso
      obtain ⟨oy, hoy, hdy⟩ := hw.op y (sub y hy)
      have hyi : y.i ≠ i := fun e => hnot y hy (e.trans hx0.symm)
      rcases hs.1 i o y.i oy t ho hoy ht (hdy ▸ hyt) with e | e | e
      · exact hyi e
      · have hDy := (bfs_ready hD ho hr e).resolve_right hyi
        exact hno y (sub y hy) hDy hyt
      · -- i would stand before y
        have hc := hwt.clo
        obtain ⟨z, hz, hzi⟩ := bfs_closed hc e ⟨y, hy, rfl⟩
        exact hnot z hz (hzi.trans hx0.symm)
    · rw [hv, hv2]
end Go.Ev
