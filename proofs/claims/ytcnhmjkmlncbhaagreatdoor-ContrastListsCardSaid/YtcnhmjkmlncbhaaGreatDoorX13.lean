/- A verified evaluator of Go functions on partly symbolic values, part 13 of 17. -/
import Derived.Test.YtcnhmjkmlncbhaaGreatDoorX12
import Derived.Orders
namespace Go.Ex
open Go.RowKit

noncomputable def bit (m i : Nat) : Bool := Nat.beq (Nat.mod (Nat.div m (Nat.pow 2 i)) 2) 1
theorem bit_eq (m i : Nat) : bit m i = m.testBit i := by
  unfold bit
  rw [nbeq, Nat.testBit_eq_decide_div_mod_eq]
  rfl
noncomputable def updN (g : Nat → Nat) (i m : Nat) : Nat → Nat := fun k => bs (Nat.beq k i) m (g k)
noncomputable def preE (g : Nat → Nat) (l : List Edge) : Nat :=
  List.rec (motive := fun _ => Nat) 0 (fun e _ s => bs (Region.binds .any e) (Nat.lor s (Nat.lor (Nat.pow 2 e.on) (g e.on))) s) l
noncomputable def bfF (ops : List Oper) : Nat → (Nat → Nat) → (Nat → Nat) :=
  List.rec (motive := fun _ => Nat → (Nat → Nat) → (Nat → Nat)) (fun _ g => g) (fun o _ ih i g => ih (Nat.add i 1) (updN g i (preE g o.after.toList))) ops
noncomputable def bfs (ops : List Oper) : Nat → Nat := bfF ops 0 (fun _ => 0)

/-- closed under the edges that bind -/
def Clo (ops : List Oper) (D : Nat → Prop) : Prop := ∀ j oj, ops[j]? = some oj → D j → ∀ e ∈ oj.after.toList, Region.binds .any e = true → D e.on

theorem pre_bits (D : Nat → Prop) (g : Nat → Nat) (hg : ∀ k j, (g k).testBit j = true → D k → D j) : ∀ (l : List Edge), (∀ e ∈ l, Region.binds .any e = true → D e.on) → ∀ j, (preE g l).testBit j = true → D j
  | [], _, j, h => by rw [show preE g [] = 0 from rfl, Nat.zero_testBit] at h; cases h
  | e :: l, hl, j, h => by
    have ih := pre_bits D g hg l (fun x hx => hl x (List.mem_cons_of_mem _ hx)) j
    have h' : (bs (Region.binds .any e) (Nat.lor (preE g l) (Nat.lor (Nat.pow 2 e.on) (g e.on))) (preE g l)).testBit j = true := h
    cases hb : Region.binds .any e with
    | false => rw [hb, bs_false] at h'; exact ih h'
    | true =>
      rw [hb, bs_true] at h'
      have h2 : ((preE g l) ||| (2 ^ e.on ||| g e.on)).testBit j = true := h'
      rw [Nat.testBit_or, Nat.testBit_or, Bool.or_eq_true, Bool.or_eq_true] at h2
      have hD := hl e List.mem_cons_self hb
      rcases h2 with h2 | h2 | h2
      · exact ih h2
      · rw [Nat.testBit_two_pow] at h2
        have : e.on = j := by simpa using h2
        exact this ▸ hD
      · exact hg e.on j h2 hD
theorem bfF_good {ops : List Oper} {D : Nat → Prop} (hD : Clo ops D) : ∀ (l : List Oper) (i : Nat) (g : Nat → Nat), (∀ k, l[k]? = ops[i + k]?) → (∀ k j, (g k).testBit j = true → D k → D j) → ∀ k j, (bfF l i g k).testBit j = true → D k → D j
  | [], _, _, _, hg => hg
  | o :: l, i, g, hl, hg => by
    refine bfF_good hD l (i + 1) (updN g i (preE g o.after.toList)) (fun k => ?_) (fun k j h hk => ?_)
    · have := hl (k + 1)
      rw [List.getElem?_cons_succ] at this
      rw [this]
      congr 1
      omega
    · unfold updN at h
      rw [nbeq] at h
      by_cases hki : k = i
      · rw [decide_eq_true hki, bs_true] at h
        subst hki
        have ho : ops[k]? = some o := by have := hl 0; simpa using this.symm
        exact pre_bits D g hg _ (hD k o ho hk) j h
      · rw [decide_eq_false hki, bs_false] at h
        exact hg k j h hk
theorem bfs_closed {ops : List Oper} {D : Nat → Prop} (hD : Clo ops D) {k j : Nat} (h : bit (bfs ops k) j = true) (hk : D k) : D j := by
  rw [bit_eq] at h
  exact bfF_good hD ops 0 (fun _ => 0) (fun k => by simp) (fun k j h => by rw [Nat.zero_testBit] at h; cases h) k j h hk
/-- an operation whose direct predecessors are done: so are all its predecessors -/
theorem bfs_ready {ops : List Oper} {D : Nat → Prop} (hD : Clo ops D) {k j : Nat} {o : Oper} (ho : ops[k]? = some o) (hr : ∀ e ∈ o.after.toList, Region.binds .any e = true → D e.on) (h : bit (bfs ops k) j = true) : D j ∨ j = k := by
  have hD' : Clo ops (fun x => D x ∨ x = k) := fun i oi hi hd e he hb => by
    rcases hd with hd | rfl
    · exact .inl (hD i oi hi hd e he hb)
    · rw [ho] at hi; cases hi; exact .inl (hr e he hb)
  exact bfs_closed hD' h (.inr rfl)

/-! ### traces -/
structure Tr where
  i : Nat
  dst : Option Tmp
  v : Value
noncomputable def updO (g : Gt) (dst : Option Tmp) (v : Value) : Gt := match dst with | none => g | some d => fun t => bs (Nat.beq t d) v (g t)
theorem updO_get (g : Gt) (dst : Option Tmp) (v : Value) (t : Nat) : updO g dst v t = if dst = some t then v else g t := by
  cases dst with
  | none => rw [if_neg (by simp)]; rfl
  | some d =>
    show bs (Nat.beq t d) v (g t) = _
    rw [nbeq]
    by_cases h : t = d
    · subst h; rw [decide_eq_true rfl, if_pos rfl]; rfl
    · rw [decide_eq_false h, if_neg (fun e => h (Option.some.inj e).symm)]; rfl
open Classical in
/-- the frame after those of a trace (the latest first) that are in D -/
noncomputable def gv (D : Nat → Prop) : List Tr → Gt → Gt
  | [], g0 => g0
  | x :: tr, g0 => if D x.i then updO (gv D tr g0) x.dst x.v else gv D tr g0
theorem gv_spec (D : Nat → Prop) (g0 : Gt) (t : Nat) : ∀ tr : List Tr, (∃ x ∈ tr, D x.i ∧ x.dst = some t ∧ gv D tr g0 t = x.v) ∨ ((∀ x ∈ tr, D x.i → x.dst ≠ some t) ∧ gv D tr g0 t = g0 t)
  | [] => .inr ⟨fun x hx => (by cases hx), rfl⟩
  | x :: tr => by
    by_cases hD : D x.i
    · have e : gv D (x :: tr) g0 t = updO (gv D tr g0) x.dst x.v t := by rw [gv, if_pos hD]
      rw [e, updO_get]
      by_cases hd : x.dst = some t
      · rw [if_pos hd]; exact .inl ⟨x, List.mem_cons_self, hD, hd, rfl⟩
      · rw [if_neg hd]
        rcases gv_spec D g0 t tr with ⟨y, hy, a, b, c⟩ | ⟨a, b⟩
        · exact .inl ⟨y, List.mem_cons_of_mem _ hy, a, b, c⟩
        · refine .inr ⟨fun y hy hDy => ?_, b⟩
          cases hy with
          | head => exact hd
          | tail _ hy => exact a y hy hDy
    · have e : gv D (x :: tr) g0 t = gv D tr g0 t := by rw [gv, if_neg hD]
      rw [e]
      rcases gv_spec D g0 t tr with ⟨y, hy, a, b, c⟩ | ⟨a, b⟩
      · exact .inl ⟨y, List.mem_cons_of_mem _ hy, a, b, c⟩
      · refine .inr ⟨fun y hy hDy => ?_, b⟩
        cases hy with
        | head => exact absurd hDy hD
        | tail _ hy => exact a y hy hDy
theorem gv_all_cons (x : Tr) (tr : List Tr) (g0 : Gt) : gv (fun _ => True) (x :: tr) g0 = updO (gv (fun _ => True) tr g0) x.dst x.v := by
  rw [gv, if_pos trivial]

/-- what a trace (the latest first) obeys -/
def WfTr (ops : List Oper) : List Tr → Prop
  | [] => True
  | x :: tr => WfTr ops tr ∧ (∀ y ∈ tr, y.i ≠ x.i) ∧ ∃ o, ops[x.i]? = some o ∧ x.dst = o.dst ∧ ∀ e ∈ o.after.toList, Region.binds .any e = true → ∃ y ∈ tr, y.i = e.on
theorem WfTr.clo {ops : List Oper} : ∀ {tr : List Tr}, WfTr ops tr → Clo ops (fun j => ∃ y ∈ tr, y.i = j)
  | [], _ => fun j oj _ ⟨y, hy, _⟩ => by cases hy
  | x :: tr, ⟨h1, h2, o, ho, hd, he⟩ => fun j oj hj ⟨y, hy, hyj⟩ e hee hb => by
    cases hy with
    | head =>
      subst hyj
      rw [ho] at hj; cases hj
      obtain ⟨z, hz, hzi⟩ := he e hee hb
      exact ⟨z, List.mem_cons_of_mem _ hz, hzi⟩
    | tail _ hy =>
      obtain ⟨z, hz, hzi⟩ := h1.clo j oj hj ⟨y, hy, hyj⟩ e hee hb
      exact ⟨z, List.mem_cons_of_mem _ hz, hzi⟩
theorem WfTr.op {ops : List Oper} : ∀ {tr : List Tr}, WfTr ops tr → ∀ x ∈ tr, ∃ o, ops[x.i]? = some o ∧ x.dst = o.dst
  | [], _, x, hx => by cases hx
  | y :: tr, ⟨h1, _, o, ho, hd, _⟩, x, hx => by
    cases hx with
    | head => exact ⟨o, ho, hd⟩
    | tail _ hx => exact h1.op x hx
theorem WfTr.uniq {ops : List Oper} : ∀ {tr : List Tr}, WfTr ops tr → ∀ x ∈ tr, ∀ y ∈ tr, x.i = y.i → x = y
  | [], _, x, hx, _, _, _ => by cases hx
  | z :: tr, ⟨h1, h2, _⟩, x, hx, y, hy, e => by
    cases hx with
    | head => cases hy with
      | head => rfl
      | tail _ hy => exact absurd e.symm (h2 y hy)
    | tail _ hx => cases hy with
      | head => exact absurd e (h2 x hx)
      | tail _ hy => exact h1.uniq x hx y hy e

/-- the static look: writers and readers of one slot are ordered; no slot is written twice -/
noncomputable def looks (ops : List Oper) (o : Oper) (t : Tmp) : Bool := (o.looksAt ⟨ops⟩).contains t
def Slots (ops : List Oper) : Prop :=
  (∀ (i : Nat) (oi : Oper) (j : Nat) (oj : Oper) (t : Tmp), ops[i]? = some oi → ops[j]? = some oj → t ∈ oi.looksAt ⟨ops⟩ → oj.dst = some t → j = i ∨ bit (bfs ops i) j = true ∨ bit (bfs ops j) i = true) ∧
  (∀ (i : Nat) (oi : Oper) (j : Nat) (oj : Oper) (t : Tmp), ops[i]? = some oi → ops[j]? = some oj → oi.dst = some t → oj.dst = some t → i = j)

/-- the operands of an operation read alike in every order -/
theorem agree {ops : List Oper} (hs : Slots ops) {D : Nat → Prop} (hD : Clo ops D) {i : Nat} {o : Oper} (ho : ops[i]? = some o) (hr : ∀ e ∈ o.after.toList, Region.binds .any e = true → D e.on) (hni : ¬ D i)
    {tr tl pre : List Tr} {x0 : Tr} (htr : tr = pre ++ x0 :: tl) (hx0 : x0.i = i) (hw : WfTr ops tr) (hw0 : WfTr ops (x0 :: tl)) (g0 : Gt) {t : Tmp} (ht : t ∈ o.looksAt ⟨ops⟩) : gv D tr g0 t = gv (fun _ => True) tl g0 t := by
  have sub : ∀ y ∈ tl, y ∈ tr := fun y hy => by rw [htr]; exact List.mem_append_right _ (List.mem_cons_of_mem _ hy)
  have subx : x0 ∈ tr := by rw [htr]; exact List.mem_append_right _ List.mem_cons_self
  obtain ⟨hwt, hnot, o', ho', _, hedge⟩ := hw0
  rw [hx0, ho] at ho'
  cases ho'
  have inTl : ∀ j, bit (bfs ops i) j = true → j ≠ i → ∃ y ∈ tl, y.i = j := fun j hb hne =>
    (bfs_ready (hwt.clo) ho hedge hb).resolve_right hne
  rcases gv_spec D g0 t tr with ⟨x, hx, hDx, hxt, hv⟩ | ⟨hno, hv⟩
  · obtain ⟨ox, hox, hdx⟩ := hw.op x hx
    have hxi : x.i ≠ i := fun e => hni (e ▸ hDx)
    rcases hs.1 i o x.i ox t ho hox ht (hdx ▸ hxt) with e | e | e
    · exact absurd e hxi
    · obtain ⟨y, hy, hyi⟩ := inTl x.i e hxi
      have hyx : y = x := hw.uniq y (sub y hy) x hx hyi
      subst hyx
      rcases gv_spec (fun _ => True) g0 t tl with ⟨z, hz, _, hzt, hv2⟩ | ⟨hno2, _⟩
      · obtain ⟨oz, hoz, hdz⟩ := hw.op z (sub z hz)
        have := hs.2 z.i oz y.i ox t hoz hox (hdz ▸ hzt) (hdx ▸ hxt)
        have hzy : z = y := hw.uniq z (sub z hz) y hx this
        rw [hv, hv2, hzy]
      · exact absurd hxt (hno2 y hy trivial)
    · exact absurd (bfs_closed hD e hDx) hni
  · rcases gv_spec (fun _ => True) g0 t tl with ⟨y, hy, _, hyt, _⟩ | ⟨_, hv2⟩
    · exfalso
      obtain ⟨oy, hoy, hdy⟩ := hw.op y (sub y hy)
      have hyi : y.i ≠ i := fun e => hnot y hy (e.trans hx0.symm)
      rcases hs.1 i o y.i oy t ho hoy ht (hdy ▸ hyt) with e | e | e
      · exact hyi e
      · have hDy := (bfs_ready hD ho hr e).resolve_right hyi
        exact hno y (sub y hy) hDy hyt
      · -- i would stand before y
        have hc := hwt.clo
        obtain ⟨z, hz, hzi⟩ := bfs_closed hc e ⟨y, hy, rfl⟩
        exact hnot z hz (hzi.trans hx0.symm)
    · rw [hv, hv2]
end Go.Ex
namespace Go.Ex
open Go.RowKit

/-! ### the operands alone matter -/
theorem lmap_congr {α γ : Type} {f g : α → γ} : ∀ {l : List α}, (∀ x ∈ l, f x = g x) → lmap f l = lmap g l
  | [], _ => rfl
  | a :: l, h => by
    show f a :: lmap f l = g a :: lmap g l
    rw [h a List.mem_cons_self, lmap_congr (fun x hx => h x (List.mem_cons_of_mem _ hx))]
theorem opA_congr {E : Env} {sq : List (Nat × List IntKind)} {A : AW} {g g' : Gt} {op : Op} (h : ∀ x ∈ op.operands, ev E g x = ev E g' x) : opA E sq A g op = opA E sq A g' op := by
  cases op
  case move x => simp only [opA]; rw [h x (by simp [Op.operands])]
  case assign x => simp only [opA]; rw [h x (by simp [Op.operands])]
  case pick c a b => simp only [opA]; rw [h c (by simp [Op.operands]), h a (by simp [Op.operands]), h b (by simp [Op.operands])]
  case box t x => simp only [opA]; rw [h x (by simp [Op.operands])]
  case build t ps =>
    obtain ⟨ps⟩ := ps
    simp only [opA]
    rw [lmap_congr (fun p hp => by rw [h p.2 (by simp only [Op.operands, List.mem_toArray, List.mem_map]; exact ⟨p, hp, rfl⟩)])]
  case buildSlice t n ps =>
    obtain ⟨ps⟩ := ps
    simp only [opA]
    rw [lmap_congr (fun p hp => by rw [h p.2 (by simp only [Op.operands, List.mem_toArray, List.mem_map]; exact ⟨p, hp, rfl⟩)])]
  case load t a => simp only [opA]; rw [h a (by simp [Op.operands])]
  case store t a v => simp only [opA]; rw [h a (by simp [Op.operands]), h v (by simp [Op.operands])]
  case nilCheck x => simp only [opA]; rw [h x (by simp [Op.operands])]
  case binOp o t x y ty => simp only [opA]; rw [h x (by simp [Op.operands]), h y (by simp [Op.operands])]
  case unOp o t x => simp only [opA]; rw [h x (by simp [Op.operands])]
  case convert s d x => simp only [opA]; rw [h x (by simp [Op.operands])]
  case makeFunc fn p q =>
    obtain ⟨p⟩ := p
    obtain ⟨q⟩ := q
    cases fn <;> simp only [opA]
    rw [lmap_congr (fun x hx => h x (by simp [Op.operands, hx])), lmap_congr (l := q) (fun x hx => h x (by simp [Op.operands, hx]))]
  case makeSlice t l c => simp only [opA]; rw [h l (by simp [Op.operands]), h c (by simp [Op.operands])]
  case slice t x lo hi mx =>
    simp only [opA]
    rw [h x (by simp [Op.operands])]
    have e1 : lo.map (ev E g) = lo.map (ev E g') := by cases lo with | none => rfl | some y => exact congrArg some (h y (by simp [Op.operands]))
    have e2 : hi.map (ev E g) = hi.map (ev E g') := by cases hi with | none => rfl | some y => exact congrArg some (h y (by simp [Op.operands]))
    have e3 : mx.map (ev E g) = mx.map (ev E g') := by cases mx with | none => rfl | some y => exact congrArg some (h y (by simp [Op.operands]))
    rw [e1, e2, e3]
  case fieldAddr t x f => simp only [opA]; rw [h x (by simp [Op.operands])]
  case field t x f => simp only [opA]; rw [h x (by simp [Op.operands])]
  case indexAddr t x i => simp only [opA]; rw [h x (by simp [Op.operands]), h i (by simp [Op.operands])]
  case index t x i => simp only [opA]; rw [h x (by simp [Op.operands]), h i (by simp [Op.operands])]
  case extract x i => simp only [opA]; rw [h x (by simp [Op.operands])]
  case call c =>
    obtain ⟨callee, ⟨args⟩, tys⟩ := c
    have hargs : ∀ x ∈ args, ev E g x = ev E g' x := fun x hx => h x (by simp [Op.operands, Call.operands, hx])
    cases callee with
    | value f =>
      simp only [opA]
      rw [h f (by simp [Op.operands, Call.operands]), lmap_congr hargs]
    | invoke r m => simp only [opA]
    | builtin b =>
      obtain ⟨tys⟩ := tys
      simp only [opA]
      rw [lmap_congr hargs]
  case makeMap t r =>
    simp only [opA]
    have e1 : r.map (ev E g) = r.map (ev E g') := by cases r with | none => rfl | some y => exact congrArg some (h y (by simp [Op.operands]))
    rw [e1]
  case lookup t x k b => simp only [opA]; rw [h x (by simp [Op.operands]), h k (by simp [Op.operands])]
  case mapUpdate t m k x => simp only [opA]; rw [h m (by simp [Op.operands]), h k (by simp [Op.operands]), h x (by simp [Op.operands])]
  case insert t m k x => simp only [opA]; rw [h m (by simp [Op.operands]), h k (by simp [Op.operands]), h x (by simp [Op.operands])]
  case mapEntry t m k => simp only [opA]; rw [h m (by simp [Op.operands]), h k (by simp [Op.operands])]
  case entryStore t m k x => simp only [opA]; rw [h m (by simp [Op.operands]), h k (by simp [Op.operands]), h x (by simp [Op.operands])]
  case range t x => simp only [opA]; rw [h x (by simp [Op.operands])]
  case next it b =>
    cases b
    · simp only [opA]; rw [h it (by simp [Op.operands])]
    · simp only [opA]
  case entry it => simp only [opA]; rw [h it (by simp [Op.operands])]
  all_goals simp only [opA]

theorem keyOf_congr {E : Env} {sq : List (Nat × List IntKind)} {g g' : Gt} {op : Op} (h : ∀ x ∈ op.operands, ev E g x = ev E g' x) : keyOf E sq g op = keyOf E sq g' op := by
  cases op
  case binOp b t x y ty => simp only [keyOf]; rw [h x (by simp [Op.operands]), h y (by simp [Op.operands])]
  case unOp u t x => simp only [keyOf]; rw [h x (by simp [Op.operands])]
  case convert s d x => simp only [keyOf]; rw [h x (by simp [Op.operands])]
  case index t x i => simp only [keyOf]; rw [h x (by simp [Op.operands]), h i (by simp [Op.operands])]
  case indexAddr t x i => simp only [keyOf]; rw [h x (by simp [Op.operands]), h i (by simp [Op.operands])]
  case fieldAddr t x f => simp only [keyOf]; rw [h x (by simp [Op.operands])]
  case load t x => simp only [keyOf]; rw [h x (by simp [Op.operands])]
  case nilCheck x => simp only [keyOf]; rw [h x (by simp [Op.operands])]
  case slice t x lo hi mx =>
    cases mx with
    | some y => rfl
    | none =>
      simp only [keyOf]
      have e1 : loV E g lo = loV E g' lo := by cases lo with | none => rfl | some y => exact h y (by simp [Op.operands])
      have e2 : hiV E g hi = hiV E g' hi := by cases hi with | none => rfl | some y => exact congrArg (fun v => [v]) (h y (by simp [Op.operands]))
      rw [h x (by simp [Op.operands]), e1, e2]
  case call c =>
    obtain ⟨callee, ⟨args⟩, ⟨tys⟩⟩ := c
    cases callee with
    | builtin b =>
      cases b
      case len =>
        match args, tys with
        | [x], [t] => simp only [keyOf]; rw [h x (by simp [Op.operands, Call.operands])]
        | [], _ => rfl
        | _ :: _ :: _, _ => rfl
        | [_], [] => rfl
        | [_], _ :: _ :: _ => rfl
      all_goals rfl
    | _ => rfl
  all_goals rfl
theorem symV_congr {E : Env} {sq : List (Nat × List IntKind)} {g g' : Gt} {op : Op} (h : ∀ x ∈ op.operands, ev E g x = ev E g' x) (nd : Node) : symV E sq g op nd = symV E sq g' op nd := by
  unfold symV
  rw [keyOf_congr h]
theorem opT_congr {E : Env} {sq : List (Nat × List IntKind)} {A : AW} {g g' : Gt} {op : Op} (h : ∀ x ∈ op.operands, ev E g x = ev E g' x) : opT E sq A g op = opT E sq A g' op := by
  unfold opT
  rw [opD_eq, opD_eq, opA_congr h, symR_congr (symV_congr h)]

theorem ev_congr {E : Env} {g g' : Gt} {x : Operand} (h : ∀ t, x = .tmp t → g t = g' t) : ev E g x = ev E g' x := by
  cases x with
  | tmp t => exact h t rfl
  | _ => rfl
end Go.Ex
namespace Go.Ex
open Go.RowKit

def pureOp (op : Op) : Bool :=
  match op with
  | .move _ => true
  | .assign _ => true
  | .pick _ _ _ => true
  | .build _ _ => true
  | .nilCheck _ => true
  | .binOp _ _ _ _ _ => true
  | .unOp _ _ _ => true
  | .makeFunc _ _ _ => true
  | .fieldAddr _ _ _ => true
  | .field _ _ _ => true
  | .indexAddr _ _ _ => true
  | .index _ _ _ => true
  | .extract _ _ => true
  | _ => false
/-- 0: leaves memory alone; 1: makes one block; 2: anything -/
noncomputable def kindOf (E : Env) (op : Op) : Nat :=
  match op with
  | .load _ _ => 0
  | .convert _ d _ => match E.ti.get none d with | some ⟨.slice _, _, _, _, _⟩ => 2 | _ => 0
  | .slice _ _ _ _ _ => 0
  | .call ⟨.builtin .len, _, _⟩ => 0
  | .alloc _ => 1
  | .box _ _ => 1
  | .buildSlice _ _ _ => 1
  | .makeSlice _ _ _ => 1
  | op => bif pureOp op then 0 else 2

section
variable {P : Program} {E : Env} (ok : E.Ok P) {sq : List (Nat × List IntKind)} {w0 w : World} {β : Ren} {A : AW}

theorem pure_any {A2 : AW} {g : Gt} {op : Op} {v : Value} {A' : AW} (hp : pureOp op = true) (h : opA E sq A g op = .val v A') : A' = A ∧ opA E sq A2 g op = .val v A2 := by
  cases op <;> try (cases hp; done)
  case makeFunc fn p q =>
    obtain ⟨p⟩ := p
    obtain ⟨q⟩ := q
    cases fn <;> simp only [opA] at h ⊢ <;> cases h
    exact ⟨rfl, rfl⟩
  case build t ps =>
    obtain ⟨ps⟩ := ps
    simp only [opA] at h ⊢
    obtain ⟨h1, rfl⟩ := ofV_val h
    exact ⟨rfl, by rw [h1]; rfl⟩
  all_goals
    simp only [opA] at h ⊢
    first
    | (cases h; exact ⟨rfl, rfl⟩)
    | (obtain ⟨h1, rfl⟩ := ofV_val h
       exact ⟨rfl, by rw [h1]; rfl⟩)
theorem quiet_same {g : Gt} {op : Op} {v : Value} {A' : AW} (hk : kindOf E op = 0) (h : opA E sq A g op = .val v A') : A' = A := by
  cases hp : pureOp op with
  | true => exact (pure_any (A2 := A) hp h).1
  | false =>
    cases op <;> simp only [kindOf, hp] at hk <;> try (cases hk; done)
    case load t x => simp only [opA] at h; exact (ofV_val h).2
    case slice t x lo hi mx => simp only [opA] at h; exact (ofV_val h).2
    case convert s d x =>
      simp only [opA, convA] at h
      split at h
      · cases h; rfl
      · split at h
        · cases h; rfl
        · have h2 := ofP_val h
          unfold bytesV at h2
          split at h2
          · rename_i hd _
            rw [hd] at hk
            cases hk
          · cases h2
    case call c =>
      obtain ⟨callee, ⟨args⟩, ⟨tys⟩⟩ := c
      cases callee with
      | value f => cases hk
      | invoke r m => cases hk
      | builtin b =>
        simp only [opA, builtinA] at h
        split at h
        · exact (ofV_val h).2
        all_goals first
          | (cases hk; done)
          | (cases h; done)
theorem calm_no_call {g : Gt} {op : Op} {f : Tgt} {args : List Value} (hk : kindOf E op ≤ 1) : opA E sq A g op ≠ .call f args := by
  intro h
  cases op
  case call c =>
    obtain ⟨callee, ⟨as⟩, ⟨tys⟩⟩ := c
    cases callee with
    | value f => simp only [kindOf, pureOp, cond_false] at hk; omega
    | invoke r m => simp only [opA] at h; cases h
    | builtin b =>
      simp only [opA, builtinA] at h
      split at h
      all_goals first
        | cases h
        | (unfold ofV at h; split at h <;> cases h)
        | (unfold ofP at h; split at h <;> cases h)
        | (split at h
           · cases h
           · unfold ofP at h; split at h <;> cases h)
  case build t ps => obtain ⟨ps⟩ := ps; simp only [opA] at h; unfold ofV at h; split at h <;> cases h
  case next it b =>
    cases b
    · simp only [opA] at h; unfold ofN at h; split at h <;> cases h
    · simp only [opA] at h; cases h
  case buildSlice t n ps => obtain ⟨ps⟩ := ps; simp only [opA] at h; unfold ofP at h; split at h <;> cases h
  case makeFunc fn p q => obtain ⟨p⟩ := p; obtain ⟨q⟩ := q; cases fn <;> simp only [opA] at h <;> cases h
  all_goals
    simp only [opA] at h
    first
    | (cases h; done)
    | (unfold ofV at h; split at h <;> cases h)
    | (unfold ofP at h; split at h <;> cases h)
    | (unfold ofA at h; split at h <;> cases h)
    | (unfold ofN at h; split at h <;> cases h)
    | (unfold convA at h
       split at h
       · cases h
       · split at h
         · cases h
         · unfold ofP at h; split at h <;> cases h)

include ok in
theorem fresh_ok {A2 : AW} (inv : Inv w0 E.G β A2 w) {n : Nat} {g : Gt} {a : Act} (hf : FRel β n g a.tmps) {o : Oper} {v : Value} {A' : AW} (hk : kindOf E o.op = 1) (h : opA E sq A g o.op = .val v A') :
    ∃ cs es cs' e v', A' = A.add ⟨.cells cs, es, true, false, e⟩ ∧ (execOp a.eval o).run P w = .ok (.value v') (w.alloc (.cells ⟨cs'⟩ e)) ∧ LRel β cs cs' ∧ ∀ β' : Ren, β' A.next = some ⟨w.heap.size, 0, es, cs'.length⟩ → VRel β' v v' := by
  obtain ⟨dst, op, type, pos, after, guard⟩ := o
  have E1 := ev_rel (a := a) inv hf
  simp only at hk h
  cases hp : pureOp op with
  | true => cases op <;> simp only [kindOf, pureOp] at hk hp <;> first | (cases hp; done) | (cases hk; done)
  | false =>
    cases op <;> simp only [kindOf, hp] at hk <;> try (cases hk; done)
    case convert s d x => split at hk <;> cases hk
    case alloc t =>
      simp only [opA] at h
      obtain ⟨cs, es, e, rfl, cs', v', h1, h2, h3⟩ := alloc_fr (P := P) ok (ofP_val h) β w
      exact ⟨cs, es, cs', e, v', rfl, by simp [execOp, h1], h2, h3⟩
    case box t x =>
      simp only [opA] at h
      obtain ⟨cs, es, e, rfl, cs', v', h1, h2, h3⟩ := box_fr (P := P) (t := t) (ofP_val h) (E1 x) w
      exact ⟨cs, es, cs', e, v', rfl, by simp [execOp, h1], h2, h3⟩
    case buildSlice t len ps =>
      obtain ⟨ps⟩ := ps
      simp only [opA] at h
      obtain ⟨cs, es, e, rfl, cs', v', h1, h2, h3⟩ := buildSlice_fr (P := P) ok (ofP_val h) (PRel_map hf inv ps) w
      refine ⟨cs, es, cs', e, v', rfl, ?_, h2, h3⟩
      have : (Instr.buildSlice t len (Array.map (fun (p : Nat × Operand) => (p.1, a.eval p.2)) ⟨ps⟩)).run P w = .ok v' (w.alloc (.cells ⟨cs'⟩ e)) := by simpa using h1
      show (do pure (Next.value (← Instr.buildSlice t len (Array.map (fun (p : Nat × Operand) => (p.1, a.eval p.2)) ⟨ps⟩))) : Sem Next).run P w = _
      simp only [Sem.run_bind, this]
      rfl
    case makeSlice t x y =>
      simp only [opA] at h
      obtain ⟨cs, es, e, rfl, cs', v', h1, h2, h3⟩ := makeSlice_fr (P := P) ok (ofP_val h) (E1 x) (E1 y) w
      exact ⟨cs, es, cs', e, v', rfl, by simp [execOp, h1], h2, h3⟩
    case call c =>
      obtain ⟨callee, args, tys⟩ := c
      cases callee <;> simp only [kindOf, pureOp] at hk <;> try (cases hk; done)
      rename_i b
      cases b <;> simp only [kindOf, pureOp] at hk <;> cases hk

/-- a name is kept for a block that is not there yet -/
theorem Inv.reserve (h : Inv w0 E.G β A w) (blk : Blk) (hp : Plain blk := by intro c h; cases h) : Inv w0 E.G β (A.add blk) w := by
  have hn : A.get A.next = none := h.nxt _ (Nat.le_refl _)
  have hb : β A.next = none := by
    cases hc : β A.next with
    | none => rfl
    | some l => exact absurd (h.dom _ l hc) (Nat.lt_irrefl _)
  have old : ∀ B l, β B = some l → (A.add blk).get B = A.get B := fun B l e => by
    rcases A.get_add blk hn B with ⟨_, e2⟩ | e2
    · rw [e2, hb] at e; cases e
    · exact e2
  refine ⟨h.below, fun B l e => Nat.lt_succ_of_lt (h.dom B l e), fun B hB => ?_, h.loc, fun B B' l l' e e' hbb ha ha' => ?_, fun B k l hk e => ?_, h.glob, h.frz, fun B l kb hG e ha hs => ?_, h.nds, fun B k hk => ?_, fun B v e => Nat.lt_succ_of_lt (h.odom B v e), h.lay, h.xg, h.gsz, h.zo⟩
  · have hB' : A.next + 1 ≤ B := hB
    rcases A.get_add blk hn B with ⟨_, e2⟩ | e2
    · omega
    · exact e2.trans (h.nxt B (by omega))
  · rw [old B l e] at ha; rw [old B' l' e'] at ha'; exact h.inj B B' l l' e e' hbb ha ha'
  · rw [old B l e] at hk; exact h.cont B k l hk e
  · rw [old B l e] at ha; exact h.sep B l kb hG e ha hs
  · rcases A.get_add blk hn B with ⟨e2, _⟩ | e2
    · rw [e2] at hk; cases hk; exact hp.ok
    · rw [e2] at hk; exact h.own B k hk
/-- the block of a name that was kept -/
theorem Inv.map (h : Inv w0 E.G β A w) (N : Nat) (hN : N < A.next) (hb : β N = none) (o : Obj) (l : Loc) (hl : l.b = w.heap.size) (hrel : ∀ blk, A.get N = some blk → BRel (β.put N l) l blk (some o)) :
    Inv w0 E.G (β.put N l) A (w.alloc o) := by
  have hput : ∀ B lb, β.put N l B = some lb → (B = N ∧ lb = l) ∨ (B ≠ N ∧ β B = some lb) := fun B lb e => by
    rw [Ren.put_f] at e
    split at e
    · cases e; exact .inl ⟨by assumption, rfl⟩
    · exact .inr ⟨by assumption, e⟩
  have hle : β.le (β.put N l) := ⟨fun B lb e => by
    rw [Ren.put_f]
    rw [if_neg (fun e2 => by rw [e2, hb] at e; cases e)]
    exact e, fun _ _ h => h, fun _ _ h => h, rfl, rfl⟩
  have hsz : (w.alloc o).heap.size = w.heap.size + 1 := by simp
  refine ⟨h.below.alloc o, fun B lb e => ?_, h.nxt, fun B lb e => ?_, fun B B' lb lb' e e' hbb ha ha' => ?_, fun B k lb hk e => ?_, fun g hg => ?_, fun b cs hz => heap_alloc_frz (h.frz b cs hz), fun B lb kb hG e ha hs => ?_, h.nds, fun B k hk => (h.own B k hk).mono hle, h.odom, h.lay, h.xg, h.gsz, h.zo⟩
  · rcases hput B lb e with ⟨e1, _⟩ | ⟨_, e⟩
    · omega
    · exact h.dom B lb e
  · rw [hsz]
    rcases hput B lb e with ⟨_, e2⟩ | ⟨_, e⟩
    · rw [e2]; exact ⟨by omega, .inr (.inl (by rw [hl]; exact h.below.size))⟩
    · exact ⟨Nat.lt_succ_of_lt (h.loc B lb e).1, (h.loc B lb e).2⟩
  · rcases hput B lb e with ⟨h1, h2⟩ | ⟨hB, f⟩ <;> rcases hput B' lb' e' with ⟨h1', h2'⟩ | ⟨hB', f'⟩
    · rw [h1, h1']
    · have := (h.loc B' lb' f').1; rw [h2, hl] at hbb; omega
    · have := (h.loc B lb f).1; rw [h2', hl] at hbb; omega
    · exact h.inj B B' lb lb' f f' hbb ha ha'
  · rcases hput B lb e with ⟨h1, h2⟩ | ⟨hB, f⟩
    · rw [h1] at hk
      rw [h2, hl, heap_alloc_new]
      exact hrel k hk
    · rw [Below.heap_alloc w o _ (h.loc B lb f).1]
      exact (h.cont B k lb hk f).mono hle
  · obtain ⟨lg, a, b, c⟩ := h.glob g hg
    exact ⟨lg, hle.f _ _ a, b, c⟩
  · rcases hput B lb e with ⟨_, h2⟩ | ⟨hB, f⟩
    · rw [h2]; exact h.z_new (by omega)
    · exact h.sep B lb kb hG f ha hs
end

/-! ### equal blocks -/
noncomputable def blkEq (a b : Blk) : Bool :=
  match a, b with
  | ⟨.cells x, e, ex, ro, ty⟩, ⟨.cells y, e', ex', ro', ty'⟩ => veqL x y && Nat.beq e e' && bs ex ex' (not ex') && bs ro ro' (not ro') && Nat.beq ty ty'
  | _, _ => false
theorem blkEq_eq {a b : Blk} (h : blkEq a b = true) : a = b := by
  unfold blkEq at h
  split at h
  · rename_i x e ex ro ty y e' ex' ro' ty'
    simp only [Bool.and_eq_true] at h
    rw [veqL_eq _ _ h.1.1.1.1, Nat.eq_of_beq_eq_true h.1.1.1.2, Nat.eq_of_beq_eq_true h.2]
    have h1 : ex = ex' := by have := h.1.1.2; cases ex <;> cases ex' <;> first | rfl | cases this
    have h2 : ro = ro' := by have := h.1.2; cases ro <;> cases ro' <;> first | rfl | cases this
    rw [h1, h2]
  · cases h
end Go.Ex
