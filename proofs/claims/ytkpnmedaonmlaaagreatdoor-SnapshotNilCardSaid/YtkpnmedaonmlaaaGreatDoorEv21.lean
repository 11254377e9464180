/- A verified evaluator for closed calls, part 21: regions that draw their order: all orders. -/
import Derived.Test.YtkpnmedaonmlaaaGreatDoorEv20
namespace Go.Ev
open Go.RowKit

theorem gv_ext {D D' : Nat → Prop} {g0 : Gt} : ∀ {tr : List Tr}, (∀ x ∈ tr, D x.i ↔ D' x.i) → gv D tr g0 = gv D' tr g0
  | [], _ => rfl
  | x :: tr, h => by
    have ih := gv_ext (g0 := g0) (tr := tr) (fun y hy => h y (List.mem_cons_of_mem _ hy))
    rw [gv, gv, ih]
    by_cases hD : D x.i
    · rw [if_pos hD, if_pos ((h x List.mem_cons_self).1 hD)]
    · rw [if_neg hD, if_neg (fun e => hD ((h x List.mem_cons_self).2 e))]
theorem gv_cons_in {D : Nat → Prop} {g0 : Gt} {x : Tr} {tr : List Tr} (h : D x.i) : gv D (x :: tr) g0 = updO (gv D tr g0) x.dst x.v := by rw [gv, if_pos h]
theorem gv_cons_out {D : Nat → Prop} {g0 : Gt} {x : Tr} {tr : List Tr} (h : ¬ D x.i) : gv D (x :: tr) g0 = gv D tr g0 := by rw [gv, if_neg h]

def PN (A : AW) (pend : List Ent) : Prop := (∀ e ∈ pend, ∀ N b, e.nb = some (N, b) → N < A.next) ∧ ∀ e ∈ pend, ∀ e' ∈ pend, ∀ N b b', e.nb = some (N, b) → e'.nb = some (N, b') → e.i = e'.i

theorem first_open {ops : List Oper} {D : Nat → Prop} : ∀ {tr : List Tr}, WfTr ops tr → (∃ x ∈ tr, ¬ D x.i) → ∃ x ∈ tr, ¬ D x.i ∧ ∃ o, ops[x.i]? = some o ∧ ∀ e ∈ o.after.toList, Region.binds .any e = true → D e.on
  | [], _, ⟨x, hx, _⟩ => by cases hx
  | y :: tr, ⟨h1, h2, o, ho, hd, he⟩, ⟨x, hx, hn⟩ => by
    by_cases hex : ∃ z ∈ tr, ¬ D z.i
    · obtain ⟨z, hz, h⟩ := first_open h1 hex
      exact ⟨z, List.mem_cons_of_mem _ hz, h⟩
    · have all : ∀ z ∈ tr, D z.i := fun z hz => Classical.byContradiction fun h => hex ⟨z, hz, h⟩
      cases hx with
      | head =>
        refine ⟨y, List.mem_cons_self, hn, o, ho, fun e hee hb => ?_⟩
        obtain ⟨z, hz, hzi⟩ := he e hee hb
        exact hzi ▸ all z hz
      | tail _ hx => exact absurd (all x hx) hn

theorem chk_rest {E : Env} {ops : List Oper} : ∀ (L : List Nat) (mask e0 : Nat), chkL E ops L mask (some e0) = true → bit mask e0 = true → ∀ i ∈ L, ∃ e, (e = e0 ∨ e ∈ L) ∧ e ≠ i ∧ bit (bfs ops i) e = true
  | [], _, _, _, _, i, hi => by cases hi
  | k :: L, mask, e0, h, he0, i, hi => by
    have h' : chk1 E ops (chkL E ops L) k mask (some e0) = true := h
    clear h
    unfold chk1 at h'
    split at h'
    · cases h'
    · rename_i o ho
      simp only [Bool.and_eq_true, Bool.not_eq_true'] at h'
      obtain ⟨⟨⟨hk, hrd⟩, hb⟩, hrest⟩ := h'
      have hne : e0 ≠ k := fun e => by rw [e] at he0; rw [he0] at hk; cases hk
      cases hi with
      | head => exact ⟨e0, .inl rfl, hne, hb⟩
      | tail _ hi =>
        have hbit : ∀ q, bit (Nat.lor mask (Nat.pow 2 k)) q = (bit mask q || decide (k = q)) := fun q => by
          rw [bit_eq, bit_eq]
          show (mask ||| 2 ^ k).testBit q = _
          rw [Nat.testBit_or, Nat.testBit_two_pow]
        cases hkk : Nat.ble 2 (kindOf E o.op) with
        | true =>
          rw [hkk, bs_true] at hrest
          obtain ⟨e, h1, h2, h3⟩ := chk_rest L _ k hrest (by rw [hbit]; simp) i hi
          refine ⟨e, .inr ?_, h2, h3⟩
          rcases h1 with rfl | h1
          · exact List.mem_cons_self
          · exact List.mem_cons_of_mem _ h1
        | false =>
          rw [hkk, bs_false] at hrest
          obtain ⟨e, h1, h2, h3⟩ := chk_rest L _ e0 hrest (by rw [hbit, he0]; rfl) i hi
          refine ⟨e, ?_, h2, h3⟩
          rcases h1 with h1 | h1
          · exact .inl h1
          · exact .inr (List.mem_cons_of_mem _ h1)

section
variable {P : Program} {E : Env} (ok : E.Ok P) {sq : List (Nat × List IntKind)} (sok : E.Seq P sq) {w0 : World} {n : Nat} {ops : List Oper} (hs : Slots ops) (hdst : ∀ o ∈ ops, ∀ d, o.dst = some d → d < n) {g0 : Gt} {β0 : Ren} {A0 : AW} {ds : List Deferred} {ro : Option Nat}
  {call : Tgt → List Value → AW → Out Value} (hc : CallOk P E call)

/-- the effect that comes next -/
theorem next_pj {D : Nat → Prop} {β β' : Ren} {A A' : AW} {pend : List Ent} {tr : List Tr} {a : Act} {w w' : World} (hdst : ∀ o ∈ ops, ∀ d, o.dst = some d → d < n) (j : PJ w0 E n ops g0 β0 A0 ds D β A pend tr a w)
    {i : Nat} {o : Oper} (ho : ops[i]? = some o) (hni : ∀ x ∈ tr, x.i ≠ i) (hr : ∀ ed ∈ o.after.toList, Region.binds .any ed = true → D ed.on) {v v' : Value} (hv : VRel β' v v') (hinv : Inv w0 E.G β' A' w') (hgr : β.grow β' A.next) (hn : A.next ≤ A'.next) :
    PJ w0 E n ops g0 β0 A0 ds (fun x => D x ∨ x = i) β' A' (lfilter (fun e => not (bit (bfs ops i) e.i)) pend) (⟨i, o.dst, v⟩ :: tr) (a.put o.dst v') w' := by
  have hnD : ¬ D i := fun h => by obtain ⟨x, hx, hxi⟩ := j.only i h; exact hni x hx hxi
  have hle := hgr.le j.inv.dom
  refine ⟨fun k ok hk hd ed hed hb => ?_, fun x hx o' ho' hk => ?_, fun x hx hnx => ?_, fun k hk => ?_, ?_, hinv, fun e he hne N blk hnb => ?_, Ren.grow_trans j.grow hgr j.nxt, Nat.le_trans j.nxt hn, ?_⟩
  · rcases hd with hd | hd
    · exact .inl (j.clo k ok hk hd ed hed hb)
    · subst hd; rw [ho] at hk; cases hk; exact .inl (hr ed hed hb)
  · cases hx with
    | head => exact .inr rfl
    | tail _ hx => exact .inl (j.effs x hx o' ho' hk)
  · cases hx with
    | head => exact absurd (.inr rfl) hnx
    | tail _ hx =>
      obtain ⟨e, he, hei⟩ := j.un x hx (fun h => hnx (.inl h))
      refine ⟨e, ?_, hei⟩
      rw [lfilter_eq, List.mem_filter]
      refine ⟨he, ?_⟩
      cases hb : bit (bfs ops i) e.i with
      | false => rfl
      | true =>
        rcases bfs_ready j.clo ho hr hb with h1 | h1
        · exact absurd (.inl (hei ▸ h1)) hnx
        · exact absurd (hei.symm.trans h1) (hni x hx)
  · rcases hk with hk | hk
    · obtain ⟨x, hx, hxi⟩ := j.only k hk
      exact ⟨x, List.mem_cons_of_mem _ hx, hxi⟩
    · exact ⟨_, List.mem_cons_self, hk.symm⟩
  · rw [gv_cons_in (x := ⟨i, o.dst, v⟩) (.inr rfl), gv_ext (D' := D) (fun x hx => ⟨fun h => h.resolve_right (hni x hx), .inl⟩)]
    exact (j.frame.mono hle).updO (fun d hd => hdst o (List.mem_of_getElem? ho) d hd) hv
  · rw [lfilter_eq, List.mem_filter] at he
    obtain ⟨h1, h2, h3⟩ := j.fresh e he.1 (fun h => hne (.inl h)) N blk hnb
    exact ⟨by rw [hgr N h2]; exact h1, Nat.lt_of_lt_of_le h2 hn, h3⟩
  · cases o.dst <;> exact j.defers

/-- a calm operation joins those that may come at any time -/
theorem calm_pj {D : Nat → Prop} {β : Ren} {A A' : AW} {pend : List Ent} {tr : List Tr} {a : Act} {w : World} (j : PJ w0 E n ops g0 β0 A0 ds D β A pend tr a w)
    {i : Nat} {o : Oper} (hk : kindOf E o.op ≤ 1) (ho : ops[i]? = some o) (hni : ∀ x ∈ tr, x.i ≠ i) {e : Ent} (hei : e.i = i) {v : Value} (hA : A' = A ∨ ∃ blk, A' = A.add blk) (hnb : ∀ N b, e.nb = some (N, b) → N = A.next ∧ A.next < A'.next) :
    PJ w0 E n ops g0 β0 A0 ds D β A' (e :: pend) (⟨i, o.dst, v⟩ :: tr) a w := by
  have hnD : ¬ D i := fun h => by obtain ⟨x, hx, hxi⟩ := j.only i h; exact hni x hx hxi
  have hn : A.next ≤ A'.next := by
    rcases hA with rfl | ⟨blk, rfl⟩
    · exact Nat.le_refl _
    · exact Nat.le_succ _
  have hbn : β A.next = none := by
    cases hc : β A.next with
    | none => rfl
    | some l => exact absurd (j.inv.dom _ l hc) (Nat.lt_irrefl _)
  refine ⟨j.clo, fun x hx o' ho' hk' => ?_, fun x hx hnx => ?_, fun k hk' => ?_, ?_, ?_, fun e' he' hne N blk hnb' => ?_, j.grow, Nat.le_trans j.nxt hn, j.defers⟩
  · cases hx with
    | head => have ho2 : ops[i]? = some o' := ho'; rw [ho] at ho2; cases ho2; omega
    | tail _ hx => exact j.effs x hx o' ho' hk'
  · cases hx with
    | head => exact ⟨e, List.mem_cons_self, hei⟩
    | tail _ hx =>
      obtain ⟨e', he', h⟩ := j.un x hx hnx
      exact ⟨e', List.mem_cons_of_mem _ he', h⟩
  · obtain ⟨x, hx, hxi⟩ := j.only k hk'
    exact ⟨x, List.mem_cons_of_mem _ hx, hxi⟩
  · rw [gv_cons_out (x := ⟨i, o.dst, v⟩) hnD]; exact j.frame
  · rcases hA with rfl | ⟨blk, rfl⟩
    · exact j.inv
    · exact j.inv.reserve blk
  · cases he' with
    | head =>
      obtain ⟨rfl, h2⟩ := hnb N blk hnb'
      exact ⟨hbn, h2, j.nxt⟩
    | tail _ he' =>
      obtain ⟨h1, h2, h3⟩ := j.fresh e' he' hne N blk hnb'
      exact ⟨h1, Nat.lt_of_lt_of_le h2 hn, h3⟩

/-- how many are not listed -/
def open_ (N : Nat) (listed : Array Bool) : Nat := ((List.range N).filter fun k => !listed.getD k false).length
theorem open_set {N : Nat} {listed : Array Bool} {i : Nat} (hi : i < N) (hsz : listed.size = N) (hl : listed.getD i false = false) : open_ N (listed.setIfInBounds i true) < open_ N listed := by
  unfold open_
  have : (List.range N).filter (fun k => !(listed.setIfInBounds i true).getD k false) = ((List.range N).filter fun k => !listed.getD k false).filter (fun k => decide (k ≠ i)) := by
    rw [List.filter_filter]
    apply List.filter_congr
    intro k _
    by_cases hk : k = i
    · subst hk
      have : (listed.setIfInBounds k true).getD k false = true := by simp [hsz, hi]
      simp [this]
    · rw [getD_set_ne false (Ne.symm hk)]
      simp [hk]
  rw [this, List.length_filter_lt_length_iff_exists]
  exact ⟨i, by simp [hi]; simpa using hl, by simp⟩
theorem set_D {listed : Array Bool} {i : Nat} (hi : i < listed.size) : (fun k => (listed.setIfInBounds i true).getD k false = true) = (fun k => listed.getD k false = true ∨ k = i) := by
  funext k
  apply propext
  by_cases hk : k = i
  · subst hk; simp [hi]
  · rw [getD_set_ne false (Ne.symm hk)]; simp [hk]
end
end Go.Ev
