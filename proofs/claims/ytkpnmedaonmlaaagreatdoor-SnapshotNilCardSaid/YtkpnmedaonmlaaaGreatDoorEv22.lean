/- A verified evaluator for closed calls, part 22: regions that draw their order: the theorem. -/
import Derived.Test.YtkpnmedaonmlaaaGreatDoorEv21
namespace Go.Ev
open Go.RowKit
section
variable {P : Program} {E : Env} (ok : E.Ok P) {sq : List (Nat × List IntKind)} (sok : E.Seq P sq) {w0 : World} {n : Nat} {ops : List Oper} (hs : Slots ops) (hdst : ∀ o ∈ ops, ∀ d, o.dst = some d → d < n) {g0 : Gt} {β0 : Ren} {A0 : AW} {ds : List Deferred} {ro : Option Nat}
  {call : Tgt → List Value → AW → Out Value} (hc : CallOk P E call)

theorem ready_in {listed : Array Bool} {i : Nat} {o : Oper} (ho : ops[i]? = some o) (hsz : listed.size = ops.length) (hn : ¬ listed.getD i false = true) (hr : ∀ e ∈ o.after.toList, Region.binds .any e = true → listed.getD e.on false = true) : i ∈ Region.ready .any ⟨ops⟩ listed := by
  rw [mem_ready]
  have hi : i < listed.size := by rw [hsz]; exact (List.getElem?_eq_some_iff.1 ho).1
  refine ⟨?_, o, by simpa using ho, fun e he hb => hr e (by simpa using he) hb⟩
  have h2 : listed.getD i false = false := by simpa using hn
  simp [hi] at h2 ⊢
  exact h2
theorem ready_out {listed : Array Bool} {i : Nat} (hsz : listed.size = ops.length) (h : i ∈ Region.ready .any ⟨ops⟩ listed) : ∃ o, ops[i]? = some o ∧ ¬ listed.getD i false = true ∧ ∀ e ∈ o.after.toList, Region.binds .any e = true → listed.getD e.on false = true := by
  rw [mem_ready] at h
  obtain ⟨h1, o, ho, h2⟩ := h
  have ho' : ops[i]? = some o := by simpa using ho
  have hi : i < listed.size := by rw [hsz]; exact (List.getElem?_eq_some_iff.1 ho').1
  refine ⟨o, ho', ?_, fun e he hb => h2 e (by simpa using he) hb⟩
  simp [hi] at h1 ⊢
  exact h1

theorem fresh_add {A A' : AW} {g : Gt} {op : Op} {v : Value} (hk : kindOf E op = 1) (h : opA E sq A g op = .val v A') : ∃ blk, A' = A.add blk := by
  cases hp : pureOp op with
  | true => cases op <;> simp only [kindOf, pureOp] at hk hp <;> first | (cases hp; done) | (cases hk; done)
  | false =>
    cases op <;> simp only [kindOf, hp] at hk <;> try (cases hk; done)
    case convert s d x => split at hk <;> cases hk
    case alloc t =>
      simp only [opA] at h
      have h := ofP_val h
      unfold allocV at h
      split at h
      · replace h := bs_some h
        rcases h with ⟨_, h⟩ | ⟨_, h⟩ <;> cases h
        exact ⟨_, rfl⟩
      · cases h
    case box t x =>
      simp only [opA] at h
      have h := ofP_val h
      unfold boxV at h
      split at h <;> cases h
      exact ⟨_, rfl⟩
    case buildSlice t len ps =>
      obtain ⟨ps⟩ := ps
      simp only [opA] at h
      have h := ofP_val h
      unfold buildSliceV at h
      split at h
      · split at h
        · replace h := bs_some h
          rcases h with ⟨_, h⟩ | ⟨_, h⟩
          · split at h <;> cases h
            exact ⟨_, rfl⟩
          · cases h
        · cases h
      · cases h
    case makeSlice t x y =>
      simp only [opA] at h
      have h := ofP_val h
      unfold makeSliceV at h
      split at h
      · split at h
        · replace h := bs_some h
          rcases h with ⟨_, h⟩ | ⟨_, h⟩ <;> cases h
          exact ⟨_, rfl⟩
        · cases h
      · cases h
    case call c =>
      obtain ⟨callee, args, tys⟩ := c
      cases callee <;> simp only [kindOf, pureOp] at hk <;> try (cases hk; done)
      rename_i b
      cases b <;> simp only [kindOf, pureOp] at hk <;> cases hk
theorem chk_notin {ops : List Oper} : ∀ (L : List Nat) (mask : Nat) (last : Option Nat), chkL E ops L mask last = true → ∀ i ∈ L, bit mask i = false
  | [], _, _, _, i, hi => by cases hi
  | k :: L, mask, last, h, i, hi => by
    have h' : chk1 E ops (chkL E ops L) k mask last = true := h
    clear h
    unfold chk1 at h'
    split at h'
    · cases h'
    · rename_i o ho
      simp only [Bool.and_eq_true, Bool.not_eq_true'] at h'
      obtain ⟨⟨⟨hk, _⟩, _⟩, hrest⟩ := h'
      cases hi with
      | head => exact hk
      | tail _ hi =>
        have := chk_notin L _ _ hrest i hi
        rw [bit_eq] at this ⊢
        have h2 : (mask ||| 2 ^ k).testBit i = false := this
        rw [Nat.testBit_or, Bool.or_eq_false_iff] at h2
        exact h2.1

include ok sok hs hdst in
theorem finAll_ok {pend : List Ent} {g : Gt} {A : AW} {tr : List Tr} {res : List Tr × AW} (h : finAll E sq pend g A tr = some res) (hw : WfTr ops tr) (hpe : ∀ e ∈ pend, PE E sq ops g0 tr e) (hpn : PN A pend) (hall : ∀ k o, ops[k]? = some o → ∃ x ∈ tr, x.i = k)
    (Q : Exit → Act → World → Prop) (hQ : ∀ β a w, FRel β n (gv (fun _ => True) res.1 g0) a.tmps → Inv w0 E.G β res.2 w → β0.grow β A0.next → A0.next ≤ res.2.next → a.defers = ds → Q .normal a w) (fuel : Nat) :
    ∀ (listed : Array Bool) (β : Ren) (a : Act) (w : World), listed.size = ops.length → open_ ops.length listed ≤ fuel → PJ w0 E n ops g0 β0 A0 ds (fun k => listed.getD k false = true) β A pend tr a w → wpAnyIn (wideR ro) 0 P .any ⟨ops⟩ Q fuel listed a w := by
  have h' : bs (lall (stab E sq A) pend) (some (tr, A)) none = some res := h
  clear h
  replace h' := bs_some h'
  rcases h' with ⟨hstab, h'⟩ | ⟨_, h'⟩
  · cases h'
    have hst := lall_eq _ _ hstab
    have fin : ∀ (listed : Array Bool) (β : Ren) (a : Act) (w : World), listed.size = ops.length → PJ w0 E n ops g0 β0 A0 ds (fun k => listed.getD k false = true) β A pend tr a w → Region.ready .any ⟨ops⟩ listed = [] → Q .normal a w := fun listed β a w hsz j hrd => by
      have all : ∀ x ∈ tr, listed.getD x.i false = true := fun x hx => Classical.byContradiction fun hn => by
        obtain ⟨y, hy, hny, o, ho, hr⟩ := first_open (D := fun k => listed.getD k false = true) hw ⟨x, hx, hn⟩
        have := ready_in ho hsz hny hr
        rw [hrd] at this
        cases this
      refine hQ β a w ?_ j.inv j.grow j.nxt j.defers
      have := j.frame
      rw [gv_ext (D' := fun _ => True) (fun x hx => ⟨fun _ => trivial, fun _ => all x hx⟩)] at this
      exact this
    induction fuel with
    | zero =>
      intro listed β a w hsz hopen j
      have hrd : Region.ready .any ⟨ops⟩ listed = [] := by
        cases hq : Region.ready .any ⟨ops⟩ listed with
        | nil => rfl
        | cons i r =>
          obtain ⟨o, ho, hn, _⟩ := ready_out (ops := ops) (i := i) hsz (by rw [hq]; exact List.mem_cons_self)
          have hi := (List.getElem?_eq_some_iff.1 ho).1
          have := open_set hi hsz (by simpa using hn)
          omega
      exact ⟨hrd, fin listed β a w hsz j hrd⟩
    | succ fuel ih =>
      intro listed β a w hsz hopen j
      refine ⟨fun hrd => fin listed β a w hsz j hrd, fun i hi => ?_⟩
      obtain ⟨o, ho, hn, hr⟩ := ready_out hsz hi
      have hlt := (List.getElem?_eq_some_iff.1 ho).1
      obtain ⟨x, hx, hxi⟩ := hall i o ho
      obtain ⟨e, he, hei⟩ := j.un x hx (by rw [hxi]; exact hn)
      have hei' : e.i = i := hei.trans hxi
      subst hei'
      have heo : e.o = o := by have := (hpe e he).op; rw [ho] at this; cases this; rfl
      subst heo
      refine calm_step ok sok hs hdst hw j hpe hpn.2 he (hst e he) hn hr (fun β' a' w' j' => ?_)
      rw [← set_D (by rw [hsz]; exact hlt)] at j'
      refine ih _ β' a' w' (by simp [hsz]) ?_ j'
      have := open_set hlt hsz (by simpa using hn)
      omega
  · cases h'
include ok sok hs hdst hc in
theorem phase_ok {ρ : Type} {fin : List Ent → Gt → AW → List Tr → Option ρ} {es : Nat} (Q : Exit → Act → World → Prop) (res : ρ) (out : Nat → Prop) (hout : ∀ k, out k → k ≠ es ∧ bit (bfs ops k) es = true)
    (hfin : ∀ pend g A tr, fin pend g A tr = some res → WfTr ops tr → g = gv (fun _ => True) tr g0 → (∀ e ∈ pend, PE E sq ops g0 tr e) → PN A pend → (∀ k o, ops[k]? = some o → (∃ x ∈ tr, x.i = k) ∨ out k) →
      ∀ (fuel : Nat) (listed : Array Bool) (β : Ren) (a : Act) (w : World), listed.size = ops.length → open_ ops.length listed ≤ fuel → PJ w0 E n ops g0 β0 A0 ds (fun k => listed.getD k false = true) β A pend tr a w → wpAnyIn (wideR ro) 0 P .any ⟨ops⟩ Q fuel listed a w) :
    ∀ (L : List Nat) (pend : List Ent) (g : Gt) (A : AW) (tr : List Tr) (mask : Nat) (last : Option Nat), phaseA E sq call ops fin L pend g A tr = some res → chkL E ops L mask last = true →
    (∀ k, bit mask k = true ↔ ∃ x ∈ tr, x.i = k) → WfTr ops tr → g = gv (fun _ => True) tr g0 → (∀ e ∈ pend, PE E sq ops g0 tr e) → PN A pend → (∀ k o, ops[k]? = some o → (∃ x ∈ tr, x.i = k) ∨ k ∈ L ∨ out k) → ((∃ k, out k) → L = [] ∨ L.getLast? = some es) →
    ∀ (fuel : Nat) (listed : Array Bool) (β : Ren) (a : Act) (w : World), listed.size = ops.length → open_ ops.length listed ≤ fuel → PJ w0 E n ops g0 β0 A0 ds (fun k => listed.getD k false = true) β A pend tr a w → wpAnyIn (wideR ro) 0 P .any ⟨ops⟩ Q fuel listed a w := by
  intro L
  induction L with
  | nil =>
    intro pend g A tr mask last h hchk hmask hw hg hpe hpn hall hes fuel
    exact hfin pend g A tr h hw hg hpe hpn (fun k o hk => (hall k o hk).imp id (fun h => h.resolve_left (by simp))) fuel
  | cons i0 L IH =>
    intro pend g A tr mask last h hchk hmask hw hg hpe hpn hall hes fuel
    have h' : phase1 E sq call ops (phaseA E sq call ops fin L) i0 pend g A tr = some res := h
    have hc' : chk1 E ops (chkL E ops L) i0 mask last = true := hchk
    clear h hchk
    unfold chk1 at hc'
    unfold phase1 at h'
    simp only [opD_eq] at h'
    rw [nth_eq] at hc' h'
    cases ho : ops[i0]? with
    | none => rw [ho] at h'; cases h'
    | some o =>
      rw [ho] at hc' h'
      simp only [Bool.and_eq_true, Bool.not_eq_true'] at hc' h'
      obtain ⟨⟨⟨hk0, hrdB⟩, hlast⟩, hrest⟩ := hc'
      have hni : ∀ x ∈ tr, x.i ≠ i0 := fun x hx e => by rw [(hmask i0).2 ⟨x, hx, e⟩] at hk0; cases hk0
      have hpre : ∀ e ∈ o.after.toList, Region.binds .any e = true → ∃ y ∈ tr, y.i = e.on := fun e he hb => by
        have := lall_eq _ _ hrdB e he
        rw [hb, bs_true] at this
        exact (hmask e.on).1 this
      have hbit : ∀ q, bit (Nat.lor mask (Nat.pow 2 i0)) q = (bit mask q || decide (i0 = q)) := fun q => by
        rw [bit_eq, bit_eq]
        show (mask ||| 2 ^ i0).testBit q = _
        rw [Nat.testBit_or, Nat.testBit_two_pow]
      have hmask' : ∀ v k, bit (Nat.lor mask (Nat.pow 2 i0)) k = true ↔ ∃ x ∈ ((⟨i0, o.dst, v⟩ : Tr) :: tr), x.i = k := fun v k => by
        rw [hbit, Bool.or_eq_true, hmask k]
        constructor
        · rintro (⟨x, hx, hxi⟩ | h)
          · exact ⟨x, List.mem_cons_of_mem _ hx, hxi⟩
          · exact ⟨_, List.mem_cons_self, of_decide_eq_true h⟩
        · rintro ⟨x, hx, hxi⟩
          cases hx with
          | head => exact .inr (decide_eq_true hxi)
          | tail _ hx => exact .inl ⟨x, hx, hxi⟩
      have hw' : ∀ v, WfTr ops ((⟨i0, o.dst, v⟩ : Tr) :: tr) := fun v => ⟨hw, hni, o, ho, rfl, hpre⟩
      have hg' : ∀ v, updO g o.dst v = gv (fun _ => True) ((⟨i0, o.dst, v⟩ : Tr) :: tr) g0 := fun v => by rw [gv_all_cons, hg]
      have hall' : ∀ v k o', ops[k]? = some o' → (∃ x ∈ ((⟨i0, o.dst, v⟩ : Tr) :: tr), x.i = k) ∨ k ∈ L ∨ out k := fun v k o' hk => by
        rcases hall k o' hk with ⟨x, hx, hxi⟩ | hk | hk
        · exact .inl ⟨x, List.mem_cons_of_mem _ hx, hxi⟩
        · cases hk with
          | head => exact .inl ⟨_, List.mem_cons_self, rfl⟩
          | tail _ hk => exact .inr (.inl hk)
        · exact .inr (.inr hk)
      have hes' : (∃ k, out k) → L = [] ∨ L.getLast? = some es := fun hk => by
        cases L with
        | nil => exact .inl rfl
        | cons l0 L0 =>
          have := (hes hk).resolve_left (by simp)
          rw [List.getLast?_cons_cons] at this
          exact .inr this
      have hesm : ∀ k, out k → es ∈ i0 :: L := fun k hk => List.mem_of_getLast? ((hes ⟨k, hk⟩).resolve_left (by simp))
      split at h'
      · cases h'
      rename_i wd hwant
      replace h' := bs_some h'
      rcases h' with ⟨hkind, h'⟩ | ⟨hkind, h'⟩
      · -- an effect
        have hk2 : 2 ≤ kindOf E o.op := Nat.le_of_ble_eq_true hkind
        rw [hkind, bs_true] at hrest
        replace h' := bs_some h'
        rcases h' with ⟨hstab, h'⟩ | ⟨_, h'⟩
        rotate_left
        · cases h'
        have hst := lall_eq _ _ hstab
        have hpe' : ∀ v, ∀ e ∈ lfilter (fun e => not (bit (bfs ops i0) e.i)) pend, PE E sq ops g0 ((⟨i0, o.dst, v⟩ : Tr) :: tr) e := fun v e he => by
          rw [lfilter_eq, List.mem_filter] at he
          exact (hpe e he.1).cons _
        have hpn' : ∀ A' : AW, A.next ≤ A'.next → PN A' (lfilter (fun e => not (bit (bfs ops i0) e.i)) pend) := fun A' hA => by
          refine ⟨fun e he N b hb => ?_, fun e he e' he' N b b' hb hb' => ?_⟩
          · rw [lfilter_eq, List.mem_filter] at he
            exact Nat.lt_of_lt_of_le (hpn.1 e he.1 N b hb) hA
          · rw [lfilter_eq, List.mem_filter] at he he'
            exact hpn.2 e he.1 e' he'.1 N b b' hb hb'
        -- executing it in any order
        have eff : ∀ (fuel : Nat) (listed : Array Bool) (β : Ren) (a : Act) (w : World), listed.size = ops.length → open_ ops.length listed ≤ fuel + 1 → PJ w0 E n ops g0 β0 A0 ds (fun k => listed.getD k false = true) β A pend tr a w →
            ¬ listed.getD i0 false = true → (∀ e ∈ o.after.toList, Region.binds .any e = true → listed.getD e.on false = true) → wpOpIn (wideR ro) 0 P ⟨ops⟩ Q i0 (wpAnyIn (wideR ro) 0 P .any ⟨ops⟩ Q fuel (listed.setIfInBounds i0 true)) a w := fun fuel listed β a w hsz hopen j hn hr => by
          have hlt := (List.getElem?_eq_some_iff.1 ho).1
          have hop := open_set hlt hsz (by simpa using hn)
          have hsz' : (listed.setIfInBounds i0 true).size = ops.length := by simp [hsz]
          have ag : ∀ t ∈ o.looksAt ⟨ops⟩, gv (fun k => listed.getD k false = true) tr g0 t = g t := fun t ht => by
            have := agree hs j.clo ho hr hn (tr := (⟨i0, o.dst, undef⟩ : Tr) :: tr) (tl := tr) (pre := []) (x0 := ⟨i0, o.dst, undef⟩) rfl rfl (hw' undef) (hw' undef) g0 ht
            rw [gv_cons_out (x := ⟨i0, o.dst, undef⟩) hn] at this
            rw [hg]; exact this
          have hwant2 := want_ok (a := a) (by rw [wantA_congr ag]; exact hwant) j.frame
          have goOn : ∀ β' v v' A' w', VRel β' v v' → Inv w0 E.G β' A' w' → β.grow β' A.next → A.next ≤ A'.next → phaseA E sq call ops fin L (lfilter (fun e => not (bit (bfs ops i0) e.i)) pend) (updO g o.dst v) A' (⟨i0, o.dst, v⟩ :: tr) = some res →
              wpAnyIn (wideR ro) 0 P .any ⟨ops⟩ Q fuel (listed.setIfInBounds i0 true) (a.put o.dst v') w' := fun β' v v' A' w' hv hinv hgr hn' hph => by
            have j' := next_pj hdst j ho hni hr hv hinv hgr hn'
            rw [← set_D (by rw [hsz]; exact hlt)] at j'
            exact IH _ _ _ _ _ _ hph hrest (hmask' v) (hw' v) (hg' v) (hpe' v) (hpn' A' hn') (hall' v) hes' fuel _ β' _ w' hsz' (by omega) j'
          unfold wpOpIn
          have hop2 : (⟨ops⟩ : Array Oper)[i0]? = some o := by simpa using ho
          simp only [hop2]
          rw [hwant2]
          cases wd with
          | false =>
            rw [if_neg (by simp)]
            rw [bs_false] at h'
            exact ⟨fun _ _ => trivial, goOn β undef undef A w VRel.undef j.inv (Ren.grow_refl _ _) (Nat.le_refl _) h'⟩
          | true =>
            rw [if_pos rfl]
            rw [bs_true] at h'
            have oc : opA E sq A (gv (fun k => listed.getD k false = true) tr g0) o.op = opA E sq A g o.op := opA_congr (opnds_congr ag)
            cases hopr : opA E sq A g o.op with
            | fail => rw [hopr] at h'; cases h'
            | nd q => rw [hopr] at h'; cases h'
            | val v A' =>
              rw [hopr] at h'
              simp only [forceV_eq, forceA_eq] at h'
              exact wp_val ok sok j.inv j.frame (oc.trans hopr) (fun β' v' w' hv hinv hgr hn' => goOn β' v v' A' w' hv hinv hgr hn' h')
            | call f args =>
              rw [hopr] at h'
              simp only at h'
              split at h'
              · rename_i v A' hcall
                refine wp_call ok j.inv j.frame hc (oc.trans hopr) hcall (fun p hp β' v' w' hv hinv hgr hn' => ?_)
                simp only [List.mem_singleton] at hp
                subst hp
                exact goOn β' v v' A' w' hv hinv hgr hn' h'
              · cases h'
        -- the induction on what is left
        have i0ready : ∀ (listed : Array Bool) (β : Ren) (a : Act) (w : World), listed.size = ops.length → PJ w0 E n ops g0 β0 A0 ds (fun k => listed.getD k false = true) β A pend tr a w → Region.ready .any ⟨ops⟩ listed ≠ [] := fun listed β a w hsz j hrd => by
          have hn0 : ¬ listed.getD i0 false = true := fun h => by obtain ⟨x, hx, hxi⟩ := j.only i0 h; exact hni x hx hxi
          have all : ∀ x ∈ tr, listed.getD x.i false = true := fun x hx => Classical.byContradiction fun hn => by
            obtain ⟨y, hy, hny, o', ho', hr⟩ := first_open (D := fun k => listed.getD k false = true) hw ⟨x, hx, hn⟩
            have := ready_in ho' hsz hny hr
            rw [hrd] at this
            cases this
          have := ready_in ho hsz hn0 (fun e he hb => by obtain ⟨y, hy, hyi⟩ := hpre e he hb; exact hyi ▸ all y hy)
          rw [hrd] at this
          cases this
        induction fuel with
        | zero =>
          intro listed β a w hsz hopen j
          exfalso
          have hne := i0ready listed β a w hsz j
          cases hq : Region.ready .any ⟨ops⟩ listed with
          | nil => exact hne hq
          | cons i r =>
            obtain ⟨o', ho', hn, _⟩ := ready_out (ops := ops) (i := i) hsz (by rw [hq]; exact List.mem_cons_self)
            have := open_set (List.getElem?_eq_some_iff.1 ho').1 hsz (by simpa using hn)
            omega
        | succ fuel ih =>
          intro listed β a w hsz hopen j
          refine ⟨fun hrd => absurd hrd (i0ready listed β a w hsz j), fun i hi => ?_⟩
          obtain ⟨o', ho', hn, hr⟩ := ready_out hsz hi
          have hlt := (List.getElem?_eq_some_iff.1 ho').1
          rcases hall i o' ho' with ⟨x, hx, hxi⟩ | hmem | hmem
          · obtain ⟨e, he, hei⟩ := j.un x hx (by rw [hxi]; exact hn)
            have hei' : e.i = i := hei.trans hxi
            subst hei'
            have heo : e.o = o' := by have := (hpe e he).op; rw [ho'] at this; cases this; rfl
            subst heo
            refine calm_step ok sok hs hdst hw j hpe hpn.2 he (hst e he) hn hr (fun β' a' w' j' => ?_)
            rw [← set_D (by rw [hsz]; exact hlt)] at j'
            refine ih _ β' a' w' (by simp [hsz]) ?_ j'
            have := open_set hlt hsz (by simpa using hn)
            omega
          · cases hmem with
            | head =>
              rw [ho] at ho'; cases ho'
              exact eff fuel listed β a w hsz hopen j hn hr
            | tail _ hmem =>
              exfalso
              obtain ⟨e, he1, he2, he3⟩ := chk_rest L _ i0 hrest (by rw [hbit]; simp) i hmem
              have hDe := (bfs_ready j.clo ho' hr he3).resolve_right he2
              obtain ⟨x, hx, hxe⟩ := j.only e hDe
              rcases he1 with rfl | he1
              · exact hni x hx hxe
              · have h1 := chk_notin L _ _ hrest e he1
                rw [(hmask' undef e).2 ⟨x, List.mem_cons_of_mem _ hx, hxe⟩] at h1
                cases h1
          · exfalso
            obtain ⟨hne, hbt⟩ := hout i hmem
            have hDe := (bfs_ready j.clo ho' hr hbt).resolve_right hne.symm
            obtain ⟨x, hx, hxe⟩ := j.only es hDe
            cases hesm i hmem with
            | head => exact hni x hx hxe
            | tail _ he1 =>
              have h1 := chk_notin L _ _ hrest es he1
              rw [(hmask' undef es).2 ⟨x, List.mem_cons_of_mem _ hx, hxe⟩] at h1
              cases h1
      · -- a calm operation
        have hk1 : kindOf E o.op ≤ 1 := by
          have : ¬ 2 ≤ kindOf E o.op := fun e => by rw [Nat.ble_eq_true_of_le e] at hkind; cases hkind
          omega
        rw [hkind, bs_false] at hrest
        intro listed β a w hsz hopen j
        have advance : ∀ (v : Value) (A' : AW) (wd' : Bool) (nb : Option (Nat × Blk)), phaseA E sq call ops fin L (⟨i0, o, g, v, wd', nb⟩ :: pend) (updO g o.dst v) A' (⟨i0, o.dst, v⟩ :: tr) = some res → (A' = A ∨ ∃ blk, A' = A.add blk) →
            (∀ N b, nb = some (N, b) → N = A.next ∧ A.next < A'.next) → wantA ops g o = some wd' → (wd' = false → v = undef) → (wd' = true → nb = none → kindOf E o.op = 0 ∧ ∃ A1, opA E sq A1 g o.op = .val v A1) →
            (wd' = true → ∀ N blk, nb = some (N, blk) → kindOf E o.op = 1 ∧ ∃ A1 A2, A1.next = N ∧ A1.get N = none ∧ opA E sq A1 g o.op = .val v A2 ∧ A2.get N = some blk) → wpAnyIn (wideR ro) 0 P .any ⟨ops⟩ Q fuel listed a w := fun v A' wd' nb hph hA hnb hwt hunw hqt hfr => by
          have hn' : A.next ≤ A'.next := by
            rcases hA with rfl | ⟨blk, rfl⟩
            · exact Nat.le_refl _
            · exact Nat.le_succ _
          have j' := calm_pj (e := ⟨i0, o, g, v, wd', nb⟩) (v := v) j hk1 ho hni rfl hA hnb
          refine IH _ _ _ _ _ _ hph hrest (hmask' v) (hw' v) (hg' v) (fun e he => ?_) ⟨fun e he N b hb => ?_, fun e he e' he' N b b' hb hb' => ?_⟩ (hall' v) hes' fuel listed β a w hsz hopen j'
          · cases he with
            | head => exact ⟨⟨[], ⟨i0, o.dst, v⟩, tr, rfl, rfl, rfl, hw' v, hg⟩, ho, hk1, hwt, hunw, hqt, hfr⟩
            | tail _ he => exact (hpe e he).cons _
          · cases he with
            | head => obtain ⟨rfl, h2⟩ := hnb N b hb; exact h2
            | tail _ he => exact Nat.lt_of_lt_of_le (hpn.1 e he N b hb) hn'
          · cases he with
            | head => cases he' with
              | head => rfl
              | tail _ he' =>
                have h1 := (hnb N b hb).1
                have h2 := hpn.1 e' he' N b' hb'
                omega
            | tail _ he => cases he' with
              | head =>
                have h1 := (hnb N b' hb').1
                have h2 := hpn.1 e he N b hb
                omega
              | tail _ he' => exact hpn.2 e he e' he' N b b' hb hb'
        cases wd with
        | false =>
          rw [bs_false] at h'
          exact advance undef A false none h' (.inl rfl) (fun N b hb => by cases hb) hwant (fun _ => rfl) (fun e => by cases e) (fun e => by cases e)
        | true =>
          rw [bs_true] at h'
          cases hopr : opA E sq A g o.op with
          | fail => rw [hopr] at h'; cases h'
          | nd q => rw [hopr] at h'; cases h'
          | call f args => rw [hopr] at h'; cases h'
          | val v A' =>
            rw [hopr] at h'
            simp only [forceV_eq, forceA_eq] at h'
            replace h' := bs_some h'
            rcases h' with ⟨hkk, h'⟩ | ⟨hkk, h'⟩
            · have hkk' := Nat.eq_of_beq_eq_true hkk
              split at h'
              · rename_i b hb
                obtain ⟨blk, hadd⟩ := fresh_add hkk' hopr
                have hnx : A.next < A'.next := by rw [hadd]; exact Nat.lt_succ_self _
                refine advance v A' true (some (A.next, b)) h' (.inr ⟨blk, hadd⟩) (fun N b' hb' => by cases hb'; exact ⟨rfl, hnx⟩) hwant (fun e => by cases e) (fun _ e => by cases e) (fun _ N b' hb' => ?_)
                cases hb'
                exact ⟨hkk', A, A', rfl, j.inv.nxt _ (Nat.le_refl _), hopr, hb⟩
              · cases h'
            · have hk0' : kindOf E o.op = 0 := by
                have : ¬ kindOf E o.op = 1 := fun e => by rw [e] at hkk; cases hkk
                omega
              have hsame := quiet_same hk0' hopr
              subst hsame
              exact advance v A' true none h' (.inl rfl) (fun N b hb => by cases hb) hwant (fun e => by cases e) (fun _ _ => ⟨hk0', A', hopr⟩) (fun _ N b hb => by cases hb)
end
end Go.Ev
