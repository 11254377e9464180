/- A verified evaluator for closed calls, part 4: the environment, operands, operations that only read. -/
import Derived.Test.YtkpnmedaonmlaaaGreatDoorEv3
namespace Go.Ev
open Go.RowKit

structure Row where
  desc : TypeDesc
  size : Nat
  bytes : Nat
  zero : List Value
  zok : Bool
structure Env where
  ti : T (Option Row)
  fn : T (Option Func)
  ne : List Nat
  lay : List (Nat × Nat × Nat)
  G : Nat

def isRow2 (d : TypeDesc) : Bool := match d with | .struct _ | .array _ _ => true | _ => false
structure Env.Ok (E : Env) (P : Program) : Prop where
  mixed : P.follows .mixedOrders = true
  ti : ∀ t r, E.ti.get none t = some r → P.underlying t = some r.desc ∧ ∃ i, P.info? t = some i ∧ i.size = r.size ∧ i.bytes = r.bytes ∧ (r.zok = true → ∃ z, i.zero = some z ∧ z.cells = ⟨r.zero⟩)
  fn : ∀ f fn, E.fn.get none f = some fn → P.funcs[f]? = some fn ∧ (fn.name == "runtime.NumGoroutine") = false
  zr : ∀ t r i z, E.ti.get none t = some r → P.info? t = some i → r.zok = true → i.zero = some z → z = (match r.desc with | .struct _ => .agg ⟨r.zero⟩ | .array _ _ => .agg ⟨r.zero⟩ | _ => match r.zero with | [c] => c | _ => z) ∧ (isRow2 r.desc = false → ∃ c, r.zero = [c])
  ne : ∀ f, f ∈ E.ne → ∀ (x : Value) (w : World), (callFunc f #[x]).run P w = .ok (.value x) w
  lay : ∀ e u o, (e, u, o) ∈ E.lay → liesAt P P.depth e 1 o u 1 = true
  any : ∀ r, E.ti.get none ANY ≠ some r

/-- by the kind of a value; the arms are closed terms, so that the kernel copies none of them -/
noncomputable def vcase {ρ : Type} (b : Bool → Value → ρ) (i : IntKind → Int → Value → ρ) (s : ByteArray → Value → ρ) (p : Option Addr → Value → ρ) (sl : Option Addr → Nat → Nat → Value → ρ) (ag : Array Value → Value → ρ) (o : Value → ρ) (v : Value) : Value → ρ :=
  @Value.rec (fun _ => Value → ρ) (fun _ => PUnit) (fun _ => PUnit) b i (fun _ _ => o) (fun _ _ _ => o) s p sl (fun _ => o) (fun _ => o) (fun _ _ _ _ _ => o) o (fun _ _ _ => o) o (fun c _ => ag c) (fun _ _ => o) (fun _ _ => PUnit.unit) PUnit.unit (fun _ _ _ _ => PUnit.unit) v
/-- a constant that names no memory -/
noncomputable def san1o (v : Value) : Value :=
  match v with
  | .map none => .map none
  | .nilFunc => .nilFunc
  | .nilIface => .nilIface
  | _ => J
theorem san1o_rel (β : Ren) (v : Value) : VRel β (san1o v) v := by
  unfold san1o
  split
  · exact .map0
  · exact .nilFunc
  · exact .nilIface
  · exact .junk _
noncomputable def sanSl (a : Option Addr) (n c : Nat) : Value := match a, n, c with | none, 0, 0 => .slice none 0 0 | _, _, _ => J
noncomputable def san1 (v : Value) : Value :=
  vcase (fun _ v => v) (fun _ _ v => v) (fun _ v => v) (fun a _ => match a with | none => .pointer none | some _ => J) (fun a n c _ => sanSl a n c) (fun _ _ => J) san1o v v
theorem san1_rel (β : Ren) (v : Value) : VRel β (san1 v) v := by
  cases v with
  | bool b => exact .bool _
  | int k n => exact .int _ _
  | string s => exact .string _
  | pointer a => cases a with
    | none => exact .ptr0
    | some a => exact .junk _
  | slice a n c =>
    show VRel β (sanSl a n c) _
    unfold sanSl
    split
    · exact .slice0
    · exact .junk _
  | agg c => exact .junk _
  | float k b => exact san1o_rel β (.float k b)
  | complex k a b => exact san1o_rel β (.complex k a b)
  | map r => exact san1o_rel β (.map r)
  | chan r => exact san1o_rel β (.chan r)
  | func f p q => exact san1o_rel β (.func f p q)
  | nilFunc => exact san1o_rel β .nilFunc
  | iface t v => exact san1o_rel β (.iface t v)
  | nilIface => exact san1o_rel β .nilIface
  | tuple c => exact san1o_rel β (.tuple c)
noncomputable def sano (v : Value) : Value :=
  match v with
  | .tuple ⟨[]⟩ => .tuple ⟨[]⟩
  | v => san1o v
noncomputable def san (v : Value) : Value :=
  vcase (fun _ v => v) (fun _ _ v => v) (fun _ v => v) (fun a _ => match a with | none => .pointer none | some _ => J) (fun a n c _ => sanSl a n c) (fun c _ => .agg ⟨lmap san1 c.toList⟩) sano v v
theorem lmap_san1 (β : Ren) (l : List Value) : LRel β (lmap san1 l) l := by
  rw [lmap_eq]
  refine ⟨by simp, fun i v v' h h' => ?_⟩
  rw [List.getElem?_map, h'] at h
  cases h
  exact san1_rel β v'
theorem sano_rel (β : Ren) (v : Value) : VRel β (sano v) v := by
  unfold sano
  split
  · exact VRel.tuple_of (LRel.nil β)
  · exact san1o_rel β _
theorem san_rel (β : Ren) (v : Value) : VRel β (san v) v := by
  cases v with
  | bool b => exact .bool _
  | int k n => exact .int _ _
  | string s => exact .string _
  | pointer a => exact san1_rel β (.pointer a)
  | slice a n c => exact san1_rel β (.slice a n c)
  | agg c =>
    obtain ⟨l⟩ := c
    exact VRel.agg_of (lmap_san1 β l)
  | float k b => exact sano_rel β (.float k b)
  | complex k a b => exact sano_rel β (.complex k a b)
  | map r => exact sano_rel β (.map r)
  | chan r => exact sano_rel β (.chan r)
  | func f p q => exact sano_rel β (.func f p q)
  | nilFunc => exact sano_rel β .nilFunc
  | iface t v => exact sano_rel β (.iface t v)
  | nilIface => exact sano_rel β .nilIface
  | tuple c => exact sano_rel β (.tuple c)

abbrev Fr := T Value
abbrev Gt := Nat → Value
noncomputable def ev (E : Env) (fr : Gt) (x : Operand) : Value :=
  Operand.rec (motive := fun _ => Env → Gt → Value) (fun t _ fr => fr t) (fun v _ _ => san v) (fun g E _ => bs (Nat.blt g E.G) (.pointer (some ⟨g, 0, none⟩)) J) (fun f _ _ => .func (.func f) ⟨[]⟩ ⟨[]⟩) x E fr

def FRel (β : Ren) (n : Nat) (fr : Gt) (tmps : Array Value) : Prop := tmps.size = n ∧ ∀ t, VRel β (fr t) (tmps.getD t undef)
theorem FRel.mono {β β' : Ren} (hb : β.le β') {n : Nat} {fr : Gt} {tmps : Array Value} (h : FRel β n fr tmps) : FRel β' n fr tmps := ⟨h.1, fun t => (h.2 t).mono hb⟩
theorem FRel.put {β : Ren} {n : Nat} {fr : Fr} {tmps : Array Value} (h : FRel β n (fr.get J) tmps) {d : Nat} (hd : d < n) {v v' : Value} (hv : VRel β v v') : FRel β n ((fr.set d v).get J) (tmps.setIfInBounds d v') := by
  refine ⟨by simp [h.1], fun t => ?_⟩
  by_cases hdt : d = t
  · subst hdt
    have hs : d < tmps.size := by rw [h.1]; exact hd
    have : (tmps.setIfInBounds d v').getD d undef = v' := by simp [hs]
    rw [this]
    rcases T.get_set_or J fr d v with e | e
    · rw [e]; exact hv
    · rw [e.1]; exact .junk _
  · rw [T.get_set_ne J fr d t v hdt]
    have : (tmps.setIfInBounds d v').getD t undef = tmps.getD t undef := by simp [Array.getElem?_setIfInBounds_ne hdt]
    rw [this]
    exact h.2 t

section
variable {P : Program} {E : Env} (ok : E.Ok P) {w0 w : World} {β : Ren} {A : AW} (inv : Inv w0 E.G β A w)
include inv
theorem ev_rel {n : Nat} {fr : Gt} {a : Act} (hf : FRel β n fr a.tmps) (x : Operand) : VRel β (ev E fr x) (a.eval x) := by
  cases x with
  | tmp t => exact hf.2 t
  | const v => exact san_rel β v
  | global g =>
    show VRel β (bs (Nat.blt g E.G) (.pointer (some ⟨g, 0, none⟩)) J) (.pointer (some ⟨g, 0, none⟩))
    cases hb : Nat.blt g E.G with
    | false => exact .junk _
    | true =>
      obtain ⟨l, hl, hb2, hd⟩ := inv.glob g (Nat.le_of_ble_eq_true hb)
      have := VRel.ptr (β := β) g 0 l hl
      rw [hb2, hd] at this
      exact this
  | func f => exact VRel.func_of (LRel.nil β) (LRel.nil β)

/-- the cells behind an address -/
noncomputable def cellsAt (A : AW) (B : Nat) : Option (List Value) :=
  match A.get B with
  | some ⟨.cells cs, _, _, _, _⟩ => some cs
  | _ => none
omit inv in
theorem cellsAt_some {B : Nat} {cs : List Value} (h : cellsAt A B = some cs) : ∃ es ex ro ty, A.get B = some ⟨.cells cs, es, ex, ro, ty⟩ := by
  unfold cellsAt at h
  split at h
  · cases h; exact ⟨_, _, _, _, by assumption⟩
  · cases h
theorem cells_rel {B : Nat} {cs : List Value} (h : cellsAt A B = some cs) {l : Loc} (hl : β B = some l) : ∃ cur e fz, w.heap[l.b]? = some (.cells cur e fz) ∧ cur.size = l.sz ∧ l.d + cs.length ≤ l.sz ∧
    (∀ (i : Nat) (v : Value), cs[i]? = some v → ∃ v', cur[l.d + i]? = some v' ∧ VRel β v v') := by
  obtain ⟨es, ex, ro, ty, hg⟩ := cellsAt_some h
  have := inv.cont B _ l hg hl
  obtain ⟨cur, e, fz, h1, h2, h3, h4, _⟩ := this
  exact ⟨cur, e, fz, h1, h2, h3, h4⟩
/-- a run of cells reads as related values -/
theorem range_rel {B : Nat} {cs : List Value} (h : cellsAt A B = some cs) {l : Loc} (hl : β B = some l) (o n : Nat) (r : List Value) (hr : ltake n (ldrop o cs) = some r) :
    ∃ r', LRel β r r' ∧ r.length = n ∧ w.rangeAt l.b (l.d + o) r' := by
  obtain ⟨cur, e, fz, h1, h2, h3, h4⟩ := cells_rel inv h hl
  rw [ldrop_eq] at hr
  obtain ⟨hr1, hr2⟩ := ltake_eq n _ r hr
  rw [List.length_drop] at hr2
  by_cases hn : n = 0
  · subst hn
    have : r = [] := by rw [hr1]; rfl
    subst this
    exact ⟨[], LRel.nil β, rfl, fun j v hv => by simp at hv⟩
  · have hon : o + n ≤ cs.length := by omega
    have hlen : r.length = n := by rw [hr1, List.length_take, List.length_drop]; omega
    have key : ∀ i v, r[i]? = some v → i < n ∧ ∃ v', cur[l.d + o + i]? = some v' ∧ VRel β v v' := fun i v hv => by
      have hi : i < n := by rw [← hlen]; exact (List.getElem?_eq_some_iff.1 hv).1
      rw [hr1, List.getElem?_take, if_pos hi, List.getElem?_drop] at hv
      rw [Nat.add_assoc]
      exact ⟨hi, h4 _ _ hv⟩
    have hcs : ∀ j, j < n → cur[l.d + o + j]? = some (cur.getD (l.d + o + j) undef) := fun j hj => by
      have : l.d + o + j < cur.size := by omega
      simp [this]
    refine ⟨(List.range n).map (fun j => cur.getD (l.d + o + j) undef), ⟨by simp [hlen], fun i v v' hv hv' => ?_⟩, hlen, fun j v hv => ?_⟩
    · obtain ⟨hi, u, hu, hr'⟩ := key i v hv
      rw [List.getElem?_map, List.getElem?_range hi] at hv'
      simp only [Option.map_some, Option.some.injEq] at hv'
      rw [hcs i hi] at hu
      cases hu
      rw [← hv']
      exact hr'
    · have hj : j < n := by have := (List.getElem?_eq_some_iff.1 hv).1; simpa using this
      rw [List.getElem?_map, List.getElem?_range hj] at hv
      simp only [Option.map_some, Option.some.injEq] at hv
      rw [cell_of_row w l.b _ cur e fz h1, ← hv, hcs j hj]

include ok
omit inv in
theorem tyrow {t : TypeId} {r : Row} (h : E.ti.get none t = some r) : P.underlying t = some r.desc ∧ ∃ i, P.info? t = some i ∧ i.size = r.size ∧ i.bytes = r.bytes ∧ (r.zok = true → ∃ z, i.zero = some z ∧ z.cells = ⟨r.zero⟩) := ok.ti t r h
omit inv in
theorem run_size {t : TypeId} {r : Row} (h : E.ti.get none t = some r) (w : World) : (sizeOf t).run P w = .ok r.size w := by
  obtain ⟨_, i, hi, hs, _⟩ := ok.ti t r h
  simp [sizeOf, typeInfo, hi, hs]

def isRowD (d : TypeDesc) : Bool := match d with | .struct _ | .array _ _ => true | _ => false
omit inv in
theorem run_isAgg {t : TypeId} {r : Row} (h : E.ti.get none t = some r) (w : World) : (isAgg t).run P w = .ok (isRowD r.desc) w := by
  have hu := (ok.ti t r h).1
  cases hd : r.desc <;> simp [isAgg, run_underlying hu, hd, isRowD]

/-! load -/
noncomputable def loadV (E : Env) (A : AW) (t : TypeId) (x : Value) : Option Value :=
  match x with
  | .pointer (some ⟨B, o, none⟩) =>
    match cellsAt A B, E.ti.get none t with
    | some cs, some r => bs (isRowD r.desc) (match ltake r.size (ldrop o cs) with | some l => some (.agg ⟨l⟩) | none => none) (nth cs o)
    | _, _ => none
  | _ => none
theorem load_ok {t : TypeId} {x x' v : Value} (h : loadV E A t x = some v) (hx : VRel β x x') : ∃ v', (Instr.loadAt t x').run P w = .ok v' w ∧ VRel β v v' := by
  unfold loadV at h
  split at h
  · rename_i B o
    split at h
    · rename_i cs r hc hr
      cases hx with
      | ptr _ _ l hl =>
        have hag := run_isAgg ok hr
        rcases bs_some h with ⟨hd, h⟩ | ⟨hd, h⟩
        · split at h
          · rename_i q hq
            cases h
            obtain ⟨q', hq', hlen, hat⟩ := range_rel inv hc hl o r.size q hq
            refine ⟨.agg q'.toArray, ?_, VRel.agg_of hq'⟩
            have hl2 : (loadCells ⟨l.b, l.d + o, none⟩ r.size).run P w = .ok q'.toArray w := by
              rw [← hlen, hq'.1]
              exact run_loadCells_list (P := P) w ⟨l.b, l.d + o, none⟩ q' (fun j u hu => by rw [Addr.add_mid]; exact hat j u hu)
            simp [Instr.loadAt, Instr.sureAddr, loadVar, hag, hd, run_size ok hr, hl2]
          · cases h
        · rw [nth_eq] at h
          obtain ⟨cur, e, fz, h1, _, _, h4⟩ := cells_rel inv hc hl
          obtain ⟨v', hv', hrel⟩ := h4 o v h
          refine ⟨v', ?_, hrel⟩
          have hcell : w.cell? ⟨l.b, l.d + o, none⟩ = some v' := by rw [cell_of_row w l.b _ cur e fz h1]; exact hv'
          simp [Instr.loadAt, Instr.sureAddr, loadVar, hag, hd, load, Sem.run, hcell]
    · cases h
  · cases h

/-- the same, for the kernel -/
noncomputable def loadB (E : Env) (A : AW) (t : TypeId) (B o : Nat) : Option Value :=
  match cellsAt A B, E.ti.get none t with
  | some cs, some r => bs (isRowD r.desc) (match ltake r.size (ldrop o cs) with | some l => some (.agg ⟨l⟩) | none => none) (nth cs o)
  | _, _ => none
noncomputable def loadO (E : Env) (A : AW) (t : TypeId) (a : Option Addr) : Option Value := match a with | some ⟨B, o, none⟩ => loadB E A t B o | _ => none
noncomputable def loadD (E : Env) (A : AW) (t : TypeId) (x : Value) : Option Value :=
  vcase (ρ := Env → AW → TypeId → Option Value) (fun _ _ _ _ _ => none) (fun _ _ _ _ _ _ => none) (fun _ _ _ _ _ => none) (fun a _ E A t => loadO E A t a) (fun _ _ _ _ _ _ _ => none) (fun _ _ _ _ _ => none) (fun _ _ _ _ => none) x x E A t
omit ok inv in
theorem loadD_eq (E : Env) (A : AW) (t : TypeId) (x : Value) : loadD E A t x = loadV E A t x := by
  cases x with
  | pointer a =>
    cases a with
    | none => rfl
    | some a =>
      obtain ⟨B, o, m⟩ := a
      cases m <;> rfl
  | _ => rfl

/-! parts of values -/
noncomputable def partV (E : Env) (t : TypeId) (cs : List Value) (o : Nat) : Option Value :=
  match E.ti.get none t with
  | some r => bs (isRowD r.desc) (match ltake r.size (ldrop o cs) with | some l => some (.agg ⟨l⟩) | none => none) (nth cs o)
  | none => none
omit inv in
theorem part_ok {t : TypeId} {cs cs' : List Value} {o : Nat} {v : Value} (h : partV E t cs o = some v) (hx : LRel β cs cs') (w : World) : ∃ v', (part t ⟨cs'⟩ o).run P w = .ok v' w ∧ VRel β v v' := by
  unfold partV at h
  split at h
  · rename_i r hr
    have hag := run_isAgg ok hr
    rcases bs_some h with ⟨hd, h⟩ | ⟨hd, h⟩
    · split at h
      · rename_i q hq
        cases h
        rw [ldrop_eq] at hq
        obtain ⟨rfl, hle⟩ := ltake_eq _ _ _ hq
        refine ⟨.agg ⟨(cs'.drop o).take r.size⟩, ?_, VRel.agg_of ((hx.drop o).take r.size)⟩
        have : (⟨cs'⟩ : Array Value).extract o (o + r.size) = ⟨(cs'.drop o).take r.size⟩ := by
          apply Array.ext'
          simp [Array.toList_extract]
        simp [part, hag, hd, run_size ok hr, this]
      · cases h
    · rw [nth_eq] at h
      obtain ⟨v', hv', hrel⟩ := hx.get h
      refine ⟨v', ?_, hrel⟩
      simp [part, hag, hd, hv']
  · cases h

noncomputable def fieldV (E : Env) (t : TypeId) (x : Value) (f : Nat) : Option Value :=
  match x, E.ti.get none t with
  | .agg ⟨cs⟩, some ⟨.struct ⟨fs⟩, _, _, _, _⟩ => match nth fs f with | some fd => partV E fd.type cs fd.offset | none => none
  | _, _ => none
omit inv in
theorem field_ok {t : TypeId} {x x' v : Value} {f : Nat} (h : fieldV E t x f = some v) (hx : VRel β x x') (w : World) : ∃ v', (Instr.field t x' f).run P w = .ok v' w ∧ VRel β v v' := by
  unfold fieldV at h
  split at h
  · rename_i cs fs _ _ _ _ hr
    split at h
    · rename_i fd hfd
      rw [nth_eq] at hfd
      cases hx with
      | agg _ p' hp h1 =>
        obtain ⟨v', hv', hrel⟩ := part_ok ok h ⟨hp, h1⟩ w
        refine ⟨v', ?_, hrel⟩
        have hu := (ok.ti t _ hr).1
        simp [Instr.field, run_underlying hu, hfd, asAgg, hv']
    · cases h
  · cases h

/-! addresses -/
noncomputable def fieldAddrV (E : Env) (t : TypeId) (x : Value) (f : Nat) : Option Value :=
  match x, E.ti.get none t with
  | .pointer (some ⟨B, o, none⟩), some ⟨.struct ⟨fs⟩, _, _, _, _⟩ =>
    match nth fs f with
    | some fd => match E.ti.get none fd.type with
      | some r => bs (Nat.beq r.size 0) none (some (.pointer (some ⟨B, Nat.add o fd.offset, none⟩)))
      | none => none
    | none => none
  | _, _ => none
omit inv in
theorem fieldAddr_ok {t : TypeId} {x x' v : Value} {f : Nat} (h : fieldAddrV E t x f = some v) (hx : VRel β x x') (w : World) : ∃ v', (Instr.fieldAt t x' f).run P w = .ok v' w ∧ VRel β v v' := by
  unfold fieldAddrV at h
  split at h
  · rename_i B o fs _ _ _ _ hr
    split at h
    · rename_i fd hfd
      rw [nth_eq] at hfd
      split at h
      · rename_i r hr2
        rcases bs_some h with ⟨_, h⟩ | ⟨hz, h⟩
        · cases h
        · cases h
          rw [nbeq] at hz
          have hz' : ¬ r.size = 0 := by simpa using hz
          cases hx with
          | ptr _ _ l hl =>
            refine ⟨.pointer (some ⟨l.b, l.d + (o + fd.offset), none⟩), ?_, .ptr B (o + fd.offset) l hl⟩
            have hu := (ok.ti t _ hr).1
            simp [Instr.fieldAt, run_underlying hu, hfd, Instr.sureAddr, fieldPlace, run_size ok hr2, hz', Addr.add_lit, Nat.add_assoc]
      · cases h
    · cases h
  · cases h

/-- an index within a length -/
noncomputable def idxN (i : Value) (len : Nat) : Option Nat :=
  match i with
  | .int _ (.ofNat m) => bs (Nat.blt m len) (some m) none
  | _ => none
omit inv ok in
theorem idxN_ok {i i' : Value} {len m : Nat} (h : idxN i len = some m) (hi : VRel β i i') : ∃ k, i' = .int k (m : Int) ∧ m < len := by
  unfold idxN at h
  split at h
  · rename_i k q
    rcases bs_some h with ⟨hb, h⟩ | ⟨_, h⟩
    · cases h
      cases hi
      exact ⟨k, rfl, Nat.le_of_ble_eq_true hb⟩
    · cases h
  · cases h

noncomputable def indexAddrV (E : Env) (t : TypeId) (x i : Value) : Option Value :=
  match E.ti.get none t with
  | some ⟨.array len elem, _, _, _, _⟩ =>
    match x, idxN i len, E.ti.get none elem with
    | .pointer (some ⟨B, o, none⟩), some m, some r => some (.pointer (some ⟨B, Nat.add o (Nat.mul m r.size), none⟩))
    | _, _, _ => none
  | some ⟨.slice elem, _, _, _, _⟩ =>
    match x with
    | .slice (some ⟨B, o, none⟩) len _ =>
      match idxN i len, E.ti.get none elem with
      | some m, some r => some (.pointer (some ⟨B, Nat.add o (Nat.mul m r.size), none⟩))
      | _, _ => none
    | _ => none
  | _ => none
omit inv in
theorem indexAddr_ok {t : TypeId} {x x' i i' v : Value} (h : indexAddrV E t x i = some v) (hx : VRel β x x') (hi : VRel β i i') (w : World) : ∃ v', (Instr.indexAt t x' i').run P w = .ok v' w ∧ VRel β v v' := by
  unfold indexAddrV at h
  split at h
  · rename_i len elem _ _ _ _ hr
    split at h
    · rename_i B o m r hm hr2
      cases h
      obtain ⟨k, rfl, hlt⟩ := idxN_ok hm hi
      cases hx with
      | ptr _ _ l hl =>
        refine ⟨.pointer (some ⟨l.b, l.d + (o + m * r.size), none⟩), ?_, .ptr B (o + m * r.size) l hl⟩
        have hu := (ok.ti t _ hr).1
        have h0 : (0 : Int) ≤ (m : Int) ∧ (m : Int) < (len : Int) := ⟨by omega, by omega⟩
        simp [Instr.indexAt, asIntOf, run_underlying hu, Instr.sureAddr, run_size ok hr2, Addr.add_lit, Nat.add_assoc, hlt]
    · cases h
  · rename_i elem _ _ _ _ hr
    split at h
    · rename_i B o len c
      split at h
      · rename_i m r hm hr2
        cases h
        obtain ⟨k, rfl, hlt⟩ := idxN_ok hm hi
        have hu := (ok.ti t _ hr).1
        cases hx with
        | slice _ _ _ _ c' l hl hn hc he =>
          refine ⟨.pointer (some ⟨l.b, l.d + (o + m * r.size), none⟩), ?_, .ptr B (o + m * r.size) l hl⟩
          simp [Instr.indexAt, asIntOf, run_underlying hu, run_size ok hr2, Addr.add_lit, Nat.add_assoc, hlt]
        | empty => omega
      · cases h
    · cases h
  · cases h

noncomputable def indexV (E : Env) (t : TypeId) (x i : Value) : Option Value :=
  match E.ti.get none t with
  | some ⟨.array len elem, _, _, _, _⟩ =>
    match x, idxN i len, E.ti.get none elem with
    | .agg ⟨cs⟩, some m, some r => partV E elem cs (Nat.mul m r.size)
    | _, _, _ => none
  | some ⟨.string, _, _, _, _⟩ =>
    match x, i with
    | .string ⟨⟨l⟩⟩, .int _ (.ofNat m) => match nth l m with | some b => some (.int .u8 (.ofNat b.toNat)) | none => none
    | _, _ => none
  | _ => none
omit inv in
theorem index_ok {t : TypeId} {x x' i i' v : Value} (h : indexV E t x i = some v) (hx : VRel β x x') (hi : VRel β i i') (w : World) : ∃ v', (Instr.index t x' i').run P w = .ok v' w ∧ VRel β v v' := by
  unfold indexV at h
  split at h
  · rename_i len elem _ _ _ _ hr
    split at h
    · rename_i cs m r hm hr2
      obtain ⟨k, rfl, hlt⟩ := idxN_ok hm hi
      have hu := (ok.ti t _ hr).1
      cases hx with
      | agg _ p' hp h1 =>
        obtain ⟨v', hv', hrel⟩ := part_ok ok h ⟨hp, h1⟩ w
        refine ⟨v', ?_, hrel⟩
        have hv2 : (part elem ⟨p'⟩ (m * r.size)).run P w = .ok v' w := hv'
        simp [Instr.index, asIntOf, run_underlying hu, run_size ok hr2, hlt, hv2]
    · cases h
  · rename_i _ _ _ _ hr
    split at h
    · rename_i l k m
      split at h
      · rename_i b hb
        cases h
        rw [nth_eq] at hb
        have hu := (ok.ti t _ hr).1
        cases hx
        cases hi
        refine ⟨_, ?_, .int .u8 b.toNat⟩
        have hs : (⟨⟨l⟩⟩ : ByteArray)[m]? = some b := by
          have hlt := (List.getElem?_eq_some_iff.1 hb).1
          have hsz : m < (⟨⟨l⟩⟩ : ByteArray).size := hlt
          rw [getElem?_pos (⟨⟨l⟩⟩ : ByteArray) m hsz]
          congr 1
          exact (List.getElem?_eq_some_iff.1 hb).2
        simp [Instr.index, asIntOf, run_underlying hu, hs]
      · cases h
    · cases h
  · cases h

noncomputable def extractV (x : Value) (i : Nat) : Option Value := match x with | .tuple ⟨l⟩ => nth l i | _ => none
omit inv ok in
theorem extract_ok {x x' v : Value} {i : Nat} (h : extractV x i = some v) (hx : VRel β x x') (P : Program) (w : World) : ∃ v', (Instr.extract x' i).run P w = .ok v' w ∧ VRel β v v' := by
  unfold extractV at h
  split at h
  · rw [nth_eq] at h
    cases hx with
    | tuple _ p' hp h1 =>
      obtain ⟨v', hv', hrel⟩ := LRel.get ⟨hp, h1⟩ h
      exact ⟨v', by simp [Instr.extract, hv'], hrel⟩
  · cases h

noncomputable def unV (op : UnOp) (x : Value) : Option Value :=
  match op, x with
  | .neg, .int k n => some (.int k (wrapF k (Int.sub 0 n)))
  | .xor, .int k n => bs k.signed none ((ibit .xor k (.ofNat (Nat.sub (mk k) 1)) n).map (.int k))
  | .not, .bool b => some (.bool (not b))
  | _, _ => none
omit inv ok in
theorem un_ok {op : UnOp} {x x' v : Value} (h : unV op x = some v) (hx : VRel β x x') (P : Program) (w : World) : ∃ v', (Op.unary op x').run P w = .ok v' w ∧ VRel β v v' := by
  unfold unV at h
  split at h
  · cases h; cases hx
    refine ⟨_, ?_, .int _ _⟩
    rw [wrapF_eq]
    simp only [Op.unary, Op.intArith]
    rfl
  · rename_i k n
    cases hx
    rcases bs_some h with ⟨_, h⟩ | ⟨hs, h⟩
    · cases h
    · obtain ⟨r, hr, rfl⟩ := Option.map_eq_some_iff.1 h
      refine ⟨_, ?_, .int k r⟩
      have hmax : k.max = Int.ofNat (Nat.sub (mk k) 1) := by cases k <;> first | rfl | (exact absurd hs (by decide))
      simp only [Op.unary, hs, Bool.false_eq_true, if_false, hmax]
      exact (ibit_eq hr P w).1
  · cases h; cases hx
    exact ⟨_, rfl, .bool _⟩
  · cases h
end
end Go.Ev
