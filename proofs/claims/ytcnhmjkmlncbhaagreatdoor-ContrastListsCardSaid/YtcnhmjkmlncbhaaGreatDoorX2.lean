/- A verified evaluator of Go functions on partly symbolic values, part 2 of 17. -/
import Derived.Test.YtcnhmjkmlncbhaaGreatDoorX1
namespace Go.Ex
open Go.RowKit

structure Row where
  desc : TypeDesc
  size : Nat
  bytes : Nat
  zero : List Value
  zok : Bool
structure Env where
  ti : T (Option Row)
  fn : T (Option Func)
  ne : List Nat
  ib : List Nat
  mz : List (Nat × Nat)
  lay : List (Nat × Nat × Nat)
  G : GP

def isRow2 (d : TypeDesc) : Bool := match d with | .struct _ | .array _ _ => true | _ => false
structure Env.Ok (E : Env) (P : Program) : Prop where
  mixed : P.follows .mixedOrders = true
  ti : ∀ t r, E.ti.get none t = some r → P.underlying t = some r.desc ∧ ∃ i, P.info? t = some i ∧ i.size = r.size ∧ i.bytes = r.bytes ∧ (r.zok = true → ∃ z, i.zero = some z ∧ z.cells = ⟨r.zero⟩)
  fn : ∀ f fn, E.fn.get none f = some fn → P.funcs[f]? = some fn ∧ (fn.name == "runtime.NumGoroutine") = false
  zr : ∀ t r i z, E.ti.get none t = some r → P.info? t = some i → r.zok = true → i.zero = some z → z = (match r.desc with | .struct _ => .agg ⟨r.zero⟩ | .array _ _ => .agg ⟨r.zero⟩ | _ => match r.zero with | [c] => c | _ => z) ∧ (isRow2 r.desc = false → ∃ c, r.zero = [c])
  ne : ∀ f, f ∈ E.ne → ∀ (x : Value) (w : World), (callFunc f #[x]).run P w = .ok (.value x) w
  ib : ∀ f, f ∈ E.ib → ∀ (args : Array Value) (w : World), (callFunc f args).run P w = (do pure (.value (← Extern.BytealgIndexByte.indexByte args)) : Sem Next).run P w
  mz : ∀ f t, (f, t) ∈ E.mz → ∃ ps, ∀ (args : Array Value) (w : World), (callFunc f args).run P w = (do pure (.value (← Extern.BytealgMakeNoZero.makeNoZero ps #[t] args)) : Sem Next).run P w
  lay : ∀ e u o, (e, u, o) ∈ E.lay → liesAt P P.depth e 1 o u 1 = true
  any : ∀ r, E.ti.get none ANY ≠ some r
  q : ∀ δ nd, E.G.Q δ nd → OpQ δ nd
  lx : ∀ w w' : World, E.G.L w → (∀ b, b < E.G.n → w'.heap[b]? = w.heap[b]?) → E.G.L w'

/-- by the kind of a value; the arms are closed terms, so that the kernel copies none of them -/
noncomputable def vcase {ρ : Type} (b : Bool → Value → ρ) (i : IntKind → Int → Value → ρ) (s : ByteArray → Value → ρ) (p : Option Addr → Value → ρ) (sl : Option Addr → Nat → Nat → Value → ρ) (ag : Array Value → Value → ρ) (o : Value → ρ) (v : Value) : Value → ρ :=
  @Value.rec (fun _ => Value → ρ) (fun _ => PUnit) (fun _ => PUnit) b i (fun _ _ => o) (fun _ _ _ => o) s p sl (fun _ => o) (fun _ => o) (fun _ _ _ _ _ => o) o (fun _ _ _ => o) o (fun c _ => ag c) (fun _ _ => o) (fun _ _ => PUnit.unit) PUnit.unit (fun _ _ _ _ => PUnit.unit) v
/-- a constant that names no memory -/
noncomputable def san1o (v : Value) : Value :=
  match v with
  | .map none => .map none
  | .nilFunc => .nilFunc
  | .nilIface => .nilIface
  | _ => J
theorem san1o_rel (β : Ren) (v : Value) : VRel β (san1o v) v := by
  unfold san1o
  split
  · exact .map0
  · exact .nilFunc
  · exact .nilIface
  · exact .junk _
noncomputable def sanSl (a : Option Addr) (n c : Nat) : Value := match a, n, c with | none, 0, 0 => .slice none 0 0 | _, _, _ => J
noncomputable def san1 (v : Value) : Value :=
  vcase (fun _ v => v) (fun _ _ v => v) (fun _ v => v) (fun a _ => match a with | none => .pointer none | some _ => J) (fun a n c _ => sanSl a n c) (fun _ _ => J) san1o v v
theorem san1_rel (β : Ren) (v : Value) : VRel β (san1 v) v := by
  cases v with
  | bool b => exact .bool _
  | int k n => exact .int _ _
  | string s => exact .string _
  | pointer a => cases a with
    | none => exact .ptr0
    | some a => exact .junk _
  | slice a n c =>
    show VRel β (sanSl a n c) _
    unfold sanSl
    split
    · exact .slice0
    · exact .junk _
  | agg c => exact .junk _
  | float k b => exact san1o_rel β (.float k b)
  | complex k a b => exact san1o_rel β (.complex k a b)
  | map r => exact san1o_rel β (.map r)
  | chan r => exact san1o_rel β (.chan r)
  | func f p q => exact san1o_rel β (.func f p q)
  | nilFunc => exact san1o_rel β .nilFunc
  | iface t v => exact san1o_rel β (.iface t v)
  | nilIface => exact san1o_rel β .nilIface
  | tuple c => exact san1o_rel β (.tuple c)
noncomputable def sano (v : Value) : Value :=
  match v with
  | .tuple ⟨[]⟩ => .tuple ⟨[]⟩
  | v => san1o v
noncomputable def san (v : Value) : Value :=
  vcase (fun _ v => v) (fun _ _ v => v) (fun _ v => v) (fun a _ => match a with | none => .pointer none | some _ => J) (fun a n c _ => sanSl a n c) (fun c _ => .agg ⟨lmap san1 c.toList⟩) sano v v
theorem lmap_san1 (β : Ren) (l : List Value) : LRel β (lmap san1 l) l := by
  rw [lmap_eq]
  refine ⟨by simp, fun i v v' h h' => ?_⟩
  rw [List.getElem?_map, h'] at h
  cases h
  exact san1_rel β v'
theorem sano_rel (β : Ren) (v : Value) : VRel β (sano v) v := by
  unfold sano
  split
  · exact VRel.tuple_of (LRel.nil β)
  · exact san1o_rel β _
theorem san_rel (β : Ren) (v : Value) : VRel β (san v) v := by
  cases v with
  | bool b => exact .bool _
  | int k n => exact .int _ _
  | string s => exact .string _
  | pointer a => exact san1_rel β (.pointer a)
  | slice a n c => exact san1_rel β (.slice a n c)
  | agg c =>
    obtain ⟨l⟩ := c
    exact VRel.agg_of (lmap_san1 β l)
  | float k b => exact sano_rel β (.float k b)
  | complex k a b => exact sano_rel β (.complex k a b)
  | map r => exact sano_rel β (.map r)
  | chan r => exact sano_rel β (.chan r)
  | func f p q => exact sano_rel β (.func f p q)
  | nilFunc => exact sano_rel β .nilFunc
  | iface t v => exact sano_rel β (.iface t v)
  | nilIface => exact sano_rel β .nilIface
  | tuple c => exact sano_rel β (.tuple c)

abbrev Fr := T Value
abbrev Gt := Nat → Value
noncomputable def ev (E : Env) (fr : Gt) (x : Operand) : Value :=
  Operand.rec (motive := fun _ => Env → Gt → Value) (fun t _ fr => fr t) (fun v _ _ => san v) (fun g E _ => bs (Nat.blt g E.G.n) (.pointer (some ⟨g, 0, none⟩)) J) (fun f _ _ => .func (.func f) ⟨[]⟩ ⟨[]⟩) x E fr

def FRel (β : Ren) (n : Nat) (fr : Gt) (tmps : Array Value) : Prop := tmps.size = n ∧ ∀ t, VRel β (fr t) (tmps.getD t undef)
theorem FRel.mono {β β' : Ren} (hb : β.le β') {n : Nat} {fr : Gt} {tmps : Array Value} (h : FRel β n fr tmps) : FRel β' n fr tmps := ⟨h.1, fun t => (h.2 t).mono hb⟩
theorem FRel.put {β : Ren} {n : Nat} {fr : Fr} {tmps : Array Value} (h : FRel β n (fr.get J) tmps) {d : Nat} (hd : d < n) {v v' : Value} (hv : VRel β v v') : FRel β n ((fr.set d v).get J) (tmps.setIfInBounds d v') := by
  refine ⟨by simp [h.1], fun t => ?_⟩
  by_cases hdt : d = t
  · subst hdt
    have hs : d < tmps.size := by rw [h.1]; exact hd
    have : (tmps.setIfInBounds d v').getD d undef = v' := by simp [hs]
    rw [this]
    rcases T.get_set_or J fr d v with e | e
    · rw [e]; exact hv
    · rw [e.1]; exact .junk _
  · rw [T.get_set_ne J fr d t v hdt]
    have : (tmps.setIfInBounds d v').getD t undef = tmps.getD t undef := by simp [Array.getElem?_setIfInBounds_ne hdt]
    rw [this]
    exact h.2 t

section
variable {P : Program} {E : Env} (ok : E.Ok P) {w0 w : World} {β : Ren} {A : AW} (inv : Inv w0 E.G β A w)
include inv
theorem ev_rel {n : Nat} {fr : Gt} {a : Act} (hf : FRel β n fr a.tmps) (x : Operand) : VRel β (ev E fr x) (a.eval x) := by
  cases x with
  | tmp t => exact hf.2 t
  | const v => exact san_rel β v
  | global g =>
    show VRel β (bs (Nat.blt g E.G.n) (.pointer (some ⟨g, 0, none⟩)) J) (.pointer (some ⟨g, 0, none⟩))
    cases hb : Nat.blt g E.G.n with
    | false => exact .junk _
    | true =>
      obtain ⟨l, hl, hb2, hd⟩ := inv.glob g (Nat.le_of_ble_eq_true hb)
      have := VRel.ptr (β := β) g 0 l hl
      rw [hb2, hd] at this
      exact this
  | func f => exact VRel.func_of (LRel.nil β) (LRel.nil β)

/-- the cells behind an address -/
noncomputable def cellsAt (A : AW) (B : Nat) : Option (List Value) :=
  match A.get B with
  | some ⟨.cells cs, _, _, _, _⟩ => some cs
  | _ => none
omit inv in
theorem cellsAt_some {B : Nat} {cs : List Value} (h : cellsAt A B = some cs) : ∃ es ex ro ty, A.get B = some ⟨.cells cs, es, ex, ro, ty⟩ := by
  unfold cellsAt at h
  split at h
  · cases h; exact ⟨_, _, _, _, by assumption⟩
  · cases h
theorem cells_rel {B : Nat} {cs : List Value} (h : cellsAt A B = some cs) {l : Loc} (hl : β B = some l) : ∃ cur e fz, w.heap[l.b]? = some (.cells cur e fz) ∧ cur.size = l.sz ∧ l.d + cs.length ≤ l.sz ∧
    (∀ (i : Nat) (v : Value), cs[i]? = some v → ∃ v', cur[l.d + i]? = some v' ∧ VRel β v v') := by
  obtain ⟨es, ex, ro, ty, hg⟩ := cellsAt_some h
  have := inv.cont B _ l hg hl
  obtain ⟨cur, e, fz, h1, h2, h3, h4, _⟩ := this
  exact ⟨cur, e, fz, h1, h2, h3, h4⟩
/-- a run of cells reads as related values -/
theorem range_rel {B : Nat} {cs : List Value} (h : cellsAt A B = some cs) {l : Loc} (hl : β B = some l) (o n : Nat) (r : List Value) (hr : ltake n (ldrop o cs) = some r) :
    ∃ r', LRel β r r' ∧ r.length = n ∧ w.rangeAt l.b (l.d + o) r' := by
  obtain ⟨cur, e, fz, h1, h2, h3, h4⟩ := cells_rel inv h hl
  rw [ldrop_eq] at hr
  obtain ⟨hr1, hr2⟩ := ltake_eq n _ r hr
  rw [List.length_drop] at hr2
  by_cases hn : n = 0
  · subst hn
    have : r = [] := by rw [hr1]; rfl
    subst this
    exact ⟨[], LRel.nil β, rfl, fun j v hv => by simp at hv⟩
  · have hon : o + n ≤ cs.length := by omega
    have hlen : r.length = n := by rw [hr1, List.length_take, List.length_drop]; omega
    have key : ∀ i v, r[i]? = some v → i < n ∧ ∃ v', cur[l.d + o + i]? = some v' ∧ VRel β v v' := fun i v hv => by
      have hi : i < n := by rw [← hlen]; exact (List.getElem?_eq_some_iff.1 hv).1
      rw [hr1, List.getElem?_take, if_pos hi, List.getElem?_drop] at hv
      rw [Nat.add_assoc]
      exact ⟨hi, h4 _ _ hv⟩
    have hcs : ∀ j, j < n → cur[l.d + o + j]? = some (cur.getD (l.d + o + j) undef) := fun j hj => by
      have : l.d + o + j < cur.size := by omega
      simp [this]
    refine ⟨(List.range n).map (fun j => cur.getD (l.d + o + j) undef), ⟨by simp [hlen], fun i v v' hv hv' => ?_⟩, hlen, fun j v hv => ?_⟩
    · obtain ⟨hi, u, hu, hr'⟩ := key i v hv
      rw [List.getElem?_map, List.getElem?_range hi] at hv'
      simp only [Option.map_some, Option.some.injEq] at hv'
      rw [hcs i hi] at hu
      cases hu
      rw [← hv']
      exact hr'
    · have hj : j < n := by have := (List.getElem?_eq_some_iff.1 hv).1; simpa using this
      rw [List.getElem?_map, List.getElem?_range hj] at hv
      simp only [Option.map_some, Option.some.injEq] at hv
      rw [cell_of_row w l.b _ cur e fz h1, ← hv, hcs j hj]

include ok
omit inv in
theorem tyrow {t : TypeId} {r : Row} (h : E.ti.get none t = some r) : P.underlying t = some r.desc ∧ ∃ i, P.info? t = some i ∧ i.size = r.size ∧ i.bytes = r.bytes ∧ (r.zok = true → ∃ z, i.zero = some z ∧ z.cells = ⟨r.zero⟩) := ok.ti t r h
omit inv in
theorem run_size {t : TypeId} {r : Row} (h : E.ti.get none t = some r) (w : World) : (sizeOf t).run P w = .ok r.size w := by
  obtain ⟨_, i, hi, hs, _⟩ := ok.ti t r h
  simp [sizeOf, typeInfo, hi, hs]

def isRowD (d : TypeDesc) : Bool := match d with | .struct _ | .array _ _ => true | _ => false
omit inv in
theorem run_isAgg {t : TypeId} {r : Row} (h : E.ti.get none t = some r) (w : World) : (isAgg t).run P w = .ok (isRowD r.desc) w := by
  have hu := (ok.ti t r h).1
  cases hd : r.desc <;> simp [isAgg, run_underlying hu, hd, isRowD]

/-! load -/
noncomputable def loadV (E : Env) (A : AW) (t : TypeId) (x : Value) : Option Value :=
  match x with
  | .pointer (some ⟨B, o, none⟩) =>
    match cellsAt A B, E.ti.get none t with
    | some cs, some r => bs (isRowD r.desc) (match ltake r.size (ldrop o cs) with | some l => some (.agg ⟨l⟩) | none => none) (nth cs o)
    | _, _ => none
  | _ => none
theorem load_ok {t : TypeId} {x x' v : Value} (h : loadV E A t x = some v) (hx : VRel β x x') : ∃ v', (Instr.loadAt t x').run P w = .ok v' w ∧ VRel β v v' := by
  unfold loadV at h
  split at h
  · rename_i B o
    split at h
    · rename_i cs r hc hr
      cases hx with
      | ptr _ _ l hl =>
        have hag := run_isAgg ok hr
        rcases bs_some h with ⟨hd, h⟩ | ⟨hd, h⟩
        · split at h
          · rename_i q hq
            cases h
            obtain ⟨q', hq', hlen, hat⟩ := range_rel inv hc hl o r.size q hq
            refine ⟨.agg q'.toArray, ?_, VRel.agg_of hq'⟩
            have hl2 : (loadCells ⟨l.b, l.d + o, none⟩ r.size).run P w = .ok q'.toArray w := by
              rw [← hlen, hq'.1]
              exact run_loadCells_list (P := P) w ⟨l.b, l.d + o, none⟩ q' (fun j u hu => by rw [Addr.add_mid]; exact hat j u hu)
            simp [Instr.loadAt, Instr.sureAddr, loadVar, hag, hd, run_size ok hr, hl2]
          · cases h
        · rw [nth_eq] at h
          obtain ⟨cur, e, fz, h1, _, _, h4⟩ := cells_rel inv hc hl
          obtain ⟨v', hv', hrel⟩ := h4 o v h
          refine ⟨v', ?_, hrel⟩
          have hcell : w.cell? ⟨l.b, l.d + o, none⟩ = some v' := by rw [cell_of_row w l.b _ cur e fz h1]; exact hv'
          simp [Instr.loadAt, Instr.sureAddr, loadVar, hag, hd, load, Sem.run, hcell]
    · cases h
  · cases h

/-- the same, for the kernel -/
noncomputable def loadB (E : Env) (A : AW) (t : TypeId) (B o : Nat) : Option Value :=
  match cellsAt A B, E.ti.get none t with
  | some cs, some r => bs (isRowD r.desc) (match ltake r.size (ldrop o cs) with | some l => some (.agg ⟨l⟩) | none => none) (nth cs o)
  | _, _ => none
noncomputable def loadO (E : Env) (A : AW) (t : TypeId) (a : Option Addr) : Option Value := match a with | some ⟨B, o, none⟩ => loadB E A t B o | _ => none
noncomputable def loadD (E : Env) (A : AW) (t : TypeId) (x : Value) : Option Value :=
  vcase (ρ := Env → AW → TypeId → Option Value) (fun _ _ _ _ _ => none) (fun _ _ _ _ _ _ => none) (fun _ _ _ _ _ => none) (fun a _ E A t => loadO E A t a) (fun _ _ _ _ _ _ _ => none) (fun _ _ _ _ _ => none) (fun _ _ _ _ => none) x x E A t
omit ok inv in
theorem loadD_eq (E : Env) (A : AW) (t : TypeId) (x : Value) : loadD E A t x = loadV E A t x := by
  cases x with
  | pointer a =>
    cases a with
    | none => rfl
    | some a =>
      obtain ⟨B, o, m⟩ := a
      cases m <;> rfl
  | _ => rfl

/-! parts of values -/
noncomputable def partV (E : Env) (t : TypeId) (cs : List Value) (o : Nat) : Option Value :=
  match E.ti.get none t with
  | some r => bs (isRowD r.desc) (match ltake r.size (ldrop o cs) with | some l => some (.agg ⟨l⟩) | none => none) (nth cs o)
  | none => none
omit inv in
theorem part_ok {t : TypeId} {cs cs' : List Value} {o : Nat} {v : Value} (h : partV E t cs o = some v) (hx : LRel β cs cs') (w : World) : ∃ v', (part t ⟨cs'⟩ o).run P w = .ok v' w ∧ VRel β v v' := by
  unfold partV at h
  split at h
  · rename_i r hr
    have hag := run_isAgg ok hr
    rcases bs_some h with ⟨hd, h⟩ | ⟨hd, h⟩
    · split at h
      · rename_i q hq
        cases h
        rw [ldrop_eq] at hq
        obtain ⟨rfl, hle⟩ := ltake_eq _ _ _ hq
        refine ⟨.agg ⟨(cs'.drop o).take r.size⟩, ?_, VRel.agg_of ((hx.drop o).take r.size)⟩
        have : (⟨cs'⟩ : Array Value).extract o (o + r.size) = ⟨(cs'.drop o).take r.size⟩ := by
          apply Array.ext'
          simp [Array.toList_extract]
        simp [part, hag, hd, run_size ok hr, this]
      · cases h
    · rw [nth_eq] at h
      obtain ⟨v', hv', hrel⟩ := hx.get h
      refine ⟨v', ?_, hrel⟩
      simp [part, hag, hd, hv']
  · cases h

noncomputable def fieldV (E : Env) (t : TypeId) (x : Value) (f : Nat) : Option Value :=
  match x, E.ti.get none t with
  | .agg ⟨cs⟩, some ⟨.struct ⟨fs⟩, _, _, _, _⟩ => match nth fs f with | some fd => partV E fd.type cs fd.offset | none => none
  | _, _ => none
omit inv in
theorem field_ok {t : TypeId} {x x' v : Value} {f : Nat} (h : fieldV E t x f = some v) (hx : VRel β x x') (w : World) : ∃ v', (Instr.field t x' f).run P w = .ok v' w ∧ VRel β v v' := by
  unfold fieldV at h
  split at h
  · rename_i cs fs _ _ _ _ hr
    split at h
    · rename_i fd hfd
      rw [nth_eq] at hfd
      cases hx with
      | agg _ p' hp h1 =>
        obtain ⟨v', hv', hrel⟩ := part_ok ok h ⟨hp, h1⟩ w
        refine ⟨v', ?_, hrel⟩
        have hu := (ok.ti t _ hr).1
        simp [Instr.field, run_underlying hu, hfd, asAgg, hv']
    · cases h
  · cases h

/-! addresses -/
noncomputable def fieldAddrV (E : Env) (t : TypeId) (x : Value) (f : Nat) : Option Value :=
  match x, E.ti.get none t with
  | .pointer (some ⟨B, o, none⟩), some ⟨.struct ⟨fs⟩, _, _, _, _⟩ =>
    match nth fs f with
    | some fd => match E.ti.get none fd.type with
      | some r => bs (Nat.beq r.size 0) none (some (.pointer (some ⟨B, Nat.add o fd.offset, none⟩)))
      | none => none
    | none => none
  | _, _ => none
omit inv in
theorem fieldAddr_ok {t : TypeId} {x x' v : Value} {f : Nat} (h : fieldAddrV E t x f = some v) (hx : VRel β x x') (w : World) : ∃ v', (Instr.fieldAt t x' f).run P w = .ok v' w ∧ VRel β v v' := by
  unfold fieldAddrV at h
  split at h
  · rename_i B o fs _ _ _ _ hr
    split at h
    · rename_i fd hfd
      rw [nth_eq] at hfd
      split at h
      · rename_i r hr2
        rcases bs_some h with ⟨_, h⟩ | ⟨hz, h⟩
        · cases h
        · cases h
          rw [nbeq] at hz
          have hz' : ¬ r.size = 0 := by simpa using hz
          cases hx with
          | ptr _ _ l hl =>
            refine ⟨.pointer (some ⟨l.b, l.d + (o + fd.offset), none⟩), ?_, .ptr B (o + fd.offset) l hl⟩
            have hu := (ok.ti t _ hr).1
            simp [Instr.fieldAt, run_underlying hu, hfd, Instr.sureAddr, fieldPlace, run_size ok hr2, hz', Addr.add_lit, Nat.add_assoc]
      · cases h
    · cases h
  · cases h

/-- an index within a length -/
noncomputable def idxN (i : Value) (len : Nat) : Option Nat :=
  match i with
  | .int _ (.ofNat m) => bs (Nat.blt m len) (some m) none
  | _ => none
omit inv ok in
theorem idxN_ok {i i' : Value} {len m : Nat} (h : idxN i len = some m) (hi : VRel β i i') : ∃ k, i' = .int k (m : Int) ∧ m < len := by
  unfold idxN at h
  split at h
  · rename_i k q
    rcases bs_some h with ⟨hb, h⟩ | ⟨_, h⟩
    · cases h
      cases hi
      exact ⟨k, rfl, Nat.le_of_ble_eq_true hb⟩
    · cases h
  · cases h

noncomputable def indexAddrV (E : Env) (t : TypeId) (x i : Value) : Option Value :=
  match E.ti.get none t with
  | some ⟨.array len elem, _, _, _, _⟩ =>
    match x, idxN i len, E.ti.get none elem with
    | .pointer (some ⟨B, o, none⟩), some m, some r => some (.pointer (some ⟨B, Nat.add o (Nat.mul m r.size), none⟩))
    | _, _, _ => none
  | some ⟨.slice elem, _, _, _, _⟩ =>
    match x with
    | .slice (some ⟨B, o, none⟩) len _ =>
      match idxN i len, E.ti.get none elem with
      | some m, some r => some (.pointer (some ⟨B, Nat.add o (Nat.mul m r.size), none⟩))
      | _, _ => none
    | _ => none
  | _ => none
omit inv in
theorem indexAddr_ok {t : TypeId} {x x' i i' v : Value} (h : indexAddrV E t x i = some v) (hx : VRel β x x') (hi : VRel β i i') (w : World) : ∃ v', (Instr.indexAt t x' i').run P w = .ok v' w ∧ VRel β v v' := by
  unfold indexAddrV at h
  split at h
  · rename_i len elem _ _ _ _ hr
    split at h
    · rename_i B o m r hm hr2
      cases h
      obtain ⟨k, rfl, hlt⟩ := idxN_ok hm hi
      cases hx with
      | ptr _ _ l hl =>
        refine ⟨.pointer (some ⟨l.b, l.d + (o + m * r.size), none⟩), ?_, .ptr B (o + m * r.size) l hl⟩
        have hu := (ok.ti t _ hr).1
        have h0 : (0 : Int) ≤ (m : Int) ∧ (m : Int) < (len : Int) := ⟨by omega, by omega⟩
        simp [Instr.indexAt, asIntOf, run_underlying hu, Instr.sureAddr, run_size ok hr2, Addr.add_lit, Nat.add_assoc, hlt]
    · cases h
  · rename_i elem _ _ _ _ hr
    split at h
    · rename_i B o len c
      split at h
      · rename_i m r hm hr2
        cases h
        obtain ⟨k, rfl, hlt⟩ := idxN_ok hm hi
        have hu := (ok.ti t _ hr).1
        cases hx with
        | slice _ _ _ _ c' l hl hn hc he =>
          refine ⟨.pointer (some ⟨l.b, l.d + (o + m * r.size), none⟩), ?_, .ptr B (o + m * r.size) l hl⟩
          simp [Instr.indexAt, asIntOf, run_underlying hu, run_size ok hr2, Addr.add_lit, Nat.add_assoc, hlt]
        | empty => omega
      · cases h
    · cases h
  · cases h

noncomputable def indexV (E : Env) (t : TypeId) (x i : Value) : Option Value :=
  match E.ti.get none t with
  | some ⟨.array len elem, _, _, _, _⟩ =>
    match x, idxN i len, E.ti.get none elem with
    | .agg ⟨cs⟩, some m, some r => partV E elem cs (Nat.mul m r.size)
    | _, _, _ => none
  | some ⟨.string, _, _, _, _⟩ =>
    match x, i with
    | .string ⟨⟨l⟩⟩, .int _ (.ofNat m) => match nth l m with | some b => some (.int .u8 (.ofNat b.toNat)) | none => none
    | _, _ => none
  | _ => none
omit inv in
theorem index_ok {t : TypeId} {x x' i i' v : Value} (h : indexV E t x i = some v) (hx : VRel β x x') (hi : VRel β i i') (w : World) : ∃ v', (Instr.index t x' i').run P w = .ok v' w ∧ VRel β v v' := by
  unfold indexV at h
  split at h
  · rename_i len elem _ _ _ _ hr
    split at h
    · rename_i cs m r hm hr2
      obtain ⟨k, rfl, hlt⟩ := idxN_ok hm hi
      have hu := (ok.ti t _ hr).1
      cases hx with
      | agg _ p' hp h1 =>
        obtain ⟨v', hv', hrel⟩ := part_ok ok h ⟨hp, h1⟩ w
        refine ⟨v', ?_, hrel⟩
        have hv2 : (part elem ⟨p'⟩ (m * r.size)).run P w = .ok v' w := hv'
        simp [Instr.index, asIntOf, run_underlying hu, run_size ok hr2, hlt, hv2]
    · cases h
  · rename_i _ _ _ _ hr
    split at h
    · rename_i l k m
      split at h
      · rename_i b hb
        cases h
        rw [nth_eq] at hb
        have hu := (ok.ti t _ hr).1
        cases hx
        cases hi
        refine ⟨_, ?_, .int .u8 b.toNat⟩
        have hs : (⟨⟨l⟩⟩ : ByteArray)[m]? = some b := by
          have hlt := (List.getElem?_eq_some_iff.1 hb).1
          have hsz : m < (⟨⟨l⟩⟩ : ByteArray).size := hlt
          rw [getElem?_pos (⟨⟨l⟩⟩ : ByteArray) m hsz]
          congr 1
          exact (List.getElem?_eq_some_iff.1 hb).2
        simp [Instr.index, asIntOf, run_underlying hu, hs]
      · cases h
    · cases h
  · cases h

noncomputable def extractV (x : Value) (i : Nat) : Option Value := match x with | .tuple ⟨l⟩ => nth l i | _ => none
omit inv ok in
theorem extract_ok {x x' v : Value} {i : Nat} (h : extractV x i = some v) (hx : VRel β x x') (P : Program) (w : World) : ∃ v', (Instr.extract x' i).run P w = .ok v' w ∧ VRel β v v' := by
  unfold extractV at h
  split at h
  · rw [nth_eq] at h
    cases hx with
    | tuple _ p' hp h1 =>
      obtain ⟨v', hv', hrel⟩ := LRel.get ⟨hp, h1⟩ h
      exact ⟨v', by simp [Instr.extract, hv'], hrel⟩
  · cases h

noncomputable def unV (op : UnOp) (x : Value) : Option Value :=
  match op, x with
  | .neg, .int k n => some (.int k (wrapF k (Int.sub 0 n)))
  | .xor, .int k n => bs k.signed none ((ibit .xor k (.ofNat (Nat.sub (mk k) 1)) n).map (.int k))
  | .not, .bool b => some (.bool (not b))
  | _, _ => none
omit inv ok in
theorem un_ok {op : UnOp} {x x' v : Value} (h : unV op x = some v) (hx : VRel β x x') (P : Program) (w : World) : ∃ v', (Op.unary op x').run P w = .ok v' w ∧ VRel β v v' := by
  unfold unV at h
  split at h
  · cases h; cases hx
    refine ⟨_, ?_, .int _ _⟩
    rw [wrapF_eq]
    simp only [Op.unary, Op.intArith]
    rfl
  · rename_i k n
    cases hx
    rcases bs_some h with ⟨_, h⟩ | ⟨hs, h⟩
    · cases h
    · obtain ⟨r, hr, rfl⟩ := Option.map_eq_some_iff.1 h
      refine ⟨_, ?_, .int k r⟩
      have hmax : k.max = Int.ofNat (Nat.sub (mk k) 1) := by cases k <;> first | rfl | (exact absurd hs (by decide))
      simp only [Op.unary, hs, Bool.false_eq_true, if_false, hmax]
      exact (ibit_eq hr P w).1
  · cases h; cases hx
    exact ⟨_, rfl, .bool _⟩
  · cases h
end
end Go.Ex
namespace Go.Ex
open Go.RowKit

/-- a bound of a slice expression -/
noncomputable def bnd (x : Option Value) (dflt lim : Nat) : Option Nat :=
  match x with
  | none => some dflt
  | some (.int _ (.ofNat m)) => bs (Nat.ble m lim) (some m) none
  | some _ => none
def ORel (β : Ren) : Option Value → Option Value → Prop
  | none, none => True
  | some v, some v' => VRel β v v'
  | _, _ => False
section
variable {P : Program} {β : Ren}
theorem run_sliceBound (k : IntKind) (m y : Nat) (h : m ≤ y) (code : BoundsCode) (w : World) : (Instr.sliceBound (.int k (m : Int)) y code).run P w = .ok m w := by
  have h0 : (0 : Int) ≤ (m : Int) ∧ (m : Int) ≤ (y : Int) := ⟨by omega, by omega⟩
  simp [Instr.sliceBound, asIntOf, h]
theorem bnd_some {x x' : Option Value} {dflt lim m : Nat} (h : bnd x dflt lim = some m) (hx : ORel β x x') : (x' = none ∧ m = dflt) ∨ ∃ k, x' = some (.int k (m : Int)) ∧ m ≤ lim := by
  unfold bnd at h
  split at h
  · cases h
    cases x' with
    | none => exact .inl ⟨rfl, rfl⟩
    | some v => exact hx.elim
  · rename_i k q
    replace h := bs_some h; rcases h with ⟨hb, h⟩ | ⟨_, h⟩
    · cases h
      cases x' with
      | none => exact hx.elim
      | some v => cases hx; exact .inr ⟨k, rfl, Nat.le_of_ble_eq_true hb⟩
    · cases h
  · cases h

/-- the bounds, where the abstract capacity is at most the true one -/
noncomputable def bounds (len cap : Nat) (lo hi mx : Option Value) : Option (Nat × Nat × Nat) :=
  match bnd mx cap cap with
  | none => none
  | some m => match bnd hi len m with
    | none => none
    | some h => match bnd lo 0 h with
      | none => none
      | some l => some (l, h, m)
theorem bounds_run {len cap cap' : Nat} {lo hi mx lo' hi' mx' : Option Value} {l h m : Nat} (hb : bounds len cap lo hi mx = some (l, h, m)) (hlo : ORel β lo lo') (hhi : ORel β hi hi') (hmx : ORel β mx mx')
    (hlc : len ≤ cap) (hcap : cap ≤ cap') (hmh : mx.isSome = true → hi.isSome = true) (s : Bool) (w : World) :
    (∃ m', (Instr.sliceBounds s len cap' lo' hi' mx').run P w = .ok (l, h, m') w ∧ m ≤ m' ∧ m' ≤ cap' ∧ (cap = cap' → m = m')) ∧ l ≤ h ∧ h ≤ m ∧ m ≤ cap := by
  unfold bounds at hb
  split at hb
  · cases hb
  rename_i m0 hm
  split at hb
  · cases hb
  rename_i h0 hh
  split at hb
  · cases hb
  rename_i l0 hl
  cases hb
  have hmle : m ≤ cap := by rcases bnd_some hm hmx with ⟨_, rfl⟩ | ⟨k, _, h⟩ <;> omega
  have hhle : h ≤ m := by
    rcases bnd_some hh hhi with ⟨e, rfl⟩ | ⟨k, _, h⟩
    · rcases bnd_some hm hmx with ⟨_, rfl⟩ | ⟨k, e2, h⟩
      · exact hlc
      · subst e2
        cases mx with
        | none => exact hmx.elim
        | some _ =>
          have := hmh rfl
          subst e
          cases hi with
          | none => cases this
          | some _ => exact hhi.elim
    · exact h
  have hlle : l ≤ h := by rcases bnd_some hl hlo with ⟨_, rfl⟩ | ⟨k, _, h⟩ <;> omega
  refine ⟨?_, hlle, hhle, hmle⟩
  rcases bnd_some hm hmx with ⟨rfl, e1⟩ | ⟨km, rfl, _⟩
  · refine ⟨cap', ?_, by omega, Nat.le_refl _, fun e => by omega⟩
    rcases bnd_some hh hhi with ⟨rfl, e2⟩ | ⟨kh, rfl, _⟩ <;> rcases bnd_some hl hlo with ⟨rfl, e4⟩ | ⟨kl, rfl, _⟩
    · simp [Instr.sliceBounds, e2, e4]
    · rw [← e2]; simp [Instr.sliceBounds, run_sliceBound _ l h hlle]
    · simp [Instr.sliceBounds, run_sliceBound _ h cap' (Nat.le_trans (Nat.le_trans hhle hmle) hcap), e4]
    · simp [Instr.sliceBounds, run_sliceBound _ h cap' (Nat.le_trans (Nat.le_trans hhle hmle) hcap), run_sliceBound _ l h hlle]
  · refine ⟨m, ?_, Nat.le_refl _, by omega, fun _ => rfl⟩
    rcases bnd_some hh hhi with ⟨rfl, rfl⟩ | ⟨kh, rfl, _⟩
    · cases mx with
      | none => exact hmx.elim
      | some _ =>
        have := hmh rfl
        cases hi with
        | none => cases this
        | some _ => exact hhi.elim
    · rcases bnd_some hl hlo with ⟨rfl, e4⟩ | ⟨kl, rfl, _⟩
      · simp [Instr.sliceBounds, run_sliceBound _ m cap' (Nat.le_trans hmle hcap), run_sliceBound _ h m hhle, e4]
      · simp [Instr.sliceBounds, run_sliceBound _ m cap' (Nat.le_trans hmle hcap), run_sliceBound _ h m hhle, run_sliceBound _ l h hlle]
end

/-- the block's width -/
noncomputable def widthAt (A : AW) (B : Nat) : Option (List Value × Nat) :=
  match A.get B with
  | some ⟨.cells cs, es, _, _, _⟩ => some (cs, es)
  | _ => none

noncomputable def sliceV1 (E : Env) (A : AW) (t : TypeId) (x : Value) (lo hi mx : Option Value) : Option Value :=
  match E.ti.get none t, x with
  | some ⟨.string, _, _, _, _⟩, .string ⟨⟨s⟩⟩ =>
    match mx with
    | some _ => none
    | none => match bounds (llen s) (llen s) lo hi none with
      | some (l, h, _) => match ltake (Nat.sub h l) (ldrop l s) with | some r => some (.string ⟨⟨r⟩⟩) | none => none
      | none => none
  | some ⟨.slice elem, _, _, _, _⟩, .slice none 0 0 =>
    match bounds 0 0 lo hi mx, E.ti.get none elem with
    | some (0, 0, 0), some _ => some (.slice none 0 0)
    | _, _ => none
  | some ⟨.slice elem, _, _, _, _⟩, .slice (some ⟨B, o, none⟩) n c =>
    match bounds n c lo hi mx, E.ti.get none elem with
    | some (l, h, m), some r =>
      bs (Nat.ble n c) (bs (Nat.beq l 0) (some (.slice (some ⟨B, o, none⟩) h m))
        (bs (Nat.beq l m) (some (.slice (some ⟨TAINT, 0, none⟩) 0 0))
          (match widthAt A B with
          | some (_, es) => bs (Nat.beq es r.size) (some (.slice (some ⟨B, Nat.add o (Nat.mul l r.size), none⟩) (Nat.sub h l) (Nat.sub m l))) none
          | none => none))) none
    | _, _ => none
  | some ⟨.array n elem, _, _, _, _⟩, .pointer (some ⟨B, o, none⟩) =>
    match bounds n n lo hi mx, E.ti.get none elem, widthAt A B with
    | some (l, h, m), some r, some (cs, es) =>
      bs (Nat.beq es r.size && Nat.ble (Nat.add o (Nat.mul n r.size)) (llen cs)) (some (.slice (some ⟨B, bs (Nat.beq l m) o (Nat.add o (Nat.mul l r.size)), none⟩) (Nat.sub h l) (Nat.sub m l))) none
    | _, _, _ => none
  | _, _ => none
noncomputable def sliceV (E : Env) (A : AW) (t : TypeId) (x : Value) (lo hi mx : Option Value) : Option Value :=
  bs (mx.isSome && !hi.isSome) none (sliceV1 E A t x lo hi mx)

section
variable {P : Program} {E : Env} (ok : E.Ok P) {w0 w : World} {β : Ren} {A : AW} (inv : Inv w0 E.G β A w)
include inv ok
omit ok in
theorem width_rel {B : Nat} {cs : List Value} {es : Nat} (h : widthAt A B = some (cs, es)) {l : Loc} (hl : β B = some l) : l.es = es ∧ l.d + cs.length ≤ l.sz := by
  unfold widthAt at h
  split at h
  · rename_i hg
    cases h
    obtain ⟨cur, e, fz, _, _, h3, _, _, _, h7⟩ := inv.cont B _ l hg hl
    exact ⟨h7.1, h3⟩
  · cases h
omit inv ok in
theorem extract_list (s : List UInt8) (l h : Nat) : (⟨⟨s⟩⟩ : ByteArray).extract l h = ⟨⟨(s.drop l).take (h - l)⟩⟩ := by
  apply ByteArray.ext
  rw [ByteArray.data_extract]
  apply Array.ext'
  simp [Array.toList_extract]
theorem slice_ok1 {t : TypeId} {x x' v : Value} {lo hi mx lo' hi' mx' : Option Value} (h : sliceV1 E A t x lo hi mx = some v) (hx : VRel β x x') (hlo : ORel β lo lo') (hhi : ORel β hi hi') (hmx : ORel β mx mx') (hmh : mx.isSome = true → hi.isSome = true) :
    ∃ v', (Instr.sliceAt t x' lo' hi' mx').run P w = .ok v' w ∧ VRel β v v' := by
  unfold sliceV1 at h
  split at h
  · rename_i _ _ _ _ s hr
    have hu := (ok.ti t _ hr).1
    split at h
    · cases h
    · split at h
      · rename_i l hh m hb
        split at h
        · rename_i r hr2
          cases h
          cases hx
          have hmx2 : mx' = none := by cases mx' with | none => rfl | some _ => exact hmx.elim
          subst hmx2
          rw [llen_eq] at hb
          obtain ⟨⟨m', hrun, _⟩, hlh, hhm, hmc⟩ := bounds_run (P := P) (cap' := s.length) hb hlo hhi (show ORel β none none from trivial) (Nat.le_refl _) (Nat.le_refl _) (fun e => by cases e) false w
          rw [ldrop_eq] at hr2
          obtain ⟨rfl, _⟩ := ltake_eq _ _ _ hr2
          refine ⟨_, ?_, .string _⟩
          have hsz : (⟨⟨s⟩⟩ : ByteArray).size = s.length := rfl
          simp [Instr.sliceAt, run_underlying hu, Instr.slice, hsz, hrun, extract_list]
        · cases h
      · cases h
  · rename_i elem _ _ _ _ hr
    have hu := (ok.ti t _ hr).1
    split at h
    · rename_i r hb hr2
      cases h
      cases hx
      obtain ⟨⟨m', hrun, hm1, hm2, _⟩, _⟩ := bounds_run (P := P) (cap' := 0) hb hlo hhi hmx (Nat.le_refl _) (Nat.le_refl _) hmh true w
      have : m' = 0 := by omega
      subst this
      exact ⟨.slice none 0 0, by simp [Instr.sliceAt, run_underlying hu, Instr.slice, hrun, run_size ok hr2], .slice0⟩
    · cases h
  · rename_i elem _ _ _ _ B o n c hr
    have hu := (ok.ti t _ hr).1
    split at h
    · rename_i l hh m r hb hr2
      replace h := bs_some h; rcases h with ⟨hnc, h⟩ | ⟨_, h⟩
      · have hnc' := Nat.le_of_ble_eq_true hnc
        replace h := bs_some h; rcases h with ⟨hl0, h⟩ | ⟨hl0, h⟩
        · have hl0' := Nat.eq_of_beq_eq_true hl0
          subst hl0'
          cases h
          cases hx with
          | slice _ _ _ _ c' lc hlc hn hc he =>
            obtain ⟨⟨m', hrun, hm1, hm2, _⟩, _, hhm, hmc⟩ := bounds_run (P := P) hb hlo hhi hmx hn hc hmh true w
            refine ⟨.slice (some ⟨lc.b, lc.d + o, none⟩) hh m', ?_, .slice B o hh m m' lc hlc hhm hm1 (Nat.le_trans (Nat.add_le_add_left (Nat.mul_le_mul_right _ hm2) _) he)⟩
            simp [Instr.sliceAt, run_underlying hu, Instr.slice, hrun, run_size ok hr2, Addr.add]
          | empty _ a' c' =>
            obtain ⟨⟨m', hrun, hm1, hm2, _⟩, _, hhm, hmc⟩ := bounds_run (P := P) (cap' := c') hb hlo hhi hmx (Nat.le_refl _) (Nat.zero_le _) hmh true w
            obtain rfl : hh = 0 := by omega
            obtain rfl : m = 0 := by omega
            refine ⟨.slice (some a') 0 m', ?_, .empty o a' m'⟩
            simp [Instr.sliceAt, run_underlying hu, Instr.slice, hrun, run_size ok hr2, Addr.add]
        · have hl0' : ¬ l = 0 := fun e => by subst e; cases hl0
          replace h := bs_some h; rcases h with ⟨hlm, h⟩ | ⟨hlm, h⟩
          · have hlm' := Nat.eq_of_beq_eq_true hlm
            subst hlm'
            cases h
            cases hx with
            | slice _ _ _ _ c' lc hlc hn hc he =>
              obtain ⟨⟨m', hrun, hm1, hm2, _⟩, hlh, hhm, hmc⟩ := bounds_run (P := P) hb hlo hhi hmx hn hc hmh true w
              have : hh = l := by omega
              subst this
              by_cases hml : m' = hh
              · exact ⟨.slice (some ⟨lc.b, lc.d + o, none⟩) 0 0, by simp [Instr.sliceAt, run_underlying hu, Instr.slice, hrun, run_size ok hr2, hml], .empty 0 _ _⟩
              · exact ⟨.slice (some ((⟨lc.b, lc.d + o, none⟩ : Addr).add (hh * r.size))) 0 (m' - hh), by simp [Instr.sliceAt, run_underlying hu, Instr.slice, hrun, run_size ok hr2, hml], .empty 0 _ _⟩
            | empty _ a' c' =>
              obtain ⟨⟨m', hrun, hm1, hm2, _⟩, hlh, hhm, hmc⟩ := bounds_run (P := P) (cap' := c') hb hlo hhi hmx (Nat.le_refl _) (Nat.zero_le _) hmh true w
              omega
          · have hlm' : ¬ l = m := fun e => by subst e; rw [nbeq] at hlm; simp at hlm
            split at h
            · rename_i es hw
              replace h := bs_some h; rcases h with ⟨hes, h⟩ | ⟨_, h⟩
              · have hes' := Nat.eq_of_beq_eq_true hes
                subst hes'
                cases h
                cases hx with
                | slice _ _ _ _ c' lc hlc hn hc he =>
                  obtain ⟨⟨m', hrun, hm1, hm2, _⟩, hlh, hhm, hmc⟩ := bounds_run (P := P) hb hlo hhi hmx hn hc hmh true w
                  obtain ⟨hes2, _⟩ := width_rel inv hw hlc
                  have hml : ¬ m' = l := by omega
                  refine ⟨.slice (some ⟨lc.b, lc.d + (o + l * r.size), none⟩) (hh - l) (m' - l), ?_, .slice B (o + l * r.size) (hh - l) (m - l) (m' - l) lc hlc (by omega) (by omega) ?_⟩
                  · simp [Instr.sliceAt, run_underlying hu, Instr.slice, hrun, run_size ok hr2, hml, Addr.add_lit, Nat.add_assoc]
                  · rw [hes2] at he ⊢
                    have : l * r.size + (m' - l) * r.size = m' * r.size := by rw [← Nat.add_mul]; congr 1; omega
                    have h2 : m' * r.size ≤ c' * r.size := Nat.mul_le_mul_right _ hm2
                    omega
                | empty _ a' c' =>
                  obtain ⟨⟨m', hrun, hm1, hm2, _⟩, hlh, hhm, hmc⟩ := bounds_run (P := P) (cap' := c') hb hlo hhi hmx (Nat.le_refl _) (Nat.zero_le _) hmh true w
                  omega
              · cases h
            · cases h
      · cases h
    · cases h
  · rename_i n elem _ _ _ _ B o hr
    have hu := (ok.ti t _ hr).1
    split at h
    · rename_i l hh m r cs es hb hr2 hw
      replace h := bs_some h; rcases h with ⟨hc, h⟩ | ⟨_, h⟩
      · rw [Bool.and_eq_true] at hc
        have hes' := Nat.eq_of_beq_eq_true hc.1
        subst hes'
        have hle := Nat.le_of_ble_eq_true hc.2
        rw [llen_eq] at hle
        have hle' : o + n * r.size ≤ cs.length := hle
        cases h
        cases hx with
        | ptr _ _ lc hlc =>
          obtain ⟨⟨m', hrun, hm1, hm2, hme⟩, hlh, hhm, hmc⟩ := bounds_run (P := P) (cap' := n) hb hlo hhi hmx (Nat.le_refl _) (Nat.le_refl _) hmh false w
          have := hme rfl
          subst this
          obtain ⟨hes2, hsz⟩ := width_rel inv hw hlc
          have h2 : m * r.size ≤ n * r.size := Nat.mul_le_mul_right _ hmc
          by_cases hlm : l = m
          · subst hlm
            have hb2 : Nat.beq l l = true := by rw [nbeq]; simp
            rw [hb2, bs_true]
            refine ⟨.slice (some ⟨lc.b, lc.d + o, none⟩) (hh - l) (l - l), ?_, .slice B o (hh - l) (l - l) (l - l) lc hlc (by omega) (Nat.le_refl _) ?_⟩
            · simp [Instr.sliceAt, run_underlying hu, Instr.sureAddr, hrun, run_size ok hr2]
            · rw [Nat.sub_self, Nat.zero_mul]; omega
          · have hb2 : Nat.beq l m = false := by rw [nbeq]; simpa using hlm
            rw [hb2, bs_false]
            refine ⟨.slice (some ⟨lc.b, lc.d + (o + l * r.size), none⟩) (hh - l) (m - l), ?_, .slice B (o + l * r.size) (hh - l) (m - l) (m - l) lc hlc (by omega) (Nat.le_refl _) ?_⟩
            · simp [Instr.sliceAt, run_underlying hu, Instr.sureAddr, hrun, run_size ok hr2, Addr.add_lit, Nat.add_assoc, Ne.symm hlm]
            · rw [hes2]
              have : l * r.size + (m - l) * r.size = m * r.size := by rw [← Nat.add_mul]; congr 1; omega
              omega
      · cases h
    · cases h
  · cases h
theorem slice_ok {t : TypeId} {x x' v : Value} {lo hi mx lo' hi' mx' : Option Value} (h : sliceV E A t x lo hi mx = some v) (hx : VRel β x x') (hlo : ORel β lo lo') (hhi : ORel β hi hi') (hmx : ORel β mx mx') :
    ∃ v', (Instr.sliceAt t x' lo' hi' mx').run P w = .ok v' w ∧ VRel β v v' := by
  unfold sliceV at h
  replace h := bs_some h; rcases h with ⟨_, h2⟩ | ⟨hm0, h2⟩
  · cases h2
  refine slice_ok1 ok inv h2 hx hlo hhi hmx (fun e => ?_)
  rw [e] at hm0
  cases hq : hi.isSome with
  | true => rfl
  | false => rw [hq] at hm0; cases hm0
end
end Go.Ex
