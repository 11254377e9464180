/- A verified evaluator of Go functions on partly symbolic values, part 12 of 17. -/
import Derived.Test.YtcnhmjkmlncbhaaGreatDoorX11
import Derived.OrdersIn
import Derived.TacticsIn
import Derived.RangeFuncRecord
namespace Go.Ex
open Go.RowKit

/-- no fence; the loop whose round it is -/
abbrev wideR (ro : Option Nat) : Fence := { Fence.wide with round := ro }
theorem roomR (ro : Option Nat) (n : Nat) : (wideR ro).room n := fun _ h => by simp [Fence.wide] at h
theorem callsR {ro : Option Nat} {n : Nat} {P : Program} {f : FuncId} {args : Array Value} {w : World} {R : Ending → World → Prop} (h : Calls P f args w R) : CallsIn (wideR ro) n P f args w R :=
  (callsIn_wide.2 h : CallsIn Fence.wide n P f args w R)
theorem roundR {ro : Option Nat} {n : Nat} {P : Program} {l : Nat} {f : FuncId} {tmps : Array Value} {a b : Code} {w : World} {R : Ending → World → Prop} (h : RoundIn Fence.wide n P l f tmps a b w R) : RoundIn (wideR ro) n P l f tmps a b w R := h

def FPost (w0 : World) (G : GP) (n : Nat) (β : Ren) (A : AW) (ds : List Deferred) (outs : List (Fr × AW)) (a' : Act) (w' : World) : Prop :=
  ∃ p ∈ outs, ∃ β', FRel β' n (p.1.get J) a'.tmps ∧ Inv w0 G β' p.2 w' ∧ β.grow β' A.next ∧ A.next ≤ p.2.next ∧ a'.defers = ds
def VPost (w0 : World) (G : GP) (β : Ren) (A : AW) (outs : List (Value × AW)) (e : Ending) (w' : World) : Prop :=
  ∃ p ∈ outs, ∃ β' v', e = .returned v' ∧ VRel β' p.1 v' ∧ Inv w0 G β' p.2 w' ∧ β.grow β' A.next ∧ A.next ≤ p.2.next
def CallOk (P : Program) (E : Env) (call : Tgt → List Value → AW → Out Value) : Prop :=
  ∀ w0 t args A outs β w args', call t args A = some outs → Inv w0 E.G β A w → LRel β args args' →
    match t with
    | .fn f => Calls P f ⟨args'⟩ w (VPost w0 E.G β A outs)
    | .rd L => ∀ l, β L = some l → ∃ f tmps a b, (Instr.yield l.b ⟨args'⟩).run P w = .ok (.round l.b f tmps a b) w ∧ RoundIn Fence.wide 0 P l.b f tmps a b w (VPost w0 E.G β A outs)
def DrawOk (P : Program) (E : Env) (n : Nat) (draw : List Oper → Fr → AW → Out Fr) : Prop :=
  ∀ ro w0 ops fr A outs β a w id, draw ops fr A = some outs → FRel β n (fr.get J) a.tmps → Inv w0 E.G β A w →
    (Code.region id ⟨ops⟩ true).wpIn (wideR ro) 0 P (fun e a' w' => e = .normal ∧ FPost w0 E.G n β A a.defers outs a' w') a w

theorem FPost.mono {w0 : World} {G : GP} {n : Nat} {β β1 : Ren} {A A1 : AW} {ds : List Deferred} {outs outs1 : List (Fr × AW)} {a' : Act} {w' : World} (h : FPost w0 G n β1 A1 ds outs1 a' w') (hg : β.grow β1 A.next) (hn : A.next ≤ A1.next) (hsub : ∀ c ∈ outs1, c ∈ outs) : FPost w0 G n β A ds outs a' w' := by
  obtain ⟨p, hp, β', h1, h2, h3, h4, h5⟩ := h
  exact ⟨p, hsub p hp, β', h1, h2, Ren.grow_trans hg h3 hn, Nat.le_trans hn h4, h5⟩

theorem want_ok {ops : List Oper} {fr : Gt} {o : Oper} {b : Bool} {β : Ren} {n : Nat} {a : Act} (h : wantA ops fr o = some b) (hf : FRel β n fr a.tmps) : Region.wanted o (yielded ⟨ops⟩ a.tmps) = b := by
  unfold wantA at h
  unfold Region.wanted
  split at h
  · rename_i hg; cases h; rw [hg]
  · rename_i j want hg
    rw [hg]
    simp only
    have hy : ∀ t, ((ops[j]?).bind (·.dst)) = some t → yielded ⟨ops⟩ a.tmps j = match a.tmps[t]? with | some (.bool b) => some b | _ => none := fun t ht => by
      unfold yielded
      have : (((⟨ops⟩ : Array Oper)[j]?).bind (·.dst)) = some t := by simpa using ht
      rw [this]; rfl
    have hn : ((ops[j]?).bind (·.dst)) = none → yielded ⟨ops⟩ a.tmps j = none := fun ht => by
      unfold yielded
      have : (((⟨ops⟩ : Array Oper)[j]?).bind (·.dst)) = none := by simpa using ht
      rw [this]; rfl
    rw [nth_eq] at h
    split at h
    · rename_i g hgj
      split at h
      · rename_i t ht
        have e := hy t (by rw [hgj]; exact ht)
        rw [e]
        have hv := hf.2 t
        cases hc : a.tmps[t]? with
        | none =>
          have hd : a.tmps.getD t undef = undef := by simp [hc]
          rw [hd] at hv
          split at h
          · rename_i hb; rw [hb] at hv; cases hv
          · cases h
          · cases h; rfl
        | some x =>
          have hd : a.tmps.getD t undef = x := by simp [hc]
          rw [hd] at hv
          split at h
          · rename_i b0 hb
            rw [hb] at hv
            cases hv
            cases h
            cases b0 <;> cases want <;> rfl
          · cases h
          · rename_i hnb hnc
            cases h
            cases hx : x with
            | bool b0 =>
              rw [hx] at hv
              generalize fr t = y at *
              cases hv with
              | junk => exact absurd rfl (hnc _)
              | sym => exact absurd rfl (hnc _)
              | bool => exact absurd rfl (hnb _)
            | _ => rfl
      · rename_i ht
        cases h
        rw [hn (by rw [hgj]; exact ht)]
        rfl
    · rename_i hgj
      cases h
      rw [hn (by rw [hgj]; rfl)]
      rfl

theorem semAt_of {E : Env} {sq : List (Nat × List IntKind)} {A : AW} {g : Gt} {o : Oper} {r : R} (h : opT E sq A g o.op = r) (hr : r ≠ .fail) (ro : Option Nat) (ρ : Operand → Value) : Oper.semAt ro ρ o = execOp ρ o :=
  Oper.semAt_eq ro ρ o (fun c hc => hr (by
    rw [← h, hc]
    unfold opT symR
    split <;> rfl))

section
variable {P : Program} {E : Env} (ok : E.Ok P) {sq : List (Nat × List IntKind)} (sok : E.Seq P sq) {w0 : World}

theorem putK_ok {γ : Type} {n : Nat} {fr : Fr} {dst : Option Tmp} {v v' : Value} {k : Fr → Option (List γ)} {outs : List γ} {β : Ren} {a : Act} (h : putK n fr dst v k = some outs) (hf : FRel β n (fr.get J) a.tmps) (hv : VRel β v v') :
    ∃ fr', k fr' = some outs ∧ FRel β n (fr'.get J) (a.put dst v').tmps ∧ (a.put dst v').defers = a.defers := by
  cases dst with
  | none => exact ⟨fr, h, hf, rfl⟩
  | some d =>
    have h' : Bool.rec (motive := fun _ => Option (List γ)) none (forceV v (fun v => fr.setK d v k)) (Nat.ble (Nat.succ d) n) = some outs := h
    cases hd : Nat.ble (Nat.succ d) n with
    | false => rw [hd] at h'; cases h'
    | true =>
      rw [hd] at h'
      have h2 : forceV v (fun v => fr.setK d v k) = some outs := h'
      rw [forceV_eq, T.setK_eq] at h2
      exact ⟨_, h2, hf.put (Nat.le_of_ble_eq_true hd) hv, rfl⟩

/-! one operation -/
section
variable {w : World} {β : Ren} {A : AW} (inv : Inv w0 E.G β A w) {n : Nat} {fr : Gt} {a : Act} (hf : FRel β n fr a.tmps) {o : Oper} {ro : Option Nat} {K : Act → World → Prop} {Q : Exit → Act → World → Prop}
include ok sok inv hf in
theorem wp_val {v : Value} {A' : AW} (h : opT E sq A fr o.op = .val v A') (hK : ∀ β' v' w', VRel β' v v' → Inv w0 E.G β' A' w' → β.grow β' A.next → A.next ≤ A'.next → K (a.put o.dst v') w') : o.wpIn (wideR ro) 0 P a w K Q := by
  obtain ⟨β', v', w', hrun, hv, hinv, hg, hn⟩ := opT_ok ok sok inv hf h
  have key := hK β' v' w' hv hinv hg hn
  unfold Oper.wpIn
  refine ⟨fun _ _ => trivial, ?_⟩
  rw [semAt_of h (by simp)]
  rcases hrun with hr | ⟨hr, rfl⟩
  · rw [hr]; exact key
  · rw [hr]; exact key
include inv hf in
theorem wp_nd {q : List (Value × AW)} (h : opT E sq A fr o.op = .nd q) (hK : ∀ p ∈ q, ∀ β' v' w', VRel β' p.1 v' → Inv w0 E.G β' p.2 w' → β.grow β' A.next → A.next ≤ p.2.next → K (a.put o.dst v') w') : o.wpIn (wideR ro) 0 P a w K Q := by
  obtain ⟨p, hp, β', v', w', hrun, hv, hinv, hg, hn⟩ := opT_nd (P := P) inv hf h
  have key := hK p hp β' v' w' hv hinv hg hn
  unfold Oper.wpIn
  refine ⟨fun _ _ => trivial, ?_⟩
  rw [semAt_of h (by simp)]
  rcases hrun with hr | ⟨hr, rfl⟩
  · rw [hr]; exact key
  · rw [hr]; exact key
include ok inv hf in
theorem wp_call {call : Tgt → List Value → AW → Out Value} (hc : CallOk P E call) {t : Tgt} {args : List Value} {outs : List (Value × AW)} (h : opT E sq A fr o.op = .call t args) (hcall : call t args A = some outs)
    (hK : ∀ p ∈ outs, ∀ β' v' w', VRel β' p.1 v' → Inv w0 E.G β' p.2 w' → β.grow β' A.next → A.next ≤ p.2.next → K (a.put o.dst v') w') : o.wpIn (wideR ro) 0 P a w K Q := by
  obtain ⟨args', hargs, hrun⟩ := opT_call ok inv hf h
  have hcl := hc w0 t args A outs β w args' hcall inv hargs
  unfold Oper.wpIn
  refine ⟨fun _ _ => trivial, ?_⟩
  rw [semAt_of h (by simp)]
  cases t with
  | fn f =>
    have hrun' : (execOp a.eval o).run P w = .ok (.enter f ⟨args'⟩) w := hrun
    rw [hrun']
    refine ⟨fun h => by simp [Fence.wide] at h, callsR (Calls.mono hcl ?_)⟩
    rintro e w' ⟨p, hp, β', v', rfl, hv, hinv, hg, hn⟩
    exact hK p hp β' v' w' hv hinv hg hn
  | rd L =>
    obtain ⟨l, hl, hrun'⟩ := hrun
    obtain ⟨f, tmps, x, y, hy, hround⟩ := hcl l hl
    rw [hrun', hy]
    refine ⟨fun h => by simp [Fence.wide] at h, roundR (RoundIn.mono hround ?_)⟩
    rintro e w' ⟨p, hp, β', v', rfl, hv, hinv, hg, hn⟩
    exact hK p hp β' v' w' hv hinv hg hn
end

include ok sok in
theorem ops_ok {call : Tgt → List Value → AW → Out Value} (hc : CallOk P E call) {n : Nat} {ops : List Oper} {ro : Option Nat} {ds : List Deferred} : ∀ (l : List Oper) (fr : Fr) (A : AW) (outs : List (Fr × AW)) (β : Ren) (a : Act) (w : World) (Q : Exit → Act → World → Prop),
    opsA E sq call n ops l fr A = some outs → FRel β n (fr.get J) a.tmps → Inv w0 E.G β A w → a.defers = ds → (∀ a' w', FPost w0 E.G n β A ds outs a' w' → Q .normal a' w') → wpListIn (wideR ro) 0 P ⟨ops⟩ Q l a w
  | [], fr, A, outs, β, a, w, Q, h, hf, inv, hd, hQ => by
    cases h
    exact hQ a w ⟨_, List.mem_cons_self, β, hf, inv, Ren.grow_refl _ _, Nat.le_refl _, hd⟩
  | o :: l, fr, A, outs, β, a, w, Q, h, hf, inv, hd, hQ => by
    have h' : (match wantA ops (fr.get J) o with
      | none => none
      | some false => putK n fr o.dst undef (fun fr => opsA E sq call n ops l fr A)
      | some true => match opT E sq A (fr.get J) o.op with
        | .fail => none
        | .val v A' => putK n fr o.dst v (fun fr => forceA A' (fun A' => opsA E sq call n ops l fr A'))
        | .call f args => bindO (call f args A) (fun p => putK n fr o.dst p.1 (fun fr => opsA E sq call n ops l fr p.2))
        | .nd q => bindO (some q) (fun p => putK n fr o.dst p.1 (fun fr => opsA E sq call n ops l fr p.2))) = some outs := by
      rw [← h]
      exact (armW_eq _ _ call n o (opsA E sq call n ops l) fr A).symm
    clear h
    unfold wpListIn
    split at h'
    · cases h'
    · rename_i hw
      rw [want_ok hw hf, if_neg (by simp)]
      obtain ⟨fr', h1, h2, h3⟩ := putK_ok h' hf (VRel.undef (β := β))
      exact ⟨fun _ _ => trivial, ops_ok hc l fr' A outs β _ w Q h1 h2 inv (h3.trans hd) hQ⟩
    · rename_i hw
      rw [want_ok hw hf, if_pos rfl]
      split at h'
      · cases h'
      · rename_i v A' hop
        refine wp_val ok sok inv hf hop (fun β' v' w' hv hinv hg hn => ?_)
        have hle := inv.le_of_grow hg
        obtain ⟨fr', h1, h2, h3⟩ := putK_ok h' (hf.mono hle) hv
        rw [forceA_eq] at h1
        exact ops_ok hc l fr' A' outs β' (a.put o.dst v') w' Q h1 h2 hinv (h3.trans hd) (fun a2 w2 hp => hQ a2 w2 (hp.mono hg hn (fun _ hc => hc)))
      · rename_i f args hop
        obtain ⟨lst, hl1, hl2⟩ := bindO_mem h'
        refine wp_call ok inv hf hc hop hl1 (fun p hp β' v' w' hv hinv hg hn => ?_)
        obtain ⟨r, hr1, hr2⟩ := hl2 p hp
        have hle := inv.le_of_grow hg
        obtain ⟨fr', h1, h2, h3⟩ := putK_ok hr1 (hf.mono hle) hv
        exact ops_ok hc l fr' p.2 r β' (a.put o.dst v') w' Q h1 h2 hinv (h3.trans hd) (fun a2 w2 hp2 => hQ a2 w2 (hp2.mono hg hn hr2))
      · rename_i q hop
        obtain ⟨lst, hl1, hl2⟩ := bindO_mem h'
        cases hl1
        refine wp_nd inv hf hop (fun p hp β' v' w' hv hinv hg hn => ?_)
        obtain ⟨r, hr1, hr2⟩ := hl2 p hp
        have hle := inv.le_of_grow hg
        obtain ⟨fr', h1, h2, h3⟩ := putK_ok hr1 (hf.mono hle) hv
        exact ops_ok hc l fr' p.2 r β' (a.put o.dst v') w' Q h1 h2 hinv (h3.trans hd) (fun a2 w2 hp2 => hQ a2 w2 (hp2.mono hg hn hr2))

theorem stepR_scope {b : Frame} {a : Act} {k : List Item} {cs : List Frame} {w : World} {c : Code} : step P (lone (b.atR a (.code (.scope c) :: k)) cs w) = .next (lone (b.atR a (.code c :: .inScope c :: k)) cs w) :=
  step_lone_go (by simp [stepG, stepG.exec, Frame.atR])
theorem stepR_inScope {b : Frame} {a : Act} {k : List Item} {cs : List Frame} {w : World} {c : Code} : step P (lone (b.atR a (.inScope c :: k)) cs w) = .next (lone (b.atR a k) cs w) :=
  step_lone_go (by simp [stepG, stepG.exec, Frame.atR])

/-! marks, rounds -/
def MkRel (β : Ren) : List Nat → List Deferred → Prop
  | [], [] => True
  | D :: ms, d :: ds => (∃ l, β D = some l ∧ d.target = .collected l.b) ∧ MkRel β ms ds
  | _, _ => False
theorem MkRel.mono {β β' : Ren} (hb : β.le β') : ∀ {ms : List Nat} {ds : List Deferred}, MkRel β ms ds → MkRel β' ms ds
  | [], [], _ => trivial
  | _ :: _, _ :: _, ⟨⟨l, h1, h2⟩, h3⟩ => ⟨⟨l, hb.f _ _ h1, h2⟩, h3.mono hb⟩
  | [], _ :: _, h => h.elim
  | _ :: _, [], h => h.elim
theorem grownBy_putObj (w : World) (g : Nat) (o : Obj) : w.grownBy (w.putObj g o) (some g) :=
  ⟨rfl, rfl, rfl, by simp, fun k _ hk => World.putObj_heap_other (fun e => hk (by rw [e]))⟩
theorem take_ok {β : Ren} : ∀ (ms : List Nat) (ds : List Deferred) (A A' : AW) (w : World) (fr : Frame) (cs : List Frame), takeM E ms A = some A' → MkRel β ms ds → Inv w0 E.G β A w → fr.mode ≠ .run → fr.defers = ds →
    ∃ w', Inv w0 E.G β A' w' ∧ A'.next = A.next ∧ Steps P (lone fr cs w) (lone { fr with defers := [] } cs w')
  | [], [], A, A', w, fr, cs, h, _, inv, hm, hd => by
    cases h
    refine ⟨w, inv, rfl, ?_⟩
    rw [← hd]
    exact .refl P _
  | D :: ms, d :: ds, A, A', w, fr, cs, h, ⟨⟨l, hl, ht⟩, hms⟩, inv, hm, hd => by
    have h' : (match A.get D with
      | some ⟨.dfr, _, _, _, _⟩ => bs (Nat.ble E.G.n D) (takeM E ms (A.put D none)) none
      | _ => none) = some A' := h
    clear h
    split at h'
    · rename_i es ex r ty hg
      replace h' := bs_some h'
      rcases h' with ⟨hG, h'⟩ | ⟨_, h'⟩
      · have hob : w.heap[l.b]? = some (.deferred (some [])) := inv.cont D _ l hg hl
        have inv' := inv.forget (w' := w.putObj l.b (.deferred none)) D l _ hg hl (Nat.le_of_ble_eq_true hG) (grownBy_putObj w l.b _) (by simp)
        obtain ⟨w', h1, h2, h3⟩ := take_ok ms ds (A.put D none) A' _ { fr with defers := [] ++ ds } cs h' hms inv' hm rfl
        exact ⟨w', h1, h2, .head (step_collected hm hd ht (run_takeDeferred hob)) h3⟩
      · cases h'
    · cases h'
  | [], _ :: _, _, _, _, _, _, _, h, _, _, _ => h.elim
  | _ :: _, [], _, _, _, _, _, _, h, _, _, _ => h.elim
def RoRel (β : Ren) (ro r : Option Nat) : Prop := match ro, r with | none, none => True | some L, some l => ∃ lb, β L = some lb ∧ lb.b = l | _, _ => False
theorem RoRel.mono {β β' : Ren} (hb : β.le β') {ro r : Option Nat} (h : RoRel β ro r) : RoRel β' ro r := by
  unfold RoRel at *
  cases ro <;> cases r <;> first | exact h | exact h.imp fun lb ⟨e1, e2⟩ => ⟨hb.f _ _ e1, e2⟩
/-- what a round that has ended says -/
def endV (w : World) (r : Option Nat) : Value :=
  match r with
  | some l => (match w.heap[l]? with | some (.loop rec) => .bool rec.pending.isNone | _ => .bool true)
  | none => .bool true
def EndM (ro : Option Nat) (b : Frame) (cs : List Frame) (a : Act) (td : List Item) (w : World) : Machine :=
  match ro, cs with
  | some _, c :: cs' => lone (c.finish (endV w b.roundOf)) cs' w
  | _, _ => lone { b.atR a td with mode := .returning } cs w

include ok in
theorem callV_fn {A : AW} {fv fv' y y' : Value} {g : FuncId} {args : List Value} {β : Ren} {w : World} (h : callV E A fv [y] = .call (.fn g) args) (hv : VRel β fv fv') (hy : VRel β y y') :
    ∃ d args', (Deferred.ofValue fv' #[y']).run P w = .ok d w ∧ (invoke d.target d.args).run P w = .ok (.enter g ⟨args'⟩) w ∧ LRel β args args' := by
  unfold callV at h
  split at h
  · rename_i fid p q
    split at h
    · rename_i nm org ta ps rt nf nt rs bd nr ou fi el ln me tn hfn
      cases h
      obtain ⟨hfun, hname⟩ := ok.fn g _ hfn
      have hname' : ¬ nm = "runtime.NumGoroutine" := by simpa using hname
      cases hv with
      | func _ _ p' _ q' hp hq h1 h2 =>
        refine ⟨{ target := .fn (.func g) ⟨q'⟩, args := ⟨p'⟩ ++ #[y'] }, p' ++ [y'] ++ q', by simp [Deferred.ofValue], ?_, ?_⟩
        · simp [invoke, callFunc, program, Sem.run, hfun, hname']
        · rw [lapp_eq, lapp_eq]
          exact (LRel.append ⟨hp, h1⟩ ((LRel.nil β).cons hy)).append ⟨hq, h2⟩
    · split at h
      · cases h
      · unfold ofV at h; split at h <;> cases h
  · cases h
  · cases h

include ok sok in
theorem run_ok {call : Tgt → List Value → AW → Out Value} (hc : CallOk P E call) {n : Nat} {draw : List Oper → Fr → AW → Out Fr} (hdr : DrawOk P E n draw) {ro : Option Nat} {b : Frame} {cs : List Frame} (hcs : ro.isSome = true → b.kind = .normal ∧ ∃ c cs', cs = c :: cs') :
    ∀ (fuel : Nat) (ms : List Nat) (todo : List Item) (fr : Fr) (A : AW) (outs : List (Fr × AW)) (β : Ren) (a : Act) (w : World), runA E sq call n draw ro fuel ms todo fr A = some outs → FRel β n (fr.get J) a.tmps → Inv w0 E.G β A w → MkRel β ms a.defers → RoRel β ro b.roundOf →
      ∃ a' w' td, FPost w0 E.G n β A [] outs a' w' ∧ Steps P (lone (b.atR a todo) cs w) (EndM ro b cs a' td w')
  | 0, ms, todo, fr, A, outs, β, a, w, h, hf, inv, hms, hro => by cases h
  | fuel + 1, ms, todo, fr, A, outs, β, a, w, h, hf, inv, hms, hro => by
    have h' : stepD E sq call n draw ro (runA E sq call n draw ro fuel) ms todo fr A = some outs := h
    clear h
    rw [stepD_eq] at h'
    unfold stepA at h'
    have go : ∀ todo', runA E sq call n draw ro fuel ms todo' fr A = some outs → step P (lone (b.atR a todo) cs w) = .next (lone (b.atR a todo') cs w) →
        ∃ a' w' td, FPost w0 E.G n β A [] outs a' w' ∧ Steps P (lone (b.atR a todo) cs w) (EndM ro b cs a' td w') := fun todo' h1 h2 => by
      obtain ⟨a', w', td, hp, hs⟩ := run_ok hc hdr hcs fuel ms todo' fr A outs β a w h1 hf inv hms hro
      exact ⟨a', w', td, hp, .head h2 hs⟩
    have region : ∀ id ops dr k lst, todo = .code (.region id ⟨ops⟩ dr) :: k → (Code.region id ⟨ops⟩ dr).wpIn (wideR b.roundOf) 0 P (fun e a' w' => e = .normal ∧ FPost w0 E.G n β A a.defers lst a' w') a w → (∀ p ∈ lst, ∃ r, runA E sq call n draw ro fuel ms k p.1 p.2 = some r ∧ ∀ c ∈ r, c ∈ outs) →
        ∃ a' w' td, FPost w0 E.G n β A [] outs a' w' ∧ Steps P (lone (b.atR a todo) cs w) (EndM ro b cs a' td w') := fun id ops dr k lst ht hwp hall => by
      subst ht
      obtain ⟨e, a1, w1, ⟨rfl, p, hp, β1, g1, g2, g3, g4, g5⟩, harr⟩ := hwp b k cs rfl trivial (roomR _ _)
      obtain ⟨r, hr1, hr2⟩ := hall p hp
      have hle := inv.le_of_grow g3
      obtain ⟨a', w', td, hpost, hs⟩ := run_ok hc hdr hcs fuel ms k p.1 p.2 r β1 a1 w1 hr1 g1 g2 (g5 ▸ hms.mono hle) (hro.mono hle)
      exact ⟨a', w', td, hpost.mono g3 g4 hr2, Steps.trans (StepsIn.steps harr) hs⟩
    have fin : ∀ td, ro = none → endA E none ms fr A = some outs → step P (lone (b.atR a todo) cs w) = .next (lone { b.atR a td with mode := .returning } cs w) →
        ∃ a' w' td, FPost w0 E.G n β A [] outs a' w' ∧ Steps P (lone (b.atR a todo) cs w) (EndM ro b cs a' td w') := fun td hrn he hst => by
      subst hrn
      unfold endA at he
      simp only at he
      split at he
      · rename_i A' htk
        cases he
        obtain ⟨w', h1, h2, h3⟩ := take_ok (P := P) (w0 := w0) ms a.defers A A' w { b.atR a td with mode := .returning } cs htk hms inv (by simp) rfl
        refine ⟨⟨a.tmps, []⟩, w', td, ⟨_, List.mem_cons_self, β, hf, h1, Ren.grow_refl _ _, by rw [h2]; exact Nat.le_refl _, rfl⟩, .head hst ?_⟩
        exact h3
      · cases he
    have leave : ∀ (j : Option Code) (L : Nat), ro = some L → leaveA E (lstOf j) L fr A = some outs →
        (∀ c cs' l v w', cs = c :: cs' → b.roundOf = some l → b.kind = .normal → (Instr.endRound l j).run P w = .ok v w' → step P (lone (b.atR a todo) cs w) = .next (lone (c.finish v) cs' w')) →
        ∃ a' w' td, FPost w0 E.G n β A [] outs a' w' ∧ Steps P (lone (b.atR a todo) cs w) (EndM ro b cs a' td w') := fun j L hr h' hst => by
      rw [hr] at hro
      obtain ⟨hk, c, cs', hcc⟩ := hcs (by rw [hr]; rfl)
      unfold leaveA at h'
      cases hbr : b.roundOf with
      | none => rw [hbr] at hro; exact hro.elim
      | some l =>
        rw [hbr] at hro
        obtain ⟨lb, hlb, hlbb⟩ := hro
        split at h'
        · rename_i t m ps x y es ex r ty hg
          replace h' := bs_some h'
          rcases h' with ⟨hG, h'⟩ | ⟨_, h'⟩
          · cases h'
            obtain ⟨rec, k1, k2, k3, k4, k5, k6, k7, k8⟩ := inv.cont L _ lb hg hlb
            subst hlbb
            have hend := run_endRound (P := P) j k1
            have inv' := inv.write (w' := w.putObj lb.b (.loop { rec with state := if j.isNone then .ready else .done, pending := j })) L lb _ ⟨.loop (lstOf j) t m ps x y, es, ex, r, ty⟩ hg hlb (Nat.le_of_ble_eq_true hG) (grownBy_putObj w lb.b _) (by simp)
              ⟨{ rec with state := if j.isNone then .ready else .done, pending := j }, World.putObj_heap_same (inv.loc L lb hlb).1, by cases j <;> rfl, by cases j <;> rfl, k4, k5, k6, k7, k8⟩
            refine ⟨⟨a.tmps, []⟩, _, [], ⟨_, List.mem_cons_self, β, hf, inv', Ren.grow_refl _ _, Nat.le_refl _, rfl⟩, .one ?_⟩
            rw [hst c cs' _ _ _ hcc hbr hk hend, hr, hcc]
            have hv : endV (w.putObj lb.b (.loop { rec with state := if j.isNone then .ready else .done, pending := j })) b.roundOf = .bool j.isNone := by
              rw [hbr]
              unfold endV
              simp only
              rw [World.putObj_heap_same (inv.loc L lb hlb).1]
            unfold EndM
            simp only [hv]
          · cases h'
        · cases h'
    split at h'
    · cases hr : ro with
      | none =>
        rw [hr] at h'
        have hb : b.roundOf = none := by rw [hr] at hro; unfold RoRel at hro; cases hbr : b.roundOf with | none => rfl | some l => rw [hbr] at hro; exact hro.elim
        rw [← hr]
        exact fin [] hr h' (stepR_end hb)
      | some L =>
        rw [hr] at h'
        rw [← hr]
        refine leave none L hr h' (fun c cs' l v w' e1 e2 e3 e4 => ?_)
        subst e1
        exact stepR_round_end e2 e3 e4
    · rename_i k
      split at h'
      · have hb : b.roundOf = none := by unfold RoRel at hro; cases hbr : b.roundOf with | none => rfl | some l => rw [hbr] at hro; exact hro.elim
        exact fin _ rfl h' (stepR_ret hb)
      · rename_i L
        refine leave (some .ret) L rfl h' (fun c cs' l v w' e1 e2 e3 e4 => ?_)
        subst e1
        exact stepR_round_ret e2 e3 e4
    · exact go _ h' stepR_skip
    · exact go _ h' stepR_label
    · exact go _ h' stepR_seq
    · rename_i c x y k
      have hv := ev_rel (a := a) inv hf c
      split at h'
      · rename_i t ht
        rw [ht] at hv
        generalize hcv : a.eval c = cv at hv
        cases hv
        refine go _ h' ?_
        have := stepR_cond (P := P) (b := b) (k := k) (cs := cs) (w := w) (x := x) (y := y) hcv
        rw [this]
        cases t <;> rfl
      · cases h'
    · exact go _ h' stepR_block
    · exact go _ h' stepR_loop
    · exact go _ h' stepR_scope
    · split at h'
      · rename_i hk; exact go _ h' (stepR_exit hk)
      · rename_i id k x hx
        unfold jumpA at h'
        split at h'
        · cases h'
        · rename_i L
          refine leave (some (.exit id)) L rfl h' (fun c cs' l v w' e1 e2 e3 e4 => ?_)
          subst e1
          exact stepR_round_exit e2 e3 hx e4
    · split at h'
      · rename_i hk; exact go _ h' (stepR_goto hk)
      · rename_i id k x hx
        unfold jumpA at h'
        split at h'
        · cases h'
        · rename_i L
          refine leave (some (.goto id)) L rfl h' (fun c cs' l v w' e1 e2 e3 e4 => ?_)
          subst e1
          exact stepR_round_goto e2 e3 hx e4
    · rename_i id ops k
      obtain ⟨lst, h1, h2⟩ := bindO_mem h'
      refine region id ops false k lst rfl ?_ h2
      exact wpIn_region_list (ops_ok ok sok hc ops fr A lst β a w _ h1 hf inv rfl (fun a' w' hp => ⟨rfl, hp⟩))
    · rename_i id ops k
      obtain ⟨lst, h1, h2⟩ := bindO_mem h'
      exact region id ops true k lst rfl (hdr _ w0 ops fr A lst β a w id h1 hf inv) h2
    · -- a loop over a function
      rename_i f ps x y k
      split at h'
      rotate_left
      · cases h'
      have hb : b.roundOf = none := by unfold RoRel at hro; cases hbr : b.roundOf with | none => rfl | some l => rw [hbr] at hro; exact hro.elim
      unfold rangeA at h'
      split at h'
      rotate_left
      · cases h'
      rename_i g args hcv
      replace h' := bs_some h'
      rcases h' with ⟨hG, h'⟩ | ⟨_, h'⟩
      rotate_left
      · cases h'
      have hG' := Nat.le_of_ble_eq_true hG
      obtain ⟨lst, hl1, hl2⟩ := bindO_mem h'
      have n1 := inv.new ⟨.dfr, 0, true, false, 0⟩ (.deferred (some [])) ⟨w.heap.size, 0, 0, 0⟩ rfl rfl
      have hle1 := inv.le_of_grow n1.2
      have n2 := n1.1.new ⟨.loop .ready fr n ps x y, 0, true, false, 0⟩ (.loop { state := .ready, pending := none, fn := b.fn, tmps := a.tmps, params := ⟨ps⟩, assign := x, body := y, defers := w.heap.size }) ⟨(w.alloc (.deferred (some []))).heap.size, 0, 0, 0⟩ rfl
        ⟨_, rfl, rfl, rfl, rfl, rfl, rfl, hf.1, fun t => ((hf.2 t).mono hle1).mono (n1.1.le_of_grow (Ren.grow_put _ _ _))⟩
      have hle2 := n1.1.le_of_grow n2.2
      have hA1 : (A.add ⟨.dfr, 0, true, false, 0⟩).next = A.next + 1 := rfl
      rw [hA1] at n2
      generalize hβ2 : (Ren.put (Ren.put β A.next ⟨w.heap.size, 0, 0, 0⟩) (A.next + 1) ⟨(w.alloc (.deferred (some []))).heap.size, 0, 0, 0⟩) = β2 at *
      have hL : β2 (A.next + 1) = some ⟨(w.alloc (.deferred (some []))).heap.size, 0, 0, 0⟩ := by rw [← hβ2]; exact put_self _ _ _
      have hD : β2 A.next = some ⟨w.heap.size, 0, 0, 0⟩ := by rw [← hβ2]; rw [Ren.put_f, if_neg (by omega)]; exact put_self _ _ _
      have hleb : β.le β2 := Ren.le_trans hle1 (by rw [← hβ2]; exact hle2)
      have hgr2 : β.grow β2 A.next := Ren.grow_trans n1.2 n2.2 (by omega)
      have hsz1 : (w.alloc (.deferred (some []))).heap.size = w.heap.size + 1 := by simp
      obtain ⟨d, args', hd1, hd2, hargs⟩ := callV_fn (P := P) (β := β2) (w := (w.alloc (.deferred (some []))).alloc (.loop { state := .ready, pending := none, fn := b.fn, tmps := a.tmps, params := ⟨ps⟩, assign := x, body := y, defers := w.heap.size })) ok hcv ((ev_rel (a := a) inv hf f).mono hleb) (VRel.yield (β := β2) (A.next + 1) _ hL)
      simp only [hsz1] at hd1
      have hcall := hc w0 (.fn g) args _ lst β2 _ args' hl1 n2.1 hargs
      have he : (Instr.enterLoop b.fn a.tmps ⟨ps⟩ x y b.roundOf).run P w = .ok (w.heap.size + 1, [{ target := .collected w.heap.size, args := #[] }]) ((w.alloc (.deferred (some []))).alloc (.loop { state := .ready, pending := none, fn := b.fn, tmps := a.tmps, params := ⟨ps⟩, assign := x, body := y, defers := w.heap.size })) := by
        rw [hb]; exact run_enterLoop_outer _ _ _ _ _
      have hst := stepR_rangeFunc (P := P) (b := b) (a := a) (k := k) (cs := cs) (w := w) (g := f) (ps := ⟨ps⟩) (assign := x) (body := y) (d := d) he (by simp [resolve]; exact hd1) hd2
      obtain ⟨e, w3, frX, ⟨p, hp, β3, v3, rfl, hv3, inv3, hgr3, hn3⟩, hcomes, hfn, hleave⟩ := hcall (b.atR { a with defers := [{ target := .collected w.heap.size, args := #[] }] ++ a.defers } (.inRangeFunc (w.heap.size + 1) :: k) :: cs)
      obtain ⟨r, hr1, hr2⟩ := hl2 p hp
      have hA2 : ((A.add ⟨.dfr, 0, true, false, 0⟩).add ⟨.loop .ready fr n ps x y, 0, true, false, 0⟩).next = A.next + 2 := rfl
      rw [hA2] at hgr3 hn3
      have hL3 : β3 (A.next + 1) = some ⟨(w.alloc (.deferred (some []))).heap.size, 0, 0, 0⟩ := (hgr3.f _ (by omega)).trans hL
      have hD3 : β3 A.next = some ⟨w.heap.size, 0, 0, 0⟩ := (hgr3.f _ (by omega)).trans hD
      rw [hsz1] at hL3
      have hle3 : β2.le β3 := n2.1.le_of_grow hgr3
      have hle : β.le β3 := Ren.le_trans hleb hle3
      have hgr : β.grow β3 A.next := Ren.grow_trans hgr2 hgr3 (by omega)
      have behind : ∀ (j : Option Code) (rec : Loop) blk, p.2.get (A.next + 1) = some blk → blk.still = false → w3.heap[w.heap.size + 1]? = some (.loop rec) → rec.state ≠ .busy → rec.pending = j →
          runA E sq call n draw none fuel (A.next :: ms) ((j.map Item.code).toList ++ k) fr (p.2.put (A.next + 1) none) = some r →
          ∃ a' w' td, FPost w0 E.G n β A [] outs a' w' ∧ Steps P (lone (b.atR a (.code (.rangeFunc f ⟨ps⟩ x y) :: k)) cs w) (EndM none b cs a' td w') := fun j rec blk hg3 hs9 k1 k2 k3 hr1 => by
        have inv4 := inv3.forget (w' := w3.putObj (w.heap.size + 1) (.loop { rec with state := .exhausted })) (A.next + 1) _ _ hg3 hL3 (by omega) (grownBy_putObj w3 _ _) (by simp) hs9
        have hend0 := run_endLoop (P := P) k1 k2
        have hend : (Instr.endLoop (w.heap.size + 1)).run P w3 = .ok j (w3.putObj (w.heap.size + 1) (.loop { rec with state := .exhausted })) := by
          rw [hend0, k3]
        obtain ⟨a', w', td, hpost, hs⟩ := run_ok hc hdr hcs fuel (A.next :: ms) ((j.map Item.code).toList ++ k) fr (p.2.put (A.next + 1) none) r β3 { a with defers := [{ target := .collected w.heap.size, args := #[] }] ++ a.defers } _ hr1 (hf.mono hle) inv4 ⟨⟨_, hD3, rfl⟩, hms.mono hle⟩ (hro.mono hle)
        refine ⟨a', w', td, hpost.mono hgr (Nat.le_trans (by omega) hn3) hr2, .head hst (Steps.trans hcomes (.head ?_ (.head (stepR_endRangeFunc hend) hs)))⟩
        rw [← finish_atR_inRangeFunc (w.heap.size + 1) v3]
        exact step_leave_returned hleave
      split at hr1
      · rename_i hg3
        obtain ⟨rec, k1, k2, k3, k4⟩ := inv3.cont (A.next + 1) _ _ hg3 hL3
        exact behind none rec _ hg3 rfl k1 (by rw [k2]; simp) k3 hr1
      · rename_i j3 _ _ _ _ _ _ _ _ _ hg3
        obtain ⟨rec, k1, k2, k3, k4⟩ := inv3.cont (A.next + 1) _ _ hg3 hL3
        exact behind (some j3) rec _ hg3 rfl k1 (by rw [k2]; simp) k3 hr1
      · cases hr1
    · -- a round begins
      rename_i k
      split at h'
      · cases h'
      rename_i L
      cases hbr : b.roundOf with
      | none => rw [hbr] at hro; exact hro.elim
      | some l =>
        have hro0 := hro
        rw [hbr] at hro
        obtain ⟨lb, hlb, hlbb⟩ := hro
        split at h'
        · rename_i t m ps x y es ex r ty hg
          replace h' := bs_some h'
          rcases h' with ⟨hG, h'⟩ | ⟨_, h'⟩
          · obtain ⟨rec, k1, k2, k3, k4, k5, k6, k7, k8⟩ := inv.cont L _ lb hg hlb
            subst hlbb
            have hbeg := run_beginRound (P := P) k1 k2
            have inv' := inv.write (w' := w.putObj lb.b (.loop { rec with state := .busy })) L lb _ ⟨.loop .busy t m ps x y, es, ex, r, ty⟩ hg hlb (Nat.le_of_ble_eq_true hG) (grownBy_putObj w lb.b _) (by simp)
              ⟨{ rec with state := .busy }, World.putObj_heap_same (inv.loc L lb hlb).1, rfl, k3, k4, k5, k6, k7, k8⟩
            obtain ⟨a', w', td, hp, hs⟩ := run_ok hc hdr hcs fuel ms k fr _ outs β a _ h' hf inv' hms hro0
            exact ⟨a', w', td, hp, .head (stepR_beginRound hbr hbeg) hs⟩
          · cases h'
        · cases h'
    · exact go _ h' stepR_inBlock
    · exact go _ h' stepR_inScope
    · exact go _ h' stepR_inLoop
    · cases h'

theorem args_ok {ρ : Type} {n : Nat} {β : Ren} : ∀ (l l' : List Value) (i : Nat) (fr : Fr) (tmps : Array Value) (k : Fr → ρ), LRel β l l' → i + l.length ≤ n → FRel β n (fr.get J) tmps →
    ∃ fr' tmps', argsK l i fr k = k fr' ∧ FRel β n (fr'.get J) tmps' ∧ (∀ j, tmps'[j]? = if i ≤ j ∧ j < i + l.length then l'[j - i]? else tmps[j]?)
  | [], l', i, fr, tmps, k, hl, hn, hf => ⟨fr, tmps, rfl, hf, fun j => by rw [if_neg (fun e => by simp at e; omega)]⟩
  | v :: l, l', i, fr, tmps, k, hl, hn, hf => by
    obtain ⟨v', r, rfl, hv, hr⟩ := hl.inv_cons
    rw [List.length_cons] at hn
    obtain ⟨fr', tmps', h1, h2, h3⟩ := args_ok l r (i + 1) (fr.set i v) (tmps.setIfInBounds i v') k hr (by omega) (hf.put (by omega) hv)
    refine ⟨fr', tmps', ?_, h2, fun j => ?_⟩
    · show fr.setK i v (fun fr => argsK l (i + 1) fr k) = _
      rw [T.setK_eq]
      exact h1
    · rw [h3 j, List.length_cons]
      by_cases c1 : i + 1 ≤ j ∧ j < i + 1 + l.length
      · rw [if_pos c1, if_pos (by omega), show j - i = (j - (i + 1)) + 1 by omega, List.getElem?_cons_succ]
      · rw [if_neg c1]
        by_cases c2 : i = j
        · subst c2
          rw [if_pos (by omega), Nat.sub_self, List.getElem?_cons_zero]
          have : i < tmps.size := by rw [hf.1]; omega
          simp [this]
        · rw [if_neg (by omega), Array.getElem?_setIfInBounds_ne c2]
end
end Go.Ex
namespace Go.Ex
open Go.RowKit
section
variable {P : Program} {E : Env} (ok : E.Ok P) {sq : List (Nat × List IntKind)} (sok : E.Seq P sq) {w0 w : World}

def resSem (tmps : Array Value) (r : ResultVar) : Sem Value := match r with
    | .tmp t => pure (tmps.getD t undef)
    | .cell a t => do loadVar t (← asAddr (tmps.getD a undef))
include ok in
theorem resL_ok {β : Ren} {A : AW} (inv : Inv w0 E.G β A w) {n : Nat} {fr : Fr} {tmps : Array Value} (hf : FRel β n (fr.get J) tmps) : ∀ (l : List ResultVar) (vs : List Value), resL E fr A l = some vs → ∃ vs', (l.mapM (resSem tmps)).run P w = .ok vs' w ∧ LRel β vs vs'
  | [], vs, h => by cases h; exact ⟨[], by simp, LRel.nil β⟩
  | r :: l, vs, h => by
    have h' : (match (match r with | .tmp t => some (fr.get J t) | .cell a t => loadV E A t (fr.get J a)), resL E fr A l with
      | some v, some vs => some (v :: vs)
      | _, _ => none) = some vs := h
    clear h
    split at h'
    · rename_i v vs2 hv hvs
      cases h'
      obtain ⟨vs', h1, h2⟩ := resL_ok inv hf l vs2 hvs
      have key : ∃ v', (resSem tmps r).run P w = .ok v' w ∧ VRel β v v' := by
        cases r with
        | tmp t => cases hv; exact ⟨_, by simp [resSem], hf.2 t⟩
        | cell a t =>
          have hv2 : loadV E A t (fr.get J a) = some v := hv
          have hx := hf.2 a
          obtain ⟨v', e1, e2⟩ := load_ok ok inv hv2 hx
          unfold loadV at hv2
          split at hv2
          · rename_i B o hq
            rw [hq] at hx
            generalize hgx : tmps.getD a undef = x at *
            cases hx with
            | ptr _ _ lc hlc =>
              refine ⟨v', ?_, e2⟩
              simp [Instr.loadAt, Instr.sureAddr] at e1
              show (do loadVar t (← asAddr (tmps.getD a undef)) : Sem Value).run P w = .ok v' w
              rw [hgx]
              simp [asAddr, e1]
          · cases hv2
      obtain ⟨v', e1, e2⟩ := key
      exact ⟨v' :: vs', by simp [List.mapM_cons, e1, h1], h2.cons e2⟩
    · cases h'
include ok in
theorem res_ok {β : Ren} {A : AW} (inv : Inv w0 E.G β A w) {n : Nat} {fr : Fr} {tmps : Array Value} (hf : FRel β n (fr.get J) tmps) {fn : Func} {rs : List ResultVar} (hr : fn.results = ⟨rs⟩) {v : Value} (h : resA E fr A rs = some v) :
    ∃ v', (results fn tmps).run P w = .ok v' w ∧ VRel β v v' := by
  have hres : results fn tmps = (do let vs ← (⟨rs⟩ : Array ResultVar).mapM (resSem tmps); pure (if h : vs.size = 1 then vs[0] else .tuple vs)) := by
    unfold results
    rw [hr]
    rfl
  unfold resA at h
  split at h
  · rename_i v0 hl
    cases h
    obtain ⟨vs', h1, h2⟩ := resL_ok ok inv hf rs _ hl
    obtain ⟨v', l', rfl, hv, hl'⟩ := h2.inv_cons
    have := hl'.inv_nil
    subst this
    refine ⟨v', ?_, hv⟩
    rw [hres]
    simp [Array.mapM_eq_mapM_toList, h1]
  · rename_i vs hne hl
    cases h
    obtain ⟨vs', h1, h2⟩ := resL_ok ok inv hf rs _ hl
    refine ⟨.tuple ⟨vs'⟩, ?_, VRel.tuple_of h2⟩
    rw [hres]
    have hn : ¬ vs'.length = 1 := fun e => by
      rw [← h2.1] at e
      cases vs with
      | nil => cases e
      | cons x t =>
        cases t with
        | nil => exact hne x rfl
        | cons _ _ => simp at e
    simp [Array.mapM_eq_mapM_toList, h1, hn]
  · cases h

theorem puts_ok {ρ : Type} {n : Nat} {β : Ren} : ∀ (ps : List Nat) (l l' : List Value) (fr : Fr) (tmps : Array Value) (k : Fr → ρ), LRel β l l' → (∀ t ∈ ps, t < n) → FRel β n (fr.get J) tmps →
    ∃ fr', putsK ps l fr k = k fr' ∧ FRel β n (fr'.get J) ((ps.zip l').foldl (fun tmps (p : Nat × Value) => tmps.setIfInBounds p.1 p.2) tmps)
  | [], l, l', fr, tmps, k, hl, hn, hf => ⟨fr, rfl, by simpa using hf⟩
  | t :: ps, [], l', fr, tmps, k, hl, hn, hf => by rw [hl.inv_nil]; exact ⟨fr, rfl, by simpa using hf⟩
  | t :: ps, v :: l, l', fr, tmps, k, hl, hn, hf => by
    obtain ⟨v', r, rfl, hv, hr⟩ := hl.inv_cons
    obtain ⟨fr', h1, h2⟩ := puts_ok ps l r (fr.set t v) (tmps.setIfInBounds t v') k hr (fun x hx => hn x (List.mem_cons_of_mem _ hx)) (hf.put (hn t List.mem_cons_self) hv)
    refine ⟨fr', ?_, by simpa using h2⟩
    show fr.setK t v (fun fr => putsK ps l fr k) = _
    rw [T.setK_eq]
    exact h1

include ok sok in
theorem callA_ok {draw : (Tgt → List Value → AW → Out Value) → Nat → List Oper → Fr → AW → Out Fr} (hdr : ∀ call n, CallOk P E call → DrawOk P E n (draw call n)) {orc : Tgt → List Value → AW → Out Value} (hor : CallOk P E orc) (fuel : Nat) : ∀ depth, CallOk P E (callA E sq draw orc fuel depth)
  | 0 => fun w0 t args A outs β w args' h => by cases h
  | depth + 1 => fun w0 t args A outs β w args' h inv hargs => by
    have ih := callA_ok hdr hor fuel depth
    cases hq : orc t args A with
    | some o =>
      have ho : o = outs := by
        have : (match orc t args A with | some o => some o | none => _) = some outs := h
        rw [hq] at this
        exact Option.some.inj this
      subst ho
      exact hor w0 t args A o β w args' hq inv hargs
    | none =>
    cases t with
    | fn f =>
      have h' : (match E.fn.get none f with
        | some ⟨_, _, _, _, _, _, nt, ⟨rs⟩, some c, _, _, _, _, _, _, _⟩ =>
          bs (Nat.ble (llen args) nt) (argsK args 0 (T.full undef (Nat.add (Nat.log2 (Nat.add nt 1)) 1)) (fun fr =>
            bindO (runA E sq (callA E sq draw orc fuel depth) nt (draw (callA E sq draw orc fuel depth) nt) none fuel [] [.code c] fr A) (fun p => match resA E p.1 p.2 rs with | some v => some [(v, p.2)] | none => none))) none
        | _ => none) = some outs := by
        rw [← h]
        show _ = (match orc (.fn f) args A with | some o => some o | none => _)
        rw [hq]
        rfl
      clear h
      split at h'
      · rename_i nm org ta ps rt nf nt rs c nr ou fi el ln me tn hfn
        replace h' := bs_some h'
        rcases h' with ⟨hle, h'⟩ | ⟨_, h'⟩
        · have hle' : args.length ≤ nt := by have := Nat.le_of_ble_eq_true hle; rw [llen_eq] at this; exact this
          obtain ⟨hfun, _⟩ := ok.fn f _ hfn
          have hlen := hargs.1
          have hf0 : FRel β nt (T.get J (T.full undef (Nat.add (Nat.log2 (Nat.add nt 1)) 1))) (Array.replicate nt undef) := by
            refine ⟨by simp, fun t => ?_⟩
            have : (Array.replicate nt undef).getD t undef = undef := by
              by_cases ht : t < nt
              · simp [ht]
              · simp [ht]
            rw [this]
            rcases T.get_full_or undef J (Nat.add (Nat.log2 (Nat.add nt 1)) 1) t with e | e
            · rw [e]; exact VRel.undef
            · rw [e]; exact .junk _
          obtain ⟨fr', tmps', hk, hf', htm⟩ := args_ok args args' 0 _ _ _ hargs (by omega) hf0
          rw [hk] at h'
          have htmps : tmps' = (⟨args'⟩ : Array Value) ++ Array.replicate (nt - args'.length) undef := by
            apply Array.ext_getElem?
            intro j
            rw [htm j]
            by_cases hj : j < args'.length
            · rw [if_pos (by omega), Array.getElem?_append_left (by simpa using hj)]
              simp
            · rw [if_neg (by omega), Array.getElem?_append_right (by simp; omega)]
              simp only [List.size_toArray, Array.getElem?_replicate]
              by_cases hj2 : j < nt
              · rw [if_pos hj2, if_pos (by omega)]
              · rw [if_neg hj2, if_neg (by omega)]
          obtain ⟨lst, hl1, hl2⟩ := bindO_mem h'
          intro cs
          let b : Frame := { (default : Frame) with fn := f, kind := .normal, roundOf := none }
          have henter : Frame.enter P f ⟨args'⟩ .normal = b.atR { tmps := tmps', defers := [] } [.code c] := by
            simp [Frame.enter, Frame.atR, hfun, b, htmps]
          obtain ⟨a', w', td, ⟨p, hp, β', g1, g2, g3, g4, g5⟩, hsteps⟩ := run_ok (b := b) (cs := cs) (ro := none) ok sok ih (hdr _ nt ih) (fun h => by cases h) fuel [] [.code c] fr' A lst β { tmps := tmps', defers := [] } w hl1 hf' inv trivial trivial
          obtain ⟨r, hr1, hr2⟩ := hl2 p hp
          split at hr1
          · rename_i v hres
            cases hr1
            obtain ⟨v', hv1, hv2⟩ := res_ok (fn := ⟨nm, org, ta, ps, rt, nf, nt, ⟨rs⟩, some c, nr, ou, fi, el, ln, me, tn⟩) ok g2 g1 rfl hres
            refine ⟨.returned v', w', { b.atR a' td with mode := .returning }, ⟨(v, p.2), hr2 _ List.mem_cons_self, β', v', rfl, hv2, g2, g3, g4⟩, ?_, rfl, rfl, g5, rfl, _, hfun, hv1⟩
            show Steps P (lone (Frame.enter P f ⟨args'⟩ .normal) cs w) _
            rw [henter]
            exact hsteps
          · cases hr1
        · cases h'
      · cases h'
    | rd L =>
      intro l hl
      have h' : (match A.get L with
        | some ⟨.loop .ready fr n ps a b, _, _, _, _⟩ =>
          bs (Nat.beq (llen args) (llen ps) && lall (fun t => Nat.blt t n) ps) (putsK ps args fr (fun fr =>
            bindO (runA E sq (callA E sq draw orc fuel depth) n (draw (callA E sq draw orc fuel depth) n) (some L) fuel [] [.code a, .beginRound, .code b] fr A) (fun p => roundV L p.2))) none
        | _ => none) = some outs := by
        rw [← h]
        show _ = (match orc (.rd L) args A with | some o => some o | none => _)
        rw [hq]
        rfl
      clear h
      split at h'
      · rename_i fr n ps x y es ex r ty hg
        replace h' := bs_some h'
        rcases h' with ⟨hck, h'⟩ | ⟨_, h'⟩
        · rw [Bool.and_eq_true] at hck
          have hlen : args.length = ps.length := by have := Nat.eq_of_beq_eq_true hck.1; rw [llen_eq, llen_eq] at this; exact this
          have hps : ∀ t ∈ ps, t < n := fun t ht => Nat.le_of_ble_eq_true (lall_eq _ _ hck.2 t ht)
          obtain ⟨rec, k1, k2, k3, k4, k5, k6, k7, k8⟩ := inv.cont L _ l hg hl
          obtain ⟨fr', hk, hf'⟩ := puts_ok ps args args' fr rec.tmps _ hargs hps ⟨k7, k8⟩
          rw [hk] at h'
          obtain ⟨lst, hl1, hl2⟩ := bindO_mem h'
          have hsz : (⟨args'⟩ : Array Value).size = rec.params.size := by rw [k4]; simp [← hargs.1, hlen]
          refine ⟨rec.fn, _, rec.assign, rec.body, run_yield k1 hsz, trivial, fun c cs _ => ?_⟩
          let b : Frame := { (default : Frame) with fn := rec.fn, kind := .normal, roundOf := some l.b }
          have htm : (rec.params.zip ⟨args'⟩).foldl (fun tmps (p : Nat × Value) => tmps.setIfInBounds p.1 p.2) rec.tmps = (ps.zip args').foldl (fun tmps (p : Nat × Value) => tmps.setIfInBounds p.1 p.2) rec.tmps := by
            rw [k4]; simp
          have hb0 : Frame.round l.b rec.fn ((rec.params.zip ⟨args'⟩).foldl (fun tmps (p : Nat × Value) => tmps.setIfInBounds p.1 p.2) rec.tmps) rec.assign rec.body .normal = b.atR { tmps := (ps.zip args').foldl (fun tmps (p : Nat × Value) => tmps.setIfInBounds p.1 p.2) rec.tmps, defers := [] } [.code x, .beginRound, .code y] := by
            rw [htm, k5, k6]
            simp [Frame.round, Frame.atR, b]
          obtain ⟨a', w', td, ⟨p, hp, β', g1, g2, g3, g4, g5⟩, hsteps⟩ := run_ok (b := b) (cs := c :: cs) (ro := some L) ok sok ih (hdr _ n ih) (fun _ => ⟨rfl, c, cs, rfl⟩) fuel [] [.code x, .beginRound, .code y] fr' A lst β { tmps := (ps.zip args').foldl (fun tmps (p : Nat × Value) => tmps.setIfInBounds p.1 p.2) rec.tmps, defers := [] } w hl1 hf' inv trivial ⟨l, hl, rfl⟩
          obtain ⟨r, hr1, hr2⟩ := hl2 p hp
          have hl' : β' L = some l := (g3.f L (inv.dom L l hl)).trans hl
          obtain ⟨v, hv, hend⟩ : ∃ v, r = [(.bool v, p.2)] ∧ endV w' b.roundOf = .bool v := by
            unfold roundV at hr1
            split at hr1
            · rename_i hg'
              obtain ⟨rec', e1, _, e3, _⟩ := g2.cont L _ l hg' hl'
              cases hr1
              exact ⟨true, rfl, by show (match w'.heap[l.b]? with | some (.loop rec) => Value.bool rec.pending.isNone | _ => .bool true) = _; rw [e1]; simp [e3]⟩
            · rename_i hg'
              obtain ⟨rec', e1, _, e3, _⟩ := g2.cont L _ l hg' hl'
              cases hr1
              exact ⟨false, rfl, by show (match w'.heap[l.b]? with | some (.loop rec) => Value.bool rec.pending.isNone | _ => .bool true) = _; rw [e1]; simp [e3]⟩
            · cases hr1
          subst hv
          refine ⟨.returned (.bool v), w', ⟨(.bool v, p.2), hr2 _ List.mem_cons_self, β', .bool v, rfl, .bool v, g2, g3, g4⟩, ?_⟩
          unfold EndM at hsteps
          simp only [hend] at hsteps
          refine comesIn_wide.2 ?_
          show Steps P (lone (Frame.round l.b rec.fn _ rec.assign rec.body .normal) (c :: cs) w) _
          refine Eq.mp ?_ hsteps
          rw [← hb0]
        · cases h'
      · cases h'
end
end Go.Ex
