/- A verified evaluator for closed calls, part 15: calls. -/
import Derived.Test.YtkpnmedaonmlaaaGreatDoorEv14
namespace Go.Ev
open Go.RowKit
section
variable {P : Program} {E : Env} (ok : E.Ok P) {sq : List (Nat × List IntKind)} (sok : E.Seq P sq) {w0 w : World}

def resSem (tmps : Array Value) (r : ResultVar) : Sem Value := match r with
    | .tmp t => pure (tmps.getD t undef)
    | .cell a t => do loadVar t (← asAddr (tmps.getD a undef))
include ok in
theorem resL_ok {β : Ren} {A : AW} (inv : Inv w0 E.G β A w) {n : Nat} {fr : Fr} {tmps : Array Value} (hf : FRel β n (fr.get J) tmps) : ∀ (l : List ResultVar) (vs : List Value), resL E fr A l = some vs → ∃ vs', (l.mapM (resSem tmps)).run P w = .ok vs' w ∧ LRel β vs vs'
  | [], vs, h => by cases h; exact ⟨[], by simp, LRel.nil β⟩
  | r :: l, vs, h => by
    have h' : (match (match r with | .tmp t => some (fr.get J t) | .cell a t => loadV E A t (fr.get J a)), resL E fr A l with
      | some v, some vs => some (v :: vs)
      | _, _ => none) = some vs := h
    clear h
    split at h'
    · rename_i v vs2 hv hvs
      cases h'
      obtain ⟨vs', h1, h2⟩ := resL_ok inv hf l vs2 hvs
      have key : ∃ v', (resSem tmps r).run P w = .ok v' w ∧ VRel β v v' := by
        cases r with
        | tmp t => cases hv; exact ⟨_, by simp [resSem], hf.2 t⟩
        | cell a t =>
          have hv2 : loadV E A t (fr.get J a) = some v := hv
          have hx := hf.2 a
          obtain ⟨v', e1, e2⟩ := load_ok ok inv hv2 hx
          unfold loadV at hv2
          split at hv2
          · rename_i B o hq
            rw [hq] at hx
            generalize hgx : tmps.getD a undef = x at *
            cases hx with
            | ptr _ _ lc hlc =>
              refine ⟨v', ?_, e2⟩
              simp [Instr.loadAt, Instr.sureAddr] at e1
              show (do loadVar t (← asAddr (tmps.getD a undef)) : Sem Value).run P w = .ok v' w
              rw [hgx]
              simp [asAddr, e1]
          · cases hv2
      obtain ⟨v', e1, e2⟩ := key
      exact ⟨v' :: vs', by simp [List.mapM_cons, e1, h1], h2.cons e2⟩
    · cases h'
include ok in
theorem res_ok {β : Ren} {A : AW} (inv : Inv w0 E.G β A w) {n : Nat} {fr : Fr} {tmps : Array Value} (hf : FRel β n (fr.get J) tmps) {fn : Func} {rs : List ResultVar} (hr : fn.results = ⟨rs⟩) {v : Value} (h : resA E fr A rs = some v) :
    ∃ v', (results fn tmps).run P w = .ok v' w ∧ VRel β v v' := by
  have hres : results fn tmps = (do let vs ← (⟨rs⟩ : Array ResultVar).mapM (resSem tmps); pure (if h : vs.size = 1 then vs[0] else .tuple vs)) := by
    unfold results
    rw [hr]
    rfl
  unfold resA at h
  split at h
  · rename_i v0 hl
    cases h
    obtain ⟨vs', h1, h2⟩ := resL_ok ok inv hf rs _ hl
    obtain ⟨v', l', rfl, hv, hl'⟩ := h2.inv_cons
    have := hl'.inv_nil
    subst this
    refine ⟨v', ?_, hv⟩
    rw [hres]
    simp [Array.mapM_eq_mapM_toList, h1]
  · rename_i vs hne hl
    cases h
    obtain ⟨vs', h1, h2⟩ := resL_ok ok inv hf rs _ hl
    refine ⟨.tuple ⟨vs'⟩, ?_, VRel.tuple_of h2⟩
    rw [hres]
    have hn : ¬ vs'.length = 1 := fun e => by
      rw [← h2.1] at e
      cases vs with
      | nil => cases e
      | cons x t =>
        cases t with
        | nil => exact hne x rfl
        | cons _ _ => simp at e
    simp [Array.mapM_eq_mapM_toList, h1, hn]
  · cases h

theorem puts_ok {ρ : Type} {n : Nat} {β : Ren} : ∀ (ps : List Nat) (l l' : List Value) (fr : Fr) (tmps : Array Value) (k : Fr → ρ), LRel β l l' → (∀ t ∈ ps, t < n) → FRel β n (fr.get J) tmps →
    ∃ fr', putsK ps l fr k = k fr' ∧ FRel β n (fr'.get J) ((ps.zip l').foldl (fun tmps (p : Nat × Value) => tmps.setIfInBounds p.1 p.2) tmps)
  | [], l, l', fr, tmps, k, hl, hn, hf => ⟨fr, rfl, by simpa using hf⟩
  | t :: ps, [], l', fr, tmps, k, hl, hn, hf => by rw [hl.inv_nil]; exact ⟨fr, rfl, by simpa using hf⟩
  | t :: ps, v :: l, l', fr, tmps, k, hl, hn, hf => by
    obtain ⟨v', r, rfl, hv, hr⟩ := hl.inv_cons
    obtain ⟨fr', h1, h2⟩ := puts_ok ps l r (fr.set t v) (tmps.setIfInBounds t v') k hr (fun x hx => hn x (List.mem_cons_of_mem _ hx)) (hf.put (hn t List.mem_cons_self) hv)
    refine ⟨fr', ?_, by simpa using h2⟩
    show fr.setK t v (fun fr => putsK ps l fr k) = _
    rw [T.setK_eq]
    exact h1

include ok sok in
theorem callA_ok {draw : (Tgt → List Value → AW → Out Value) → Nat → List Oper → Fr → AW → Out Fr} (hdr : ∀ call n, CallOk P E call → DrawOk P E n (draw call n)) {orc : Tgt → List Value → AW → Out Value} (hor : CallOk P E orc) (fuel : Nat) : ∀ depth, CallOk P E (callA E sq draw orc fuel depth)
  | 0 => fun w0 t args A outs β w args' h => by cases h
  | depth + 1 => fun w0 t args A outs β w args' h inv hargs => by
    have ih := callA_ok hdr hor fuel depth
    cases hq : orc t args A with
    | some o =>
      have ho : o = outs := by
        have : (match orc t args A with | some o => some o | none => _) = some outs := h
        rw [hq] at this
        exact Option.some.inj this
      subst ho
      exact hor w0 t args A o β w args' hq inv hargs
    | none =>
    cases t with
    | fn f =>
      have h' : (match E.fn.get none f with
        | some ⟨_, _, _, _, _, _, nt, ⟨rs⟩, some c, _, _, _, _, _, _, _⟩ =>
          bs (Nat.ble (llen args) nt) (argsK args 0 (T.full undef (Nat.add (Nat.log2 (Nat.add nt 1)) 1)) (fun fr =>
            bindO (runA E sq (callA E sq draw orc fuel depth) nt (draw (callA E sq draw orc fuel depth) nt) none fuel [] [.code c] fr A) (fun p => match resA E p.1 p.2 rs with | some v => some [(v, p.2)] | none => none))) none
        | _ => none) = some outs := by
        rw [← h]
        show _ = (match orc (.fn f) args A with | some o => some o | none => _)
        rw [hq]
        rfl
      clear h
      split at h'
      · rename_i nm org ta ps rt nf nt rs c nr ou fi el ln me tn hfn
        replace h' := bs_some h'
        rcases h' with ⟨hle, h'⟩ | ⟨_, h'⟩
        · have hle' : args.length ≤ nt := by have := Nat.le_of_ble_eq_true hle; rw [llen_eq] at this; exact this
          obtain ⟨hfun, _⟩ := ok.fn f _ hfn
          have hlen := hargs.1
          have hf0 : FRel β nt (T.get J (T.full undef (Nat.add (Nat.log2 (Nat.add nt 1)) 1))) (Array.replicate nt undef) := by
            refine ⟨by simp, fun t => ?_⟩
            have : (Array.replicate nt undef).getD t undef = undef := by
              by_cases ht : t < nt
              · simp [ht]
              · simp [ht]
            rw [this]
            rcases T.get_full_or undef J (Nat.add (Nat.log2 (Nat.add nt 1)) 1) t with e | e
            · rw [e]; exact VRel.undef
            · rw [e]; exact .junk _
          obtain ⟨fr', tmps', hk, hf', htm⟩ := args_ok args args' 0 _ _ _ hargs (by omega) hf0
          rw [hk] at h'
          have htmps : tmps' = (⟨args'⟩ : Array Value) ++ Array.replicate (nt - args'.length) undef := by
            apply Array.ext_getElem?
            intro j
            rw [htm j]
            by_cases hj : j < args'.length
            · rw [if_pos (by omega), Array.getElem?_append_left (by simpa using hj)]
              simp
            · rw [if_neg (by omega), Array.getElem?_append_right (by simp; omega)]
              simp only [List.size_toArray, Array.getElem?_replicate]
              by_cases hj2 : j < nt
              · rw [if_pos hj2, if_pos (by omega)]
              · rw [if_neg hj2, if_neg (by omega)]
          obtain ⟨lst, hl1, hl2⟩ := bindO_mem h'
          intro cs
          let b : Frame := { (default : Frame) with fn := f, kind := .normal, roundOf := none }
          have henter : Frame.enter P f ⟨args'⟩ .normal = b.atR { tmps := tmps', defers := [] } [.code c] := by
            simp [Frame.enter, Frame.atR, hfun, b, htmps]
          obtain ⟨a', w', td, ⟨p, hp, β', g1, g2, g3, g4, g5⟩, hsteps⟩ := run_ok (b := b) (cs := cs) (ro := none) ok sok ih (hdr _ nt ih) (fun h => by cases h) fuel [] [.code c] fr' A lst β { tmps := tmps', defers := [] } w hl1 hf' inv trivial trivial
          obtain ⟨r, hr1, hr2⟩ := hl2 p hp
          split at hr1
          · rename_i v hres
            cases hr1
            obtain ⟨v', hv1, hv2⟩ := res_ok (fn := ⟨nm, org, ta, ps, rt, nf, nt, ⟨rs⟩, some c, nr, ou, fi, el, ln, me, tn⟩) ok g2 g1 rfl hres
            refine ⟨.returned v', w', { b.atR a' td with mode := .returning }, ⟨(v, p.2), hr2 _ List.mem_cons_self, β', v', rfl, hv2, g2, g3, g4⟩, ?_, rfl, rfl, g5, rfl, _, hfun, hv1⟩
            show Steps P (lone (Frame.enter P f ⟨args'⟩ .normal) cs w) _
            rw [henter]
            exact hsteps
          · cases hr1
        · cases h'
      · cases h'
    | rd L =>
      intro l hl
      have h' : (match A.get L with
        | some ⟨.loop .ready fr n ps a b, _, _, _, _⟩ =>
          bs (Nat.beq (llen args) (llen ps) && lall (fun t => Nat.blt t n) ps) (putsK ps args fr (fun fr =>
            bindO (runA E sq (callA E sq draw orc fuel depth) n (draw (callA E sq draw orc fuel depth) n) (some L) fuel [] [.code a, .beginRound, .code b] fr A) (fun p => roundV L p.2))) none
        | _ => none) = some outs := by
        rw [← h]
        show _ = (match orc (.rd L) args A with | some o => some o | none => _)
        rw [hq]
        rfl
      clear h
      split at h'
      · rename_i fr n ps x y es ex r ty hg
        replace h' := bs_some h'
        rcases h' with ⟨hck, h'⟩ | ⟨_, h'⟩
        · rw [Bool.and_eq_true] at hck
          have hlen : args.length = ps.length := by have := Nat.eq_of_beq_eq_true hck.1; rw [llen_eq, llen_eq] at this; exact this
          have hps : ∀ t ∈ ps, t < n := fun t ht => Nat.le_of_ble_eq_true (lall_eq _ _ hck.2 t ht)
          obtain ⟨rec, k1, k2, k3, k4, k5, k6, k7, k8⟩ := inv.cont L _ l hg hl
          obtain ⟨fr', hk, hf'⟩ := puts_ok ps args args' fr rec.tmps _ hargs hps ⟨k7, k8⟩
          rw [hk] at h'
          obtain ⟨lst, hl1, hl2⟩ := bindO_mem h'
          have hsz : (⟨args'⟩ : Array Value).size = rec.params.size := by rw [k4]; simp [← hargs.1, hlen]
          refine ⟨rec.fn, _, rec.assign, rec.body, run_yield k1 hsz, trivial, fun c cs _ => ?_⟩
          let b : Frame := { (default : Frame) with fn := rec.fn, kind := .normal, roundOf := some l.b }
          have htm : (rec.params.zip ⟨args'⟩).foldl (fun tmps (p : Nat × Value) => tmps.setIfInBounds p.1 p.2) rec.tmps = (ps.zip args').foldl (fun tmps (p : Nat × Value) => tmps.setIfInBounds p.1 p.2) rec.tmps := by
            rw [k4]; simp
          have hb0 : Frame.round l.b rec.fn ((rec.params.zip ⟨args'⟩).foldl (fun tmps (p : Nat × Value) => tmps.setIfInBounds p.1 p.2) rec.tmps) rec.assign rec.body .normal = b.atR { tmps := (ps.zip args').foldl (fun tmps (p : Nat × Value) => tmps.setIfInBounds p.1 p.2) rec.tmps, defers := [] } [.code x, .beginRound, .code y] := by
            rw [htm, k5, k6]
            simp [Frame.round, Frame.atR, b]
          obtain ⟨a', w', td, ⟨p, hp, β', g1, g2, g3, g4, g5⟩, hsteps⟩ := run_ok (b := b) (cs := c :: cs) (ro := some L) ok sok ih (hdr _ n ih) (fun _ => ⟨rfl, c, cs, rfl⟩) fuel [] [.code x, .beginRound, .code y] fr' A lst β { tmps := (ps.zip args').foldl (fun tmps (p : Nat × Value) => tmps.setIfInBounds p.1 p.2) rec.tmps, defers := [] } w hl1 hf' inv trivial ⟨l, hl, rfl⟩
          obtain ⟨r, hr1, hr2⟩ := hl2 p hp
          have hl' : β' L = some l := (g3 L (inv.dom L l hl)).trans hl
          obtain ⟨v, hv, hend⟩ : ∃ v, r = [(.bool v, p.2)] ∧ endV w' b.roundOf = .bool v := by
            unfold roundV at hr1
            split at hr1
            · rename_i hg'
              obtain ⟨rec', e1, _, e3, _⟩ := g2.cont L _ l hg' hl'
              cases hr1
              exact ⟨true, rfl, by show (match w'.heap[l.b]? with | some (.loop rec) => Value.bool rec.pending.isNone | _ => .bool true) = _; rw [e1]; simp [e3]⟩
            · rename_i hg'
              obtain ⟨rec', e1, _, e3, _⟩ := g2.cont L _ l hg' hl'
              cases hr1
              exact ⟨false, rfl, by show (match w'.heap[l.b]? with | some (.loop rec) => Value.bool rec.pending.isNone | _ => .bool true) = _; rw [e1]; simp [e3]⟩
            · cases hr1
          subst hv
          refine ⟨.returned (.bool v), w', ⟨(.bool v, p.2), hr2 _ List.mem_cons_self, β', .bool v, rfl, .bool v, g2, g3, g4⟩, ?_⟩
          unfold EndM at hsteps
          simp only [hend] at hsteps
          refine comesIn_wide.2 ?_
          show Steps P (lone (Frame.round l.b rec.fn _ rec.assign rec.body .normal) (c :: cs) w) _
          refine Eq.mp ?_ hsteps
          rw [← hb0]
        · cases h'
      · cases h'
end
end Go.Ev
