/- A verified evaluator for closed calls, part 5: slices, strings, comparisons, conversions. -/
import Derived.Test.YtkpnmedaonmlaaaGreatDoorEv4
namespace Go.Ev
open Go.RowKit

/-- a bound of a slice expression -/
noncomputable def bnd (x : Option Value) (dflt lim : Nat) : Option Nat :=
  match x with
  | none => some dflt
  | some (.int _ (.ofNat m)) => bs (Nat.ble m lim) (some m) none
  | some _ => none
def ORel (β : Ren) : Option Value → Option Value → Prop
  | none, none => True
  | some v, some v' => VRel β v v'
  | _, _ => False
section
variable {P : Program} {β : Ren}
theorem run_sliceBound (k : IntKind) (m y : Nat) (h : m ≤ y) (code : BoundsCode) (w : World) : (Instr.sliceBound (.int k (m : Int)) y code).run P w = .ok m w := by
  have h0 : (0 : Int) ≤ (m : Int) ∧ (m : Int) ≤ (y : Int) := ⟨by omega, by omega⟩
  simp [Instr.sliceBound, asIntOf, h]
theorem bnd_some {x x' : Option Value} {dflt lim m : Nat} (h : bnd x dflt lim = some m) (hx : ORel β x x') : (x' = none ∧ m = dflt) ∨ ∃ k, x' = some (.int k (m : Int)) ∧ m ≤ lim := by
  unfold bnd at h
  split at h
  · cases h
    cases x' with
    | none => exact .inl ⟨rfl, rfl⟩
    | some v => exact hx.elim
  · rename_i k q
    replace h := bs_some h; rcases h with ⟨hb, h⟩ | ⟨_, h⟩
    · cases h
      cases x' with
      | none => exact hx.elim
      | some v => cases hx; exact .inr ⟨k, rfl, Nat.le_of_ble_eq_true hb⟩
    · cases h
  · cases h

/-- the bounds, where the abstract capacity is at most the true one -/
noncomputable def bounds (len cap : Nat) (lo hi mx : Option Value) : Option (Nat × Nat × Nat) :=
  match bnd mx cap cap with
  | none => none
  | some m => match bnd hi len m with
    | none => none
    | some h => match bnd lo 0 h with
      | none => none
      | some l => some (l, h, m)
theorem bounds_run {len cap cap' : Nat} {lo hi mx lo' hi' mx' : Option Value} {l h m : Nat} (hb : bounds len cap lo hi mx = some (l, h, m)) (hlo : ORel β lo lo') (hhi : ORel β hi hi') (hmx : ORel β mx mx')
    (hlc : len ≤ cap) (hcap : cap ≤ cap') (hmh : mx.isSome = true → hi.isSome = true) (s : Bool) (w : World) :
    (∃ m', (Instr.sliceBounds s len cap' lo' hi' mx').run P w = .ok (l, h, m') w ∧ m ≤ m' ∧ m' ≤ cap' ∧ (cap = cap' → m = m')) ∧ l ≤ h ∧ h ≤ m ∧ m ≤ cap := by
  unfold bounds at hb
  split at hb
  · cases hb
  rename_i m0 hm
  split at hb
  · cases hb
  rename_i h0 hh
  split at hb
  · cases hb
  rename_i l0 hl
  cases hb
  have hmle : m ≤ cap := by rcases bnd_some hm hmx with ⟨_, rfl⟩ | ⟨k, _, h⟩ <;> omega
  have hhle : h ≤ m := by
    rcases bnd_some hh hhi with ⟨e, rfl⟩ | ⟨k, _, h⟩
    · rcases bnd_some hm hmx with ⟨_, rfl⟩ | ⟨k, e2, h⟩
      · exact hlc
      · subst e2
        cases mx with
        | none => exact hmx.elim
        | some _ =>
          have := hmh rfl
          subst e
          cases hi with
          | none => cases this
          | some _ => exact hhi.elim
    · exact h
  have hlle : l ≤ h := by rcases bnd_some hl hlo with ⟨_, rfl⟩ | ⟨k, _, h⟩ <;> omega
  refine ⟨?_, hlle, hhle, hmle⟩
  rcases bnd_some hm hmx with ⟨rfl, e1⟩ | ⟨km, rfl, _⟩
  · refine ⟨cap', ?_, by omega, Nat.le_refl _, fun e => by omega⟩
    rcases bnd_some hh hhi with ⟨rfl, e2⟩ | ⟨kh, rfl, _⟩ <;> rcases bnd_some hl hlo with ⟨rfl, e4⟩ | ⟨kl, rfl, _⟩
    · simp [Instr.sliceBounds, e2, e4]
    · rw [← e2]; simp [Instr.sliceBounds, run_sliceBound _ l h hlle]
    · simp [Instr.sliceBounds, run_sliceBound _ h cap' (Nat.le_trans (Nat.le_trans hhle hmle) hcap), e4]
    · simp [Instr.sliceBounds, run_sliceBound _ h cap' (Nat.le_trans (Nat.le_trans hhle hmle) hcap), run_sliceBound _ l h hlle]
  · refine ⟨m, ?_, Nat.le_refl _, by omega, fun _ => rfl⟩
    rcases bnd_some hh hhi with ⟨rfl, rfl⟩ | ⟨kh, rfl, _⟩
    · cases mx with
      | none => exact hmx.elim
      | some _ =>
        have := hmh rfl
        cases hi with
        | none => cases this
        | some _ => exact hhi.elim
    · rcases bnd_some hl hlo with ⟨rfl, e4⟩ | ⟨kl, rfl, _⟩
      · simp [Instr.sliceBounds, run_sliceBound _ m cap' (Nat.le_trans hmle hcap), run_sliceBound _ h m hhle, e4]
      · simp [Instr.sliceBounds, run_sliceBound _ m cap' (Nat.le_trans hmle hcap), run_sliceBound _ h m hhle, run_sliceBound _ l h hlle]
end

/-- the block's width -/
noncomputable def widthAt (A : AW) (B : Nat) : Option (List Value × Nat) :=
  match A.get B with
  | some ⟨.cells cs, es, _, _, _⟩ => some (cs, es)
  | _ => none

noncomputable def sliceV1 (E : Env) (A : AW) (t : TypeId) (x : Value) (lo hi mx : Option Value) : Option Value :=
  match E.ti.get none t, x with
  | some ⟨.string, _, _, _, _⟩, .string ⟨⟨s⟩⟩ =>
    match mx with
    | some _ => none
    | none => match bounds (llen s) (llen s) lo hi none with
      | some (l, h, _) => match ltake (Nat.sub h l) (ldrop l s) with | some r => some (.string ⟨⟨r⟩⟩) | none => none
      | none => none
  | some ⟨.slice elem, _, _, _, _⟩, .slice none 0 0 =>
    match bounds 0 0 lo hi mx, E.ti.get none elem with
    | some (0, 0, 0), some _ => some (.slice none 0 0)
    | _, _ => none
  | some ⟨.slice elem, _, _, _, _⟩, .slice (some ⟨B, o, none⟩) n c =>
    match bounds n c lo hi mx, E.ti.get none elem with
    | some (l, h, m), some r =>
      bs (Nat.ble n c) (bs (Nat.beq l 0) (some (.slice (some ⟨B, o, none⟩) h m))
        (bs (Nat.beq l m) (some (.slice (some ⟨TAINT, 0, none⟩) 0 0))
          (match widthAt A B with
          | some (_, es) => bs (Nat.beq es r.size) (some (.slice (some ⟨B, Nat.add o (Nat.mul l r.size), none⟩) (Nat.sub h l) (Nat.sub m l))) none
          | none => none))) none
    | _, _ => none
  | some ⟨.array n elem, _, _, _, _⟩, .pointer (some ⟨B, o, none⟩) =>
    match bounds n n lo hi mx, E.ti.get none elem, widthAt A B with
    | some (l, h, m), some r, some (cs, es) =>
      bs (Nat.beq es r.size && Nat.ble (Nat.add o (Nat.mul n r.size)) (llen cs)) (some (.slice (some ⟨B, bs (Nat.beq l m) o (Nat.add o (Nat.mul l r.size)), none⟩) (Nat.sub h l) (Nat.sub m l))) none
    | _, _, _ => none
  | _, _ => none
noncomputable def sliceV (E : Env) (A : AW) (t : TypeId) (x : Value) (lo hi mx : Option Value) : Option Value :=
  bs (mx.isSome && !hi.isSome) none (sliceV1 E A t x lo hi mx)

section
variable {P : Program} {E : Env} (ok : E.Ok P) {w0 w : World} {β : Ren} {A : AW} (inv : Inv w0 E.G β A w)
include inv ok
omit ok in
theorem width_rel {B : Nat} {cs : List Value} {es : Nat} (h : widthAt A B = some (cs, es)) {l : Loc} (hl : β B = some l) : l.es = es ∧ l.d + cs.length ≤ l.sz := by
  unfold widthAt at h
  split at h
  · rename_i hg
    cases h
    obtain ⟨cur, e, fz, _, _, h3, _, _, _, h7⟩ := inv.cont B _ l hg hl
    exact ⟨h7.1, h3⟩
  · cases h
omit inv ok in
theorem extract_list (s : List UInt8) (l h : Nat) : (⟨⟨s⟩⟩ : ByteArray).extract l h = ⟨⟨(s.drop l).take (h - l)⟩⟩ := by
  apply ByteArray.ext
  rw [ByteArray.data_extract]
  apply Array.ext'
  simp [Array.toList_extract]
theorem slice_ok1 {t : TypeId} {x x' v : Value} {lo hi mx lo' hi' mx' : Option Value} (h : sliceV1 E A t x lo hi mx = some v) (hx : VRel β x x') (hlo : ORel β lo lo') (hhi : ORel β hi hi') (hmx : ORel β mx mx') (hmh : mx.isSome = true → hi.isSome = true) :
    ∃ v', (Instr.sliceAt t x' lo' hi' mx').run P w = .ok v' w ∧ VRel β v v' := by
  unfold sliceV1 at h
  split at h
  · rename_i _ _ _ _ s hr
    have hu := (ok.ti t _ hr).1
    split at h
    · cases h
    · split at h
      · rename_i l hh m hb
        split at h
        · rename_i r hr2
          cases h
          cases hx
          have hmx2 : mx' = none := by cases mx' with | none => rfl | some _ => exact hmx.elim
          subst hmx2
          rw [llen_eq] at hb
          obtain ⟨⟨m', hrun, _⟩, hlh, hhm, hmc⟩ := bounds_run (P := P) (cap' := s.length) hb hlo hhi (show ORel β none none from trivial) (Nat.le_refl _) (Nat.le_refl _) (fun e => by cases e) false w
          rw [ldrop_eq] at hr2
          obtain ⟨rfl, _⟩ := ltake_eq _ _ _ hr2
          refine ⟨_, ?_, .string _⟩
          have hsz : (⟨⟨s⟩⟩ : ByteArray).size = s.length := rfl
          simp [Instr.sliceAt, run_underlying hu, Instr.slice, hsz, hrun, extract_list]
        · cases h
      · cases h
  · rename_i elem _ _ _ _ hr
    have hu := (ok.ti t _ hr).1
    split at h
    · rename_i r hb hr2
      cases h
      cases hx
      obtain ⟨⟨m', hrun, hm1, hm2, _⟩, _⟩ := bounds_run (P := P) (cap' := 0) hb hlo hhi hmx (Nat.le_refl _) (Nat.le_refl _) hmh true w
      have : m' = 0 := by omega
      subst this
      exact ⟨.slice none 0 0, by simp [Instr.sliceAt, run_underlying hu, Instr.slice, hrun, run_size ok hr2], .slice0⟩
    · cases h
  · rename_i elem _ _ _ _ B o n c hr
    have hu := (ok.ti t _ hr).1
    split at h
    · rename_i l hh m r hb hr2
      replace h := bs_some h; rcases h with ⟨hnc, h⟩ | ⟨_, h⟩
      · have hnc' := Nat.le_of_ble_eq_true hnc
        replace h := bs_some h; rcases h with ⟨hl0, h⟩ | ⟨hl0, h⟩
        · have hl0' := Nat.eq_of_beq_eq_true hl0
          subst hl0'
          cases h
          cases hx with
          | slice _ _ _ _ c' lc hlc hn hc he =>
            obtain ⟨⟨m', hrun, hm1, hm2, _⟩, _, hhm, hmc⟩ := bounds_run (P := P) hb hlo hhi hmx hn hc hmh true w
            refine ⟨.slice (some ⟨lc.b, lc.d + o, none⟩) hh m', ?_, .slice B o hh m m' lc hlc hhm hm1 (Nat.le_trans (Nat.add_le_add_left (Nat.mul_le_mul_right _ hm2) _) he)⟩
            simp [Instr.sliceAt, run_underlying hu, Instr.slice, hrun, run_size ok hr2, Addr.add]
          | empty _ a' c' =>
            obtain ⟨⟨m', hrun, hm1, hm2, _⟩, _, hhm, hmc⟩ := bounds_run (P := P) (cap' := c') hb hlo hhi hmx (Nat.le_refl _) (Nat.zero_le _) hmh true w
            obtain rfl : hh = 0 := by omega
            obtain rfl : m = 0 := by omega
            refine ⟨.slice (some a') 0 m', ?_, .empty o a' m'⟩
            simp [Instr.sliceAt, run_underlying hu, Instr.slice, hrun, run_size ok hr2, Addr.add]
        · have hl0' : ¬ l = 0 := fun e => by subst e; cases hl0
          replace h := bs_some h; rcases h with ⟨hlm, h⟩ | ⟨hlm, h⟩
          · have hlm' := Nat.eq_of_beq_eq_true hlm
            subst hlm'
            cases h
            cases hx with
            | slice _ _ _ _ c' lc hlc hn hc he =>
              obtain ⟨⟨m', hrun, hm1, hm2, _⟩, hlh, hhm, hmc⟩ := bounds_run (P := P) hb hlo hhi hmx hn hc hmh true w
              have : hh = l := by omega
              subst this
              by_cases hml : m' = hh
              · exact ⟨.slice (some ⟨lc.b, lc.d + o, none⟩) 0 0, by simp [Instr.sliceAt, run_underlying hu, Instr.slice, hrun, run_size ok hr2, hml], .empty 0 _ _⟩
              · exact ⟨.slice (some ((⟨lc.b, lc.d + o, none⟩ : Addr).add (hh * r.size))) 0 (m' - hh), by simp [Instr.sliceAt, run_underlying hu, Instr.slice, hrun, run_size ok hr2, hml], .empty 0 _ _⟩
            | empty _ a' c' =>
              obtain ⟨⟨m', hrun, hm1, hm2, _⟩, hlh, hhm, hmc⟩ := bounds_run (P := P) (cap' := c') hb hlo hhi hmx (Nat.le_refl _) (Nat.zero_le _) hmh true w
              omega
          · have hlm' : ¬ l = m := fun e => by subst e; rw [nbeq] at hlm; simp at hlm
            split at h
            · rename_i es hw
              replace h := bs_some h; rcases h with ⟨hes, h⟩ | ⟨_, h⟩
              · have hes' := Nat.eq_of_beq_eq_true hes
                subst hes'
                cases h
                cases hx with
                | slice _ _ _ _ c' lc hlc hn hc he =>
                  obtain ⟨⟨m', hrun, hm1, hm2, _⟩, hlh, hhm, hmc⟩ := bounds_run (P := P) hb hlo hhi hmx hn hc hmh true w
                  obtain ⟨hes2, _⟩ := width_rel inv hw hlc
                  have hml : ¬ m' = l := by omega
                  refine ⟨.slice (some ⟨lc.b, lc.d + (o + l * r.size), none⟩) (hh - l) (m' - l), ?_, .slice B (o + l * r.size) (hh - l) (m - l) (m' - l) lc hlc (by omega) (by omega) ?_⟩
                  · simp [Instr.sliceAt, run_underlying hu, Instr.slice, hrun, run_size ok hr2, hml, Addr.add_lit, Nat.add_assoc]
                  · rw [hes2] at he ⊢
                    have : l * r.size + (m' - l) * r.size = m' * r.size := by rw [← Nat.add_mul]; congr 1; omega
                    have h2 : m' * r.size ≤ c' * r.size := Nat.mul_le_mul_right _ hm2
                    omega
                | empty _ a' c' =>
                  obtain ⟨⟨m', hrun, hm1, hm2, _⟩, hlh, hhm, hmc⟩ := bounds_run (P := P) (cap' := c') hb hlo hhi hmx (Nat.le_refl _) (Nat.zero_le _) hmh true w
                  omega
              · cases h
            · cases h
      · cases h
    · cases h
  · rename_i n elem _ _ _ _ B o hr
    have hu := (ok.ti t _ hr).1
    split at h
    · rename_i l hh m r cs es hb hr2 hw
      replace h := bs_some h; rcases h with ⟨hc, h⟩ | ⟨_, h⟩
      · rw [Bool.and_eq_true] at hc
        have hes' := Nat.eq_of_beq_eq_true hc.1
        subst hes'
        have hle := Nat.le_of_ble_eq_true hc.2
        rw [llen_eq] at hle
        have hle' : o + n * r.size ≤ cs.length := hle
        cases h
        cases hx with
        | ptr _ _ lc hlc =>
          obtain ⟨⟨m', hrun, hm1, hm2, hme⟩, hlh, hhm, hmc⟩ := bounds_run (P := P) (cap' := n) hb hlo hhi hmx (Nat.le_refl _) (Nat.le_refl _) hmh false w
          have := hme rfl
          subst this
          obtain ⟨hes2, hsz⟩ := width_rel inv hw hlc
          have h2 : m * r.size ≤ n * r.size := Nat.mul_le_mul_right _ hmc
          by_cases hlm : l = m
          · subst hlm
            have hb2 : Nat.beq l l = true := by rw [nbeq]; simp
            rw [hb2, bs_true]
            refine ⟨.slice (some ⟨lc.b, lc.d + o, none⟩) (hh - l) (l - l), ?_, .slice B o (hh - l) (l - l) (l - l) lc hlc (by omega) (Nat.le_refl _) ?_⟩
            · simp [Instr.sliceAt, run_underlying hu, Instr.sureAddr, hrun, run_size ok hr2]
            · rw [Nat.sub_self, Nat.zero_mul]; omega
          · have hb2 : Nat.beq l m = false := by rw [nbeq]; simpa using hlm
            rw [hb2, bs_false]
            refine ⟨.slice (some ⟨lc.b, lc.d + (o + l * r.size), none⟩) (hh - l) (m - l), ?_, .slice B (o + l * r.size) (hh - l) (m - l) (m - l) lc hlc (by omega) (Nat.le_refl _) ?_⟩
            · simp [Instr.sliceAt, run_underlying hu, Instr.sureAddr, hrun, run_size ok hr2, Addr.add_lit, Nat.add_assoc, Ne.symm hlm]
            · rw [hes2]
              have : l * r.size + (m - l) * r.size = m * r.size := by rw [← Nat.add_mul]; congr 1; omega
              omega
      · cases h
    · cases h
  · cases h
theorem slice_ok {t : TypeId} {x x' v : Value} {lo hi mx lo' hi' mx' : Option Value} (h : sliceV E A t x lo hi mx = some v) (hx : VRel β x x') (hlo : ORel β lo lo') (hhi : ORel β hi hi') (hmx : ORel β mx mx') :
    ∃ v', (Instr.sliceAt t x' lo' hi' mx').run P w = .ok v' w ∧ VRel β v v' := by
  unfold sliceV at h
  replace h := bs_some h; rcases h with ⟨_, h2⟩ | ⟨hm0, h2⟩
  · cases h2
  refine slice_ok1 ok inv h2 hx hlo hhi hmx (fun e => ?_)
  rw [e] at hm0
  cases hq : hi.isSome with
  | true => rfl
  | false => rw [hq] at hm0; cases hm0
end
end Go.Ev
