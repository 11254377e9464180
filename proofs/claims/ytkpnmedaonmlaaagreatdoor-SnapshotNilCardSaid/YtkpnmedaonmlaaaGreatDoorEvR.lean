/- A verified evaluator for closed calls: copy, max and min of integers. -/
import Derived.Test.YtkpnmedaonmlaaaGreatDoorEvQ
namespace Go.Ev
open Go.RowKit
section
variable {P : Program} {E : Env} (ok : E.Ok P) {w0 w : World} {β : Ren} {A : AW} (inv : Inv w0 E.G β A w)

/-- what a copy into dl elements takes of its source -/
noncomputable def cutSrc (dl : Nat) (x : Value) : Option (Nat × Value) :=
  match x with
  | .slice none 0 0 => some (0, .slice none 0 0)
  | .slice (some a) n c => bs (Nat.ble n dl) (some (n, .slice (some a) n c)) (some (dl, .slice (some a) dl c))
  | .string ⟨⟨l⟩⟩ => bs (Nat.ble (llen l) dl) (some (llen l, .string ⟨⟨l⟩⟩)) none
  | _ => none
theorem cutSrc_ok {dl n : Nat} {x x' y : Value} (h : cutSrc dl x = some (n, y)) (hx : VRel β x x') : ∃ y' k, VRel β y y' ∧ (∀ w, (Builtin.lenOf x').run P w = .ok k w) ∧ Nat.min k dl = n ∧ ∀ size, Builtin.firstCells size n x' = Builtin.firstCells size n y' := by
  unfold cutSrc at h
  split at h
  · cases h; cases hx; exact ⟨_, 0, .slice0, fun _ => rfl, by simp, fun _ => rfl⟩
  · rename_i a n0 c
    replace h := bs_some h
    rcases h with ⟨hb, h⟩ | ⟨hb, h⟩
    · have hb' := Nat.le_of_ble_eq_true hb
      cases h
      cases hx with
      | slice B o _ _ c' l hl hn hc he => exact ⟨_, n, .slice B o _ _ c' l hl hn hc he, fun _ => rfl, Nat.min_eq_left hb', fun _ => rfl⟩
      | empty o a' c' => exact ⟨_, 0, .empty o a' c', fun _ => rfl, Nat.min_eq_left hb', fun _ => rfl⟩
    · have hb' : dl < n0 := by
        rcases Nat.lt_or_ge dl n0 with h | h
        · exact h
        · rw [Nat.ble_eq_true_of_le h] at hb; cases hb
      cases h
      cases hx with
      | slice B o _ _ c' l hl hn hc he => exact ⟨_, n0, .slice B o dl c c' l hl (by omega) hc he, fun _ => rfl, Nat.min_eq_right (Nat.le_of_lt hb'), fun _ => rfl⟩
      | empty o a' c' => omega
  · rename_i l
    replace h := bs_some h
    rcases h with ⟨hb, h⟩ | ⟨_, h⟩
    · have hb' := Nat.le_of_ble_eq_true hb
      rw [llen_eq] at hb'
      cases h; cases hx
      rw [llen_eq]
      exact ⟨_, l.length, .string _, fun _ => rfl, Nat.min_eq_left hb', fun _ => rfl⟩
    · cases h
  · cases h

noncomputable def copyV (E : Env) (A : AW) (t tx : TypeId) (d x : Value) : Option (Value × AW) :=
  match E.ti.get none t, E.ti.get none tx with
  | some ⟨.slice e, _, _, _, _⟩, some rx => match E.ti.get none e with
    | some re => match d with
      | .slice base dl _ => match cutSrc dl x with
        | some (n, y) => bs (srcKind rx.desc y) (match srcV A re.size y with
          | some (m, l) => bs (Nat.beq m n) (bs (Nat.beq n 0) (some (.int .i64 (.ofNat n), A)) (match base with
            | some ⟨B, o, none⟩ => bs (Nat.beq B TAINT) none (match A.get B with
              | some ⟨.cells cs, es, ex, false, ty⟩ => bs (Nat.ble E.G B && Nat.ble (Nat.add o (llen l)) (llen cs)) (some (.int .i64 (.ofNat n), A.put B (some ⟨.cells (lwrite l o cs), es, ex, false, ty⟩))) none
              | _ => none)
            | _ => none)) none
          | none => none) none
        | none => none
      | _ => none
    | none => none
  | _, _ => none
theorem copyV_next {t tx : TypeId} {d x v : Value} {A' : AW} (h : copyV E A t tx d x = some (v, A')) : A.next ≤ A'.next := by
  unfold copyV at h
  repeat' first
    | (replace h := bs_some h; rcases h with ⟨_, h⟩ | ⟨_, h⟩)
    | split at h
  all_goals cases h
  all_goals exact Nat.le_refl _
include ok inv in
theorem copy_ok {t tx ty : TypeId} {d d' x x' v : Value} {A' : AW} (h : copyV E A t tx d x = some (v, A')) (hd : VRel β d d') (hx : VRel β x x') : Does w0 E.G β A ((Builtin.copy_ #[t, tx] ty #[d', x']).run P w) v A' := by
  unfold copyV at h
  split at h
  · rename_i e _ _ _ _ rx hr hrx
    split at h
    · rename_i re hre
      split at h
      · rename_i base dl dc
        split at h
        · rename_i n y hcut
          obtain ⟨y', k, hy, hlen, hmin, hfc⟩ := cutSrc_ok (P := P) hcut hx
          replace h := bs_some h
          rcases h with ⟨hk, h⟩ | ⟨_, h⟩
          · split at h
            · rename_i m l hsrc
              replace h := bs_some h
              rcases h with ⟨hmn, h⟩ | ⟨_, h⟩
              · have hmn' := Nat.eq_of_beq_eq_true hmn
                subst hmn'
                have hu := (ok.ti t _ hr).1
                have hux := (ok.ti tx _ hrx).1
                obtain ⟨l', hl', hS⟩ := src_ok (P := P) inv hux hsrc hk hy
                have hcells := hS.cells
                replace h := bs_some h
                rcases h with ⟨h0, h⟩ | ⟨h0, h⟩
                · have h0' := Nat.eq_of_beq_eq_true h0
                  subst h0'
                  cases h
                  have hl0 : l' = [] := by
                    have := hS.newsLen
                    rw [Nat.zero_mul] at this
                    exact List.eq_nil_of_length_eq_zero this
                  subst hl0
                  refine ⟨β, .int .i64 0, w, ?_, .int _ _, inv, Ren.grow_refl _ _⟩
                  cases hd with
                  | slice0 => simp [Builtin.copy_, run_underlying hu, hlen, hmin, run_size ok hre, hfc, hcells, goInt]
                  | slice B o _ _ c' lb hlb hn hc he => simp [Builtin.copy_, run_underlying hu, hlen, hmin, run_size ok hre, hfc, hcells, goInt, storeCells]
                  | empty o a' c' => simp [Builtin.copy_, run_underlying hu, hlen, hmin, run_size ok hre, hfc, hcells, goInt, storeCells]
                · split at h
                  · rename_i B o
                    replace h := bs_some h
                    rcases h with ⟨_, h⟩ | ⟨hT, h⟩
                    · cases h
                    · split at h
                      · rename_i cs es ex tyb hg
                        replace h := bs_some h
                        rcases h with ⟨hb, h⟩ | ⟨_, h⟩
                        · simp only [Bool.and_eq_true, llen_eq] at hb
                          obtain ⟨hG, hle⟩ := hb
                          have hG' := Nat.le_of_ble_eq_true hG
                          have hle' : o + l.length ≤ cs.length := Nat.le_of_ble_eq_true hle
                          cases h
                          cases hd with
                          | slice _ _ _ _ c' lb hlb hn hc he =>
                            obtain ⟨w', hrun, hinv⟩ := write_ok (P := P) inv hg hG' hlb hl' hle' hS.one
                            refine ⟨β, .int .i64 (.ofNat m), w', ?_, .int _ _, hinv, Ren.grow_refl _ _⟩
                            simp [Builtin.copy_, run_underlying hu, hlen, hmin, run_size ok hre, hfc, hcells, goInt, hrun]
                          | empty _ a' c' => cases hT
                        · cases h
                      · cases h
                  · cases h
              · cases h
            · cases h
          · cases h
        · cases h
      · cases h
    · cases h
  · cases h

/-- max (true) or min of integers -/
noncomputable def maxL (b : Bool) (k : IntKind) : List Value → Int → Option Value
  | [], x => some (.int k x)
  | .int _ y :: r, x => maxL b k r (bs b (bs (ilt x y) y x) (bs (ilt y x) y x))
  | _ :: _, _ => none
noncomputable def maxV (b : Bool) (l : List Value) : Option Value := match l with | .int k x :: r => maxL b k r x | _ => none
theorem maxL_ok {b : Bool} {k : IntKind} {v : Value} : ∀ {l l' : List Value} {x : Int}, maxL b k l x = some v → LRel β l l' → (l'.foldlM (bs b Builtin.max2 Builtin.min2) (.int k x)).run P w = .ok v w ∧ ∃ n, v = .int k n
  | [], l', x, h, hl => by
    have : l' = [] := List.eq_nil_of_length_eq_zero hl.1.symm
    subst this
    cases h
    exact ⟨rfl, _, rfl⟩
  | y :: r, [], x, h, hl => by cases hl.1
  | y :: r, y' :: r', x, h, hl => by
    have hy : VRel β y y' := hl.2 0 y y' rfl rfl
    have hr : LRel β r r' := ⟨by have := hl.1; simpa using this, fun i v v' a b => hl.2 (i + 1) v v' (by simpa using a) (by simpa using b)⟩
    have hkey : ∃ k2 n, y = .int k2 n ∧ maxL b k r (bs b (bs (ilt x n) n x) (bs (ilt n x) n x)) = some v := by
      cases y <;> first | (cases h; done) | exact ⟨_, _, rfl, h⟩
    obtain ⟨k2, n, rfl, h2⟩ := hkey
    cases hy
    have ih := maxL_ok h2 hr
    refine ⟨?_, ih.2⟩
    rw [List.foldlM_cons]
    have h1 : (bs b Builtin.max2 Builtin.min2 (.int k x) (.int k2 n)) = (pure (.int k (bs b (bs (ilt x n) n x) (bs (ilt n x) n x))) : Sem Value) := by
      cases b
      · change Builtin.min2 (.int k x) (.int k2 n) = pure (.int k (bs (ilt n x) n x))
        unfold Builtin.min2
        by_cases hlt : n < x <;> simp [ilt_eq, hlt, bs]
      · change Builtin.max2 (.int k x) (.int k2 n) = pure (.int k (bs (ilt x n) n x))
        unfold Builtin.max2
        by_cases hlt : x < n <;> simp [ilt_eq, hlt, bs]
    rw [h1]
    simpa using ih.1
theorem max_ok {tys : Array TypeId} {ty : TypeId} {l l' : List Value} {v : Value} (h : maxV true l = some v) (hl : LRel β l l') : (Builtin.max_ tys ty ⟨l'⟩).run P w = .ok v w ∧ VRel β v v := by
  unfold maxV at h
  split at h
  · rename_i k x r
    match l', hl with
    | [], hl => cases hl.1
    | y' :: r', hl =>
      have hy : VRel β (.int k x) y' := hl.2 0 _ y' rfl rfl
      have hr : LRel β r r' := ⟨by have := hl.1; simpa using this, fun i v v' a b => hl.2 (i + 1) v v' (by simpa using a) (by simpa using b)⟩
      cases hy
      obtain ⟨h1, n, rfl⟩ := maxL_ok (P := P) (w := w) h hr
      exact ⟨h1, .int _ _⟩
  · cases h
theorem min_ok {tys : Array TypeId} {ty : TypeId} {l l' : List Value} {v : Value} (h : maxV false l = some v) (hl : LRel β l l') : (Builtin.min_ tys ty ⟨l'⟩).run P w = .ok v w ∧ VRel β v v := by
  unfold maxV at h
  split at h
  · rename_i k x r
    match l', hl with
    | [], hl => cases hl.1
    | y' :: r', hl =>
      have hy : VRel β (.int k x) y' := hl.2 0 _ y' rfl rfl
      have hr : LRel β r r' := ⟨by have := hl.1; simpa using this, fun i v v' a b => hl.2 (i + 1) v v' (by simpa using a) (by simpa using b)⟩
      cases hy
      obtain ⟨h1, n, rfl⟩ := maxL_ok (P := P) (w := w) h hr
      exact ⟨h1, .int _ _⟩
  · cases h
end
end Go.Ev
