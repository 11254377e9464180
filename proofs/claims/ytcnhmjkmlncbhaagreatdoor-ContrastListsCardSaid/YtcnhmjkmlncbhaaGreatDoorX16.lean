/- A verified evaluator of Go functions on partly symbolic values, part 16 of 17. -/
import Derived.Test.YtcnhmjkmlncbhaaGreatDoorX15
import Derived.DeepKeys3
namespace Go.Ex
open Go.RowKit Go.WideShapes

section
variable {P : Program}

noncomputable def flatFs (P : Program) (g : TypeId → Option (List IntKind)) : Nat → List Field → Option (List IntKind)
  | _, [] => some []
  | o, f :: fs => if f.offset = o ∧ (f.name == "_") = false then
      (match g f.type with
      | some ks => if ks.length = P.cellsOf f.type then (match flatFs P g (o + ks.length) fs with | some r => some (ks ++ r) | none => none) else none
      | none => none)
    else none
noncomputable def flatK (P : Program) : Nat → TypeId → Option (List IntKind)
  | 0, _ => none
  | m + 1, t =>
    match P.underlying t with
    | some (.int k) => some [k]
    | some (.struct fs) => if P.stoodInHeld t = false then flatFs P (flatK P m) 0 fs.toList else none
    | some (.array n e) => (match flatK P m e with
      | some ks => if ks.length = P.cellsOf e then some (List.replicate n ks).flatten else none
      | none => none)
    | _ => none
def VOf (P : Program) (t : TypeId) (a : List Value) (x : Value) : Prop :=
  (∃ k, P.underlying t = some (.int k) ∧ a = [x]) ∨ (((∃ fs, P.underlying t = some (.struct fs)) ∨ ∃ n e, P.underlying t = some (.array n e)) ∧ x = .agg ⟨a⟩)

theorem leqT_app : ∀ (ks1 ks2 : List IntKind) (a b : List Value) (r : Bool), leqT (ks1 ++ ks2) a b = some r →
    ∃ r1 r2, leqT ks1 (a.take ks1.length) (b.take ks1.length) = some r1 ∧ leqT ks2 (a.drop ks1.length) (b.drop ks1.length) = some r2 ∧ r = (r1 && r2)
  | [], ks2, a, b, r, h => ⟨true, r, rfl, h, by simp⟩
  | k :: ks1, ks2, a, b, r, h => by
    have h' : leq1 k (leqT (ks1 ++ ks2)) a b = some r := h
    clear h
    unfold leq1 at h'
    split at h'
    · rename_i j m a j' n b
      replace h' := bs_some h'
      rcases h' with ⟨hk, h'⟩ | ⟨_, h'⟩
      · split at h'
        · rename_i r' hr'
          obtain ⟨r1, r2, h1, h2, rfl⟩ := leqT_app ks1 ks2 a b r' hr'
          cases h'
          refine ⟨bs (ieq m n) r1 false, r2, ?_, h2, ?_⟩
          · show leq1 k (leqT ks1) (.int j m :: a.take ks1.length) (.int j' n :: b.take ks1.length) = _
            simp only [leq1, hk, bs_true, h1]
          · cases ieq m n
            · rw [bs_false, bs_false]; rfl
            · rw [bs_true, bs_true]
        · cases h'
      · cases h'
    · cases h'
theorem leqT_len : ∀ (ks : List IntKind) (a b : List Value) (r : Bool), leqT ks a b = some r → a.length = ks.length ∧ b.length = ks.length
  | [], a, b, r, h => by
    have h' : leq0 a b = some r := h
    unfold leq0 at h'
    split at h'
    · exact ⟨rfl, rfl⟩
    · cases h'
  | k :: ks, a, b, r, h => by
    have h' : leq1 k (leqT ks) a b = some r := h
    clear h
    unfold leq1 at h'
    split at h'
    · rename_i j m a j' n b
      replace h' := bs_some h'
      rcases h' with ⟨hk, h'⟩ | ⟨_, h'⟩
      · split at h'
        · rename_i r' hr'
          obtain ⟨h1, h2⟩ := leqT_len ks a b r' hr'
          exact ⟨by simp [h1], by simp [h2]⟩
        · cases h'
      · cases h'
    · cases h'
theorem leqT_one {k : IntKind} {a b : List Value} {r : Bool} (h : leqT [k] a b = some r) : ∃ m n, a = [.int k m] ∧ b = [.int k n] ∧ r = decide (m = n) := by
  have h' : leq1 k leq0 a b = some r := h
  clear h
  unfold leq1 at h'
  split at h'
  · rename_i j m a j' n b
    replace h' := bs_some h'
    rcases h' with ⟨hk, h'⟩ | ⟨_, h'⟩
    · rw [Bool.and_eq_true] at hk
      split at h'
      · rename_i r' hr'
        unfold leq0 at hr'
        split at hr'
        · cases hr'; cases h'
          refine ⟨m, n, by rw [keq_eq hk.1], by rw [keq_eq hk.2], ?_⟩
          rw [← ieq_eq]; cases ieq m n <;> rfl
        · cases hr'
      · cases h'
    · cases h'
  · cases h'
theorem leqT_self : ∀ (ks1 ks2 : List IntKind) (a : List Value), leqT (ks1 ++ ks2) a a = some true → leqT ks1 (a.take ks1.length) (a.take ks1.length) = some true ∧ leqT ks2 (a.drop ks1.length) (a.drop ks1.length) = some true := by
  intro ks1 ks2 a h
  obtain ⟨r1, r2, h1, h2, h3⟩ := leqT_app ks1 ks2 a a true h
  cases r1 <;> cases r2 <;> first | exact ⟨h1, h2⟩ | cases h3

theorem flat_info {m : Nat} {e : TypeId} {ks : List IntKind} (hk : flatK P m e = some ks) : ∃ d i, P.underlying e = some d ∧ P.info? e = some i := by
  cases m with
  | zero => cases hk
  | succ m =>
    unfold flatK at hk
    cases hu : P.underlying e with
    | none => simp [hu] at hk
    | some d =>
      obtain ⟨i, hi⟩ := info_of_underlying hu
      exact ⟨d, i, rfl, hi⟩
theorem part_flat (w : World) {m : Nat} {e : TypeId} {ks : List IntKind} (hk : flatK P m e = some ks) (hl : ks.length = P.cellsOf e) (xs : Array Value) (off : Nat) (hlen : off + ks.length ≤ xs.size) :
    ∃ x, (part e xs off).run P w = .ok x w ∧ VOf P e ((xs.toList.drop off).take ks.length) x := by
  obtain ⟨d, i, hu, hi⟩ := flat_info hk
  have hx : (xs.extract off (off + P.cellsOf e)).toList = (xs.toList.drop off).take (P.cellsOf e) := by
    rw [Array.toList_extract]
    simp [List.extract]
  have hx2 : (⟨(xs.toList.drop off).take ks.length⟩ : Array Value) = xs.extract off (off + P.cellsOf e) := by
    rw [hl, ← hx]
  cases m with
  | zero => cases hk
  | succ m =>
    unfold flatK at hk
    rw [hu] at hk
    cases d with
    | int k =>
      cases hk
      have hs : off < xs.size := by simp only [List.length_singleton] at hlen; omega
      refine ⟨xs[off], run_part_plain w (by simp [Program.plainKey, hu]) (by simp [hs]), .inl ⟨k, hu, ?_⟩⟩
      rw [List.length_singleton, List.drop_eq_getElem_cons (by simpa using hs)]
      simp
    | struct fs =>
      refine ⟨.agg (xs.extract off (off + P.cellsOf e)), by simp [part, isAgg, run_underlying hu, run_sizeOf w hi], .inr ⟨.inl ⟨_, hu⟩, by rw [hx2]⟩⟩
    | array n e' =>
      refine ⟨.agg (xs.extract off (off + P.cellsOf e)), by simp [part, isAgg, run_underlying hu, run_sizeOf w hi], .inr ⟨.inr ⟨_, _, hu⟩, by rw [hx2]⟩⟩
    | _ => cases hk
def EqFlat (P : Program) (dd : Nat) (t : TypeId) (ks : List IntKind) : Prop :=
  ∀ w x y a b r, VOf P t a x → VOf P t b y → leqT ks a b = some r → (Op.equalIn dd t x y).run P w = .ok r w
def KeyFlat (P : Program) (em : Bool) (dd : Nat) (t : TypeId) (ks : List IntKind) : Prop :=
  ∀ w x a, VOf P t a x → leqT ks a a = some true → (Instr.checkKey em dd t x).run P w = .ok () w

theorem eqFields_flat {m dd : Nat} (IH : ∀ t ks, flatK P m t = some ks → EqFlat P dd t ks) (w : World) (xs ys : Array Value) : ∀ (fs : List Field) (o : Nat) (ks : List IntKind) (r : Bool), flatFs P (flatK P m) o fs = some ks →
    o ≤ xs.size → o ≤ ys.size → leqT ks (xs.toList.drop o) (ys.toList.drop o) = some r → (Op.eqFields dd xs ys fs).run P w = .ok r w
  | [], o, ks, r, hf, hx, hy, hr => by
    cases hf
    have h' : leq0 (xs.toList.drop o) (ys.toList.drop o) = some r := hr
    unfold leq0 at h'
    split at h'
    · cases h'; simp [Op.eqFields]
    · cases h'
  | f :: fs, o, ks, r, hf, hx, hy, hr => by
    unfold flatFs at hf
    split at hf
    · rename_i hc
      split at hf
      · rename_i ks1 hk1
        split at hf
        · rename_i hl
          split at hf
          · rename_i ks2 hk2
            cases hf
            obtain ⟨r1, r2, h1, h2, rfl⟩ := leqT_app ks1 ks2 _ _ r hr
            obtain ⟨l1, l2⟩ := leqT_len _ _ _ _ h1
            simp only [List.length_take, List.length_drop, Array.length_toList] at l1 l2
            have ox : o + ks1.length ≤ xs.size := by omega
            have oy : o + ks1.length ≤ ys.size := by omega
            obtain ⟨x, px, vx⟩ := part_flat w hk1 hl xs o ox
            obtain ⟨y, py, vy⟩ := part_flat w hk1 hl ys o oy
            have e1 := IH _ _ hk1 w x y _ _ r1 vx vy h1
            have hn : f.name ≠ "_" := fun e => by rw [e] at hc; exact absurd hc.2 (by simp)
            rw [List.drop_drop, List.drop_drop] at h2
            have e2 := eqFields_flat IH w xs ys fs (o + ks1.length) ks2 r2 hk2 ox oy h2
            rw [← hc.1] at px py
            simp only [Op.eqFields, hn, ne_eq, not_false_eq_true, if_true, Sem.run_bind, px, py, e1, Result.andThen_ok]
            cases r1
            · simp
            · simpa using e2
          · cases hf
        · cases hf
      · cases hf
    · cases hf
theorem eqItems_flat {m dd : Nat} {e : TypeId} {ks : List IntKind} (hk : flatK P m e = some ks) (hl : ks.length = P.cellsOf e) (IH : EqFlat P dd e ks) (w : World) (xs ys : Array Value) : ∀ (n s : Nat) (r : Bool),
    leqT (List.replicate n ks).flatten (xs.toList.drop (s * ks.length)) (ys.toList.drop (s * ks.length)) = some r → (Op.eqItems dd e (P.cellsOf e) xs ys (List.range' s n)).run P w = .ok r w
  | 0, s, r, hr => by
    have h' : leq0 (xs.toList.drop (s * ks.length)) (ys.toList.drop (s * ks.length)) = some r := hr
    unfold leq0 at h'
    split at h'
    · cases h'; simp [Op.eqItems]
    · cases h'
  | n + 1, s, r, hr => by
    rw [List.replicate_succ, List.flatten_cons] at hr
    obtain ⟨r1, r2, h1, h2, rfl⟩ := leqT_app ks _ _ _ r hr
    obtain ⟨l1, l2⟩ := leqT_len _ _ _ _ h1
    simp only [List.length_take, List.length_drop, Array.length_toList] at l1 l2
    have pos : ∀ zs : Array Value, min ks.length (zs.size - s * ks.length) = ks.length → ∃ z, (part e zs (s * P.cellsOf e)).run P w = .ok z w ∧ VOf P e ((zs.toList.drop (s * ks.length)).take ks.length) z := fun zs hz => by
      by_cases h0 : s * ks.length + ks.length ≤ zs.size
      · have := part_flat w hk hl zs (s * ks.length) h0
        rw [← hl]; exact this
      · have hk0 : ks.length = 0 := by omega
        exfalso
        have : ks = [] := List.length_eq_zero_iff.1 hk0
        subst this
        simp at h0
    obtain ⟨x, px, vx⟩ := pos xs l1
    obtain ⟨y, py, vy⟩ := pos ys l2
    have e1 := IH w x y _ _ r1 vx vy h1
    rw [List.drop_drop, List.drop_drop, ← Nat.succ_mul] at h2
    have e2 := eqItems_flat hk hl IH w xs ys n (s + 1) r2 h2
    simp only [List.range'_succ, Op.eqItems, Sem.run_bind, px, py, e1, Result.andThen_ok]
    cases r1
    · simp
    · simpa using e2
theorem eq_flat (d : Nat) : ∀ (m : Nat) (t : TypeId) (ks : List IntKind), flatK P m t = some ks → EqFlat P (d + m) t ks
  | 0, _, _, h => by cases h
  | m + 1, t, ks, hk => by
    intro w x y a b r vx vy hr
    unfold flatK at hk
    cases hu : P.underlying t with
    | none => simp [hu] at hk
    | some kd =>
      rw [hu] at hk
      have agg : (∀ k, kd ≠ .int k) → x = .agg ⟨a⟩ ∧ y = .agg ⟨b⟩ := fun hne => by
        have one : ∀ z c, VOf P t c z → z = .agg ⟨c⟩ := fun z c hv => by
          rcases hv with ⟨k, h1, _⟩ | ⟨_, h⟩
          · rw [hu] at h1; cases h1; exact absurd rfl (hne k)
          · exact h
        exact ⟨one x a vx, one y b vy⟩
      cases kd with
      | int k =>
        cases hk
        obtain ⟨m1, n1, rfl, rfl, rfl⟩ := leqT_one hr
        have one : ∀ z n, VOf P t [.int k n] z → z = .int k n := fun z n hv => by
          rcases hv with ⟨_, _, h2⟩ | ⟨h | h, _⟩
          · simpa using h2.symm
          · obtain ⟨_, h⟩ := h; rw [hu] at h; cases h
          · obtain ⟨_, _, h⟩ := h; rw [hu] at h; cases h
        rw [one x m1 vx, one y n1 vy, show d + (m + 1) = (d + m) + 1 from rfl, run_equalIn_int w (d + m) t k k m1 n1 hu]
        congr 1
      | struct fs =>
        obtain ⟨rfl, rfl⟩ := agg (fun k e => by cases e)
        simp only at hk
        split at hk
        · rename_i hs
          have hfs : P.fieldsOf t = fs := by simp [Program.fieldsOf, hu]
          rw [show d + (m + 1) = (d + m) + 1 from rfl, run_equalIn_struct w (d + m) t _ _ (by rw [hfs]; exact hu) hs, hfs]
          exact eqFields_flat (fun t ks h => eq_flat d m t ks h) w ⟨a⟩ ⟨b⟩ fs.toList 0 ks r hk (Nat.zero_le _) (Nat.zero_le _) hr
        · cases hk
      | array n e =>
        obtain ⟨rfl, rfl⟩ := agg (fun k e => by cases e)
        simp only at hk
        split at hk
        · rename_i ks1 hk1
          split at hk
          · rename_i hl
            cases hk
            obtain ⟨_, i, _, hi⟩ := flat_info hk1
            rw [show d + (m + 1) = (d + m) + 1 from rfl, run_equalIn_array w (d + m) ⟨a⟩ ⟨b⟩ hu hi, List.range_eq_range']
            exact eqItems_flat hk1 hl (eq_flat d m e ks1 hk1) w ⟨a⟩ ⟨b⟩ n 0 r (by simpa using hr)
          · cases hk
        · cases hk
      | _ => cases hk
theorem key_flat (em : Bool) (d : Nat) : ∀ (m : Nat) (t : TypeId) (ks : List IntKind), flatK P m t = some ks → KeyFlat P em (d + m) t ks
  | 0, _, _, h => by cases h
  | m + 1, t, ks, hk => by
    intro w x a vx hr
    unfold flatK at hk
    cases hu : P.underlying t with
    | none => simp [hu] at hk
    | some kd =>
      rw [hu] at hk
      have agg : (∀ k, kd ≠ .int k) → x = .agg ⟨a⟩ := fun hne => by
        rcases vx with ⟨k, h1, _⟩ | ⟨_, h⟩
        · rw [hu] at h1; cases h1; exact absurd rfl (hne k)
        · exact h
      cases kd with
      | int k =>
        rw [show d + (m + 1) = (d + m) + 1 from rfl, Instr.checkKey]
        simp only [Sem.run_bind, run_underlying hu, Result.andThen_ok]
        rfl
      | struct fs =>
        obtain rfl := agg (fun k e => by cases e)
        simp only at hk
        split at hk
        · rw [show d + (m + 1) = (d + m) + 1 from rfl, Instr.checkKey]
          simp only [Sem.run_bind, run_underlying hu, Result.andThen_ok]
          rw [← Array.forIn_toList]
          have go : ∀ (L : List Field) (o : Nat) (ks : List IntKind), flatFs P (flatK P m) o L = some ks → o ≤ a.length → leqT ks (a.drop o) (a.drop o) = some true →
              (forIn L PUnit.unit fun f (_ : PUnit) => (if f.name ≠ "_" then (do
                let y ← part f.type ⟨a⟩ f.offset
                Instr.checkKey em (d + m) f.type y
                pure (ForInStep.yield PUnit.unit)) else pure (ForInStep.yield PUnit.unit) : Sem (ForInStep PUnit))).run P w = .ok PUnit.unit w := by
            intro L
            induction L with
            | nil => intro o ks _ _ _; simp
            | cons f L ih =>
              intro o ks hf ho hr
              unfold flatFs at hf
              split at hf
              · rename_i hc
                split at hf
                · rename_i ks1 hk1
                  split at hf
                  · rename_i hl
                    split at hf
                    · rename_i ks2 hk2
                      cases hf
                      obtain ⟨h1, h2⟩ := leqT_self ks1 ks2 _ hr
                      obtain ⟨l1, _⟩ := leqT_len _ _ _ _ h1
                      simp only [List.length_take, List.length_drop] at l1
                      have ox : o + ks1.length ≤ a.length := by omega
                      obtain ⟨y, py, vy⟩ := part_flat w hk1 hl ⟨a⟩ o (by simpa using ox)
                      have e1 := key_flat em d m _ _ hk1 w y _ vy h1
                      have hn : f.name ≠ "_" := fun e => by rw [e] at hc; exact absurd hc.2 (by simp)
                      rw [List.drop_drop] at h2
                      have e2 := ih (o + ks1.length) ks2 hk2 ox h2
                      rw [← hc.1] at py
                      simp only [List.forIn_cons, Sem.run_bind, hn, ne_eq, not_false_eq_true, if_true, Result.andThen_ok, py, e1, Sem.run_pure]
                      exact e2
                    · cases hf
                  · cases hf
                · cases hf
              · cases hf
          rw [go fs.toList 0 ks hk (Nat.zero_le _) hr]; rfl
        · cases hk
      | array n e =>
        obtain rfl := agg (fun k e => by cases e)
        simp only at hk
        split at hk
        · rename_i ks1 hk1
          split at hk
          · rename_i hl
            cases hk
            obtain ⟨_, i, _, hi⟩ := flat_info hk1
            rw [show d + (m + 1) = (d + m) + 1 from rfl, Instr.checkKey]
            simp only [Sem.run_bind, run_underlying hu, Result.andThen_ok]
            simp only [Std.Legacy.Range.forIn_eq_forIn_range', Std.Legacy.Range.size, Nat.sub_zero, Nat.add_one_sub_one, Nat.div_one]
            have go : ∀ (n s : Nat), leqT (List.replicate n ks1).flatten (a.drop (s * ks1.length)) (a.drop (s * ks1.length)) = some true →
                (forIn (List.range' s n) PUnit.unit fun i (_ : PUnit) => (do
                  Instr.checkKey em (d + m) e (← part e ⟨a⟩ (i * (← sizeOf e)))
                  pure (ForInStep.yield PUnit.unit) : Sem (ForInStep PUnit))).run P w = .ok PUnit.unit w := by
              intro n
              induction n with
              | zero => intro s _; simp
              | succ n ih =>
                intro s hr
                rw [List.replicate_succ, List.flatten_cons] at hr
                obtain ⟨h1, h2⟩ := leqT_self ks1 _ _ hr
                obtain ⟨l1, _⟩ := leqT_len _ _ _ _ h1
                simp only [List.length_take, List.length_drop] at l1
                have ox : s * ks1.length + ks1.length ≤ a.length := by
                  rcases Nat.eq_zero_or_pos ks1.length with h0 | h0
                  · rw [h0]; simp
                  · omega
                obtain ⟨y, py, vy⟩ := part_flat w hk1 hl ⟨a⟩ (s * ks1.length) (by simpa using ox)
                have e1 := key_flat em d m _ _ hk1 w y _ vy h1
                rw [List.drop_drop, ← Nat.succ_mul] at h2
                have e2 := ih (s + 1) h2
                rw [hl] at py
                simp only [List.range'_succ, List.forIn_cons, Sem.run_bind, run_sizeOf w hi, Result.andThen_ok, py, e1, Sem.run_pure]
                exact e2
            rw [go n 0 (by simpa using hr)]; rfl
          · cases hk
        · cases hk
      | _ => cases hk

noncomputable def keqL : List IntKind → List IntKind → Bool
  | [], [] => true
  | a :: l, b :: r => keq a b && keqL l r
  | _, _ => false
theorem keqL_eq : ∀ a b, keqL a b = true → a = b
  | [], [], _ => rfl
  | [], _ :: _, h => by cases h
  | _ :: _, [], h => by cases h
  | a :: l, b :: r, h => by
    unfold keqL at h
    rw [Bool.and_eq_true] at h
    rw [keq_eq h.1, keqL_eq l r h.2]
noncomputable def seqB (P : Program) (p : Nat × List IntKind) : Bool :=
  (match flatK P 4 p.1 with | some ks => keqL ks p.2 | none => false) && not (P.eqGuardType P.depth p.1) &&
    (match P.underlying p.1 with | some (.struct _) => true | some (.array _ _) => true | _ => false)
theorem seq_ok {E : Env} {sq : List (Nat × List IntKind)} (h : lall (seqB P) sq = true) : E.Seq P sq := by
  have mem : ∀ (l : List (Nat × List IntKind)) t ks, seqOf l t = some ks → (t, ks) ∈ l := by
    intro l
    induction l with
    | nil => intro t ks e; cases e
    | cons p l ih =>
      intro t ks e
      have e' : bs (Nat.beq p.1 t) (some p.2) (seqOf l t) = some ks := e
      rcases bs_some e' with ⟨h1, h2⟩ | ⟨_, h2⟩
      · obtain ⟨u, v⟩ := p
        have := Nat.eq_of_beq_eq_true h1
        simp only at this h2
        cases h2
        rw [this]; exact List.mem_cons_self
      · exact List.mem_cons_of_mem _ (ih t ks h2)
  have each : ∀ t ks, seqOf sq t = some ks → flatK P 4 t = some ks ∧ P.eqGuardType P.depth t = false ∧ ((∃ fs, P.underlying t = some (.struct fs)) ∨ ∃ n e, P.underlying t = some (.array n e)) := fun t ks e => by
    have h1 := lall_eq _ _ h _ (mem sq t ks e)
    unfold seqB at h1
    simp only [Bool.and_eq_true, Bool.not_eq_true'] at h1
    obtain ⟨⟨h2, h3⟩, h4⟩ := h1
    refine ⟨?_, h3, ?_⟩
    · split at h2
      · rename_i ks' hk
        rw [hk, keqL_eq _ _ h2]
      · cases h2
    · split at h4
      · exact .inl ⟨_, by assumption⟩
      · exact .inr ⟨_, _, by assumption⟩
      · cases h4
  refine ⟨fun t ks a b r e hr w => ?_, fun t ks e => (each t ks e).2.1, fun t ks e => ?_, fun t ks a e hr em w => ?_⟩
  · obtain ⟨h1, _, h3⟩ := each t ks e
    exact eq_flat 9996 4 t ks h1 w _ _ a b r (.inr ⟨h3, rfl⟩) (.inr ⟨h3, rfl⟩) hr
  · rcases (each t ks e).2.2 with ⟨_, h⟩ | ⟨_, _, h⟩
    · exact ⟨_, h⟩
    · exact ⟨_, h⟩
  · obtain ⟨h1, _, h3⟩ := each t ks e
    exact key_flat em 9996 4 t ks h1 w _ a (.inr ⟨h3, rfl⟩) hr
end
end Go.Ex
