/- Plain: longest common subsequences and the alignment; no program in sight. -/
import Derived.Test.YthkkjbigfnimbaaPop
namespace Go.Proofs.Ythkkjbigfnimbaa
/-- Two subsequences of b meet. -/
theorem meet {α : Type} (b : List α) : ∀ s t : List α, s.Sublist b → t.Sublist b → ∃ u : List α, u.Sublist s ∧ u.Sublist t ∧ s.length + t.length ≤ b.length + u.length := by
  induction b with
  | nil => intro s t h1 h2; rw [List.sublist_nil.1 h1, List.sublist_nil.1 h2]; exact ⟨[], List.nil_sublist _, List.nil_sublist _, by simp⟩
  | cons x b ih =>
    intro s t h1 h2
    rcases List.sublist_cons_iff.1 h1 with g1 | ⟨r1, rfl, g1⟩ <;> rcases List.sublist_cons_iff.1 h2 with g2 | ⟨r2, rfl, g2⟩
    · obtain ⟨u, a1, a2, a3⟩ := ih s t g1 g2; exact ⟨u, a1, a2, by simp; omega⟩
    · obtain ⟨u, a1, a2, a3⟩ := ih s r2 g1 g2; exact ⟨u, a1, a2.cons _, by simp; omega⟩
    · obtain ⟨u, a1, a2, a3⟩ := ih r1 t g1 g2; exact ⟨u, a1.cons _, a2, by simp; omega⟩
    · obtain ⟨u, a1, a2, a3⟩ := ih r1 r2 g1 g2; exact ⟨x :: u, a1.cons_cons x, a2.cons_cons x, by simp; omega⟩

theorem sub_at {α : Type} {b : List α} {x : α} {t : Nat} (h : b[t]? = some x) {s : List α} (hs : s.Sublist (b.drop (t + 1))) : (x :: s).Sublist b := by
  have hlt := (List.getElem?_eq_some_iff.1 h).1
  have e : b.drop t = x :: b.drop (t + 1) := by
    rw [List.drop_eq_getElem_cons hlt, (List.getElem?_eq_some_iff.1 h).2]
  have h1 : (x :: s).Sublist (b.drop t) := by rw [e]; exact hs.cons_cons x
  exact h1.trans (List.drop_sublist t b)

theorem drop_sub {α : Type} {b : List α} {m n : Nat} (h : m ≤ n) : (b.drop n).Sublist (b.drop m) := by
  have : b.drop n = (b.drop m).drop (n - m) := by rw [List.drop_drop]; congr 1; omega
  rw [this]; exact List.drop_sublist _ _

section
variable {α : Type} [DecidableEq α]

def lcsRow (x : α) (f : List α → Nat) : List α → Nat
  | [] => 0
  | y :: ys => if x = y then f ys + 1 else max (f (y :: ys)) (lcsRow x f ys)

/-- The length of a longest common subsequence. -/
def lcs : List α → List α → Nat
  | [], _ => 0
  | x :: xs, b => lcsRow x (lcs xs) b

theorem lcs_nil_left (b : List α) : lcs [] b = 0 := rfl
theorem lcs_nil_right (a : List α) : lcs a ([] : List α) = 0 := by cases a <;> rfl
theorem lcs_cons (x y : α) (xs ys : List α) : lcs (x :: xs) (y :: ys) = if x = y then lcs xs ys + 1 else max (lcs xs (y :: ys)) (lcs (x :: xs) ys) := rfl

theorem lcs_ge (a : List α) : ∀ (b s : List α), s.Sublist a → s.Sublist b → s.length ≤ lcs a b := by
  induction a with
  | nil => intro b s h _; rw [List.sublist_nil.1 h]; simp
  | cons x xs iha =>
    intro b
    induction b with
    | nil => intro s _ h; rw [List.sublist_nil.1 h]; simp
    | cons y ys ihb =>
      intro s h1 h2
      rw [lcs_cons]
      split
      · cases s with
        | nil => simp
        | cons z s =>
          have t1 : s.Sublist xs := by simpa using h1.tail
          have t2 : s.Sublist ys := by simpa using h2.tail
          have := iha ys s t1 t2
          simp; omega
      · rename_i hne
        rcases List.sublist_cons_iff.1 h1 with h | ⟨r, rfl, hr⟩
        · have := iha (y :: ys) s h h2
          omega
        · rcases List.sublist_cons_iff.1 h2 with h' | ⟨r', e, hr'⟩
          · have := ihb (x :: r) h1 h'
            omega
          · exact absurd (List.cons.inj e).1 hne

theorem lcs_ex (a : List α) : ∀ (b : List α), ∃ s : List α, s.Sublist a ∧ s.Sublist b ∧ s.length = lcs a b := by
  induction a with
  | nil => intro b; exact ⟨[], List.nil_sublist _, List.nil_sublist _, rfl⟩
  | cons x xs iha =>
    intro b
    induction b with
    | nil => exact ⟨[], List.nil_sublist _, List.nil_sublist _, rfl⟩
    | cons y ys ihb =>
      rw [lcs_cons]
      split
      · rename_i e
        subst e
        obtain ⟨s, h1, h2, h3⟩ := iha ys
        exact ⟨x :: s, h1.cons_cons x, h2.cons_cons x, by simp [h3]⟩
      · by_cases h : lcs xs (y :: ys) ≤ lcs (x :: xs) ys
        · obtain ⟨s, h1, h2, h3⟩ := ihb
          exact ⟨s, h1, h2.cons y, by rw [h3]; omega⟩
        · obtain ⟨s, h1, h2, h3⟩ := iha (y :: ys)
          exact ⟨s, h1.cons x, h2, by rw [h3]; omega⟩

theorem lcs_mono {a b a' b' : List α} (h1 : a.Sublist a') (h2 : b.Sublist b') : lcs a b ≤ lcs a' b' := by
  obtain ⟨s, t1, t2, t3⟩ := lcs_ex a b
  rw [← t3]
  exact lcs_ge _ _ _ (t1.trans h1) (t2.trans h2)

theorem lcs_comm (a b : List α) : lcs a b = lcs b a := by
  have h : ∀ a b : List α, lcs a b ≤ lcs b a := fun a b => by
    obtain ⟨s, t1, t2, t3⟩ := lcs_ex a b
    rw [← t3]
    exact lcs_ge _ _ _ t2 t1
  exact Nat.le_antisymm (h a b) (h b a)

theorem lcs_step_right (a : List α) (y : α) (ys : List α) : lcs a (y :: ys) ≤ lcs a ys + 1 := by
  obtain ⟨s, t1, t2, t3⟩ := lcs_ex a (y :: ys)
  rw [← t3]
  cases s with
  | nil => simp
  | cons z s =>
    have h2 : s.Sublist ys := by simpa using t2.tail
    have h1 : s.Sublist a := (List.sublist_cons_self z s).trans t1
    have := lcs_ge _ _ _ h1 h2
    simp; omega
theorem lcs_step_left (x : α) (xs b : List α) : lcs (x :: xs) b ≤ lcs xs b + 1 := by
  rw [lcs_comm, lcs_comm xs]; exact lcs_step_right b x xs
theorem lcs_le_left (a b : List α) : lcs a b ≤ a.length := by
  obtain ⟨s, t1, t2, t3⟩ := lcs_ex a b
  rw [← t3]; exact t1.length_le
theorem lcs_le_right (a b : List α) : lcs a b ≤ b.length := by
  obtain ⟨s, t1, t2, t3⟩ := lcs_ex a b
  rw [← t3]; exact t2.length_le

theorem lcs_map {β : Type} [DecidableEq β] (f : α → β) (a b : List α) (hf : ∀ x ∈ a, ∀ y ∈ b, f x = f y → x = y) : lcs (a.map f) (b.map f) = lcs a b := by
  induction a generalizing b with
  | nil => rfl
  | cons x xs iha =>
    induction b with
    | nil => simp [lcs_nil_right]
    | cons y ys ihb =>
      have h1 := iha (y :: ys) (fun x' hx' y' hy' => hf x' (List.mem_cons_of_mem _ hx') y' hy')
      have h2 := ihb (fun x' hx' y' hy' => hf x' hx' y' (List.mem_cons_of_mem _ hy'))
      have h3 := iha ys (fun x' hx' y' hy' => hf x' (List.mem_cons_of_mem _ hx') y' (List.mem_cons_of_mem _ hy'))
      simp only [List.map_cons] at h1 h2 ⊢
      rw [lcs_cons, lcs_cons, h1, h2, h3]
      have : (f x = f y) ↔ x = y := ⟨hf x (by simp) y (by simp), fun e => by rw [e]⟩
      simp only [this]

theorem lcs_triangle (a b c : List α) : lcs a b + lcs b c ≤ b.length + lcs a c := by
  obtain ⟨s, s1, s2, s3⟩ := lcs_ex a b
  obtain ⟨t, t1, t2, t3⟩ := lcs_ex b c
  obtain ⟨u, u1, u2, u3⟩ := meet b s t s2 t1
  have := lcs_ge a c u (u1.trans s1) (u2.trans t2)
  omega

theorem lcs_self (a : List α) : lcs a a = a.length := Nat.le_antisymm (lcs_le_left a a) (lcs_ge a a a (List.Sublist.refl _) (List.Sublist.refl _))
theorem lcs_full {a b : List α} (h1 : lcs a b = a.length) (h2 : lcs a b = b.length) : a = b := by
  obtain ⟨s, t1, t2, t3⟩ := lcs_ex a b
  have e1 := t1.eq_of_length (by omega)
  have e2 := t2.eq_of_length (by omega)
  rw [← e1, ← e2]

/-- The alignment from places i and k on. -/
def al (i : Nat) : List α → Nat → List α → List (Nat × Nat)
  | [], _, _ => []
  | x :: xs, k, b =>
    if b.idxOf x < b.length ∧ lcs xs (b.drop (b.idxOf x + 1)) + 1 = lcs (x :: xs) b then (i, k + b.idxOf x) :: al (i + 1) xs (k + b.idxOf x + 1) (b.drop (b.idxOf x + 1))
    else al (i + 1) xs k b

theorem drop_idx {b : List α} {x : α} {t : Nat} (h : b[t]? = some x) : b.idxOf x ≤ t := by
  have hlt := (List.getElem?_eq_some_iff.1 h).1
  by_cases hh : b.idxOf x ≤ t
  · exact hh
  · have h5 : t < b.findIdx (· == x) := by have e : b.idxOf x = b.findIdx (· == x) := rfl; omega
    have h6 := List.not_of_lt_findIdx h5
    simp [(List.getElem?_eq_some_iff.1 h).2] at h6

theorem idx_cons_ne {x y : α} {ys : List α} (h : y ≠ x) : (y :: ys).idxOf x = ys.idxOf x + 1 := by
  have hb : (y == x) = false := by simp [h]
  rw [List.idxOf_cons, hb]; rfl

theorem idx_get {b : List α} {x : α} (h : b.idxOf x < b.length) : b[b.idxOf x]? = some x := by
  rw [List.getElem?_eq_getElem h, List.getElem_idxOf]

/-- Whatever place of x is taken, no more is gained than the longest. -/
theorem take_le {x : α} {xs b : List α} {t : Nat} (h : b[t]? = some x) : lcs xs (b.drop (t + 1)) + 1 ≤ lcs (x :: xs) b := by
  obtain ⟨s, t1, t2, t3⟩ := lcs_ex xs (b.drop (t + 1))
  have := lcs_ge (x :: xs) b (x :: s) (t1.cons_cons x) (sub_at h t2)
  simp at this; omega

/-- If no place of x reaches the longest, x is not needed. -/
theorem skip_eq {x : α} {xs b : List α} (h : ¬ (b.idxOf x < b.length ∧ lcs xs (b.drop (b.idxOf x + 1)) + 1 = lcs (x :: xs) b)) : lcs (x :: xs) b = lcs xs b := by
  refine Nat.le_antisymm ?_ (lcs_mono (List.sublist_cons_self x xs) (List.Sublist.refl _))
  obtain ⟨s, t1, t2, t3⟩ := lcs_ex (x :: xs) b
  rcases List.sublist_cons_iff.1 t1 with g1 | ⟨r, rfl, g1⟩
  · rw [← t3]; exact lcs_ge _ _ _ g1 t2
  · exfalso
    apply h
    have hmem : x ∈ b := t2.subset (by simp)
    have hlt := List.idxOf_lt_length_of_mem hmem
    refine ⟨hlt, Nat.le_antisymm (take_le (idx_get hlt)) ?_⟩
    rw [← t3]
    simp only [List.length_cons]
    have hr : r.Sublist (b.drop (b.idxOf x + 1)) := by
      clear t1 g1 t3 h hlt hmem
      induction b with
      | nil => simp at t2
      | cons y ys ih =>
        by_cases e : y = x
        · subst e
          simp only [List.idxOf_cons_self, Nat.zero_add, List.drop_succ_cons, List.drop_zero]
          simpa using t2.tail
        · rcases List.sublist_cons_iff.1 t2 with g2 | ⟨r', e', _⟩
          · rw [idx_cons_ne e, List.drop_succ_cons]
            exact ih g2
          · exact absurd (List.cons.inj e').1.symm e
    have := lcs_ge xs _ r g1 hr
    omega

theorem al_cons_pos {i k t : Nat} {x : α} {xs b : List α} (ht : b.idxOf x = t) (h1 : t < b.length) (h2 : lcs xs (b.drop (t + 1)) + 1 = lcs (x :: xs) b) :
    al i (x :: xs) k b = (i, k + t) :: al (i + 1) xs (k + t + 1) (b.drop (t + 1)) := by
  subst ht; simp only [al]; rw [if_pos ⟨h1, h2⟩]
theorem al_cons_neg {i k : Nat} {x : α} {xs b : List α} (h : ¬ (b.idxOf x < b.length ∧ lcs xs (b.drop (b.idxOf x + 1)) + 1 = lcs (x :: xs) b)) : al i (x :: xs) k b = al (i + 1) xs k b := by
  simp only [al]; rw [if_neg h]

theorem al_zero {b : List α} : ∀ (a : List α) (i k : Nat), lcs a b = 0 → al i a k b = [] := by
  intro a
  induction a with
  | nil => intro i k _; rfl
  | cons x xs ih =>
    intro i k h
    have hn : ¬ (b.idxOf x < b.length ∧ lcs xs (b.drop (b.idxOf x + 1)) + 1 = lcs (x :: xs) b) := by omega
    rw [al_cons_neg hn]
    exact ih _ _ (by rw [← skip_eq hn]; exact h)

theorem al_same (i k : Nat) (x : α) (xs ys : List α) : al i (x :: xs) k (x :: ys) = (i, k) :: al (i + 1) xs (k + 1) ys := by
  rw [al_cons_pos (t := 0) (by simp) (by simp) (by simp [lcs_cons])]
  simp

theorem al_length : ∀ (a : List α) (i k : Nat) (b : List α), (al i a k b).length = lcs a b := by
  intro a
  induction a with
  | nil => intro i k b; rfl
  | cons x xs ih =>
    intro i k b
    by_cases h : b.idxOf x < b.length ∧ lcs xs (b.drop (b.idxOf x + 1)) + 1 = lcs (x :: xs) b
    · rw [al_cons_pos rfl h.1 h.2, List.length_cons, ih, h.2]
    · rw [al_cons_neg h, ih, skip_eq h]

/-- Each pair lies behind the places, and the pairs ascend. -/
def Asc (i k : Nat) : List (Nat × Nat) → Prop
  | [] => True
  | p :: l => i ≤ p.1 ∧ k ≤ p.2 ∧ Asc (p.1 + 1) (p.2 + 1) l

theorem Asc.mono {i k i' k' : Nat} {l : List (Nat × Nat)} (h : Asc i k l) (hi : i' ≤ i) (hk : k' ≤ k) : Asc i' k' l := by
  cases l with
  | nil => trivial
  | cons p l => exact ⟨by have := h.1; omega, by have := h.2.1; omega, h.2.2⟩

theorem al_asc : ∀ (a : List α) (i k : Nat) (b : List α), Asc i k (al i a k b) := by
  intro a
  induction a with
  | nil => intro i k b; trivial
  | cons x xs ih =>
    intro i k b
    by_cases h : b.idxOf x < b.length ∧ lcs xs (b.drop (b.idxOf x + 1)) + 1 = lcs (x :: xs) b
    · rw [al_cons_pos rfl h.1 h.2]
      exact ⟨Nat.le_refl _, by simp, ih _ _ _⟩
    · rw [al_cons_neg h]
      exact (ih (i + 1) k b).mono (by omega) (Nat.le_refl _)

/-- Each pair has equal elements. -/
theorem al_mem : ∀ (a : List α) (i k : Nat) (b : List α) (p : Nat × Nat), p ∈ al i a k b → i ≤ p.1 ∧ k ≤ p.2 ∧ ∃ x, a[p.1 - i]? = some x ∧ b[p.2 - k]? = some x := by
  intro a
  induction a with
  | nil => intro i k b p h; cases h
  | cons x xs ih =>
    intro i k b p hp
    by_cases h : b.idxOf x < b.length ∧ lcs xs (b.drop (b.idxOf x + 1)) + 1 = lcs (x :: xs) b
    · rw [al_cons_pos rfl h.1 h.2] at hp
      rcases List.mem_cons.1 hp with rfl | hp
      · exact ⟨Nat.le_refl _, by simp, x, by simp, by simpa using idx_get h.1⟩
      · obtain ⟨h1, h2, z, h3, h4⟩ := ih _ _ _ _ hp
        refine ⟨by omega, by omega, z, ?_, ?_⟩
        · rw [show p.1 - i = (p.1 - (i + 1)) + 1 by omega, List.getElem?_cons_succ]; exact h3
        · rw [List.getElem?_drop] at h4
          rw [← h4]; congr 1; omega
    · rw [al_cons_neg h] at hp
      obtain ⟨h1, h2, z, h3, h4⟩ := ih _ _ _ _ hp
      refine ⟨by omega, h2, z, ?_, h4⟩
      rw [show p.1 - i = (p.1 - (i + 1)) + 1 by omega, List.getElem?_cons_succ]; exact h3

theorem al_map {β : Type} [DecidableEq β] (f : α → β) : ∀ (a b : List α) (i k : Nat), (∀ x ∈ a, ∀ y ∈ b, f x = f y → x = y) → al i (a.map f) k (b.map f) = al i a k b := by
  intro a
  induction a with
  | nil => intros; rfl
  | cons x xs ih =>
    intro b i k hf
    have hidx : (b.map f).idxOf (f x) = b.idxOf x := by
      have hfx : ∀ y ∈ b, f x = f y → x = y := fun y hy => hf x (by simp) y hy
      clear hf ih
      induction b with
      | nil => rfl
      | cons y ys ihb =>
        by_cases e : y = x
        · subst e; simp
        · have e' : f y ≠ f x := fun h => e (hfx y (by simp) h.symm).symm
          rw [List.map_cons, idx_cons_ne e', idx_cons_ne e, ihb (fun z hz => hfx z (List.mem_cons_of_mem _ hz))]
    have hd : ∀ t, lcs (xs.map f) ((b.map f).drop t) = lcs xs (b.drop t) := fun t => by
      rw [← List.map_drop]; exact lcs_map f xs _ (fun x' hx' y' hy' => hf x' (List.mem_cons_of_mem _ hx') y' (List.mem_of_mem_drop hy'))
    have hl : lcs (f x :: xs.map f) (b.map f) = lcs (x :: xs) b := by rw [← List.map_cons]; exact lcs_map f (x :: xs) b hf
    simp only [List.map_cons, al, hidx, List.length_map, hd, hl]
    rw [← List.map_drop, ih _ _ _ (fun x' hx' y' hy' => hf x' (List.mem_cons_of_mem _ hx') y' (List.mem_of_mem_drop hy')), ih _ _ _ (fun x' hx' y' hy' => hf x' (List.mem_cons_of_mem _ hx') y' hy')]

end
end Go.Proofs.Ythkkjbigfnimbaa
