/- Plain: the differences of two sequences, applied, make the other one. -/
import Derived.Test.YthkkjbigfnimbaaEdM
namespace Go.Proofs.Ythkkjbigfnimbaa

theorem take_drop_app {α : Type} (l : List α) {e i p : Nat} (h1 : e ≤ i) (h2 : i ≤ p) : (l.take i).drop e ++ (l.take p).drop i = (l.take p).drop e := by
  have h3 : l.take i = (l.take p).take i := by rw [List.take_take]; congr 1; omega
  rw [h3]
  generalize l.take p = m
  have h4 := List.take_append_drop (i - e) (m.drop e)
  rw [List.drop_drop, show e + (i - e) = i by omega] at h4
  rw [List.drop_take]
  exact h4

theorem app_step {a b : List ByteArray} {p1 p2 e : Nat} {acc : List ByteArray} {c : ByteArray} (ha : a[p1]? = some c) (hb : b[p2]? = some c) (he : e ≤ p1) (h : acc ++ (a.take p1).drop e = b.take p2) : acc ++ (a.take (p1 + 1)).drop e = b.take (p2 + 1) := by
  have hl := (List.getElem?_eq_some_iff.1 ha).1
  rw [take_snoc ha, take_snoc hb, List.drop_append, show e - (a.take p1).length = 0 by simp; omega, List.drop_zero, ← List.append_assoc, h]

theorem apply_eds (a b : List ByteArray) : ∀ (ps : List (Nat × Nat)) (i j e : Nat) (acc : List ByteArray), Asc i j (ps ++ [(a.length, b.length)]) → (∀ p ∈ ps, ∃ c, a[p.1]? = some c ∧ b[p.2]? = some c) →
    e ≤ i → i ≤ a.length → j ≤ b.length → acc ++ (a.take i).drop e = b.take j → applyE a (eds a b (ps ++ [(a.length, b.length)]) i j) e acc = some b := by
  have hgood : ∀ (i j p1 p2 e : Nat), e ≤ i → i ≤ p1 → p1 ≤ a.length → ¬ bad a ⟨i, j, (a.take p1).drop i, (b.take p2).drop j⟩ e := by
    intro i j p1 p2 e h1 h2 h3
    unfold bad
    simp only [List.length_drop, List.length_take, Int.toNat_natCast]
    intro h
    rcases h with h | h | h | h
    · omega
    · omega
    · omega
    · exact h (by rw [show i + (min p1 a.length - i) = p1 by omega])
  intro ps
  induction ps with
  | nil =>
    intro i j e acc hasc _ he hi hj hacc
    obtain ⟨h1, h2, _⟩ := hasc
    simp only at h1 h2
    simp only [List.nil_append, eds, List.append_nil]
    by_cases hc : i < a.length ∨ j < b.length
    · rw [if_pos hc]
      simp only [applyE]
      rw [if_neg (hgood i j _ _ e he h1 (Nat.le_refl _))]
      simp only [Int.toNat_natCast, List.length_drop, List.length_take]
      rw [hacc, show i + (min a.length a.length - i) = a.length by omega, List.drop_length, List.append_nil]
      have := take_drop_app b (e := 0) (i := j) (p := b.length) (Nat.zero_le _) hj
      simp only [List.drop_zero] at this
      rw [this, List.take_length]
    · rw [if_neg hc]
      simp only [applyE]
      obtain rfl : i = a.length := by omega
      obtain rfl : j = b.length := by omega
      rw [List.take_length, List.take_length] at hacc
      rw [hacc]
  | cons p ps ih =>
    intro i j e acc hasc hps he hi hj hacc
    obtain ⟨h1, h2, h3⟩ := hasc
    obtain ⟨c, hca, hcb⟩ := hps p (by simp)
    have hpa := (List.getElem?_eq_some_iff.1 hca).1
    have hpb := (List.getElem?_eq_some_iff.1 hcb).1
    simp only [List.cons_append, eds]
    by_cases hc : i < p.1 ∨ j < p.2
    · rw [if_pos hc]
      simp only [List.cons_append, List.nil_append, applyE]
      rw [if_neg (hgood i j _ _ e he h1 (by omega))]
      simp only [Int.toNat_natCast, List.length_drop, List.length_take]
      rw [hacc, show i + (min p.1 a.length - i) = p.1 by omega]
      have e1 : b.take j ++ (b.take p.2).drop j = b.take p.2 := by
        have := take_drop_app b (e := 0) (i := j) (p := p.2) (Nat.zero_le _) h2
        simpa using this
      rw [e1]
      refine ih (p.1 + 1) (p.2 + 1) p.1 (b.take p.2) h3 (fun q hq => hps q (List.mem_cons_of_mem _ hq)) (by omega) (by omega) (by omega) ?_
      refine app_step hca hcb (Nat.le_refl _) ?_
      rw [List.drop_of_length_le (by simp; omega), List.append_nil]
    · rw [if_neg hc, List.nil_append]
      obtain rfl : i = p.1 := by omega
      obtain rfl : j = p.2 := by omega
      exact ih (p.1 + 1) (p.2 + 1) e acc h3 (fun q hq => hps q (List.mem_cons_of_mem _ hq)) (by omega) (by omega) (by omega) (app_step hca hcb he hacc)

theorem apply_edits (a b : List ByteArray) : applyE a (editsOf a b) 0 [] = some b := by
  refine apply_eds a b (al 0 a 0 b) 0 0 0 [] (alEnd_asc a b) (fun p hp => ?_) (Nat.le_refl _) (Nat.zero_le _) (Nat.zero_le _) (by simp)
  obtain ⟨_, _, x, h1, h2⟩ := al_mem a 0 0 b p hp
  exact ⟨x, by simpa using h1, by simpa using h2⟩

theorem apply_nil (a : List ByteArray) : applyE a [] 0 [] = some a := by simp [applyE]

theorem eds_self (a : List ByteArray) : ∀ (n i : Nat), a.length - i = n → i ≤ a.length → eds a a (al i (a.drop i) i (a.drop i) ++ [(a.length, a.length)]) i i = [] := by
  intro n
  induction n with
  | zero =>
    intro i h hi
    obtain rfl : i = a.length := by omega
    simp [al, eds]
  | succ n ih =>
    intro i h hi
    have hlt : i < a.length := by omega
    rw [List.drop_eq_getElem_cons hlt, al_same]
    simp only [List.cons_append, eds]
    rw [if_neg (by omega), List.nil_append]
    exact ih (i + 1) (by omega) (by omega)

theorem edits_nil_iff (a b : List ByteArray) : (editsOf a b).length = 0 ↔ a = b := by
  constructor
  · intro h
    have h1 := apply_edits a b
    rw [List.eq_nil_of_length_eq_zero h, apply_nil] at h1
    exact Option.some.inj h1
  · intro h
    subst h
    have := eds_self a a.length 0 (by omega) (Nat.zero_le _)
    simp only [List.drop_zero] at this
    unfold editsOf alEnd
    rw [this]; rfl

theorem eds_len (a b : List ByteArray) : ∀ (ps : List (Nat × Nat)) (i j : Nat), (eds a b ps i j).length ≤ ps.length := by
  intro ps
  induction ps with
  | nil => intro i j; simp [eds]
  | cons p ps ih =>
    intro i j
    have := ih (p.1 + 1) (p.2 + 1)
    simp only [eds, List.length_append, List.length_cons]
    split <;> simp <;> omega
theorem eds_mem (a b : List ByteArray) : ∀ (ps : List (Nat × Nat)) (i j : Nat) (x : Ed), x ∈ eds a b ps i j → x.l.length ≤ a.length ∧ x.r.length ≤ b.length := by
  intro ps
  induction ps with
  | nil => intro i j x h; simp [eds] at h
  | cons p ps ih =>
    intro i j x h
    simp only [eds, List.mem_append] at h
    rcases h with h | h
    · split at h
      · simp at h; subst h; simp; omega
      · cases h
    · exact ih _ _ x h

end Go.Proofs.Ythkkjbigfnimbaa
