/- Plain: the table of the reference. -/
import Derived.Test.YthkkjbigfnimbaaRowM
namespace Go.Proofs.Ythkkjbigfnimbaa
open Go.RowKit

theorem LL_step_left {α : Type} [DecidableEq α] (x y : List α) (i j : Nat) : LL x y (i + 1) j ≤ LL x y i j ∧ LL x y i j ≤ LL x y (i + 1) j + 1 := by
  unfold LL
  by_cases h : i < x.length
  · rw [List.drop_eq_getElem_cons h]
    exact ⟨lcs_mono (List.sublist_cons_self _ _) (List.Sublist.refl _), lcs_step_left _ _ _⟩
  · rw [List.drop_of_length_le (l := x) (i := i) (by omega), List.drop_of_length_le (l := x) (i := i + 1) (by omega)]; omega

def i64s (l : List Nat) : List Value := l.map fun (n : Nat) => Value.int .i64 (n : Int)
theorem i64s_get {l : List Nat} {j n : Nat} (h : l[j]? = some n) : (i64s l)[j]? = some (.int .i64 (n : Int)) := by simp [i64s, h]
theorem i64s_set (l : List Nat) (j n : Nat) : (i64s l).set j (.int .i64 (n : Int)) = i64s (l.set j n) := by simp [i64s, List.map_set]

variable {x y : List ByteArray}

/-- Row i, written down to place t. -/
def rowC (x y : List ByteArray) (i t : Nat) : List Nat := (List.range (y.length + 1)).map fun j => if t ≤ j then LL x y i j else 0

theorem rowC_len (x y : List ByteArray) (i t : Nat) : (rowC x y i t).length = y.length + 1 := by simp [rowC]
theorem rowC_get {i t j : Nat} (hj : j ≤ y.length) (ht : t ≤ j) : (rowC x y i t)[j]? = some (LL x y i j) := by
  unfold rowC; rw [range_get _ (by omega)]; simp [ht]
theorem rowC_low {i t j : Nat} (hj : j ≤ y.length) (ht : j < t) : (rowC x y i t)[j]? = some 0 := by
  unfold rowC; rw [range_get _ (by omega)]; simp; omega
theorem rowC_step {i j : Nat} (hj : j ≤ y.length) : (rowC x y i (j + 1)).set j (LL x y i j) = rowC x y i j := by
  apply List.ext_getElem?
  intro k
  by_cases hk : k ≤ y.length
  · by_cases e : j = k
    · subst e; rw [List.getElem?_set_self (by rw [rowC_len]; omega), rowC_get hk (Nat.le_refl _)]
    · rw [List.getElem?_set_ne e]
      by_cases h : j < k
      · rw [rowC_get hk (by omega), rowC_get hk (by omega)]
      · rw [rowC_low hk (by omega), rowC_low hk (by omega)]
  · rw [List.getElem?_eq_none (by rw [List.length_set, rowC_len]; omega), List.getElem?_eq_none (by rw [rowC_len]; omega)]
theorem rowC_zero (i t : Nat) (h : i = x.length ∨ t = y.length) (ht : t ≤ y.length) : rowC x y i t = List.replicate (y.length + 1) 0 := by
  apply List.ext_getElem?
  intro k
  by_cases hk : k ≤ y.length
  · rw [List.getElem?_replicate, if_pos (by omega)]
    by_cases h1 : t ≤ k
    · rw [rowC_get hk h1]
      rcases h with rfl | rfl
      · rw [LL_top x y _ _ (Nat.le_refl _)]
      · rw [LL_end x y _ _ (by omega)]
    · rw [rowC_low hk (by omega)]
  · rw [List.getElem?_eq_none (by rw [rowC_len]; omega), List.getElem?_eq_none (by simp; omega)]

/-- The rows from t on stand. -/
structure RC (x y : List ByteArray) (w wr : World) (t : Nat) : Prop where
  ext : Ext w wr
  all : ∃ sl : List Value, Blk wr w.heap.size 56 sl ∧ sl.length = x.length + 1 ∧ ∀ k, t ≤ k → k ≤ x.length → ∃ g, sl[k]? = some (.slice (some ⟨g, 0, none⟩) (y.length + 1) (y.length + 1)) ∧ w.heap.size < g ∧ Blk wr g 3 (i64s (rowC x y k 0))

/-- Within row i. -/
structure CI (x y : List ByteArray) (w4 wr : World) (gi : Nat) (row : List Nat) : Prop where
  but : But (fun k => k = gi) w4 wr
  row : Blk wr gi 3 (i64s row)

theorem CI.put {w4 wr : World} {gi j v : Nat} {row : List Nat} (h : CI x y w4 wr gi row) (n k : Nat) : CI x y w4 (((wr.drewN n).setCell ⟨gi, j, none⟩ (.int .i64 (v : Int))).drewN k) gi (row.set j v) :=
  ⟨((h.but.drewN n).setCell (fun _ => rfl) _).drewN k, by have := (h.row.drewN n).set j (.int .i64 (v : Int)); rw [i64s_set] at this; exact this.drewN k⟩
theorem CI.drew {w4 wr : World} {gi : Nat} {row : List Nat} (h : CI x y w4 wr gi row) (n : Nat) : CI x y w4 (wr.drewN n) gi row := ⟨h.but.drewN n, h.row.drewN n⟩

/-- The world in which row i is made, and laid into the table. -/
theorem RC.made {w wr w3 : World} {i : Nat} (h : RC x y w wr (i + 1)) (hi : i ≤ x.length) (hE : Ext wr w3) (hB : Blk w3 wr.heap.size 3 (List.replicate (y.length + 1) (.int .i64 0))) :
    ∃ sl : List Value, Blk w3 w.heap.size 56 sl ∧ sl.length = x.length + 1 ∧
      CI x y (w3.setCell ⟨w.heap.size, i, none⟩ (.slice (some ⟨wr.heap.size, 0, none⟩) (y.length + 1) (y.length + 1))) (w3.setCell ⟨w.heap.size, i, none⟩ (.slice (some ⟨wr.heap.size, 0, none⟩) (y.length + 1) (y.length + 1))) wr.heap.size (rowC x y i y.length) ∧
      (w3.setCell ⟨w.heap.size, i, none⟩ (.slice (some ⟨wr.heap.size, 0, none⟩) (y.length + 1) (y.length + 1))).cell? ⟨w.heap.size, i, none⟩ = some (.slice (some ⟨wr.heap.size, 0, none⟩) (y.length + 1) (y.length + 1)) ∧
      ∀ W row, CI x y (w3.setCell ⟨w.heap.size, i, none⟩ (.slice (some ⟨wr.heap.size, 0, none⟩) (y.length + 1) (y.length + 1))) W wr.heap.size row → row = rowC x y i 0 → RC x y w W i := by
  obtain ⟨sl, h1, h2, h3⟩ := h.all
  have e1 := (hE.but (fun _ => False)).blk h1 (fun h => h)
  have hlt := h1.lt
  have hB' := hB.other (p := ⟨w.heap.size, i, none⟩) (by simp; omega) (.slice (some ⟨wr.heap.size, 0, none⟩) (y.length + 1) (y.length + 1))
  have hS := e1.set i (.slice (some ⟨wr.heap.size, 0, none⟩) (y.length + 1) (y.length + 1))
  refine ⟨sl, e1, h2, ⟨But.refl _ _, ?_⟩, hS.cell (by rw [List.getElem?_set_self (by omega)]), ?_⟩
  · rw [rowC_zero i y.length (.inr rfl) (Nat.le_refl _)]
    simpa [i64s] using hB'
  · intro W row hC hrow
    subst hrow
    have hb0 : But (fun k => k = wr.heap.size) (w3.setCell ⟨w.heap.size, i, none⟩ (.slice (some ⟨wr.heap.size, 0, none⟩) (y.length + 1) (y.length + 1))) W := hC.but
    refine ⟨?_, ⟨_, hb0.blk hS (by omega), by simpa using h2, fun k hk hk' => ?_⟩⟩
    · have a1 := (h.ext.trans hE).but (fun _ => False)
      have a2 := a1.setCell (p := ⟨w.heap.size, i, none⟩) (fun h => by simp at h) (.slice (some ⟨wr.heap.size, 0, none⟩) (y.length + 1) (y.length + 1))
      exact (a2.andThen hb0 (fun j hj e => by have := h.ext.size; omega)).ext (fun _ _ h => h)
    · by_cases e : i = k
      · subst e
        exact ⟨wr.heap.size, by rw [List.getElem?_set_self (by omega)], hlt, hC.row⟩
      · obtain ⟨g, b1, b2, b3⟩ := h3 k (by omega) hk'
        have b4 := ((hE.but (fun _ => False)).blk b3 (fun h => h)).other (p := ⟨w.heap.size, i, none⟩) (by simp; omega) (.slice (some ⟨wr.heap.size, 0, none⟩) (y.length + 1) (y.length + 1))
        exact ⟨g, by rw [List.getElem?_set_ne e]; exact b1, b2, hb0.blk b4 (by have := b3.lt; omega)⟩

/-- The row behind, in that world. -/
theorem RC.made2 {w wr w3 : World} {i : Nat} (h : RC x y w wr (i + 1)) (_hi : i ≤ x.length) (hE : Ext wr w3) :
    Ext w (w3.setCell ⟨w.heap.size, i, none⟩ (.slice (some ⟨wr.heap.size, 0, none⟩) (y.length + 1) (y.length + 1))) ∧ w.heap.size < wr.heap.size ∧ (i < x.length →
      ∃ gj, (w3.setCell ⟨w.heap.size, i, none⟩ (.slice (some ⟨wr.heap.size, 0, none⟩) (y.length + 1) (y.length + 1))).cell? ⟨w.heap.size, i + 1, none⟩ = some (.slice (some ⟨gj, 0, none⟩) (y.length + 1) (y.length + 1)) ∧ gj ≠ wr.heap.size ∧ w.heap.size < gj ∧
        Blk (w3.setCell ⟨w.heap.size, i, none⟩ (.slice (some ⟨wr.heap.size, 0, none⟩) (y.length + 1) (y.length + 1))) gj 3 (i64s (rowC x y (i + 1) 0))) := by
  obtain ⟨sl, h1, h2, h3⟩ := h.all
  have e1 := (hE.but (fun _ => False)).blk h1 (fun h => h)
  have hS := e1.set i (.slice (some ⟨wr.heap.size, 0, none⟩) (y.length + 1) (y.length + 1))
  refine ⟨?_, h1.lt, fun hlt => ?_⟩
  · have a1 := (h.ext.trans hE).but (fun _ => False)
    exact (a1.setCell (p := ⟨w.heap.size, i, none⟩) (fun h => by simp at h) _).ext (fun _ _ h => h)
  · obtain ⟨g, b1, b2, b3⟩ := h3 (i + 1) (Nat.le_refl _) hlt
    exact ⟨g, hS.cell (by rw [List.getElem?_set_ne (by omega)]; exact b1), by have := b3.lt; omega, b2, ((hE.but (fun _ => False)).blk b3 (fun h => h)).other (by simp; omega) _⟩

theorem CI.facts {w4 wx : World} {G gi gj i j v : Nat} (h : CI x y w4 wx gi ((rowC x y i (j + 1)).set j v)) (hj : j < y.length) (hG : G < gi) (hne : gj ≠ gi)
    {vi vj : Value} (h1 : w4.cell? ⟨G, i, none⟩ = some vi) (h2 : w4.cell? ⟨G, i + 1, none⟩ = some vj) (h3 : Blk w4 gj 3 (i64s (rowC x y (i + 1) 0))) :
    wx.cell? ⟨G, i, none⟩ = some vi ∧ wx.cell? ⟨G, i + 1, none⟩ = some vj ∧ wx.cell? ⟨gj, j, none⟩ = some (.int .i64 (LL x y (i + 1) j : Int)) ∧ wx.cell? ⟨gj, j + 1, none⟩ = some (.int .i64 (LL x y (i + 1) (j + 1) : Int)) ∧
    wx.cell? ⟨gi, j, none⟩ = some (.int .i64 (v : Int)) ∧ wx.cell? ⟨gi, j + 1, none⟩ = some (.int .i64 (LL x y i (j + 1) : Int)) ∧ wx.frozen? ⟨gi, j, none⟩ = false := by
  have hb := h.but.blk h3 hne
  refine ⟨h.but.cell h1 (by simp; omega), h.but.cell h2 (by simp; omega), hb.cell (i64s_get (rowC_get (by omega) (Nat.zero_le _))), hb.cell (i64s_get (rowC_get (by omega) (Nat.zero_le _))), ?_, ?_, h.row.free j⟩
  · exact h.row.cell (i64s_get (by rw [List.getElem?_set_self (by rw [rowC_len]; omega)]))
  · exact h.row.cell (i64s_get (by rw [List.getElem?_set_ne (by omega)]; exact rowC_get (by omega) (by omega)))

theorem CI.facts0 {w4 wx : World} {gi i j : Nat} (h : CI x y w4 wx gi (rowC x y i (j + 1))) (hj : j < y.length) : CI x y w4 wx gi ((rowC x y i (j + 1)).set j 0) := by
  have e : (rowC x y i (j + 1)).set j 0 = rowC x y i (j + 1) := by
    apply List.ext_getElem?
    intro k
    by_cases e : j = k
    · subst e; rw [List.getElem?_set_self (by rw [rowC_len]; omega), rowC_low (by omega) (by omega)]
    · rw [List.getElem?_set_ne e]
  rw [e]; exact h

theorem CI.again {w4 wr : World} {gi j u v : Nat} {row : List Nat} (h : CI x y w4 wr gi (row.set j u)) (n k : Nat) : CI x y w4 (((wr.drewN n).setCell ⟨gi, j, none⟩ (.int .i64 (v : Int))).drewN k) gi (row.set j v) := by
  have := h.put (j := j) (v := v) n k
  rw [List.set_set] at this
  exact this

/-- What the round leaves in the place is the longest. -/
theorem com_eq {i j : Nat} {a b : ByteArray} (ha : x[i]? = some a) (hb : y[j]? = some b) (v : Nat)
    (hv : v = if a = b ∧ max (LL x y (i + 1) j) (LL x y i (j + 1)) < LL x y (i + 1) (j + 1) + 1 then LL x y (i + 1) (j + 1) + 1 else max (LL x y (i + 1) j) (LL x y i (j + 1))) : LL x y i j = v := by
  have h := LL_rec x y i j a b ha hb
  have s1 := LL_step x y (i + 1) j
  have s2 := LL_step_left x y i (j + 1)
  by_cases e : a = b
  · subst e
    simp only [if_true] at h
    rw [h, hv]
    simp only [true_and]
    split <;> omega
  · rw [if_neg e] at h
    rw [h, hv, if_neg (fun h => e h.1)]

/-- Block g holds the reference's table, all of it from block B on. -/
def TabC (B : Nat) (w : World) (g : Nat) (x y : List ByteArray) : Prop := B ≤ g ∧ ∀ t, t ≤ x.length → ∃ gt, B ≤ gt ∧ w.cell? ⟨g, t, none⟩ = some (.slice (some ⟨gt, 0, none⟩) (y.length + 1) (y.length + 1)) ∧ ∀ j, j ≤ y.length → w.cell? ⟨gt, j, none⟩ = some (.int .i64 (LL x y t j : Int))

theorem TabC.but {S : Nat → Prop} {B : Nat} {w w' : World} {g : Nat} (h : TabC B w g x y) (he : But S w w') (hS : ∀ k, S k → k < B) : TabC B w' g x y := ⟨h.1, fun t ht => by
  obtain ⟨gt, h0, h1, h2⟩ := h.2 t ht
  exact ⟨gt, h0, he.cell h1 (fun s => by have := hS _ s; have := h.1; simp at *; omega), fun j hj => he.cell (h2 j hj) (fun s => by have := hS _ s; simp at *; omega)⟩⟩

theorem RC.table {w wr : World} (h : RC x y w wr 0) : TabC w.heap.size wr w.heap.size x y := ⟨Nat.le_refl _, fun t ht => by
  obtain ⟨sl, h1, h2, h3⟩ := h.all
  obtain ⟨g, a1, a0, a2⟩ := h3 t (Nat.zero_le _) ht
  exact ⟨g, by omega, h1.cell a1, fun j hj => a2.cell (i64s_get (rowC_get hj (Nat.zero_le _)))⟩⟩

theorem RC.start {w w1 : World} (hE : Ext w w1) (hB : Blk w1 w.heap.size 56 (List.replicate (x.length + 1) (.slice none 0 0))) : RC x y w w1 (x.length + 1) :=
  ⟨hE, ⟨_, hB, by simp, fun k h1 h2 => by omega⟩⟩

theorem drop_cons {α : Type} {l : List α} {i : Nat} {a : α} (h : l[i]? = some a) : l.drop i = a :: l.drop (i + 1) := by
  obtain ⟨e1, e2⟩ := List.getElem?_eq_some_iff.1 h
  rw [List.drop_eq_getElem_cons e1, e2]

/-- The first place that the reference takes is the alignment's. -/
theorem ref_pick {α : Type} [DecidableEq α] {A B : List α} {i k j L : Nat} {c : α} (ha : A[i]? = some c) (hb : B[j]? = some c) (hk : k ≤ j) (hL : LL A B i k = L) (he : LL A B (i + 1) (j + 1) + 1 = L)
    (hno : ∀ j', k ≤ j' → j' < j → ¬ (B[j']? = some c ∧ LL A B (i + 1) (j' + 1) + 1 = L)) :
    al i (A.drop i) k (B.drop k) = (i, j) :: al (i + 1) (A.drop (i + 1)) (j + 1) (B.drop (j + 1)) := by
  have hj := (List.getElem?_eq_some_iff.1 hb).1
  have hbk : (B.drop k)[j - k]? = some c := by rw [List.getElem?_drop]; rw [show k + (j - k) = j by omega]; exact hb
  have h1 := drop_idx hbk
  have h2 : (B.drop k).idxOf c < (B.drop k).length := by have := (List.getElem?_eq_some_iff.1 hbk).1; omega
  have h3 := idx_get h2
  rw [List.getElem?_drop] at h3
  have h4 := take_le (xs := A.drop (i + 1)) (idx_get h2)
  rw [← drop_cons ha] at h4
  unfold LL at hL he hno
  rw [hL, List.drop_drop] at h4
  have h5 : (B.drop k).idxOf c = j - k := by
    by_cases hlt : (B.drop k).idxOf c = j - k
    · exact hlt
    · exfalso
      refine hno (k + (B.drop k).idxOf c) (by omega) (by omega) ⟨h3, ?_⟩
      have h6 : lcs (A.drop (i + 1)) (B.drop (j + 1)) ≤ lcs (A.drop (i + 1)) (B.drop (k + (B.drop k).idxOf c + 1)) := lcs_mono (List.Sublist.refl _) (drop_sub (by omega))
      rw [show k + ((B.drop k).idxOf c + 1) = k + (B.drop k).idxOf c + 1 by omega] at h4
      omega
  rw [drop_cons ha, al_cons_pos (t := j - k) h5 (by omega) (by rw [← drop_cons ha, List.drop_drop, hL, show k + (j - k + 1) = j + 1 by omega, he]), List.drop_drop, show k + (j - k) = j by omega, show k + (j - k + 1) = j + 1 by omega]

/-- If no place is taken, the next one of A is tried. -/
theorem ref_skip {α : Type} [DecidableEq α] {A B : List α} {i k L : Nat} {c : α} (ha : A[i]? = some c) (hL : LL A B i k = L)
    (hno : ∀ j', k ≤ j' → j' < B.length → ¬ (B[j']? = some c ∧ LL A B (i + 1) (j' + 1) + 1 = L)) :
    al i (A.drop i) k (B.drop k) = al (i + 1) (A.drop (i + 1)) k (B.drop k) ∧ LL A B (i + 1) k = L := by
  have hneg : ¬ ((B.drop k).idxOf c < (B.drop k).length ∧ lcs (A.drop (i + 1)) ((B.drop k).drop ((B.drop k).idxOf c + 1)) + 1 = lcs (c :: A.drop (i + 1)) (B.drop k)) := by
    rintro ⟨h2, h3⟩
    have h4 := idx_get h2
    rw [List.getElem?_drop] at h4
    have h5 := (List.getElem?_eq_some_iff.1 h4).1
    refine hno (k + (B.drop k).idxOf c) (by omega) h5 ⟨h4, ?_⟩
    rw [← drop_cons ha, List.drop_drop] at h3
    unfold LL at hL ⊢
    rw [← hL, show k + (B.drop k).idxOf c + 1 = k + ((B.drop k).idxOf c + 1) by omega]
    exact h3
  refine ⟨by rw [drop_cons ha, al_cons_neg hneg], ?_⟩
  have := skip_eq hneg
  rw [← drop_cons ha] at this
  unfold LL at hL ⊢
  rw [← this]; exact hL

/-- The cells of a list of pairs. -/
def pairs (ps : List (Nat × Nat)) : List Value := ps.flatMap fun p => [.int .i64 (p.1 : Int), .int .i64 (p.2 : Int)]
theorem pairs_snoc (ps : List (Nat × Nat)) (p : Nat × Nat) : pairs (ps ++ [p]) = pairs ps ++ [.int .i64 (p.1 : Int), .int .i64 (p.2 : Int)] := by simp [pairs]

/-- The reference's outer loop. -/
def RefO (A B : List ByteArray) (w2 : World) (v6 v7 v8 : Value) (wr : World) (i k : Nat) : Prop :=
  ∃ ps, i ≤ A.length ∧ k ≤ B.length ∧ v7 = .int .i64 (i : Int) ∧ v8 = .int .i64 (k : Int) ∧ Own w2.heap.size 33 2 w2 wr v6 ps.length (pairs ps) ∧ al 0 A 0 B = ps ++ al i (A.drop i) k (B.drop k) ∧ ps.length ≤ i

/-- The reference's two inner loops: nothing is found yet (then 'more' says what is known), or a pair has been. -/
def RefI (A B : List ByteArray) (w2 : World) (i0 k0 : Nat) (more : Value → World → Prop) (v6 v7 v8 v9 : Value) (wr : World) : Prop :=
  (v7 = .int .i64 (i0 : Int) ∧ v8 = .int .i64 (k0 : Int) ∧ v9 = .bool false ∧ more v6 wr) ∨ (v9 = .bool true ∧ ∃ i k, i0 < i ∧ RefO A B w2 v6 v7 v8 wr i k)

end Go.Proofs.Ythkkjbigfnimbaa
