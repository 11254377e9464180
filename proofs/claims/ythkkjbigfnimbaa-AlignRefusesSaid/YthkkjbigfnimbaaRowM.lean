/- Plain: the rows of the alignment's table. -/
import Derived.Test.YthkkjbigfnimbaaMem
namespace Go.Proofs.Ythkkjbigfnimbaa
open Go.RowKit

/-- The length of a longest common subsequence from places i and j on. -/
def LL {α : Type} [DecidableEq α] (x y : List α) (i j : Nat) : Nat := lcs (x.drop i) (y.drop j)
def bit (x y : List Int) (i j : Nat) : Nat := LL x y i j - LL x y i (j + 1)
def rowv (x y : List Int) (i : Nat) : Nat := packed (bit x y i) 0 y.length
def i32s (l : List Nat) : List Value := l.map fun (n : Nat) => Value.int .i32 (n : Int)

theorem LL_end {α : Type} [DecidableEq α] (x y : List α) (i j : Nat) (h : y.length ≤ j) : LL x y i j = 0 := by
  unfold LL; rw [List.drop_of_length_le h, lcs_nil_right]
theorem LL_top {α : Type} [DecidableEq α] (x y : List α) (i j : Nat) (h : x.length ≤ i) : LL x y i j = 0 := by
  unfold LL; rw [List.drop_of_length_le h, lcs_nil_left]
theorem LL_le {α : Type} [DecidableEq α] (x y : List α) (i j : Nat) : LL x y i j ≤ y.length - j := by
  unfold LL; have := lcs_le_right (x.drop i) (y.drop j); simpa using this
theorem LL_step {α : Type} [DecidableEq α] (x y : List α) (i j : Nat) : LL x y i (j + 1) ≤ LL x y i j ∧ LL x y i j ≤ LL x y i (j + 1) + 1 := by
  unfold LL
  by_cases h : j < y.length
  · rw [List.drop_eq_getElem_cons h]
    exact ⟨lcs_mono (List.Sublist.refl _) (List.sublist_cons_self _ _), lcs_step_right _ _ _⟩
  · rw [List.drop_of_length_le (l := y) (i := j) (by omega), List.drop_of_length_le (l := y) (i := j + 1) (by omega)]; omega
theorem LL_rec {α : Type} [DecidableEq α] (x y : List α) (i j : Nat) (a b : α) (ha : x[i]? = some a) (hb : y[j]? = some b) :
    LL x y i j = if a = b then LL x y (i + 1) (j + 1) + 1 else max (LL x y (i + 1) j) (LL x y i (j + 1)) := by
  obtain ⟨h1, rfl⟩ := List.getElem?_eq_some_iff.1 ha
  obtain ⟨h2, rfl⟩ := List.getElem?_eq_some_iff.1 hb
  unfold LL
  rw [List.drop_eq_getElem_cons h1, List.drop_eq_getElem_cons h2, lcs_cons]
theorem bit_le (x y : List Int) (i j : Nat) : bit x y i j ≤ 1 := by unfold bit; have := LL_step x y i j; omega

/-- The inner loop: what has been written down to place t. -/
structure RI (x y : List Int) (w1 wq : World) (gn gr i t : Nat) : Prop where
  but : But (fun k => k = gn ∨ k = gr) w1 wq
  next : ∃ nx : List Nat, nx.length = y.length + 1 ∧ (∀ j, t ≤ j → j ≤ y.length → nx[j]? = some (LL x y i j)) ∧ (∀ n ∈ nx, n ≤ 24) ∧ Blk wq gn 21 (i32s nx)
  row : Blk wq gr 73 [.int .u64 ((2 ^ t * packed (bit x y i) t (y.length - t) : Nat) : Int)]

/-- The outer loop: the rows from t on stand. -/
structure RO (x y : List Int) (w wr : World) (gb gn t : Nat) : Prop where
  ext : Ext w wr
  all : ∃ sl : List Value, Blk wr w.heap.size 62 sl ∧ sl.length = x.length + 1 ∧ ∀ k, t ≤ k → k ≤ x.length → ∃ g, sl[k]? = some (.slice (some ⟨g, 0, none⟩) 1 1) ∧ w.heap.size ≤ g ∧ Blk wr g 73 [.int .u64 (rowv x y k : Int)]
  below : Blk wr gb 21 (i32s ((List.range (y.length + 1)).map (LL x y t)))
  next : ∃ nx : List Nat, nx.length = y.length + 1 ∧ nx[y.length]? = some 0 ∧ (∀ n ∈ nx, n ≤ 24) ∧ Blk wr gn 21 (i32s nx)
  ne : gb ≠ gn
  base : w.heap.size < gb ∧ w.heap.size < gn


theorem i32s_get {l : List Nat} {j n : Nat} (h : l[j]? = some n) : (i32s l)[j]? = some (.int .i32 (n : Int)) := by simp [i32s, h]
theorem i32s_set (l : List Nat) (j n : Nat) : (i32s l).set j (.int .i32 (n : Int)) = i32s (l.set j n) := by simp [i32s, List.map_set]
theorem range_get (f : Nat → Nat) {m j : Nat} (h : j < m) : ((List.range m).map f)[j]? = some (f j) := by simp [h]


theorem RI.facts {x y : List Int} {w wo w4 wr : World} {gb gn gr i j : Nat} (hO : RO x y w wo gb gn (i + 1)) (hE : Ext wo w4) (hgr : gr = wo.heap.size) (hI : RI x y w4 wr gn gr i (j + 1)) (_hj : j < y.length) (_hy : y.length ≤ 24) :
    Blk wr gb 21 (i32s ((List.range (y.length + 1)).map (LL x y (i + 1)))) ∧ gb ≠ gn ∧ gb ≠ gr ∧ gn ≠ gr ∧
    ∃ nx : List Nat, nx.length = y.length + 1 ∧ (∀ k, j + 1 ≤ k → k ≤ y.length → nx[k]? = some (LL x y i k)) ∧ (∀ n ∈ nx, n ≤ 24) ∧ Blk wr gn 21 (i32s nx) := by
  obtain ⟨nx, h1, h2, h3, h4⟩ := hI.next
  have hgb := hO.below
  obtain ⟨nx', _, _, _, hgn'⟩ := hO.next
  have e1 : gb ≠ gr := by have := hgb.lt; omega
  have e2 : gn ≠ gr := by have := hgn'.lt; omega
  have hb : Blk wr gb 21 _ := hI.but.blk ((hE.but (fun _ => False)).blk hgb (fun h => h)) (by have := hO.ne; simp; omega)
  exact ⟨hb, hO.ne, e1, e2, nx, h1, h2, h3, h4⟩

/-- Within a round of the inner loop: next[j] holds v. -/
structure M1 (x y : List Int) (w4 wx : World) (gn gr i j : Nat) (nx : List Nat) (v : Nat) : Prop where
  but : But (fun k => k = gn ∨ k = gr) w4 wx
  next : Blk wx gn 21 (i32s (nx.set j v))
  row : Blk wx gr 73 [.int .u64 ((2 ^ (j + 1) * packed (bit x y i) (j + 1) (y.length - (j + 1)) : Nat) : Int)]

theorem M1.of {x y : List Int} {w4 wr : World} {gn gr i j : Nat} {nx : List Nat} (hI : RI x y w4 wr gn gr i (j + 1)) (hgn : Blk wr gn 21 (i32s nx)) (hne : gn ≠ gr) (v n : Nat) :
    M1 x y w4 ((wr.setCell ⟨gn, j, none⟩ (.int .i32 (v : Int))).drewN n) gn gr i j nx v :=
  ⟨(hI.but.setCell (fun _ => .inl rfl) _).drewN n, by have := hgn.set j (.int .i32 (v : Int)); rw [i32s_set] at this; exact this.drewN n, (hI.row.other (by simpa using hne) _).drewN n⟩

theorem M1.put {x y : List Int} {w4 wx : World} {gn gr i j : Nat} {nx : List Nat} {v : Nat} (h : M1 x y w4 wx gn gr i j nx v) (hne : gn ≠ gr) (v' n k : Nat) :
    M1 x y w4 (((wx.drewN n).setCell ⟨gn, j, none⟩ (.int .i32 (v' : Int))).drewN k) gn gr i j nx v' :=
  ⟨((h.but.drewN n).setCell (fun _ => .inl rfl) _).drewN k, by have := (h.next.drewN n).set j (.int .i32 (v' : Int)); rw [i32s_set, List.set_set] at this; exact this.drewN k, ((h.row.drewN n).other (by simpa using hne) _).drewN k⟩

theorem M1.drew {x y : List Int} {w4 wx : World} {gn gr i j : Nat} {nx : List Nat} {v : Nat} (h : M1 x y w4 wx gn gr i j nx v) (n : Nat) : M1 x y w4 (wx.drewN n) gn gr i j nx v :=
  ⟨h.but.drewN n, h.next.drewN n, h.row.drewN n⟩

theorem nx_set {x y : List Int} {i j : Nat} {nx : List Nat} (h1 : nx.length = y.length + 1) (h2 : ∀ k, j + 1 ≤ k → k ≤ y.length → nx[k]? = some (LL x y i k)) (hj : j < y.length) :
    (nx.set j (LL x y i j)).length = y.length + 1 ∧ ∀ k, j ≤ k → k ≤ y.length → (nx.set j (LL x y i j))[k]? = some (LL x y i k) := by
  refine ⟨by simpa using h1, fun k hk hk' => ?_⟩
  by_cases e : j = k
  · subst e; rw [List.getElem?_set_self (by omega)]
  · rw [List.getElem?_set_ne e]; exact h2 k (by omega) hk'

theorem mem_set_le {nx : List Nat} {j v B : Nat} (h : ∀ n ∈ nx, n ≤ B) (hv : v ≤ B) : ∀ n ∈ nx.set j v, n ≤ B := by
  intro n hn
  rcases List.mem_or_eq_of_mem_set hn with h1 | rfl
  · exact h n h1
  · exact hv

/-- The round ends: the bit is not set. -/
theorem M1.skip {x y : List Int} {w4 wx : World} {gn gr i j : Nat} {nx : List Nat} (h : M1 x y w4 wx gn gr i j nx (LL x y i j)) (h1 : nx.length = y.length + 1) (h2 : ∀ k, j + 1 ≤ k → k ≤ y.length → nx[k]? = some (LL x y i k))
    (h3 : ∀ n ∈ nx, n ≤ 24) (hj : j < y.length) (hy : y.length ≤ 24) (hb : ¬ LL x y i (j + 1) < LL x y i j) : RI x y w4 wx gn gr i j := by
  obtain ⟨a1, a2⟩ := nx_set h1 h2 hj
  refine ⟨h.but, ⟨_, a1, a2, mem_set_le h3 (by have := LL_le x y i j; omega), h.next⟩, ?_⟩
  have e : 2 ^ (j + 1) * packed (bit x y i) (j + 1) (y.length - (j + 1)) = 2 ^ j * packed (bit x y i) j (y.length - j) := by
    rw [show y.length - j = (y.length - (j + 1)) + 1 by omega, packed, show bit x y i j = 0 by unfold bit; omega, Nat.pow_succ, Nat.zero_add, Nat.mul_assoc]
  rw [← e]; exact h.row

/-- The round ends: the bit is set. -/
theorem M1.mark {x y : List Int} {w4 wx : World} {gn gr i j : Nat} {nx : List Nat} (h : M1 x y w4 wx gn gr i j nx (LL x y i j)) (h1 : nx.length = y.length + 1) (h2 : ∀ k, j + 1 ≤ k → k ≤ y.length → nx[k]? = some (LL x y i k))
    (h3 : ∀ n ∈ nx, n ≤ 24) (hj : j < y.length) (hy : y.length ≤ 24) (hne : gn ≠ gr) (hb : LL x y i (j + 1) < LL x y i j) (R : Nat) (n k : Nat)
    (hR : R = (2 ^ (j + 1) * packed (bit x y i) (j + 1) (y.length - (j + 1))) ||| 2 ^ j) : RI x y w4 (((wx.drewN n).setCell ⟨gr, 0, none⟩ (.int .u64 (R : Int))).drewN k) gn gr i j := by
  obtain ⟨a1, a2⟩ := nx_set h1 h2 hj
  refine ⟨((h.but.drewN n).setCell (fun _ => .inr rfl) _).drewN k, ⟨_, a1, a2, mem_set_le h3 (by have := LL_le x y i j; omega), ((h.next.drewN n).other (by simpa using hne.symm) _).drewN k⟩, ?_⟩
  have e : R = 2 ^ j * packed (bit x y i) j (y.length - j) := by
    have hs := LL_step x y i j
    rw [hR, or_bit, show y.length - j = (y.length - (j + 1)) + 1 by omega, packed, show bit x y i j = 1 by unfold bit; omega, Nat.pow_succ, Nat.mul_add, Nat.mul_one, Nat.mul_assoc]
  have h5 := (h.row.drewN n).set 0 (.int .u64 (R : Int))
  simp only [List.set_cons_zero] at h5
  rw [← e]; exact h5.drewN k

theorem row_bound (x y : List Int) (i t : Nat) (ht : t ≤ y.length) (hy : y.length ≤ 24) : 2 ^ t * packed (bit x y i) t (y.length - t) < 16777216 := by
  have h1 := packed_lt (bit x y i) (bit_le x y i) (y.length - t) t
  have h2 : 2 ^ t * packed (bit x y i) t (y.length - t) < 2 ^ t * 2 ^ (y.length - t) := Nat.mul_lt_mul_of_pos_left h1 (Nat.two_pow_pos t)
  rw [← Nat.pow_add, show t + (y.length - t) = y.length by omega] at h2
  have h3 : 2 ^ y.length ≤ 2 ^ 24 := Nat.pow_le_pow_right (by decide) hy
  omega

theorem M1.ext {x y : List Int} {w wo w4 wx : World} {gb gn gr i j v : Nat} {nx : List Nat} (hO : RO x y w wo gb gn (i + 1)) (hE : Ext wo w4) (hgr : gr = wo.heap.size) (h : M1 x y w4 wx gn gr i j nx v) : Ext w wx := by
  have h1 : Ext w w4 := hO.ext.trans hE
  have h2 := (h1.but (fun _ => False)).andThen h.but (fun k hk hS => by have := hO.base; have := hO.ext.size; omega)
  exact h2.ext (fun _ _ h => h)

theorem RI.start {x y : List Int} {w wo w4 : World} {gb gn gr i : Nat} (hO : RO x y w wo gb gn (i + 1)) (hE : Ext wo w4) (hB : Blk w4 gr 73 [.int .u64 0]) : RI x y w4 w4 gn gr i y.length := by
  obtain ⟨nx, h1, h2, h3, h4⟩ := hO.next
  refine ⟨But.refl _ _, ⟨nx, h1, fun j hj hj' => ?_, h3, (hE.but (fun _ => False)).blk h4 (fun h => h)⟩, ?_⟩
  · obtain rfl : j = y.length := by omega
    rw [h2, LL_end x y i _ (Nat.le_refl _)]
  · simpa [packed] using hB

theorem RI.ext {x y : List Int} {w wo w4 wr : World} {gb gn gr i t : Nat} (hO : RO x y w wo gb gn (i + 1)) (hE : Ext wo w4) (hgr : gr = wo.heap.size) (h : RI x y w4 wr gn gr i t) : Ext w wr := by
  have h1 : Ext w w4 := hO.ext.trans hE
  have h2 := (h1.but (fun _ => False)).andThen h.but (fun k hk hS => by have := hO.base; have := hO.ext.size; omega)
  exact h2.ext (fun _ _ h => h)

theorem RI.all {x y : List Int} {w wo w4 wr : World} {gb gn gr i t : Nat} (hO : RO x y w wo gb gn (i + 1)) (hE : Ext wo w4) (hgr : gr = wo.heap.size) (h : RI x y w4 wr gn gr i t) :
    ∃ sl : List Value, Blk wr w.heap.size 62 sl ∧ sl.length = x.length + 1 ∧ ∀ k, i + 1 ≤ k → k ≤ x.length → ∃ g, sl[k]? = some (.slice (some ⟨g, 0, none⟩) 1 1) ∧ w.heap.size ≤ g ∧ Blk wr g 73 [.int .u64 (rowv x y k : Int)] := by
  obtain ⟨sl, h1, h2, h3⟩ := hO.all
  obtain ⟨nx, _, _, _, hgn⟩ := hO.next
  have tr : ∀ g e xs, Blk wo g e xs → g ≠ gn → Blk wr g e xs := fun g e xs hb hne => h.but.blk ((hE.but (fun _ => False)).blk hb (fun h => h)) (by have := hb.lt; simp; omega)
  refine ⟨sl, tr _ _ _ h1 (h1.ne hgn (by decide)), h2, fun k hk hk' => ?_⟩
  obtain ⟨g, a1, a0, a2⟩ := h3 k hk hk'
  exact ⟨g, a1, a0, tr _ _ _ a2 (a2.ne hgn (by decide))⟩

theorem RO.step {x y : List Int} {w wo w4 wr : World} {gb gn gr i : Nat} (hO : RO x y w wo gb gn (i + 1)) (hE : Ext wo w4) (hgr : gr = wo.heap.size) (h : RI x y w4 wr gn gr i 0) (hi : i < x.length) (hy : y.length ≤ 24) (n : Nat) :
    RO x y w ((wr.setCell ⟨w.heap.size, i, none⟩ (.slice (some ⟨gr, 0, none⟩) 1 1)).drewN n) gn gb i := by
  obtain ⟨sl, h1, h2, h3⟩ := RI.all hO hE hgr h
  obtain ⟨nx, a1, a2, a3, a4⟩ := h.next
  have hgb : Blk wr gb 21 _ := h.but.blk ((hE.but (fun _ => False)).blk hO.below (fun h => h)) (by have := hO.below.lt; have := hO.ne; simp; omega)
  have hbase := hO.base
  refine ⟨?_, ⟨sl.set i (.slice (some ⟨gr, 0, none⟩) 1 1), (h1.set _ _).drewN n, by simpa using h2, fun k hk hk' => ?_⟩, ?_, ⟨_, by simp, ?_, ?_, (hgb.other (by simp; omega) _).drewN n⟩, hO.ne.symm, ⟨hbase.2, hbase.1⟩⟩
  · have := RI.ext hO hE hgr h
    exact ((((this.but (fun _ => False)).setCell (p := ⟨w.heap.size, i, none⟩) (fun h => by simp at h) _).drewN n)).ext (fun _ _ h => h)
  · by_cases e : i = k
    · subst e
      refine ⟨gr, by rw [List.getElem?_set_self (by omega)], by have := hO.ext.size; omega, ?_⟩
      have hr := h.row
      simp only [Nat.pow_zero, Nat.one_mul, Nat.sub_zero] at hr
      exact (hr.other (h1.ne h.row (by decide)) _).drewN n
    · obtain ⟨g, b1, b0, b2⟩ := h3 k (by omega) hk'
      exact ⟨g, by rw [List.getElem?_set_ne e]; exact b1, b0, (b2.other (h1.ne b2 (by decide)) _).drewN n⟩
  · have e : nx = (List.range (y.length + 1)).map (LL x y i) := by
      apply List.ext_getElem?
      intro k
      by_cases hk : k ≤ y.length
      · rw [a2 k (Nat.zero_le _) hk, range_get _ (by omega)]
      · rw [List.getElem?_eq_none (by omega), List.getElem?_eq_none (by simp; omega)]
    rw [← e]
    exact (a4.other (h1.ne a4 (by decide)) _).drewN n
  · rw [range_get _ (by omega), LL_end x y (i + 1) _ (Nat.le_refl _)]
  · intro v hv
    obtain ⟨k, _, rfl⟩ := List.mem_map.1 hv
    have := LL_le x y (i + 1) k
    omega

theorem RO.start {x y : List Int} {w w1 w2 : World} {gb gn : Nat} {wx : World} (hE1 : Ext w w1) (hE2 : Ext w1 w2) (hA : Blk w2 w.heap.size 62 (List.replicate (x.length + 1) (.slice none 0 0))) (hB : Blk w2 (w.heap.size + 1) 73 [.int .u64 0])
    (hx : Ext (w2.setCell ⟨w.heap.size, x.length, none⟩ (.slice (some ⟨w.heap.size + 1, 0, none⟩) 1 1)) wx) (hgb : Blk wx gb 21 (List.replicate (y.length + 1) (.int .i32 0))) (hgn : Blk wx gn 21 (List.replicate (y.length + 1) (.int .i32 0)))
    (hne : gb ≠ gn) (h1 : w.heap.size < gb) (h2 : w.heap.size < gn) : RO x y w wx gb gn x.length := by
  have e0 : ∀ l : List Nat, l = List.replicate (y.length + 1) 0 → i32s l = List.replicate (y.length + 1) (.int .i32 0) := fun l hl => by rw [hl]; simp [i32s]
  have tr : ∀ g e xs, Blk (w2.setCell ⟨w.heap.size, x.length, none⟩ (.slice (some ⟨w.heap.size + 1, 0, none⟩) 1 1)) g e xs → Blk wx g e xs := fun g e xs hb => (hx.but (fun _ => False)).blk hb (fun h => h)
  refine ⟨?_, ⟨_, tr _ _ _ (hA.set _ _), by simp, fun k hk hk' => ?_⟩, ?_, ⟨List.replicate (y.length + 1) 0, by simp, by simp, by simp, by rw [e0 _ rfl]; exact hgn⟩, hne, h1, h2⟩
  · have h12 := hE1.trans hE2
    exact ((((h12.but (fun _ => False)).setCell (p := ⟨w.heap.size, x.length, none⟩) (fun h => by simp at h) _)).ext (fun _ _ h => h)).trans hx
  · obtain rfl : k = x.length := by omega
    refine ⟨w.heap.size + 1, by rw [List.getElem?_set_self (by simp)], by omega, tr _ _ _ ?_⟩
    have hz : rowv x y x.length = 0 := by
      unfold rowv
      have : ∀ m j, packed (bit x y x.length) j m = 0 := fun m => by
        induction m with
        | zero => intro j; rfl
        | succ m ih => intro j; simp only [packed, ih]; unfold bit; rw [LL_top x y _ _ (Nat.le_refl _), LL_top x y _ _ (Nat.le_refl _)]
      exact this _ _
    rw [hz]
    exact hB.other (by simp) _
  · rw [e0 _ (by
      apply List.ext_getElem?
      intro k
      by_cases hk : k < y.length + 1
      · rw [range_get _ hk, LL_top x y _ _ (Nat.le_refl _)]; simp [hk]
      · rw [List.getElem?_eq_none (by simp; omega), List.getElem?_eq_none (by simp; omega)])]
    exact hgb

/-- Block g holds the rows of x and y, all of it from block B on. -/
def Table (B : Nat) (w : World) (g : Nat) (x y : List Int) : Prop := B ≤ g ∧ ∀ t, t ≤ x.length → ∃ gt, B ≤ gt ∧ w.cell? ⟨g, t, none⟩ = some (.slice (some ⟨gt, 0, none⟩) 1 1) ∧ w.cell? ⟨gt, 0, none⟩ = some (.int .u64 (rowv x y t : Int))

theorem Table.but {S : Nat → Prop} {B : Nat} {w w' : World} {g : Nat} {x y : List Int} (h : Table B w g x y) (he : But S w w') (hS : ∀ k, S k → k < B) : Table B w' g x y := ⟨h.1, fun t ht => by
  obtain ⟨gt, h0, h1, h2⟩ := h.2 t ht
  exact ⟨gt, h0, he.cell h1 (fun s => by have := hS _ s; have := h.1; simp at *; omega), he.cell h2 (fun s => by have := hS _ s; simp at *; omega)⟩⟩

theorem RO.table {x y : List Int} {w wr : World} {gb gn : Nat} (h : RO x y w wr gb gn 0) : Table w.heap.size wr w.heap.size x y := ⟨Nat.le_refl _, fun t ht => by
  obtain ⟨sl, h1, h2, h3⟩ := h.all
  obtain ⟨g, a1, a0, a2⟩ := h3 t (Nat.zero_le _) ht
  exact ⟨g, a0, h1.cell a1, a2.cell (j := 0) rfl⟩⟩

theorem rowv_lt (x y : List Int) (t : Nat) (hy : y.length ≤ 24) : rowv x y t < 16777216 := by
  unfold rowv
  have h1 := packed_lt (bit x y t) (bit_le x y t) y.length 0
  have h3 : 2 ^ y.length ≤ 2 ^ 24 := Nat.pow_le_pow_right (by decide) hy
  omega

/-- What 'from' counts in a row. -/
theorem rowv_pc (x y : List Int) (t j : Nat) (hj : j ≤ y.length) (hy : y.length ≤ 24) : pcN 24 (rowv x y t / 2 ^ j) = LL x y t j := by
  unfold rowv
  have h1 := packed_div (bit x y t) (bit_le x y t) j 0 (y.length - j)
  rw [show j + (y.length - j) = y.length by omega, Nat.zero_add] at h1
  rw [h1]
  have e : bit x y t = fun j => LL x y t j - LL x y t (j + 1) := rfl
  rw [e]
  have h2 := packed_pc (LL x y t) (LL_step x y t) 24 (y.length - j) j (by omega)
  rw [show j + (y.length - j) = y.length by omega, LL_end x y t _ (Nat.le_refl _), Nat.add_zero] at h2
  exact h2

theorem RO.first {x y : List Int} {w w1 w2 w3 : World} {n m : Nat} (hn : n = x.length) (hm : m = y.length) (hE1 : Ext w w1) (hE2 : Ext w1 w2) (hA : Blk w2 w.heap.size 62 (List.replicate (n + 1) (.slice none 0 0))) (hB : Blk w2 (w.heap.size + 1) 73 (List.replicate 1 (.int .u64 0)))
    (hw : w2.setCell ⟨w.heap.size, n, none⟩ (.slice (some ⟨w.heap.size + 1, 0, none⟩) 1 1) = w3) :
    RO x y w ((w3.alloc (.cells (repl (m + 1) (.int .i32 0)) 21)).alloc (.cells (repl (m + 1) (.int .i32 0)) 21)).drew w3.heap.size (w3.heap.size + 1) n ∧
    RO x y w ((w3.alloc (.cells (repl (m + 1) (.int .i32 0)) 21)).alloc (.cells (repl (m + 1) (.int .i32 0)) 21)).drew (w3.heap.size + 1) w3.heap.size n := by
  subst hn hm
  have hx : Ext w3 ((w3.alloc (.cells (repl (y.length + 1) (.int .i32 0)) 21)).alloc (.cells (repl (y.length + 1) (.int .i32 0)) 21)).drew := (((Below.refl _ _).alloc (Nat.le_refl _) _).alloc (by simp) _).drew
  have hb1 : Blk ((w3.alloc (.cells (repl (y.length + 1) (.int .i32 0)) 21)).alloc (.cells (repl (y.length + 1) (.int .i32 0)) 21)).drew w3.heap.size 21 (List.replicate (y.length + 1) (.int .i32 0)) := ((blk_repl w3 _ _ _).alloc _).drewN 1
  have hb2 : Blk ((w3.alloc (.cells (repl (y.length + 1) (.int .i32 0)) 21)).alloc (.cells (repl (y.length + 1) (.int .i32 0)) 21)).drew (w3.heap.size + 1) 21 (List.replicate (y.length + 1) (.int .i32 0)) := by
    have := blk_repl (w3.alloc (.cells (repl (y.length + 1) (.int .i32 0)) 21)) (y.length + 1) 21 (.int .i32 0)
    rw [World.size_alloc] at this
    exact this.drewN 1
  have hsz : w.heap.size + 1 < w3.heap.size := by
    rw [← hw]
    have := hB.lt
    simpa [World.setCell] using this
  subst hw
  exact ⟨RO.start hE1 hE2 hA hB hx hb1 hb2 (by omega) (by omega) (by omega), RO.start hE1 hE2 hA hB hx hb2 hb1 (by omega) (by omega) (by omega)⟩

end Go.Proofs.Ythkkjbigfnimbaa
