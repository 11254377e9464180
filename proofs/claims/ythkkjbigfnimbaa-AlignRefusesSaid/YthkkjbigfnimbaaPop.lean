/- Plain: the number of bits, by Go's formula, for numbers below 2^24; no program in sight. -/
import Derived.Test.YthkkjbigfnimbaaBase
namespace Go.Proofs.Ythkkjbigfnimbaa

/-- The number of bits among the lowest k. -/
def pcN : Nat → Nat → Nat
  | 0, _ => 0
  | k + 1, x => x % 2 + pcN k (x / 2)

theorem pcN_split (m n : Nat) : ∀ x, pcN (m + n) x = pcN m (x % 2 ^ m) + pcN n (x / 2 ^ m) := by
  induction m with
  | zero => intro x; simp [pcN]
  | succ m ih =>
    intro x
    rw [show m + 1 + n = (m + n) + 1 by omega]
    simp only [pcN]
    rw [ih (x / 2), Nat.div_div_eq_div_mul, Nat.pow_succ]
    have h1 : x % (2 ^ m * 2) % 2 = x % 2 := Nat.mod_mul_left_mod x _ 2
    have h2 : x % (2 ^ m * 2) / 2 = x / 2 % 2 ^ m := by
      rw [Nat.mul_comm (2 ^ m) 2, Nat.mod_mul_right_div_self]
    rw [h1, h2, Nat.mul_comm 2 (2 ^ m)]
    omega

theorem and_byte (x M : Nat) : x &&& M = (x % 256 &&& M % 256) + 256 * (x / 256 &&& M / 256) := by
  have h1 := Nat.and_mod_two_pow (a := x) (b := M) (n := 8)
  have h2 := Nat.and_div_two_pow (a := x) (b := M) (n := 8)
  have h3 := Nat.div_add_mod (x &&& M) 256
  simp only [Nat.reducePow] at h1 h2
  omega

theorem and3 (x M : Nat) (h : x < 16777216) :
    x &&& M = (x % 256 &&& M % 256) + 256 * (x / 256 % 256 &&& M / 256 % 256) + 65536 * (x / 65536 &&& M / 65536 % 256) := by
  rw [and_byte x M, and_byte (x / 256) (M / 256), and_byte (x / 256 / 256) (M / 256 / 256)]
  have h0 : x / 256 / 256 / 256 = 0 := by omega
  have h1 : x / 256 / 256 % 256 = x / 65536 := by omega
  have h2 : M / 256 / 256 % 256 = M / 65536 % 256 := by omega
  rw [h0, Nat.zero_and, h1, h2]
  omega

def f1 (a : Nat) : Nat := (a / 2 &&& 85) + (a &&& 85)
def f2 (a : Nat) : Nat := (a / 4 &&& 51) + (a &&& 51)
def f3 (a : Nat) : Nat := a % 16 + a / 16

theorem b1 : ∀ a : Fin 256, ∀ r : Fin 2, (a.1 / 2 + 128 * r.1) &&& 85 = a.1 / 2 &&& 85 := by decide +kernel
theorem b2 : ∀ a : Fin 256, ∀ r : Fin 4, (a.1 / 4 + 64 * r.1) &&& 51 = a.1 / 4 &&& 51 := by decide +kernel
theorem l1 : ∀ a : Fin 256, f1 a.1 < 256 ∧ f2 (f1 a.1) < 256 ∧ f2 (f1 a.1) % 16 ≤ 4 ∧ f2 (f1 a.1) / 16 ≤ 4 ∧ f3 (f2 (f1 a.1)) = pcN 8 a.1 ∧ pcN 8 a.1 ≤ 8 := by decide +kernel
theorem b3 : ∀ a : Fin 256, a.1 &&& 15 = a.1 % 16 := by decide +kernel

theorem b1' (a r : Nat) (ha : a < 256) (hr : r < 2) : (a / 2 + 128 * r) &&& 85 = a / 2 &&& 85 := b1 ⟨a, ha⟩ ⟨r, hr⟩
theorem b2' (a r : Nat) (ha : a < 256) (hr : r < 4) : (a / 4 + 64 * r) &&& 51 = a / 4 &&& 51 := b2 ⟨a, ha⟩ ⟨r, hr⟩
theorem b3' (a : Nat) (ha : a < 256) : a &&& 15 = a % 16 := b3 ⟨a, ha⟩

def m0 : Nat := 6148914691236517205
def m1 : Nat := 3689348814741910323
def m2 : Nat := 1085102592571150095

theorem s1 (x : Nat) (h : x < 16777216) : (x / 2 &&& m0) + (x &&& m0) = f1 (x % 256) + 256 * f1 (x / 256 % 256) + 65536 * f1 (x / 65536) := by
  rw [and3 (x / 2) m0 (by omega), and3 x m0 h]
  have e0 : m0 % 256 = 85 := by decide
  have e1 : m0 / 256 % 256 = 85 := by decide
  have e2 : m0 / 65536 % 256 = 85 := by decide
  rw [e0, e1, e2]
  have d0 : x / 2 % 256 = x % 256 / 2 + 128 * (x / 256 % 256 % 2) := by omega
  have d1 : x / 2 / 256 % 256 = x / 256 % 256 / 2 + 128 * (x / 65536 % 2) := by omega
  have d2 : x / 2 / 65536 = x / 65536 / 2 := by omega
  rw [d0, d1, d2, b1' _ _ (by omega) (by omega), b1' _ _ (by omega) (by omega)]
  unfold f1
  omega

theorem s2 (a b c : Nat) (ha : a < 256) (hb : b < 256) (hc : c < 256) :
    ((a + 256 * b + 65536 * c) / 4 &&& m1) + ((a + 256 * b + 65536 * c) &&& m1) = f2 a + 256 * f2 b + 65536 * f2 c := by
  rw [and3 ((a + 256 * b + 65536 * c) / 4) m1 (by omega), and3 (a + 256 * b + 65536 * c) m1 (by omega)]
  have e0 : m1 % 256 = 51 := by decide
  have e1 : m1 / 256 % 256 = 51 := by decide
  have e2 : m1 / 65536 % 256 = 51 := by decide
  rw [e0, e1, e2]
  have d0 : (a + 256 * b + 65536 * c) / 4 % 256 = a / 4 + 64 * (b % 4) := by omega
  have d1 : (a + 256 * b + 65536 * c) / 4 / 256 % 256 = b / 4 + 64 * (c % 4) := by omega
  have d2 : (a + 256 * b + 65536 * c) / 4 / 65536 = c / 4 := by omega
  have d3 : (a + 256 * b + 65536 * c) % 256 = a := by omega
  have d4 : (a + 256 * b + 65536 * c) / 256 % 256 = b := by omega
  have d5 : (a + 256 * b + 65536 * c) / 65536 = c := by omega
  rw [d0, d1, d2, d3, d4, d5, b2' _ _ ha (by omega), b2' _ _ hb (by omega)]
  unfold f2
  omega

theorem s3n (a0 a1 b0 b1 c0 c1 : Nat) (ha0 : a0 ≤ 4) (ha1 : a1 ≤ 4) (hb0 : b0 ≤ 4) (hb1 : b1 ≤ 4) (hc0 : c0 ≤ 4) (hc1 : c1 ≤ 4) :
    (((a0 + 16 * a1) + 256 * (b0 + 16 * b1) + 65536 * (c0 + 16 * c1)) / 16 + ((a0 + 16 * a1) + 256 * (b0 + 16 * b1) + 65536 * (c0 + 16 * c1))) &&& m2 = (a0 + a1) + 256 * (b0 + b1) + 65536 * (c0 + c1) := by
  have hs : ((a0 + 16 * a1) + 256 * (b0 + 16 * b1) + 65536 * (c0 + 16 * c1)) / 16 + ((a0 + 16 * a1) + 256 * (b0 + 16 * b1) + 65536 * (c0 + 16 * c1)) = (a0 + a1) + 16 * (a1 + b0) + 256 * (b0 + b1) + 4096 * (b1 + c0) + 65536 * (c0 + c1) + 1048576 * c1 := by omega
  rw [hs, and3 _ m2 (by omega)]
  have e0 : m2 % 256 = 15 := by decide
  have e1 : m2 / 256 % 256 = 15 := by decide
  have e2 : m2 / 65536 % 256 = 15 := by decide
  generalize ht0 : a0 + a1 = t0
  generalize ht1 : a1 + b0 = t1
  generalize ht2 : b0 + b1 = t2
  generalize ht3 : b1 + c0 = t3
  generalize ht4 : c0 + c1 = t4
  have g0 : t0 ≤ 8 := by omega
  have g1 : t1 ≤ 8 := by omega
  have g2 : t2 ≤ 8 := by omega
  have g3 : t3 ≤ 8 := by omega
  have g4 : t4 ≤ 8 := by omega
  clear ht0 ht1 ht2 ht3 ht4 hs
  have d0 : (t0 + 16 * t1 + 256 * t2 + 4096 * t3 + 65536 * t4 + 1048576 * c1) % 256 = t0 + 16 * t1 := by omega
  have d1 : (t0 + 16 * t1 + 256 * t2 + 4096 * t3 + 65536 * t4 + 1048576 * c1) / 256 % 256 = t2 + 16 * t3 := by omega
  have d2 : (t0 + 16 * t1 + 256 * t2 + 4096 * t3 + 65536 * t4 + 1048576 * c1) / 65536 = t4 + 16 * c1 := by omega
  rw [e0, e1, e2, d0, d1, d2, b3' _ (by omega), b3' _ (by omega), b3' _ (by omega)]
  have k0 : (t0 + 16 * t1) % 16 = t0 := by omega
  have k1 : (t2 + 16 * t3) % 16 = t2 := by omega
  have k2 : (t4 + 16 * c1) % 16 = t4 := by omega
  rw [k0, k1, k2]

theorem s3 (a b c : Nat) (a1 : a % 16 ≤ 4) (a2 : a / 16 ≤ 4) (b1 : b % 16 ≤ 4) (b2 : b / 16 ≤ 4) (c1 : c % 16 ≤ 4) (c2 : c / 16 ≤ 4) :
    ((a + 256 * b + 65536 * c) / 16 + (a + 256 * b + 65536 * c)) &&& m2 = f3 a + 256 * f3 b + 65536 * f3 c := by
  have h := s3n (a % 16) (a / 16) (b % 16) (b / 16) (c % 16) (c / 16) a1 a2 b1 b2 c1 c2
  rw [Nat.mod_add_div, Nat.mod_add_div, Nat.mod_add_div] at h
  exact h

theorem ones_pc (x : Nat) : pcN 24 x = pcN 8 (x % 256) + pcN 8 (x / 256 % 256) + pcN 8 (x / 65536) := by
  have h1 := pcN_split 8 16 x
  have h2 := pcN_split 8 8 (x / 2 ^ 8)
  simp only [Nat.reducePow, Nat.reduceAdd] at h1 h2
  rw [h1, h2]
  have : x / 256 / 256 = x / 65536 := by omega
  rw [this]; omega

/-- Go's formula in natural numbers. -/
theorem ones_formula (x : Nat) (h : x < 16777216) :
    let x1 := (x / 2 &&& m0) + (x &&& m0)
    let x2 := (x1 / 4 &&& m1) + (x1 &&& m1)
    let x3 := (x2 / 16 + x2) &&& m2
    x1 < 16777216 ∧ x2 < 16777216 ∧ x3 < 16777216 ∧
    (let x4 := x3 + x3 / 256
     let x5 := x4 + x4 / 65536
     x5 % 128 = pcN 24 x) := by
  intro x1 x2 x3
  have ha : x % 256 < 256 := by omega
  have hb : x / 256 % 256 < 256 := by omega
  have hc : x / 65536 < 256 := by omega
  have A := l1 ⟨_, ha⟩
  have B := l1 ⟨_, hb⟩
  have C := l1 ⟨_, hc⟩
  simp only at A B C
  have E1 : x1 = f1 (x % 256) + 256 * f1 (x / 256 % 256) + 65536 * f1 (x / 65536) := s1 x h
  have E2 : x2 = f2 (f1 (x % 256)) + 256 * f2 (f1 (x / 256 % 256)) + 65536 * f2 (f1 (x / 65536)) := by show (x1 / 4 &&& m1) + (x1 &&& m1) = _; rw [E1]; exact s2 _ _ _ A.1 B.1 C.1
  have E3 : x3 = f3 (f2 (f1 (x % 256))) + 256 * f3 (f2 (f1 (x / 256 % 256))) + 65536 * f3 (f2 (f1 (x / 65536))) := by show (x2 / 16 + x2) &&& m2 = _; rw [E2]; exact s3 _ _ _ A.2.2.1 A.2.2.2.1 B.2.2.1 B.2.2.2.1 C.2.2.1 C.2.2.2.1
  rw [A.2.2.2.2.1, B.2.2.2.2.1, C.2.2.2.2.1] at E3
  have P := ones_pc x
  have a8 := A.2.2.2.2.2
  have b8 := B.2.2.2.2.2
  have c8 := C.2.2.2.2.2
  have A1 := A.1
  have B1 := B.1
  have C1 := C.1
  have A2 := A.2.1
  have B2 := B.2.1
  have C2 := C.2.1
  refine ⟨by omega, by omega, by omega, ?_⟩
  intro x4 x5
  show (x3 + x3 / 256 + (x3 + x3 / 256) / 65536) % 128 = _
  rw [P, E3]
  clear P E3 E2 E1
  clear_value x1 x2 x3
  generalize pcN 8 (x % 256) = p at *
  generalize pcN 8 (x / 256 % 256) = q at *
  generalize pcN 8 (x / 65536) = r at *
  clear A B C A1 B1 C1 A2 B2 C2
  have d0 : (p + 256 * q + 65536 * r) / 256 = q + 256 * r := by omega
  rw [d0]
  have d1 : (p + 256 * q + 65536 * r + (q + 256 * r)) / 65536 = r := by omega
  rw [d1]
  omega

end Go.Proofs.Ythkkjbigfnimbaa
