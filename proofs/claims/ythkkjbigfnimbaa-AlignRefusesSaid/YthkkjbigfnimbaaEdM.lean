/- Plain: differences; how they lie in memory. -/
import Derived.Test.YthkkjbigfnimbaaComM
namespace Go.Proofs.Ythkkjbigfnimbaa
open Go.RowKit

/-- The address a leads to the cells xs. -/
def AtM (w : World) (a : Option Addr) (xs : List Value) : Prop :=
  xs = [] ∨ ∃ b off, a = some ⟨b, off, none⟩ ∧ ∀ j, j < xs.length → w.cell? ⟨b, off + j, none⟩ = xs[j]?

theorem AtM.ext {w w' : World} {a : Option Addr} {xs : List Value} (h : AtM w a xs) (he : Ext w w') : AtM w' a xs := by
  rcases h with h | ⟨b, off, ha, hc⟩
  · exact .inl h
  · refine .inr ⟨b, off, ha, fun j hj => ?_⟩
    have := hc j hj
    rw [List.getElem?_eq_getElem hj] at this ⊢
    exact he.cell this

theorem AtM.get4 {w : World} {a : Option Addr} {xs : List Value} (h : AtM w a xs) {k : Nat} {x0 x1 x2 x3 : Value} (h0 : xs[k]? = some x0) (h1 : xs[k + 1]? = some x1) (h2 : xs[k + 2]? = some x2) (h3 : xs[k + 3]? = some x3) :
    ∃ b off, a = some ⟨b, off, none⟩ ∧ w.cell? ⟨b, off + k, none⟩ = some x0 ∧ w.cell? ⟨b, off + k + 1, none⟩ = some x1 ∧ w.cell? ⟨b, off + k + 2, none⟩ = some x2 ∧ w.cell? ⟨b, off + k + 3, none⟩ = some x3 := by
  have l3 := (List.getElem?_eq_some_iff.1 h3).1
  rcases h with h | ⟨b, off, ha, hc⟩
  · subst h; simp at l3
  · refine ⟨b, off, ha, ?_, ?_, ?_, ?_⟩
    · rw [hc k (by omega), h0]
    · rw [Nat.add_assoc, hc (k + 1) (by omega), h1]
    · rw [Nat.add_assoc, hc (k + 2) (by omega), h2]
    · rw [Nat.add_assoc, hc (k + 3) (by omega), h3]

theorem AtM.get2 {w : World} {a : Option Addr} {xs : List Value} (h : AtM w a xs) {k : Nat} {x0 x1 : Value} (h0 : xs[k]? = some x0) (h1 : xs[k + 1]? = some x1) :
    ∃ b off, a = some ⟨b, off, none⟩ ∧ w.cell? ⟨b, off + k, none⟩ = some x0 ∧ w.cell? ⟨b, off + k + 1, none⟩ = some x1 := by
  have l3 := (List.getElem?_eq_some_iff.1 h1).1
  rcases h with h | ⟨b, off, ha, hc⟩
  · subst h; simp at l3
  · exact ⟨b, off, ha, by rw [hc k (by omega), h0], by rw [Nat.add_assoc, hc (k + 1) (by omega), h1]⟩

theorem Own.atM {B e size : Nat} {w0 W : World} {v : Value} {n : Nat} {xs : List Value} (h : Own B e size w0 W v n xs) : ∃ a c, v = .slice a n c ∧ AtM W a xs := by
  have hl := h.own.1
  rcases h.own.2 with ⟨rfl, rfl⟩ | ⟨g, cap, cur, rfl, hb, hg, hnc, hcm, hcs, htake⟩
  · exact ⟨none, 0, rfl, .inl (List.eq_nil_of_length_eq_zero (by simpa using hl))⟩
  · refine ⟨_, _, rfl, .inr ⟨g, 0, rfl, fun j hj => ?_⟩⟩
    have h1 : xs[j]? = some xs[j] := List.getElem?_eq_getElem hj
    have := h.own.cells (g := g) rfl j xs[j] h1
    rw [h1]
    simpa [Addr.add_lit] using this

/-- A difference as its four cells have it. -/
structure EV where
  a : Int
  b : Int
  la : Option Addr
  ll : Nat
  lc : Nat
  ra : Option Addr
  rl : Nat
  rc : Nat
def edc (v : EV) : List Value := [.int .i64 v.a, .int .i64 v.b, .slice v.la v.ll v.lc, .slice v.ra v.rl v.rc]
def edcs (vs : List EV) : List Value := vs.flatMap edc
theorem edcs_snoc (vs : List EV) (v : EV) : edcs (vs ++ [v]) = edcs vs ++ edc v := by simp [edcs]
theorem edcs_cons (v : EV) (vs : List EV) : edcs (v :: vs) = edc v ++ edcs vs := by simp [edcs]
theorem edcs_get {vs : List EV} : ∀ {k : Nat} {v : EV}, vs[k]? = some v → (edcs vs)[k * 4]? = some (.int .i64 v.a) ∧ (edcs vs)[k * 4 + 1]? = some (.int .i64 v.b) ∧ (edcs vs)[k * 4 + 2]? = some (.slice v.la v.ll v.lc) ∧ (edcs vs)[k * 4 + 3]? = some (.slice v.ra v.rl v.rc) := by
  induction vs with
  | nil => intro k v h; simp at h
  | cons u vs ih =>
    intro k v h
    rw [edcs_cons]
    cases k with
    | zero => simp at h; subst h; simp [edc]
    | succ k =>
      simp at h
      obtain ⟨h0, h1, h2, h3⟩ := ih h
      have e : ∀ r, (edc u ++ edcs vs)[(k + 1) * 4 + r]? = (edcs vs)[k * 4 + r]? := fun r => by
        rw [List.getElem?_append_right (by simp [edc]; omega)]
        congr 1
        simp [edc]; omega
      have e0 := e 0
      simp only [Nat.add_zero] at e0
      exact ⟨by rw [e0]; exact h0, by rw [e 1]; exact h1, by rw [e 2]; exact h2, by rw [e 3]; exact h3⟩

theorem pairs_get {ps : List (Nat × Nat)} : ∀ {k : Nat} {p : Nat × Nat}, ps[k]? = some p → (pairs ps)[k * 2]? = some (.int .i64 (p.1 : Int)) ∧ (pairs ps)[k * 2 + 1]? = some (.int .i64 (p.2 : Int)) := by
  induction ps with
  | nil => intro k v h; simp at h
  | cons u vs ih =>
    intro k v h
    have hc : pairs (u :: vs) = [.int .i64 (u.1 : Int), .int .i64 (u.2 : Int)] ++ pairs vs := by simp [pairs]
    rw [hc]
    cases k with
    | zero => simp at h; subst h; simp
    | succ k =>
      simp at h
      obtain ⟨h0, h1⟩ := ih h
      have e : ∀ r, ([.int .i64 (u.1 : Int), .int .i64 (u.2 : Int)] ++ pairs vs)[(k + 1) * 2 + r]? = (pairs vs)[k * 2 + r]? := fun r => by
        rw [List.getElem?_append_right (by simp; omega)]
        congr 1
        simp; omega
      have e0 := e 0
      simp only [Nat.add_zero] at e0
      exact ⟨by rw [e0]; exact h0, by rw [e 1]; exact h1⟩

/-- A difference. -/
structure Ed where
  a : Int
  b : Int
  l : List ByteArray
  r : List ByteArray

structure EdV (w : World) (v : EV) (e : Ed) : Prop where
  a : v.a = e.a
  b : v.b = e.b
  ll : v.ll = e.l.length
  rl : v.rl = e.r.length
  l : At w v.la v.lc (strs e.l)
  r : At w v.ra v.rc (strs e.r)
def EdsV (w : World) : List EV → List Ed → Prop
  | [], [] => True
  | v :: vs, e :: es => EdV w v e ∧ EdsV w vs es
  | _, _ => False
theorem EdV.ext {w w' : World} {v : EV} {e : Ed} (h : EdV w v e) (he : Ext w w') : EdV w' v e := ⟨h.a, h.b, h.ll, h.rl, h.l.ext he, h.r.ext he⟩
theorem EdsV.ext {w w' : World} (he : Ext w w') : ∀ {vs : List EV} {es : List Ed}, EdsV w vs es → EdsV w' vs es
  | [], [], _ => trivial
  | _ :: _, _ :: _, h => ⟨h.1.ext he, EdsV.ext he h.2⟩
  | [], _ :: _, h => h.elim
  | _ :: _, [], h => h.elim
theorem EdsV.length {w : World} : ∀ {vs : List EV} {es : List Ed}, EdsV w vs es → vs.length = es.length
  | [], [], _ => rfl
  | _ :: _, _ :: _, h => by simp [EdsV.length h.2]
  | [], _ :: _, h => h.elim
  | _ :: _, [], h => h.elim
theorem EdsV.snoc {w : World} : ∀ {vs : List EV} {es : List Ed} {v : EV} {e : Ed}, EdsV w vs es → EdV w v e → EdsV w (vs ++ [v]) (es ++ [e])
  | [], [], _, _, _, h => ⟨h, trivial⟩
  | _ :: _, _ :: _, _, _, h, h' => ⟨h.1, EdsV.snoc h.2 h'⟩
  | [], _ :: _, _, _, h, _ => h.elim
  | _ :: _, [], _, _, h, _ => h.elim
theorem EdsV.get {w : World} : ∀ {vs : List EV} {es : List Ed} {k : Nat} {v : EV}, EdsV w vs es → vs[k]? = some v → ∃ e, es[k]? = some e ∧ EdV w v e
  | [], [], k, _, _, h => by simp at h
  | v' :: vs, e' :: es, 0, v, h, hk => by simp at hk; subst hk; exact ⟨e', rfl, h.1⟩
  | v' :: vs, e' :: es, k + 1, v, h, hk => by simp at hk; obtain ⟨e, h1, h2⟩ := EdsV.get h.2 hk; exact ⟨e, by simpa using h1, h2⟩
  | [], _ :: _, _, _, h, _ => h.elim
  | _ :: _, [], _, _, h, _ => h.elim
theorem edc_one (v : EV) : ∀ u ∈ edc v, u.oneCell' = true := by
  intro u hu
  simp [edc] at hu
  rcases hu with rfl | rfl | rfl | rfl <;> rfl
theorem oneCell_four (x y z t : Value) (h1 : x.oneCell' = true) (h2 : y.oneCell' = true) (h3 : z.oneCell' = true) (h4 : t.oneCell' = true) : ∀ u ∈ [x, y, z, t], u.oneCell' = true := by
  intro u hu; simp at hu; rcases hu with rfl | rfl | rfl | rfl <;> assumption
theorem take_snoc {α : Type} {l : List α} {k : Nat} {a : α} (h : l[k]? = some a) : l.take (k + 1) = l.take k ++ [a] := by rw [List.take_add_one, h]; rfl

/-- The differences along the pairs, from places i and j on. -/
def eds (a b : List ByteArray) : List (Nat × Nat) → Nat → Nat → List Ed
  | [], _, _ => []
  | p :: ps, i, j => (if i < p.1 ∨ j < p.2 then [⟨i, j, (a.take p.1).drop i, (b.take p.2).drop j⟩] else []) ++ eds a b ps (p.1 + 1) (p.2 + 1)

/-- The alignment, and the pair of the ends. -/
def alEnd (a b : List ByteArray) : List (Nat × Nat) := al 0 a 0 b ++ [(a.length, b.length)]
def editsOf (a b : List ByteArray) : List Ed := eds a b (alEnd a b) 0 0

/-- All pairs lie within n and m. -/
def Within (n m : Nat) (l : List (Nat × Nat)) : Prop := ∀ p ∈ l, p.1 ≤ n ∧ p.2 ≤ m

theorem asc_snoc {n m : Nat} : ∀ {l : List (Nat × Nat)} {i k : Nat}, Asc i k l → (∀ p ∈ l, p.1 < n ∧ p.2 < m) → i ≤ n → k ≤ m → Asc i k (l ++ [(n, m)])
  | [], i, k, _, _, hi, hk => ⟨hi, hk, trivial⟩
  | p :: l, i, k, h, hl, _, _ => ⟨h.1, h.2.1, asc_snoc h.2.2 (fun q hq => hl q (List.mem_cons_of_mem _ hq)) (by have := hl p (by simp); omega) (by have := hl p (by simp); omega)⟩

theorem al_lt {a b : List ByteArray} : ∀ p ∈ al 0 a 0 b, p.1 < a.length ∧ p.2 < b.length := by
  intro p hp
  obtain ⟨_, _, x, h1, h2⟩ := al_mem a 0 0 b p hp
  exact ⟨(List.getElem?_eq_some_iff.1 h1).1, (List.getElem?_eq_some_iff.1 h2).1⟩

theorem alEnd_asc (a b : List ByteArray) : Asc 0 0 (alEnd a b) := asc_snoc (al_asc a 0 0 b) al_lt (Nat.zero_le _) (Nat.zero_le _)
theorem alEnd_within (a b : List ByteArray) : Within a.length b.length (alEnd a b) := by
  intro p hp
  rcases List.mem_append.1 hp with h | h
  · have := al_lt p h; omega
  · simp at h; subst h; exact ⟨Nat.le_refl _, Nat.le_refl _⟩
theorem alEnd_len (a b : List ByteArray) : (alEnd a b).length = lcs a b + 1 := by simp [alEnd, al_length]

/-- No row of a difference is the row of v. -/
def Dis (W : World) (v : Value) (vs : List EV) : Prop := ∀ x ∈ vs, ∀ g : Addr, (x.la = some g ∨ x.ra = some g) → g.block < W.heap.size ∧ v.ownBlock ≠ some g.block

theorem EdsV.but {S : Nat → Prop} {w w' : World} (hb : But S w w') : ∀ {vs : List EV} {es : List Ed}, EdsV w vs es → (∀ x ∈ vs, ∀ g : Addr, (x.la = some g ∨ x.ra = some g) → ¬ S g.block) → EdsV w' vs es
  | [], [], _, _ => trivial
  | v :: vs, e :: es, h, hS => ⟨⟨h.1.a, h.1.b, h.1.ll, h.1.rl, hb.at h.1.l (fun b off e => hS v (by simp) ⟨b, off, none⟩ (.inl e)), hb.at h.1.r (fun b off e => hS v (by simp) ⟨b, off, none⟩ (.inr e))⟩, EdsV.but hb h.2 (fun x hx => hS x (List.mem_cons_of_mem _ hx))⟩
  | [], _ :: _, h, _ => h.elim
  | _ :: _, [], h, _ => h.elim

theorem Grow.eds {W w' : World} {v v' : Value} {vs : List EV} {es : List Ed} (hg : Grow W v w' v') (h : EdsV W vs es) (hd : Dis W v vs) : EdsV w' vs es ∧ Dis w' v' vs := by
  refine ⟨EdsV.but (S := fun k => v.ownBlock = some k) (But.grown hg.grown (fun k hk => hk)) h (fun x hx g hg' => (hd x hx g hg').2), fun x hx g hg' => ?_⟩
  have h1 := hd x hx g hg'
  refine ⟨Nat.lt_of_lt_of_le h1.1 hg.grown.size, ?_⟩
  rcases hg.loc with e | ⟨q, e, hq⟩
  · rw [e]; exact h1.2
  · rw [e]; intro e'; have := Option.some.inj e'; omega

theorem Dis.ext {W W' : World} {v : Value} {vs : List EV} (hd : Dis W v vs) (he : Ext W W') : Dis W' v vs := fun x hx g hg => ⟨Nat.lt_of_lt_of_le (hd x hx g hg).1 he.size, (hd x hx g hg).2⟩
theorem Dis.snoc {W : World} {v : Value} {vs : List EV} {x : EV} (hd : Dis W v vs) (hx : ∀ g : Addr, (x.la = some g ∨ x.ra = some g) → g.block < W.heap.size ∧ v.ownBlock ≠ some g.block) : Dis W v (vs ++ [x]) := by
  intro y hy g hg
  rcases List.mem_append.1 hy with h | h
  · exact hd y h g hg
  · simp at h; subst h; exact hx g hg

/-- The difference x contradicts the sequence behind place e. -/
def bad (a : List ByteArray) (x : Ed) (e : Nat) : Prop := x.a < e ∨ (a.length : Int) < x.a ∨ (a.length : Int) - x.a < x.l.length ∨ (a.take (x.a.toNat + x.l.length)).drop x.a.toNat ≠ x.l
instance decBad (a : List ByteArray) (x : Ed) (e : Nat) : Decidable (bad a x e) := by unfold bad; infer_instance

/-- The differences applied, from place e on. -/
def applyE (a : List ByteArray) : List Ed → Nat → List ByteArray → Option (List ByteArray)
  | [], e, acc => some (acc ++ a.drop e)
  | x :: xs, e, acc => if bad a x e then none else applyE a xs (x.a.toNat + x.l.length) (acc ++ (a.take x.a.toNat).drop e ++ x.r)

theorem not_bad {a : List ByteArray} {x : Ed} {e : Nat} (h : ¬ bad a x e) : (e : Int) ≤ x.a ∧ x.a ≤ a.length ∧ x.a.toNat + x.l.length ≤ a.length ∧ (a.take (x.a.toNat + x.l.length)).drop x.a.toNat = x.l := by
  unfold bad at h
  refine ⟨by omega, by omega, by omega, ?_⟩
  by_cases h1 : (a.take (x.a.toNat + x.l.length)).drop x.a.toNat = x.l
  · exact h1
  · exact absurd (.inr (.inr (.inr h1))) h

end Go.Proofs.Ythkkjbigfnimbaa
