/- ContrastLists: slices in memory; the least of a list. No program in sight. -/
import Derived.WalkKit
import Derived.WalkSpells
import Derived.WalkLawsBesides
import Derived.Lib.Hide
import Derived.Deep.QuietTactic
import Derived.BigQuiet
import Derived.Deep.LoopGhost
import Derived.Laws.AppendOwnNone
import Derived.Maps.AppendAt
import Derived.StillTailTactics
import Derived.Deep.RegionHeld3
import Derived.Deep.RegionWith
import Derived.Deep.RegionLaw
namespace Go.Proofs.YtcnhmjkmlncbhaaGreatDoor
open Go.RowKit
/-- w' is w with more blocks; what was there is as it was. -/
def Ext (w w' : World) : Prop := Below w.heap.size w w'

theorem Ext.refl (w : World) : Ext w w := Below.refl _ _
theorem Ext.trans {a b c : World} (h : Ext a b) (k : Ext b c) : Ext a c := Below.trans h (Below.mono k h.size)
theorem Ext.drewN {a b : World} (h : Ext a b) (n : Nat) : Ext a (b.drewN n) := ⟨h.os, h.tape, h.output, h.size, h.block⟩
theorem Ext.size {a b : World} (h : Ext a b) : a.heap.size ≤ b.heap.size := Below.size h
theorem Ext.cell {w w' : World} (h : Ext w w') {p : Addr} {v : Value} (hp : w.cell? p = some v) : w'.cell? p = some v := by
  have hb := World.block_lt_of_cell? w p hp
  rw [Below.cell h hb]; exact hp


theorem ret_int {k : IntKind} {a b : Int} (h : a = b) : Ending.returned (.int k a) = .returned (.int k b) := by rw [h]
theorem ret_bool {a b : Bool} (h : a = b) : Ending.returned (.bool a) = .returned (.bool b) := by rw [h]
theorem some_of_lt {α : Type} {l : List α} {k : Nat} (h : k < l.length) : ∃ s, l[k]? = some s := ⟨l[k], by simp [h]⟩

/-- v owns the cells xs from block B on; below B nothing has turned since w0. -/
structure Own (B e size : Nat) (w0 W : World) (v : Value) (n : Nat) (xs : List Value) : Prop where
  own : W.ownsRow B e size v n xs
  below : Below B w0 W
  base : B ≤ W.heap.size

section
variable {B e size : Nat} {w0 W : World} {v : Value} {n : Nat} {xs : List Value}
theorem Own.nil (w0 : World) (B e size : Nat) (h : B ≤ w0.heap.size) : Own B e size w0 w0 (.slice none 0 0) 0 [] := ⟨World.ownsRow_nil _ _ _ _, Below.refl _ _, h⟩
theorem Own.alloc (h : Own B e size w0 W v n xs) (o : Obj) : Own B e size w0 (W.alloc o) v n xs := ⟨h.own.alloc o, h.below.alloc h.base o, by have := h.base; simp; omega⟩
theorem Own.drewN (h : Own B e size w0 W v n xs) (k : Nat) : Own B e size w0 (W.drewN k) v n xs := ⟨h.own, ⟨h.below.os, h.below.tape, h.below.output, h.below.size, h.below.block⟩, h.base⟩
theorem Own.len (h : Own B e size w0 W v n xs) : xs.length = n * size := h.own.1
/-- Memory has grown; nothing that was there has turned. -/
theorem Own.ext (h : Own B e size w0 W v n xs) {W' : World} (he : Ext W W') : Own B e size w0 W' v n xs := by
  refine ⟨?_, h.below.trans (Below.mono he h.base), Nat.le_trans h.base he.size⟩
  exact h.own.kept (row := none) ⟨he.os, he.tape, he.output, he.size, fun k hk _ => he.block k hk⟩ (by cases hv : v.ownBlock <;> simp)
theorem Own.ext0 (h : Own w0.heap.size e size w0 W v n xs) : Ext w0 W := h.below
theorem ownsRow_fresh (h : W.ownsRow B e size v n xs) : ∀ a n' c, v = .slice a n' c → ∀ g, a = some g → B ≤ g.block ∧ g.block < W.heap.size := by
  intro a n' c hv g hg
  subst hv; subst hg
  exact h.lt g.block rfl
end


theorem cells_new (W : World) (news : List Value) (e g : Nat) (hg : g = W.heap.size) : ∀ j u, news[j]? = some u → (W.alloc (.cells news.toArray e)).cell? ((⟨g, 0, none⟩ : Addr).add j) = some u := by
  intro j u hj
  subst hg
  rw [Addr.add_lit]
  rw [World.cell?_alloc_at _ _ _ _ rfl]
  simpa using hj


/-- What an append to v may have written, and where the new slice lies. -/
structure Grow (W : World) (v : Value) (w' : World) (v' : Value) : Prop where
  grown : W.grownBy w' v.ownBlock
  loc : v'.ownBlock = v.ownBlock ∨ ∃ g, v'.ownBlock = some g ∧ W.heap.size ≤ g

/-- 'out = append(out, x)': x lies in a new block of its own, the last one. -/
theorem wpList_app0 {P : Program} {W : World} {ops : Array Oper} {rest : List Oper} {o : Oper} {a : Act} {Q : Exit → Act → World → Prop} (hgd : o.guard = none) (s x : Operand) (t : TypeId)
    (ho : o.op = .call { callee := .builtin .append, args := #[s, x], argTypes := #[t, t] })
    (B e : Nat) (i : TypeInfo) (z : Value) (size bytes : Nat) (ht : P.underlying t = some (.slice e)) (hi : P.info? e = some i) (hz : i.zero = some z)
    (hsize : i.size = size) (hby : i.bytes = bytes) (hzs : z.cells.size = size) (hsz : 0 < size)
    (v : Value) (n : Nat) (xs : List Value) (hs : a.eval s = v) (hown : W.ownsRow B e size v n xs) (hB : B ≤ W.heap.size)
    (g : Nat) (news : List Value) (hx : a.eval x = .slice (some ⟨g, 0, none⟩) 1 1) (hg : g = W.heap.size) (hl : news.length = size) (h1 : ∀ u ∈ news, u.oneCell' = true)
    (h63 : (n + 1) * bytes ≤ 140737488355328) (hbytes : 1 ≤ bytes)
    (h : ∀ v' w', w'.ownsRow B e size v' (n + 1) (xs ++ news) → Grow W v w' v' → wpList P ops Q rest (a.put o.dst v') w') :
    wpList P ops Q (o :: rest) a (W.alloc (.cells news.toArray e)) := by
  have hbase : B ≤ (W.alloc (.cells news.toArray e)).heap.size := by simp; omega
  refine wpList_append_own_at (w := W.alloc (.cells news.toArray e)) hgd s x t ho B e i z size bytes ht hi hz hsize hby hzs hsz v n xs hs (hown.alloc _) ⟨g, 0, none⟩ 1 1 news hx (by omega) (cells_new W news e g hg) h1 (by have h3 := Nat.le_mul_of_pos_right (n + 1) hbytes; unfold maxLen; omega) ?_ hbase ?_
  · omega
  · intro v' w' ho' hgr _ hloc
    have hg2 := World.grownBy_alloc W (.cells news.toArray e) v.ownBlock
    refine h v' w' ho' ⟨?_, hloc.imp id (fun h => ⟨_, h, by simp⟩)⟩
    exact ⟨hgr.os.trans hg2.os, hgr.tape.trans hg2.tape, hgr.output.trans hg2.output, Nat.le_trans hg2.size hgr.size, fun k hk hne => (hgr.block k (by simp; omega) hne).trans (hg2.block k hk hne)⟩

theorem wpList_app1 {P : Program} {W : World} {ops : Array Oper} {rest : List Oper} {o : Oper} {a : Act} {Q : Exit → Act → World → Prop} (hgd : o.guard = none) (s x : Operand) (t : TypeId)
    (ho : o.op = .call { callee := .builtin .append, args := #[s, x], argTypes := #[t, t] })
    (B e : Nat) (w0 : World) (i : TypeInfo) (z : Value) (size bytes : Nat) (ht : P.underlying t = some (.slice e)) (hi : P.info? e = some i) (hz : i.zero = some z)
    (hsize : i.size = size) (hby : i.bytes = bytes) (hzs : z.cells.size = size) (hsz : 0 < size)
    (v : Value) (n : Nat) (xs : List Value) (hs : a.eval s = v) (hown : Own B e size w0 W v n xs)
    (g : Nat) (news : List Value) (hx : a.eval x = .slice (some ⟨g, 0, none⟩) 1 1) (hg : g = W.heap.size) (hl : news.length = size) (h1 : ∀ u ∈ news, u.oneCell' = true)
    (h63 : (n + 1) * bytes ≤ 140737488355328) (hbytes : 1 ≤ bytes)
    (h : ∀ v' w', Own B e size w0 w' v' (n + 1) (xs ++ news) → Grow W v w' v' → wpList P ops Q rest (a.put o.dst v') w') :
    wpList P ops Q (o :: rest) a (W.alloc (.cells news.toArray e)) := by
  refine wpList_app0 hgd s x t ho B e i z size bytes ht hi hz hsize hby hzs hsz v n xs hs hown.own hown.base g news hx hg hl h1 h63 hbytes ?_
  intro v' w' ho' hgr
  have hrow := hown.own.lt
  exact h v' w' ⟨ho', hown.below.grown hgr.grown hown.base (fun k hk => (hrow k hk).1), Nat.le_trans hown.base hgr.grown.size⟩ hgr


/-- The address a leads to the cells xs. -/
def AtM (w : World) (a : Option Addr) (xs : List Value) : Prop :=
  xs = [] ∨ ∃ b off, a = some ⟨b, off, none⟩ ∧ ∀ j, j < xs.length → w.cell? ⟨b, off + j, none⟩ = xs[j]?

theorem AtM.ext {w w' : World} {a : Option Addr} {xs : List Value} (h : AtM w a xs) (he : Ext w w') : AtM w' a xs := by
  rcases h with h | ⟨b, off, ha, hc⟩
  · exact .inl h
  · refine .inr ⟨b, off, ha, fun j hj => ?_⟩
    have := hc j hj
    rw [List.getElem?_eq_getElem hj] at this ⊢
    exact he.cell this


theorem AtM.get3 {w : World} {a : Option Addr} {xs : List Value} (h : AtM w a xs) {k : Nat} {x0 x1 x2 : Value} (h0 : xs[k]? = some x0) (h1 : xs[k + 1]? = some x1) (h2 : xs[k + 2]? = some x2) :
    ∃ b off, a = some ⟨b, off, none⟩ ∧ w.cell? ⟨b, off + k, none⟩ = some x0 ∧ w.cell? ⟨b, off + k + 1, none⟩ = some x1 ∧ w.cell? ⟨b, off + k + 2, none⟩ = some x2 := by
  have l2 := (List.getElem?_eq_some_iff.1 h2).1
  rcases h with h | ⟨b, off, ha, hc⟩
  · subst h; simp at l2
  · exact ⟨b, off, ha, by rw [hc k (by omega), h0], by rw [Nat.add_assoc, hc (k + 1) (by omega), h1], by rw [Nat.add_assoc, hc (k + 2) (by omega), h2]⟩

theorem Own.atM {B e size : Nat} {w0 W : World} {v : Value} {n : Nat} {xs : List Value} (h : Own B e size w0 W v n xs) : ∃ a c, v = .slice a n c ∧ AtM W a xs := by
  have hl := h.own.1
  rcases h.own.2 with ⟨rfl, rfl⟩ | ⟨g, cap, cur, rfl, hb, hg, hnc, hcm, hcs, htake⟩
  · exact ⟨none, 0, rfl, .inl (List.eq_nil_of_length_eq_zero (by simpa using hl))⟩
  · refine ⟨_, _, rfl, .inr ⟨g, 0, rfl, fun j hj => ?_⟩⟩
    have h1 : xs[j]? = some xs[j] := List.getElem?_eq_getElem hj
    have := h.own.cells (g := g) rfl j xs[j] h1
    rw [h1]
    simpa [Addr.add_lit] using this


/-- a finding as its three cells have it -/
structure FV where
  t : Int
  l : ByteArray
  r : ByteArray
def fc (v : FV) : List Value := [.int .i64 v.t, .string v.l, .string v.r]
def fcs (vs : List FV) : List Value := vs.flatMap fc
theorem fcs_snoc (vs : List FV) (v : FV) : fcs (vs ++ [v]) = fcs vs ++ fc v := by simp [fcs]
theorem fcs_cons (v : FV) (vs : List FV) : fcs (v :: vs) = fc v ++ fcs vs := by simp [fcs]
theorem fcs_length (vs : List FV) : (fcs vs).length = vs.length * 3 := by
  induction vs with
  | nil => rfl
  | cons v vs ih => rw [fcs_cons, List.length_append, ih]; simp [fc]; omega
theorem fcs_get : ∀ {vs : List FV} {k : Nat} {v : FV}, vs[k]? = some v → (fcs vs)[k * 3]? = some (.int .i64 v.t) ∧ (fcs vs)[k * 3 + 1]? = some (.string v.l) ∧ (fcs vs)[k * 3 + 2]? = some (.string v.r)
  | [], k, v, h => by simp at h
  | u :: vs, 0, v, h => by
    simp at h; subst h
    rw [fcs_cons]
    exact ⟨rfl, rfl, rfl⟩
  | u :: vs, k + 1, v, h => by
    simp at h
    obtain ⟨h1, h2, h3⟩ := fcs_get h
    rw [fcs_cons]
    have e : (fc u).length = 3 := rfl
    refine ⟨?_, ?_, ?_⟩
    · rw [List.getElem?_append_right (by omega), e, show (k + 1) * 3 - 3 = k * 3 by omega]; exact h1
    · rw [List.getElem?_append_right (by omega), e, show (k + 1) * 3 + 1 - 3 = k * 3 + 1 by omega]; exact h2
    · rw [List.getElem?_append_right (by omega), e, show (k + 1) * 3 + 2 - 3 = k * 3 + 2 by omega]; exact h3
theorem take_snoc {α : Type} {l : List α} {k : Nat} {v : α} (h : l[k]? = some v) : l.take (k + 1) = l.take k ++ [v] := by
  rw [List.take_add_one, h]; rfl
theorem oneCell_fc (v : FV) : ∀ u ∈ fc v, u.oneCell' = true := by
  intro u hu; simp [fc] at hu; rcases hu with rfl | rfl | rfl <;> rfl
theorem info_parts {P : Program} {e : TypeId} {z : Value} {s b : Nat} (h : (P.info? e).map (fun i => (i.zero, i.size, i.bytes)) = some (some z, s, b)) : ∃ i, P.info? e = some i ∧ i.zero = some z ∧ i.size = s ∧ i.bytes = b := by
  cases hi : P.info? e with
  | none => rw [hi] at h; cases h
  | some i => rw [hi] at h; simp at h; exact ⟨i, rfl, h.1, h.2.1, h.2.2⟩
def intOf : Value → Int | .int _ n => n | _ => 0
/-- the least of the first k, -1 of none -/
def F (ts : List Int) : Nat → Int
  | 0 => -1
  | k + 1 => if k = 0 ∨ ts.getD k 0 < F ts k then ts.getD k 0 else F ts k
theorem F_nonneg {ts : List Int} (h : ∀ t ∈ ts, 0 ≤ t) : ∀ k, 1 ≤ k → k ≤ ts.length → 0 ≤ F ts k
  | 0, h1, _ => by omega
  | k + 1, _, h2 => by
    have hk : k < ts.length := by omega
    have : 0 ≤ ts.getD k 0 := by
      rw [List.getD_eq_getElem?_getD, List.getElem?_eq_getElem hk]
      exact h _ (List.getElem_mem hk)
    unfold F
    split
    · exact this
    · rename_i hn
      exact F_nonneg h k (by omega) (by omega)

end Go.Proofs.YtcnhmjkmlncbhaaGreatDoor
