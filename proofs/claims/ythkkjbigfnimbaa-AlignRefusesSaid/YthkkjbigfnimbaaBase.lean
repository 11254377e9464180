/- Base: how slices read (At), growth of worlds (Ext); no program in sight. -/
import Derived.WalkKit
import Derived.WalkSpells
import Derived.WalkLawsBesides
import Derived.Lib.Hide
import Derived.Deep.QuietTactic
import Derived.BigQuiet
import Derived.Deep.LoopGhost
import Derived.Laws.AppendOwnNone
import Derived.Maps.AppendAt
import Derived.StillTailTactics
import Derived.Deep.RegionHeld3
import Derived.Deep.RegionWith
import Derived.Deep.RegionLaw
namespace Go.Proofs.Ythkkjbigfnimbaa
open Go.RowKit

/-- The slice of address a and capacity c reads as the cells xs. -/
structure At (w : World) (a : Option Addr) (c : Nat) (xs : List Value) : Prop where
  cap : xs.length ≤ c
  nil0 : a = none → c = 0
  cells : xs = [] ∨ ∃ b off, a = some ⟨b, off, none⟩ ∧ ∀ j, j < xs.length → w.cell? ⟨b, off + j, none⟩ = xs[j]?

/-- w' is w with more blocks; what was there is as it was. -/
def Ext (w w' : World) : Prop := Below w.heap.size w w'

theorem Ext.refl (w : World) : Ext w w := Below.refl _ _
theorem Ext.trans {a b c : World} (h : Ext a b) (k : Ext b c) : Ext a c := Below.trans h (Below.mono k h.size)
theorem Ext.drewN {a b : World} (h : Ext a b) (n : Nat) : Ext a (b.drewN n) := ⟨h.os, h.tape, h.output, h.size, h.block⟩
theorem Ext.size {a b : World} (h : Ext a b) : a.heap.size ≤ b.heap.size := Below.size h
theorem Ext.cell {w w' : World} (h : Ext w w') {p : Addr} {v : Value} (hp : w.cell? p = some v) : w'.cell? p = some v := by
  have hb := World.block_lt_of_cell? w p hp
  rw [Below.cell h hb]; exact hp

theorem At.ext {w w' : World} {a : Option Addr} {c : Nat} {xs : List Value} (h : At w a c xs) (he : Ext w w') : At w' a c xs := by
  refine ⟨h.cap, h.nil0, ?_⟩
  rcases h.cells with h | ⟨b, off, ha, hc⟩
  · exact .inl h
  · refine .inr ⟨b, off, ha, fun j hj => ?_⟩
    have := hc j hj
    rw [List.getElem?_eq_getElem hj] at this ⊢
    exact he.cell this

/-- The cell of element k. -/
theorem At.get {w : World} {a : Option Addr} {c : Nat} {xs : List Value} (h : At w a c xs) {k : Nat} {x : Value} (hk : xs[k]? = some x) :
    ∃ b off, a = some ⟨b, off, none⟩ ∧ w.cell? ⟨b, off + k, none⟩ = some x := by
  have hlt := (List.getElem?_eq_some_iff.1 hk).1
  rcases h.cells with h | ⟨b, off, ha, hc⟩
  · subst h; simp at hlt
  · exact ⟨b, off, ha, by rw [hc k hlt, hk]⟩

theorem At.nil (w : World) : At w none 0 [] := ⟨Nat.le_refl _, fun _ => rfl, .inl rfl⟩
theorem At.none_nil {w : World} {c : Nat} {xs : List Value} (h : At w none c xs) : xs = [] ∧ c = 0 := by
  have hc := h.nil0 rfl
  have := h.cap
  exact ⟨List.eq_nil_of_length_eq_zero (by omega), hc⟩

theorem ret_bool {a b : Bool} (h : a = b) : Ending.returned (.bool a) = .returned (.bool b) := by rw [h]
theorem ret_int {k : IntKind} {a b : Int} (h : a = b) : Ending.returned (.int k a) = .returned (.int k b) := by rw [h]

def strs (l : List ByteArray) : List Value := l.map Value.string
def ints (l : List Int) : List Value := l.map (Value.int .i64)
theorem strs_get {l : List ByteArray} {k : Nat} {s : ByteArray} (h : l[k]? = some s) : (strs l)[k]? = some (.string s) := by simp [strs, h]
theorem ints_get {l : List Int} {k : Nat} {s : Int} (h : l[k]? = some s) : (ints l)[k]? = some (.int .i64 s) := by simp [ints, h]
theorem some_of_lt {α : Type} {l : List α} {k : Nat} (h : k < l.length) : ∃ s, l[k]? = some s := ⟨l[k], by simp [h]⟩

theorem toList_eq_iff (a b : ByteArray) : a.toList = b.toList ↔ a = b := by
  constructor
  · intro h
    rw [ByteArray.toList_eq, ByteArray.toList_eq] at h
    have : a.data.toList = b.data.toList := h
    cases a; cases b; simp at this; simp [this]
  · intro h; rw [h]

theorem beq_toList (a b : ByteArray) : (a.toList == b.toList) = decide (a = b) := by
  by_cases h : a = b
  · subst h; simp
  · have : ¬ a.toList = b.toList := fun e => h ((toList_eq_iff a b).1 e)
    simp [h, this]

instance lawfulBytes : LawfulBEq ByteArray where
  eq_of_beq {a b} h := by
    have : (a.data == b.data) = true := h
    cases a; cases b; simp at this; simp [this]
  rfl {a} := by show (a.data == a.data) = true; simp

/-- v owns the cells xs from block B on; below B nothing has turned since w0. -/
structure Own (B e size : Nat) (w0 W : World) (v : Value) (n : Nat) (xs : List Value) : Prop where
  own : W.ownsRow B e size v n xs
  below : Below B w0 W
  base : B ≤ W.heap.size

section
variable {B e size : Nat} {w0 W : World} {v : Value} {n : Nat} {xs : List Value}
theorem Own.nil (w0 : World) (B e size : Nat) (h : B ≤ w0.heap.size) : Own B e size w0 w0 (.slice none 0 0) 0 [] := ⟨World.ownsRow_nil _ _ _ _, Below.refl _ _, h⟩
theorem Own.alloc (h : Own B e size w0 W v n xs) (o : Obj) : Own B e size w0 (W.alloc o) v n xs := ⟨h.own.alloc o, h.below.alloc h.base o, by have := h.base; simp; omega⟩
theorem Own.drewN (h : Own B e size w0 W v n xs) (k : Nat) : Own B e size w0 (W.drewN k) v n xs := ⟨h.own, ⟨h.below.os, h.below.tape, h.below.output, h.below.size, h.below.block⟩, h.base⟩
theorem Own.len (h : Own B e size w0 W v n xs) : xs.length = n * size := h.own.1
/-- Memory has grown; nothing that was there has turned. -/
theorem Own.ext (h : Own B e size w0 W v n xs) {W' : World} (he : Ext W W') : Own B e size w0 W' v n xs := by
  refine ⟨?_, h.below.trans (Below.mono he h.base), Nat.le_trans h.base he.size⟩
  exact h.own.kept (row := none) ⟨he.os, he.tape, he.output, he.size, fun k hk _ => he.block k hk⟩ (by cases hv : v.ownBlock <;> simp)
theorem Own.ext0 (h : Own w0.heap.size e size w0 W v n xs) : Ext w0 W := h.below
theorem ownsRow_fresh (h : W.ownsRow B e size v n xs) : ∀ a n' c, v = .slice a n' c → ∀ g, a = some g → B ≤ g.block ∧ g.block < W.heap.size := by
  intro a n' c hv g hg
  subst hv; subst hg
  exact h.lt g.block rfl
theorem ownsRow_at (h : W.ownsRow B e 1 v n xs) : ∃ a c, v = .slice a n c ∧ At W a c xs := by
  have hl := h.1
  rcases h.2 with ⟨rfl, rfl⟩ | ⟨g, cap, cur, rfl, hb, hg, hnc, hcm, hcs, htake⟩
  · exact ⟨none, 0, rfl, by omega, fun _ => rfl, .inl (List.eq_nil_of_length_eq_zero (by simpa using hl))⟩
  · refine ⟨_, _, rfl, by omega, (fun h => by cases h), .inr ⟨g, 0, rfl, fun j hj => ?_⟩⟩
    have h1 : xs[j]? = some xs[j] := List.getElem?_eq_getElem hj
    have := h.cells (g := g) rfl j xs[j] h1
    rw [h1]
    simpa [Addr.add_lit] using this
theorem Own.at (h : Own B e 1 w0 W v n xs) : ∃ a c, v = .slice a n c ∧ At W a c xs := ownsRow_at h.own
end

theorem cells_new (W : World) (news : List Value) (e g : Nat) (hg : g = W.heap.size) : ∀ j u, news[j]? = some u → (W.alloc (.cells news.toArray e)).cell? ((⟨g, 0, none⟩ : Addr).add j) = some u := by
  intro j u hj
  subst hg
  rw [Addr.add_lit]
  rw [World.cell?_alloc_at _ _ _ _ rfl]
  simpa using hj

theorem Own.weaken {B B' e size : Nat} {w0 w1 W : World} {v : Value} {n : Nat} {xs : List Value} (h : Own B e size w1 W v n xs) (hB : B' ≤ B) (hw : Below B' w0 w1) : Own B' e size w0 W v n xs := by
  refine ⟨⟨h.own.1, ?_⟩, hw.trans (h.below.mono hB), Nat.le_trans hB h.base⟩
  rcases h.own.2 with h2 | ⟨g, cap, cur, hv, hg, rest⟩
  · exact .inl h2
  · exact .inr ⟨g, cap, cur, hv, by omega, rest⟩

/-- What an append to v may have written, and where the new slice lies. -/
structure Grow (W : World) (v : Value) (w' : World) (v' : Value) : Prop where
  grown : W.grownBy w' v.ownBlock
  loc : v'.ownBlock = v.ownBlock ∨ ∃ g, v'.ownBlock = some g ∧ W.heap.size ≤ g

/-- 'out = append(out, x)': x lies in a new block of its own, the last one. -/
theorem wpList_app0 {P : Program} {W : World} {ops : Array Oper} {rest : List Oper} {o : Oper} {a : Act} {Q : Exit → Act → World → Prop} (hgd : o.guard = none) (s x : Operand) (t : TypeId)
    (ho : o.op = .call { callee := .builtin .append, args := #[s, x], argTypes := #[t, t] })
    (B e : Nat) (i : TypeInfo) (z : Value) (size bytes : Nat) (ht : P.underlying t = some (.slice e)) (hi : P.info? e = some i) (hz : i.zero = some z)
    (hsize : i.size = size) (hby : i.bytes = bytes) (hzs : z.cells.size = size) (hsz : 0 < size)
    (v : Value) (n : Nat) (xs : List Value) (hs : a.eval s = v) (hown : W.ownsRow B e size v n xs) (hB : B ≤ W.heap.size)
    (g : Nat) (news : List Value) (hx : a.eval x = .slice (some ⟨g, 0, none⟩) 1 1) (hg : g = W.heap.size) (hl : news.length = size) (h1 : ∀ u ∈ news, u.oneCell' = true)
    (h63 : n < 1099511627776) (hbytes : bytes ≤ 64)
    (h : ∀ v' w', w'.ownsRow B e size v' (n + 1) (xs ++ news) → Grow W v w' v' → wpList P ops Q rest (a.put o.dst v') w') :
    wpList P ops Q (o :: rest) a (W.alloc (.cells news.toArray e)) := by
  have hbase : B ≤ (W.alloc (.cells news.toArray e)).heap.size := by simp; omega
  refine wpList_append_own_at (w := W.alloc (.cells news.toArray e)) hgd s x t ho B e i z size bytes ht hi hz hsize hby hzs hsz v n xs hs (hown.alloc _) ⟨g, 0, none⟩ 1 1 news hx (by omega) (cells_new W news e g hg) h1 (by unfold maxLen; omega) ?_ hbase ?_
  · have h2 : (n + 1) * bytes ≤ 1099511627776 * 64 := Nat.mul_le_mul (by omega) hbytes
    omega
  · intro v' w' ho' hgr _ hloc
    have hg2 := World.grownBy_alloc W (.cells news.toArray e) v.ownBlock
    refine h v' w' ho' ⟨?_, hloc.imp id (fun h => ⟨_, h, by simp⟩)⟩
    exact ⟨hgr.os.trans hg2.os, hgr.tape.trans hg2.tape, hgr.output.trans hg2.output, Nat.le_trans hg2.size hgr.size, fun k hk hne => (hgr.block k (by simp; omega) hne).trans (hg2.block k hk hne)⟩

theorem wpList_app1 {P : Program} {W : World} {ops : Array Oper} {rest : List Oper} {o : Oper} {a : Act} {Q : Exit → Act → World → Prop} (hgd : o.guard = none) (s x : Operand) (t : TypeId)
    (ho : o.op = .call { callee := .builtin .append, args := #[s, x], argTypes := #[t, t] })
    (B e : Nat) (w0 : World) (i : TypeInfo) (z : Value) (size bytes : Nat) (ht : P.underlying t = some (.slice e)) (hi : P.info? e = some i) (hz : i.zero = some z)
    (hsize : i.size = size) (hby : i.bytes = bytes) (hzs : z.cells.size = size) (hsz : 0 < size)
    (v : Value) (n : Nat) (xs : List Value) (hs : a.eval s = v) (hown : Own B e size w0 W v n xs)
    (g : Nat) (news : List Value) (hx : a.eval x = .slice (some ⟨g, 0, none⟩) 1 1) (hg : g = W.heap.size) (hl : news.length = size) (h1 : ∀ u ∈ news, u.oneCell' = true)
    (h63 : n < 1099511627776) (hbytes : bytes ≤ 64)
    (h : ∀ v' w', Own B e size w0 w' v' (n + 1) (xs ++ news) → Grow W v w' v' → wpList P ops Q rest (a.put o.dst v') w') :
    wpList P ops Q (o :: rest) a (W.alloc (.cells news.toArray e)) := by
  refine wpList_app0 hgd s x t ho B e i z size bytes ht hi hz hsize hby hzs hsz v n xs hs hown.own hown.base g news hx hg hl h1 h63 hbytes ?_
  intro v' w' ho' hgr
  have hrow := hown.own.lt
  exact h v' w' ⟨ho', hown.below.grown hgr.grown hown.base (fun k hk => (hrow k hk).1), Nat.le_trans hown.base hgr.grown.size⟩ hgr

/-- 'out = append(out, src...)', src whatever slice of one-cell elements. -/
theorem wpList_appN {P : Program} {W : World} {ops : Array Oper} {rest : List Oper} {o : Oper} {a : Act} {Q : Exit → Act → World → Prop} (hgd : o.guard = none) (s x : Operand) (t : TypeId)
    (ho : o.op = .call { callee := .builtin .append, args := #[s, x], argTypes := #[t, t] })
    (B e : Nat) (w0 : World) (i : TypeInfo) (z : Value) (bytes : Nat) (ht : P.underlying t = some (.slice e)) (hi : P.info? e = some i) (hz : i.zero = some z)
    (hsize : i.size = 1) (hby : i.bytes = bytes) (hzs : z.cells.size = 1)
    (v : Value) (n : Nat) (xs : List Value) (hs : a.eval s = v) (hown : Own B e 1 w0 W v n xs)
    (ao : Option Addr) (m c : Nat) (news : List Value) (hx : a.eval x = .slice ao m c) (hl : m = news.length) (hat : At W ao c news) (h1 : ∀ u ∈ news, u.oneCell' = true)
    (h63 : n + m < 1099511627776) (hbytes : bytes ≤ 64)
    (h : ∀ v' w', Own B e 1 w0 w' v' (n + m) (xs ++ news) → Grow W v w' v' → wpList P ops Q rest (a.put o.dst v') w') :
    wpList P ops Q (o :: rest) a W := by
  cases ao with
  | none =>
    obtain ⟨rfl, rfl⟩ := hat.none_nil
    simp only [List.length_nil] at hl
    subst hl
    refine wpList_append_own_none hgd s x t ho B e i 1 ht hi v n xs hs hown.own hx ?_
    have := h v W (by simpa using hown) ⟨World.grownBy.refl _ _, .inl rfl⟩
    exact this
  | some ad =>
    refine wpList_append_own_at (w := W) hgd s x t ho B e i z 1 bytes ht hi hz hsize hby hzs (by decide) v n xs hs hown.own ad m c news hx (by omega) ?_ h1 (by unfold maxLen; omega) ?_ hown.base ?_
    · intro j u hj
      obtain ⟨b, off, ha, hc⟩ := hat.get hj
      obtain rfl := Option.some.inj ha
      rw [Addr.add_lit]
      exact hc
    · have h2 : (n + m) * bytes ≤ 1099511627776 * 64 := Nat.mul_le_mul (by omega) hbytes
      omega
    · intro v' w' ho' hgr _ hloc
      have hrow := hown.own.lt
      exact h v' w' ⟨ho', hown.below.grown hgr hown.base (fun k hk => (hrow k hk).1), Nat.le_trans hown.base hgr.size⟩ ⟨hgr, hloc.imp id (fun h => ⟨_, h, Nat.le_refl _⟩)⟩

theorem oneCell_strs (l : List ByteArray) : ∀ u ∈ strs l, u.oneCell' = true := by
  intro u hu; obtain ⟨_, _, rfl⟩ := List.mem_map.1 hu; rfl
theorem strs_append (l l' : List ByteArray) : strs (l ++ l') = strs l ++ strs l' := by simp [strs]
theorem strs_length (l : List ByteArray) : (strs l).length = l.length := by simp [strs]
theorem ints_length (l : List Int) : (ints l).length = l.length := by simp [ints]

theorem Own.made0 (w0 W : World) (B e : Nat) (h : B ≤ W.heap.size) (hb : Below B w0 W) : Own B e 1 w0 (W.alloc (.cells #[] e)) (.slice (some ⟨W.heap.size, 0, none⟩) 0 0) 0 [] :=
  ⟨World.ownsRow_made W #[] 0 h (by unfold maxLen; omega) rfl, hb.alloc h _, by simp; omega⟩

theorem oneCell_one (x : Value) (h : x.oneCell' = true) : ∀ u ∈ [x], u.oneCell' = true := by
  intro u hu; simp at hu; subst hu; exact h
theorem oneCell_two (x y : Value) (h : x.oneCell' = true) (h' : y.oneCell' = true) : ∀ u ∈ [x, y], u.oneCell' = true := by
  intro u hu; simp at hu; rcases hu with rfl | rfl <;> assumption

/-- 'xs[k:]', one-cell elements. -/
theorem slice_from {P : Program} (t : TypeId) (ht : P.underlying t = some (.slice (P.elem t))) (hs : ∀ w, (sizeOf (P.elem t)).run P w = .ok 1 w) (a : Option Addr) (n c k : Nat) (h : k ≤ n) :
    ∃ a', (∀ w, (Instr.slice t (.slice a n c) (some (.int .i64 (k : Int))) none none).run P w = .ok (.slice a' (n - k) (c - k)) w) ∧ ∀ w xs, At w a c xs → At w a' (c - k) (xs.drop k) := by
  refine ⟨if c = k then a else a.map (·.add (k * 1)), fun w => ?_, fun w xs hx => ?_⟩
  · rw [run_slice_l w t a n c ht .i64 (k : Int) (by omega) (by omega), hs]
    simp [Result.andThen, sliced]
  · have hcap := hx.cap
    refine ⟨by simp; omega, fun hn => ?_, ?_⟩
    · split at hn
      · omega
      · have := hx.nil0 (by simpa using hn); omega
    · by_cases hk : xs.length ≤ k
      · exact .inl (List.drop_of_length_le hk)
      · rcases hx.cells with hx | ⟨b, off, rfl, hc⟩
        · subst hx; simp at hk
        · right
          refine ⟨b, off + k, by rw [if_neg (by omega)]; simp [Addr.add_lit], fun j hj => ?_⟩
          simp at hj
          rw [Nat.add_assoc, hc (k + j) (by omega), List.getElem?_drop]

/-- 'xs[k:m]', one-cell elements. -/
theorem slice_fromto {P : Program} (t : TypeId) (ht : P.underlying t = some (.slice (P.elem t))) (hs : ∀ w, (sizeOf (P.elem t)).run P w = .ok 1 w) (a : Option Addr) (n c k m : Nat) (h : k ≤ m) (h' : m ≤ c) :
    ∃ a', (∀ w, (Instr.slice t (.slice a n c) (some (.int .i64 (k : Int))) (some (.int .i64 (m : Int))) none).run P w = .ok (.slice a' (m - k) (c - k)) w) ∧ ∀ w xs, At w a c xs → At w a' (c - k) ((xs.take m).drop k) := by
  refine ⟨if c = k then a else a.map (·.add (k * 1)), fun w => ?_, fun w xs hx => ?_⟩
  · rw [run_slice_lh w t a n c ht .i64 .i64 (k : Int) (m : Int) (by omega) (by omega) (by omega), hs]
    simp [Result.andThen, sliced]
  · have hcap := hx.cap
    refine ⟨by simp; omega, fun hn => ?_, ?_⟩
    · split at hn
      · omega
      · have := hx.nil0 (by simpa using hn); omega
    · by_cases hk : (xs.take m).length ≤ k
      · exact .inl (List.drop_of_length_le hk)
      · rcases hx.cells with hx | ⟨b, off, rfl, hc⟩
        · subst hx; simp at hk
        · right
          simp at hk
          refine ⟨b, off + k, by rw [if_neg (by omega)]; simp [Addr.add_lit], fun j hj => ?_⟩
          simp at hj
          rw [Nat.add_assoc, hc (k + j) (by omega), List.getElem?_drop, List.getElem?_take_of_lt (by omega)]

end Go.Proofs.Ythkkjbigfnimbaa
