/- Blocks known whole, and what else has stayed; the words of a row. No program in sight. -/
import Derived.Test.YthkkjbigfnimbaaLcs
namespace Go.Proofs.Ythkkjbigfnimbaa
open Go.RowKit

/-- Block g holds the cells xs, none of them frozen. -/
def Blk (w : World) (g e : Nat) (xs : List Value) : Prop := w.heap[g]? = some (.cells xs.toArray e (0, 0))

theorem Blk.cell {w : World} {g e : Nat} {xs : List Value} (h : Blk w g e xs) {j : Nat} {v : Value} (hj : xs[j]? = some v) : w.cell? ⟨g, j, none⟩ = some v := by
  unfold Blk at h
  simp [World.cell?, h, hj]
theorem Blk.free {w : World} {g e : Nat} {xs : List Value} (h : Blk w g e xs) (j : Nat) : w.frozen? ⟨g, j, none⟩ = false := by
  unfold Blk at h
  simp [World.frozen?, h]
theorem Blk.lt {w : World} {g e : Nat} {xs : List Value} (h : Blk w g e xs) : g < w.heap.size := (Array.getElem?_eq_some_iff.1 h).1
theorem Blk.set {w : World} {g e : Nat} {xs : List Value} (h : Blk w g e xs) (j : Nat) (v : Value) : Blk (w.setCell ⟨g, j, none⟩ v) g e (xs.set j v) := by
  unfold Blk at h ⊢
  simp [World.setCell, Array.getElem?_modify, h]
theorem Blk.other {w : World} {g e : Nat} {xs : List Value} (h : Blk w g e xs) {p : Addr} (hp : p.block ≠ g) (v : Value) : Blk (w.setCell p v) g e xs := by
  unfold Blk at h ⊢
  rw [Below.heap_setCell _ _ _ _ (Ne.symm hp)]; exact h
theorem Blk.drewN {w : World} {g e : Nat} {xs : List Value} (h : Blk w g e xs) (n : Nat) : Blk (w.drewN n) g e xs := h
theorem Blk.alloc {w : World} {g e : Nat} {xs : List Value} (h : Blk w g e xs) (o : Obj) : Blk (w.alloc o) g e xs := by
  unfold Blk at h ⊢
  rw [Below.heap_alloc _ _ _ (Blk.lt h)]; exact h
theorem Blk.ne {w : World} {g g' e e' : Nat} {xs xs' : List Value} (h : Blk w g e xs) (h' : Blk w g' e' xs') (he : e ≠ e') : g ≠ g' := by
  intro e1; subst e1
  unfold Blk at h h'
  rw [h] at h'; simp at h'; exact he h'.2

/-- w' is w but for the blocks of S and for new ones. -/
structure But (S : Nat → Prop) (w w' : World) : Prop where
  os : w'.os = w.os
  tape : w'.tape = w.tape
  output : w'.output = w.output
  size : w.heap.size ≤ w'.heap.size
  block : ∀ k, k < w.heap.size → ¬ S k → w'.heap[k]? = w.heap[k]?

section
variable {S T : Nat → Prop} {a b c w w' : World}
theorem But.refl (S : Nat → Prop) (w : World) : But S w w := ⟨rfl, rfl, rfl, Nat.le_refl _, fun _ _ _ => rfl⟩
theorem But.trans (h : But S a b) (k : But S b c) : But S a c :=
  ⟨k.os.trans h.os, k.tape.trans h.tape, k.output.trans h.output, Nat.le_trans h.size k.size, fun i hi hS => (k.block i (Nat.lt_of_lt_of_le hi h.size) hS).trans (h.block i hi hS)⟩
/-- The second step may write what was not there at the first. -/
theorem But.andThen (h : But S a b) (k : But T b c) (hT : ∀ i, i < a.heap.size → T i → S i) : But S a c :=
  ⟨k.os.trans h.os, k.tape.trans h.tape, k.output.trans h.output, Nat.le_trans h.size k.size, fun i hi hS => (k.block i (Nat.lt_of_lt_of_le hi h.size) (fun t => hS (hT i hi t))).trans (h.block i hi hS)⟩
theorem But.mono (h : But S a b) (hT : ∀ i, i < a.heap.size → S i → T i) : But T a b := ⟨h.os, h.tape, h.output, h.size, fun i hi hS => h.block i hi (fun t => hS (hT i hi t))⟩
theorem But.drewN (h : But S a b) (n : Nat) : But S a (b.drewN n) := ⟨h.os, h.tape, h.output, h.size, h.block⟩
theorem But.alloc (h : But S a b) (o : Obj) : But S a (b.alloc o) :=
  ⟨h.os, h.tape, h.output, by have := h.size; simp; omega, fun i hi hS => (Below.heap_alloc b o i (Nat.lt_of_lt_of_le hi h.size)).trans (h.block i hi hS)⟩
theorem But.setCell (h : But S a b) {p : Addr} (hp : p.block < a.heap.size → S p.block) (v : Value) : But S a (b.setCell p v) :=
  ⟨h.os, h.tape, h.output, by have := h.size; simp [World.setCell]; omega, fun i hi hS => (Below.heap_setCell b p v i (fun e => hS (e ▸ hp (e ▸ hi)))).trans (h.block i hi hS)⟩
theorem But.blk (h : But S w w') {g e : Nat} {xs : List Value} (hb : Blk w g e xs) (hg : ¬ S g) : Blk w' g e xs := by
  have := h.block g hb.lt hg
  unfold Blk at *
  rw [this]; exact hb
theorem But.cell (h : But S w w') {p : Addr} {v : Value} (hp : w.cell? p = some v) (hS : ¬ S p.block) : w'.cell? p = some v :=
  (World.cell?_of_block (h.block p.block (World.block_lt_of_cell? w p hp) hS)).trans hp
theorem But.at (h : But S w w') {a : Option Addr} {c : Nat} {xs : List Value} (ha : At w a c xs) (hS : ∀ b off, a = some ⟨b, off, none⟩ → ¬ S b) : At w' a c xs := by
  refine ⟨ha.cap, ha.nil0, ?_⟩
  rcases ha.cells with hx | ⟨b, off, hb, hc⟩
  · exact .inl hx
  · refine .inr ⟨b, off, hb, fun j hj => ?_⟩
    have := hc j hj
    rw [List.getElem?_eq_getElem hj] at this ⊢
    exact h.cell this (hS b off hb)
theorem But.ext (h : But S w w') (hS : ∀ i, i < w.heap.size → ¬ S i) : Ext w w' := ⟨h.os, h.tape, h.output, h.size, fun k hk => h.block k hk (hS k hk)⟩
theorem Ext.but (h : Ext w w') (S : Nat → Prop) : But S w w' := ⟨h.os, h.tape, h.output, h.size, fun k hk _ => h.block k hk⟩
theorem But.grown {row : Option Nat} (h : w.grownBy w' row) (hr : ∀ k, row = some k → S k) : But S w w' := ⟨h.os, h.tape, h.output, h.size, fun k hk hS => h.block k hk (fun e => hS (hr k e.symm))⟩
end

/-- The row of v is one of S, or is new since w. -/
def Loc (S : Nat → Prop) (w : World) (v : Value) : Prop := ∀ g, v.ownBlock = some g → S g ∨ w.heap.size ≤ g

theorem Grow.but {S : Nat → Prop} {w W w' : World} {v v' : Value} (h : Grow W v w' v') (hb : But S w W) (hl : Loc S w v) : But S w w' ∧ Loc S w v' := by
  refine ⟨hb.andThen (T := fun k => v.ownBlock = some k) (But.grown h.grown (fun k hk => hk)) (fun i hi ht => (hl i ht).elim id (fun h => by omega)), fun g hg => ?_⟩
  rcases h.loc with e | ⟨g', e, hg'⟩
  · exact hl g (by rw [← e]; exact hg)
  · rw [e] at hg; obtain rfl := Option.some.inj hg
    exact .inr (Nat.le_trans hb.size hg')

/-- 'out = append(out, x)' as one step of a region that draws: x lies in a new block of its own, the last one. -/
theorem step_app1 {P : Program} {W : World} {ops : Array Oper} {o : Oper} {a : Act} {K : Act → World → Prop} {Q : Exit → Act → World → Prop} {E : Prop} (hgd : o.guard = none) (s x : Operand) (t : TypeId)
    (ho : o.op = .call { callee := .builtin .append, args := #[s, x], argTypes := #[t, t] })
    (B e : Nat) (w0 : World) (i : TypeInfo) (z : Value) (size bytes : Nat) (ht : P.underlying t = some (.slice e)) (hi : P.info? e = some i) (hz : i.zero = some z)
    (hsize : i.size = size) (hby : i.bytes = bytes) (hzs : z.cells.size = size) (hsz : 0 < size)
    (v : Value) (n : Nat) (xs : List Value) (hs : a.eval s = v) (hown : Own B e size w0 W v n xs)
    (g : Nat) (news : List Value) (hx : a.eval x = .slice (some ⟨g, 0, none⟩) 1 1) (hg : g = W.heap.size) (hl : news.length = size) (h1 : ∀ u ∈ news, u.oneCell' = true)
    (h63 : n < 1099511627776) (hbytes : bytes ≤ 64)
    (h : ∀ v' w', Own B e size w0 w' v' (n + 1) (xs ++ news) → Grow W v w' v' → K (a.put o.dst v') w') :
    if Region.wanted o (yielded ops a.tmps) = true then Oper.wp P o a (W.alloc (.cells news.toArray e)) K Q else E := by
  rw [if_pos (by simp [Region.wanted, hgd])]
  have hbase : B ≤ (W.alloc (.cells news.toArray e)).heap.size := by have := hown.base; simp; omega
  have h2 : (n + 1) * bytes ≤ 1099511627776 * 64 := Nat.mul_le_mul (by omega) hbytes
  obtain ⟨v', w', hr, ho', hgr, _, hloc⟩ := run_append_own_at (P := P) (W.alloc (.cells news.toArray e)) B t o.type e i z size bytes ht hi hz hsize hby hzs hsz v n xs (hown.own.alloc _) ⟨g, 0, none⟩ 1 1 news (by omega) (cells_new W news e g hg) h1 (by unfold maxLen; omega) (by omega) hbase
  have hg2 := World.grownBy_alloc W (.cells news.toArray e) v.ownBlock
  have hgr' : W.grownBy w' v.ownBlock := ⟨hgr.os.trans hg2.os, hgr.tape.trans hg2.tape, hgr.output.trans hg2.output, Nat.le_trans hg2.size hgr.size, fun k hk hne => (hgr.block k (by simp; omega) hne).trans (hg2.block k hk hne)⟩
  have hrow := hown.own.lt
  unfold Oper.wp execOp
  simp only [ho, resolve, invoke, builtin, Sem.run_bind, Sem.run_pure, Result.andThen_ok, List.map_toArray, List.map_cons, List.map_nil, hs, hx, hr]
  exact h v' w' ⟨ho', hown.below.grown hgr' hown.base (fun k hk => (hrow k hk).1), Nat.le_trans hown.base hgr'.size⟩ ⟨hgr', hloc.imp id (fun h => ⟨_, h, by simp⟩)⟩

theorem blk_of_full {w : World} {B e g n : Nat} {xs : List Value} (h : w.ownsRow B e 1 (.slice (some ⟨g, 0, none⟩) n n) n xs) : Blk w g e xs := by
  rcases h.2 with ⟨h1, _⟩ | ⟨g', cap, cur, h1, _, hg, _, _, hs, ht⟩
  · cases h1
  · simp only [Value.slice.injEq, Option.some.injEq, Addr.mk.injEq] at h1
    obtain ⟨⟨rfl, _, _⟩, _, rfl⟩ := h1
    unfold Blk
    rw [hg, ← ht, List.take_of_length_le (by simp [hs])]

/-- The bits of g from place j on, m of them, the first one lowest. -/
def packed (g : Nat → Nat) (j : Nat) : Nat → Nat
  | 0 => 0
  | m + 1 => g j + 2 * packed g (j + 1) m

theorem packed_lt (g : Nat → Nat) (hg : ∀ j, g j ≤ 1) : ∀ m j, packed g j m < 2 ^ m := by
  intro m
  induction m with
  | zero => intro j; simp [packed]
  | succ m ih => intro j; have := ih (j + 1); have := hg j; simp only [packed, Nat.pow_succ]; omega

theorem packed_div (g : Nat → Nat) (hg : ∀ j, g j ≤ 1) : ∀ t j m, packed g j (t + m) / 2 ^ t = packed g (j + t) m := by
  intro t
  induction t with
  | zero => intro j m; simp
  | succ t ih =>
    intro j m
    rw [show t + 1 + m = (t + m) + 1 by omega, packed, Nat.pow_succ, Nat.mul_comm (2 ^ t) 2, ← Nat.div_div_eq_div_mul]
    have h1 : (g j + 2 * packed g (j + 1) (t + m)) / 2 = packed g (j + 1) (t + m) := by have := hg j; omega
    rw [h1, ih, show j + 1 + t = j + (t + 1) by omega]

theorem packed_pc (f : Nat → Nat) (hf : ∀ j, f (j + 1) ≤ f j ∧ f j ≤ f (j + 1) + 1) : ∀ K m j, m ≤ K → pcN K (packed (fun j => f j - f (j + 1)) j m) + f (j + m) = f j := by
  intro K
  induction K with
  | zero => intro m j h; obtain rfl : m = 0 := by omega
            simp [pcN]
  | succ K ih =>
    intro m j h
    cases m with
    | zero => 
      have : ∀ K, pcN K 0 = 0 := fun K => by induction K with | zero => rfl | succ K ih => simp [pcN, ih]
      simp [packed, this]
    | succ m =>
      have hb := hf j
      have h1 := ih m (j + 1) (by omega)
      simp only [pcN, packed]
      have e1 : (f j - f (j + 1) + 2 * packed (fun j => f j - f (j + 1)) (j + 1) m) % 2 = f j - f (j + 1) := by omega
      have e2 : (f j - f (j + 1) + 2 * packed (fun j => f j - f (j + 1)) (j + 1) m) / 2 = packed (fun j => f j - f (j + 1)) (j + 1) m := by omega
      rw [e1, e2]
      rw [show j + (m + 1) = j + 1 + m by omega]
      omega

theorem or_bit (t p : Nat) : (2 ^ (t + 1) * p) ||| 2 ^ t = 2 ^ t + 2 ^ (t + 1) * p := by
  have h : 2 ^ t < 2 ^ (t + 1) := Nat.pow_lt_pow_right (by decide) (by omega)
  have h1 := Nat.two_pow_add_eq_or_of_lt h p
  rw [← h1]; omega

/-- n times z. -/
def repl (n : Nat) (z : Value) : Array Value := (List.replicate n z).toArray

theorem mk_eq {P : Program} (t e : TypeId) (z : Value) (bytes : Nat) (ht : P.underlying t = some (.slice e)) (hinfo : (P.info? e).map (fun i => (i.zero, i.size, i.bytes)) = some (some z, 1, bytes)) (hz1 : z.cells = #[z])
    (L : Int) (n : Nat) (hL : L = n) (hb : bytes ≤ 64) (hn : n ≤ 1099511627776) (w : World) :
    (Instr.makeSlice t (.int .i64 L) (.int .i64 L)).run P w = .ok (.slice (some ⟨w.heap.size, 0, none⟩) n n) (w.alloc (.cells (repl n z) e)) := by
  obtain ⟨i, hi, hz, h1, h2⟩ := info_parts hinfo
  subst hL
  have h4 : bytes * n ≤ 70368744177664 := Nat.mul_le_mul hb hn
  have h3 : (i.bytes : Int) * n ≤ 70368744177664 := by
    rw [h2, ← Int.natCast_mul]
    omega
  have h := run_make (P := P) w t e i z ht hi hz .i64 .i64 n n (by omega) (by omega) (by omega) (by omega)
  rw [h, hz1, h1]
  simp only [Int.toNat_natCast, Nat.mul_one]
  have e : madeCells #[z] n = repl n z := by
    apply Array.toList_inj.1
    rw [toList_madeCells_one]; rfl
  rw [e]

theorem blk_repl (w : World) (n e : Nat) (z : Value) : Blk (w.alloc (.cells (repl n z) e)) w.heap.size e (List.replicate n z) := heap_alloc_new w _

theorem wpList_mk {P : Program} {w : World} {ops : Array Oper} {rest : List Oper} {o : Oper} {a : Act} {Q : Exit → Act → World → Prop}
    (hg : o.guard = none) (l c : Operand) (t : TypeId) (hop : o.op = Op.makeSlice t l c)
    (e : TypeId) (z : Value) (bytes : Nat) (ht : P.underlying t = some (.slice e)) (hinfo : (P.info? e).map (fun i => (i.zero, i.size, i.bytes)) = some (some z, 1, bytes)) (hz1 : z.cells = #[z])
    (L : Int) (hl : a.eval l = .int .i64 L) (hc : a.eval c = .int .i64 L) (n : Nat) (hL : L = (n : Int)) (hb : bytes ≤ 64) (hn : n ≤ 1099511627776)
    (hK : ∀ w', Blk w' w.heap.size e (List.replicate n z) → Ext w w' → w'.heap.size = w.heap.size + 1 → wpList P ops Q rest (a.put o.dst (.slice (some ⟨w.heap.size, 0, none⟩) n n)) w') :
    wpList P ops Q (o :: rest) a w := by
  refine wpList_plain hg fun K hK' => ?_
  have hrun := mk_eq (P := P) t e z bytes ht hinfo hz1 L n hL hb hn w
  unfold Oper.wp
  simp [execOp, hop, hl, hc, hrun, Result.andThen]
  exact hK' _ _ (hK _ (blk_repl w n e z) ((Below.refl _ _).alloc (Nat.le_refl _) _) (by simp))

end Go.Proofs.Ythkkjbigfnimbaa
