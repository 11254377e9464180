/- Walks: number's closure, number. -/
import Derived.Test.YthkkjbigfnimbaaW3
import Derived.Maps.OwnSet
import Derived.Maps.OwnOps
import Derived.Maps.Range
namespace Go.Proofs.Ythkkjbigfnimbaa
open Go.RowKit Go.Maps

theorem Try.info3 : (Try.prog.info? 3).map (fun i => (i.zero, i.size, i.bytes)) = some (some (.int .i64 0), 1, 8) := by kernel_rfl
theorem zero3 (w : World) : (zeroValue 3).run Try.prog w = .ok (.int .i64 0) w := by kernel_rfl
theorem law9 : Keyed Try.prog 9 := string_keyed Try.underlying9

def addK (ks : List ByteArray) (s : ByteArray) : List ByteArray := if s ∈ ks then ks else ks ++ [s]
def addAll (ks l : List ByteArray) : List ByteArray := l.foldl addK ks

def key (s : ByteArray) : Lit := .string s.data.toList
theorem key_inj {s t : ByteArray} (h : key s = key t) : s = t := by
  simp only [key, Lit.string.injEq] at h
  cases s; cases t
  simpa using h
theorem key_is (s : ByteArray) : WideAt.IsKeyLit (key s) := by simp [key, WideAt.IsKeyLit]

/-- Block mb is a map that numbers the strings of ks by their places. -/
def Num (w : World) (mb : Nat) (ks : List ByteArray) : Prop :=
  ∃ D : DataW Unit, w.ownsMap Try.prog 9 (plainElem Try.prog 3) mb ks.length D ∧ Maps.size D = ks.length ∧
    ∀ s, Maps.has D (key s) = decide (s ∈ ks) ∧ (s ∈ ks → ∀ z, D.atKey (key s) z = .lit (.int .i64 (ks.idxOf s : Int)))

theorem num_put {w : World} {mb : Nat} {ks : List ByteArray} {D : DataW Unit} {s : ByteArray} (hs : s ∉ ks) (ht : Tidy D)
    (h : w.ownsMap Try.prog 9 (plainElem Try.prog 3) mb (ks.length + 1) (D.put (key s) (.lit (.int .i64 (ks.length : Int))))) (hz : Maps.size D = ks.length)
    (hd : ∀ s, Maps.has D (key s) = decide (s ∈ ks) ∧ (s ∈ ks → ∀ z, D.atKey (key s) z = .lit (.int .i64 (ks.idxOf s : Int)))) : Num w mb (ks ++ [s]) := by
  refine ⟨_, by simpa using h, ?_, ?_⟩
  · rw [size_put ht, (hd s).1]; simp [hs, hz]
  · intro t
    by_cases e : t = s
    · subst e
      refine ⟨by rw [has_put_same ht.isMap (key_is _)]; simp, fun _ z => ?_⟩
      rw [atKey_put_same ht.isMap (key_is _), List.idxOf_append, if_neg hs]
      simp
    · have hne : key t ≠ key s := fun h => e (key_inj h)
      refine ⟨by rw [has_put_other hne, (hd t).1]; simp [e], fun hm z => ?_⟩
      have hm' : t ∈ ks := by simpa [e] using hm
      rw [atKey_put_other hne, (hd t).2 hm' z, List.idxOf_append, if_pos hm']

theorem Num.kept {w w' : World} {mb : Nat} {ks : List ByteArray} {row : Option Nat} (h : Num w mb ks) (hg : w.grownBy w' row) (hne : some mb ≠ row) : Num w' mb ks := by
  obtain ⟨D, h1, h2⟩ := h
  exact ⟨D, h1.kept hg hne, h2⟩

theorem Num.block {w : World} {mb : Nat} {ks : List ByteArray} (h : Num w mb ks) : ∃ es c, w.heap[mb]? = some (.map es c) := by
  obtain ⟨D, ⟨es, c, h1, _⟩, _⟩ := h
  exact ⟨es, c, h1⟩

theorem cell_ne {w : World} {mb : Nat} {ks : List ByteArray} (h : Num w mb ks) {p : Addr} {v : Value} (hc : w.cell? p = some v) : some p.block ≠ some mb := by
  obtain ⟨es, c, hm⟩ := h.block
  intro e
  have e' : p.block = mb := Option.some.inj e
  simp [World.cell?, e', hm] at hc

theorem row_ne {w : World} {mb : Nat} {ks : List ByteArray} (h : Num w mb ks) {B e size n : Nat} {v : Value} {xs : List Value} (ho : w.ownsRow B e size v n xs) : v.ownBlock ≠ some mb := by
  intro hv
  obtain ⟨es, c, hm⟩ := h.block
  rcases ho.2 with ⟨rfl, _⟩ | ⟨g, cap, cur, rfl, _, hg, _⟩
  · simp [Value.ownBlock] at hv
  · simp [Value.ownBlock] at hv; subst hv; rw [hg] at hm; cases hm

theorem addAll_snoc (ks l : List ByteArray) (k : Nat) (s : ByteArray) (h : l[k]? = some s) : addAll ks (l.take (k + 1)) = addK (addAll ks (l.take k)) s := by
  rw [List.take_add_one, h]; simp [addAll, List.foldl_append]

theorem addK_sub (ks : List ByteArray) (s : ByteArray) : ∃ t, addK ks s = ks ++ t := by
  unfold addK; split
  · exact ⟨[], by simp⟩
  · exact ⟨[s], rfl⟩
theorem addAll_sub (l : List ByteArray) : ∀ ks, ∃ t, addAll ks l = ks ++ t := by
  induction l with
  | nil => intro ks; exact ⟨[], by simp [addAll]⟩
  | cons s l ih =>
    intro ks
    obtain ⟨t, ht⟩ := addK_sub ks s
    obtain ⟨t', ht'⟩ := ih (addK ks s)
    refine ⟨t ++ t', ?_⟩
    show addAll (addK ks s) l = _
    rw [ht', ht, List.append_assoc]
theorem mem_addAll (l : List ByteArray) : ∀ ks s, s ∈ l → s ∈ addAll ks l := by
  induction l with
  | nil => intro ks s h; cases h
  | cons x l ih =>
    intro ks s h
    rcases List.mem_cons.1 h with rfl | h
    · obtain ⟨t, ht⟩ := addAll_sub l (addK ks s)
      show s ∈ addAll (addK ks s) l
      rw [ht]
      apply List.mem_append_left
      unfold addK; split
      · assumption
      · simp
    · exact ih _ _ h
theorem idx_stable {ks t : List ByteArray} {s : ByteArray} (h : s ∈ ks) : (ks ++ t).idxOf s = ks.idxOf s := by rw [List.idxOf_append, if_pos h]
theorem addAll_len (l : List ByteArray) : ∀ ks, (addAll ks l).length ≤ ks.length + l.length := by
  induction l with
  | nil => intro ks; simp [addAll]
  | cons x l ih =>
    intro ks
    have h1 := ih (addK ks x)
    have h2 : (addK ks x).length ≤ ks.length + 1 := by unfold addK; split <;> simp
    show (addAll (addK ks x) l).length ≤ _
    simp only [List.length_cons]
    omega

/-- The numbers of the strings of l among ks. -/
def nums (ks l : List ByteArray) : List Int := l.map fun s => (ks.idxOf s : Int)

theorem nums_snoc (ks l : List ByteArray) (k : Nat) (s : ByteArray) (h : l[k]? = some s) (K : List ByteArray) (hK : K = addAll ks (l.take (k + 1))) :
    nums K (l.take (k + 1)) = nums (addAll ks (l.take k)) (l.take k) ++ [(K.idxOf s : Int)] := by
  rw [List.take_add_one, h]
  simp only [nums, List.map_append, Option.toList, List.map_cons, List.map_nil]
  congr 1
  apply List.map_congr_left
  intro x hx
  have hm := mem_addAll (l.take k) ks x hx
  rw [addAll_snoc ks l k s h] at hK
  obtain ⟨t, ht⟩ := addK_sub (addAll ks (l.take k)) s
  rw [hK, ht, idx_stable hm]


theorem keyOf9 (s : ByteArray) (h : s.size ≤ 9223372036854775807) : keyOf Try.prog 9 (.string s) = some (key s) := WideMaps.keyOf_string_mk Try.underlying9 (by unfold maxLen; omega)

/-- What a round of the closure hands on. -/
structure NRel (w wr : World) (mb : Nat) (ks l : List ByteArray) (v : Value) (k : Nat) : Prop where
  own : wr.ownsRow w.heap.size 3 1 v k (ints (nums (addAll ks (l.take k)) (l.take k)))
  num : Num wr mb (addAll ks (l.take k))
  grown : w.grownBy wr (some mb)

theorem NRel.append {w wr W w' : World} {mb : Nat} {ks l : List ByteArray} {v v' : Value} {k : Nat} {s : ByteArray} (h : NRel w wr mb ks l v k) (hs : l[k]? = some s)
    (hg : wr.grownBy W (some mb)) (hn : Num W mb (addAll ks (l.take (k + 1))))
    (ho : w'.ownsRow w.heap.size 3 1 v' (k + 1) (ints (nums (addAll ks (l.take k)) (l.take k)) ++ [.int .i64 ((addAll ks (l.take (k + 1))).idxOf s : Int)])) (hg' : W.grownBy w' v.ownBlock) : NRel w w' mb ks l v' (k + 1) := by
  have hlt := h.own.lt
  have hne := row_ne h.num h.own
  refine ⟨?_, hn.kept hg' (Ne.symm hne), (h.grown.trans hg).andThen hg' (fun j hj => .inl (hlt j hj).1)⟩
  rw [nums_snoc ks l k s hs _ rfl]
  simpa [ints] using ho

set_option maxHeartbeats 2000000 in
theorem number1_any (a : Option Addr) (n c mb cb : Nat) (l ks : List ByteArray) (w : World) (hn : n = l.length) (hc : At w a c (strs l)) (hm : n < 1099511627776) (hsz : ∀ s ∈ l, s.size ≤ 9223372036854775807)
    (hk : ks.length < 1099511627776) (hcb : w.cell? ⟨cb, 0, none⟩ = some (.map (some mb))) (_hmb : mb < w.heap.size) (hnum : Num w mb ks) :
    Calls Try.prog 28 #[.slice a n c, .pointer (some ⟨cb, 0, none⟩)] w fun e w' =>
      ∃ a' c', e = .returned (.slice a' n c') ∧ At w' a' c' (ints (nums (addAll ks l) l)) ∧ Num w' mb (addAll ks l) ∧ w.grownBy w' (some mb) := by
  obtain ⟨i0, hi, hz0, hz1, hz2⟩ := info_parts Try.info3
  have HN := Lib.hid hn
  have HS := Lib.hid hsz
  have HC := Lib.hid hcb
  have HNum := Lib.hid hnum
  clear hn hsz hcb hnum
  go_enter Try.func28, Try.ntmps28
  go_wp2_with (at_make; go_must (refine wpList_make_own _ rfl _ _ 56 rfl w.heap.size 3 i0 (.int .i64 0) 1 Try.underlying56 hi hz0 hz1 _ _ _ n rfl rfl rfl (by rw [hz2]; omega) (by unfold maxLen; omega) (Nat.le_refl _) ?_); intro w1 hown1 hgrow1)
  have hr0 : NRel w w1 mb ks l (.slice (some ⟨w.heap.size, 0, none⟩) 0 n) 0 := ⟨by simpa [nums, ints] using hown1, (by simpa [addAll] using HNum.out.kept hgrow1 (by simp)), hgrow1.but _⟩
  have HR0 := Lib.hid hr0
  clear hr0 hown1 hgrow1
  go_loopw [4, 14] (fun v i wr => ∃ k : Nat, k ≤ n ∧ i = .int .i64 k ∧ NRel w wr mb ks l v k) (fun _ i _ => n - (intOf i).toNat)
  case atStart => exact ⟨0, Nat.zero_le _, rfl, HR0.out⟩
  case round =>
    obtain ⟨k, hk1, rfl, hR⟩ := hrel
    have HR := Lib.hid hR
    clear hR HR0
    by_cases hlt : k < n
    · obtain ⟨s, hs⟩ := some_of_lt (show k < l.length by rw [← HN.out]; exact hlt)
      obtain ⟨b, off, rfl, hcell⟩ := hc.get (strs_get hs)
      have hcx : wr.cell? ⟨b, off + k, none⟩ = some (.string s) := HR.out.grown.cell hcell (cell_ne HNum.out hcell)
      have hcbr : wr.cell? ⟨cb, 0, none⟩ = some (.map (some mb)) := HR.out.grown.cell HC.out (cell_ne HNum.out HC.out)
      have hkey := keyOf9 s (HS.out s (List.mem_of_getElem? hs))
      obtain ⟨D, hD, hDz, hDs⟩ := HR.out.num
      have hlen := addAll_len (l.take k) ks
      have hlen2 : (l.take k).length ≤ k := List.length_take_le _ _
      have HL : Hid ((addAll ks (l.take k)).length < 2199023255552) := by show _ < _; omega
      have Hs := Lib.hid hs
      have hadd := Lib.hid (addAll_snoc ks l k s hs)
      clear hs hcell hc HS hlen hlen2 HN HC HNum
      by_cases hin : s ∈ addAll ks (l.take k)
      · have hhas : Maps.has D (key s) = true := by rw [(hDs s).1]; simp [hin]
        have hat := Lib.hid ((hDs s).2 hin)
        have hsame : Hid (addAll ks (l.take (k + 1)) = addAll ks (l.take k)) := by show _ = _; rw [hadd.out]; simp [addK, hin]
        clear hDs hDz
        have tok1 : True := trivial
        have hown := HR.out.own
        go_wp2_with (first | (at_lookup; have _t := tok1; go_must (refine wpList_lookup_own_ok_int _ rfl _ _ 69 rfl 9 3 .i64 law9 Try.underlying69 Try.underlying3 (zero3 _) mb _ D rfl hD _ _ rfl hkey ?_); intro c1 hat1 hwc1; clear tok1 hat1 hwc1) | (at_lookup; go_must (refine wpList_lookup_own_int _ rfl _ _ 69 rfl 9 3 .i64 law9 Try.underlying69 Try.underlying3 (zero3 _) mb _ D rfl hD _ _ rfl hkey ?_); intro c2 hat2 hwc2) | (at_builtin; go_must (refine wpList_app0 rfl _ _ 56 rfl w.heap.size 3 i0 (.int .i64 0) 1 8 Try.underlying56 hi hz0 hz1 hz2 rfl (by decide) _ k _ rfl hown (HR.out.grown.size) _ _ rfl rfl rfl (oneCell_one _ rfl) (by omega) (by decide) ?_); intro v' w' hown' hgrow'))
        have hc2 : c2 = ((addAll ks (l.take k)).idxOf s : Int) := by
          have h1 := hat.out (.lit (.int .i64 0))
          rw [hat2] at h1
          simpa using h1
        have hfin : NRel w w' mb ks l v' (k + 1) := HR.out.append Hs.out (World.grownBy.refl _ _) (by rw [hsame.out]; exact HR.out.num) (by rw [hsame.out, ← hc2]; exact hown') hgrow'.grown
        go_roundw
        case rel => exact ⟨k + 1, by omega, by go_num, hfin⟩
        case measure => simp [intOf]; omega
      · have hhas : Maps.has D (key s) = false := by rw [(hDs s).1]; simp [hin]
        have hnew : Hid (addAll ks (l.take (k + 1)) = addAll ks (l.take k) ++ [s]) := by show _ = _; rw [hadd.out]; simp [addK, hin]
        have hT := Lib.hid (hD.tidy law9)
        have HD2 := Lib.hid hDs
        have HDz := Lib.hid hDz
        have HI := Lib.hid hin
        clear hDs hin hDz
        have tok1 : True := trivial
        have hown := HR.out.own
        have hb63 : (Lit.int .i64 ((Maps.size D : Nat) : Int)).wf = true := WalkArith.wf_i64 (by have := HL.out; have := HDz.out; omega)
        go_wp2_with (first | (at_lookup; have _t := tok1; go_must (refine wpList_lookup_own_ok_int _ rfl _ _ 69 rfl 9 3 .i64 law9 Try.underlying69 Try.underlying3 (zero3 _) mb _ D rfl hD _ _ rfl hkey ?_); intro c1 hat1 hwc1; clear tok1 hat1 hwc1) | (at_len; go_must (refine wpList_len_own _ rfl _ 69 rfl 9 3 Try.underlying69 _ mb _ D rfl hD ?_)) | (at_mapUpdate; go_must (refine wpList_mapUpdate_own _ rfl _ _ _ 69 rfl 9 3 law9 Try.underlying69 _ mb _ D rfl hD (by have := HL.out; unfold maxLen; omega) _ _ _ rfl rfl hkey _ [] (plainElem_int Try.underlying3 hb63) ?_); intro w1 hD1 hg1; have hcb1 := hg1.cell hcbr (cell_ne HR.out.num hcbr); have hown1 := hown.kept hg1 (Or.inr (row_ne HR.out.num hown))) | (at_lookup; go_must (refine wpList_lookup_own_int _ rfl _ _ 69 rfl 9 3 .i64 law9 Try.underlying69 Try.underlying3 (zero3 _) mb _ _ rfl hD1 _ _ rfl hkey ?_); intro c2 hat2 hwc2) | (at_builtin; go_must (refine wpList_app0 rfl _ _ 56 rfl w.heap.size 3 i0 (.int .i64 0) 1 8 Try.underlying56 hi hz0 hz1 hz2 rfl (by decide) _ k _ rfl hown1 (Nat.le_trans HR.out.grown.size hg1.size) _ _ rfl rfl rfl (oneCell_one _ rfl) (by omega) (by decide) ?_); intro v' w' hown' hgrow'))
        rw [HDz.out] at hD1 hat2
        have hnum1 : Num w1 mb (addAll ks (l.take (k + 1))) := by rw [hnew.out]; exact num_put HI.out hT.out hD1 HDz.out HD2.out
        have hc2 : c2 = ((addAll ks (l.take (k + 1))).idxOf s : Int) := by
          rw [atKey_put_same hT.out.isMap (key_is _)] at hat2
          rw [hnew.out, List.idxOf_append, if_neg HI.out]
          simp at hat2
          simp [hat2]
        have hfin : NRel w w' mb ks l v' (k + 1) := HR.out.append Hs.out hg1 hnum1 (by rw [← hc2]; exact hown') hgrow'.grown
        go_roundw
        case rel => exact ⟨k + 1, by omega, by go_num, hfin⟩
        case measure => simp [intOf]; omega
    · have hkn : l.take k = l := List.take_of_length_le (by have := HN.out; omega)
      have hkk : k = n := by omega
      have HO := HR.out.own
      rw [hkn] at HO
      obtain ⟨a', c', hv, hat⟩ := ownsRow_at HO
      have HA := Lib.hid hat
      have HKN := Lib.hid hkn
      subst hkk
      clear HO hat hkn
      subst hv
      go_wp2
      go_ret
      exact ⟨a', c', rfl, HA.out, by have := HR.out.num; rw [HKN.out] at this; exact this, HR.out.grown⟩

theorem nums_stable (l1 l2 : List ByteArray) : nums (addAll (addAll [] l1) l2) l1 = nums (addAll [] l1) l1 := by
  apply List.map_congr_left
  intro x hx
  obtain ⟨t, ht⟩ := addAll_sub l2 (addAll [] l1)
  rw [ht, idx_stable (mem_addAll l1 [] x hx)]

theorem num_made (w : World) : Num (w.alloc (.map #[] 0)) w.heap.size [] := ⟨.map [], World.ownsMap_made _ _ _ _, rfl, fun s => ⟨rfl, fun h => by cases h⟩⟩

theorem at_grown {w w' : World} {a : Option Addr} {c mb : Nat} {ks : List ByteArray} {xs : List Value} (h : At w a c xs) (hn : Num w mb ks) (hg : w.grownBy w' (some mb)) : At w' a c xs := by
  refine ⟨h.cap, h.nil0, ?_⟩
  rcases h.cells with h | ⟨b, off, ha, hc⟩
  · exact .inl h
  · refine .inr ⟨b, off, ha, fun j hj => ?_⟩
    have := hc j hj
    rw [List.getElem?_eq_getElem hj] at this ⊢
    exact hg.cell this (cell_ne hn this)

theorem num_start (w : World) : Ext w ((w.alloc (.map #[] 0)).alloc (.cells #[.map (some w.heap.size)] 69)) ∧
    ((w.alloc (.map #[] 0)).alloc (.cells #[.map (some w.heap.size)] 69)).cell? ⟨w.heap.size + 1, 0, none⟩ = some (.map (some w.heap.size)) ∧
    Num ((w.alloc (.map #[] 0)).alloc (.cells #[.map (some w.heap.size)] 69)) w.heap.size [] ∧ w.heap.size < ((w.alloc (.map #[] 0)).alloc (.cells #[.map (some w.heap.size)] 69)).heap.size := by
  refine ⟨((Below.refl _ _).alloc (Nat.le_refl _) _).alloc (by simp) _, ?_, (num_made w).kept (World.grownBy_alloc _ _ none) (by simp), by simp; omega⟩
  rw [World.cell?_alloc_at _ _ _ _ (by simp)]; rfl

theorem Ext.trans' {w W w' : World} (h : Ext w W) (hg : W.grownBy w' (some w.heap.size)) : Ext w w' :=
  ⟨hg.os.trans h.os, hg.tape.trans h.tape, hg.output.trans h.output, Nat.le_trans h.size hg.size, fun k hk =>
    (hg.block k (Nat.lt_of_lt_of_le hk h.size) (fun e => by have := Option.some.inj e; omega)).trans (h.block k hk)⟩

set_option maxHeartbeats 1000000 in
theorem number_any (a1 a2 : Option Addr) (n1 c1 n2 c2 : Nat) (l1 l2 : List ByteArray) (w : World) (hn1 : n1 = l1.length) (hn2 : n2 = l2.length) (h1 : At w a1 c1 (strs l1)) (h2 : At w a2 c2 (strs l2))
    (hm1 : n1 < 1099511627776) (hm2 : n2 < 1099511627776) (hs1 : ∀ s ∈ l1, s.size ≤ 9223372036854775807) (hs2 : ∀ s ∈ l2, s.size ≤ 9223372036854775807) :
    Calls Try.prog 21 #[.slice a1 n1 c1, .slice a2 n2 c2] w fun e w' =>
      ∃ x cx y cy, e = .returned (.tuple #[.slice x n1 cx, .slice y n2 cy]) ∧ At w' x cx (ints (nums (addAll (addAll [] l1) l2) l1)) ∧ At w' y cy (ints (nums (addAll (addAll [] l1) l2) l2)) ∧ Ext w w' := by
  have hmm := @run_makeMap Try.prog
  have hl := addAll_len l1 []
  have HL : Hid ((addAll [] l1).length < 1099511627776) := by show _ < _; simp at hl; omega
  have HN1 := Lib.hid hn1
  have HN2 := Lib.hid hn2
  have HS1 := Lib.hid hs1
  have HS2 := Lib.hid hs2
  clear hl hn1 hn2 hs1 hs2
  go_enter Try.func21, Try.ntmps21
  go_wp2_with fail
  obtain ⟨hx0, hcb0, hnum0, hsz0⟩ := num_start w
  refine (number1_any a1 n1 c1 w.heap.size (w.heap.size + 1) l1 [] _ HN1.out (h1.ext hx0) hm1 HS1.out (by simp) hcb0 hsz0 hnum0).mono ?_
  rintro e w1 ⟨x, cx, rfl, hat1, hnum1, hg1⟩
  have HX1 := Lib.hid hat1
  have hat2 := at_grown (h2.ext hx0) hnum0 hg1
  have hcb1 := hg1.cell hcb0 (cell_ne hnum0 hcb0)
  have hsz1 : w.heap.size < w1.heap.size := Nat.lt_of_lt_of_le hsz0 hg1.size
  have hG := Lib.hid hg1
  have hX0 := Lib.hid hx0
  clear hat1 h1 h2 hnum0 hcb0 hg1 hx0 hsz0
  go_wp2_with fail
  refine (number1_any a2 n2 c2 w.heap.size (w.heap.size + 1) l2 _ _ HN2.out hat2 hm2 HS2.out HL.out hcb1 hsz1 hnum1).mono ?_
  rintro e w2 ⟨y, cy, rfl, hat3, hnum2, hg2⟩
  have HX1' := Lib.hid (at_grown HX1.out hnum1 hg2)
  have HX2 := Lib.hid hat3
  have hE : Ext w w2 := by
    have hg := hG.out.trans hg2
    refine hX0.out.trans' hg
  have HE := Lib.hid hE
  clear hat3 hat2 hnum1 hnum2 hg2 hcb1 HX1 hE
  go_wp2
  go_ret2
  exact ⟨x, cx, y, cy, rfl, by rw [nums_stable]; exact HX1'.out, HX2.out, HE.out⟩
end Go.Proofs.Ythkkjbigfnimbaa
