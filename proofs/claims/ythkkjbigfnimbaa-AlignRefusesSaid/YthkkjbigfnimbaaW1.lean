/- Walks: Same, slices.Equal, slices.Index. -/
import Derived.Test.YthkkjbigfnimbaaRows
import Derived.Test.YthkkjbigfnimbaaBase
namespace Go.Proofs.Ythkkjbigfnimbaa
open Go.RowKit

theorem take_eq_succ {l1 l2 : List ByteArray} {k : Nat} {s : ByteArray} (h : l1.take k = l2.take k) (h1 : l1[k]? = some s) (h2 : l2[k]? = some s) : l1.take (k + 1) = l2.take (k + 1) := by
  rw [List.take_add_one, List.take_add_one, h, h1, h2]

theorem ne_of_get {l1 l2 : List ByteArray} {k : Nat} {s t : ByteArray} (h1 : l1[k]? = some s) (h2 : l2[k]? = some t) (h : s ≠ t) : l1 ≠ l2 := by
  intro e; subst e; rw [h1] at h2; exact h (Option.some.inj h2)

set_option maxHeartbeats 400000 in
theorem same_any (a1 a2 : Option Addr) (n1 n2 c1 c2 : Nat) (l1 l2 : List ByteArray) (w : World) (hn1 : n1 = l1.length) (hn2 : n2 = l2.length)
    (h1 : At w a1 c1 (strs l1)) (h2 : At w a2 c2 (strs l2)) (hm : n1 ≤ 9223372036854775807) :
    Calls Try.prog 19 #[.slice a1 n1 c1, .slice a2 n2 c2] w fun e w' => e = .returned (.bool (decide (l1 = l2))) ∧ ∃ n, w' = w.drewN n := by
  by_cases hne : n1 = n2
  · subst hne
    have H1 := Lib.hid hn1
    have H2 := Lib.hid hn2
    clear hn1 hn2
    go_enter Try.func19, Try.ntmps19
    go_wp2
    go_loopw [5, 13] (fun _ i wr => ∃ k : Nat, k ≤ n1 ∧ i = .int .i64 k ∧ l1.take k = l2.take k ∧ ∃ n, wr = w.drewN n) (fun _ i _ => n1 - (intOf i).toNat)
    case atStart => exact ⟨0, Nat.zero_le _, rfl, by simp, 0, rfl⟩
    case round =>
      obtain ⟨k, hk, rfl, htk, n, rfl⟩ := hrel
      have HT := Lib.hid htk
      clear htk
      by_cases hlt : k < n1
      · obtain ⟨s, hs⟩ := some_of_lt (show k < l1.length by rw [← H1.out]; exact hlt)
        obtain ⟨t, ht⟩ := some_of_lt (show k < l2.length by rw [← H2.out]; exact hlt)
        obtain ⟨b1, o1, rfl, hc1⟩ := h1.get (strs_get hs)
        obtain ⟨b2, o2, rfl, hc2⟩ := h2.get (strs_get ht)
        have Hs := Lib.hid hs
        have Ht := Lib.hid ht
        clear hs ht h1 h2
        go_wp2
        go_quiet (fail)
        go_wp2
        · have hst : (!s.toList == t.toList) = true := by assumption
          rw [beq_toList] at hst
          have hst' : s ≠ t := by simpa using hst
          have hl := ne_of_get Hs.out Ht.out hst'
          go_ret
          exact ⟨ret_bool (by simp [hl]), n + nq, World.drewN_drewN ..⟩
        · have hst : (!s.toList == t.toList) = false := by assumption
          rw [beq_toList] at hst
          have hst' : s = t := by simpa using hst
          subst hst'
          go_roundw
          case rel => exact ⟨k + 1, by omega, by go_num, take_eq_succ HT.out Hs.out Ht.out, _, rfl⟩
          case measure => simp [intOf]; omega
      · go_wp2
        go_ret
        refine ⟨ret_bool ?_, _, rfl⟩
        have e1 := HT.out
        rw [List.take_of_length_le (by rw [← H1.out]; omega), List.take_of_length_le (by rw [← H2.out]; omega)] at e1
        simp [e1]
  · have hl : l1 ≠ l2 := fun e => hne (by rw [hn1, hn2, e])
    have HL := Lib.hid hl
    have hb : ((n1 : Int) == (n2 : Int)) = false := by simp; omega
    have hb' : ((n1 : Int) != (n2 : Int)) = true := by simp; omega
    clear hn1 hn2 hl
    go_enter Try.func19, Try.ntmps19
    go_wp2
    go_ret
    exact ⟨ret_bool (by simp [HL.out]), 0, rfl⟩

set_option maxHeartbeats 400000 in
theorem equal_any (a1 a2 : Option Addr) (n1 n2 c1 c2 : Nat) (l1 l2 : List ByteArray) (w : World) (hn1 : n1 = l1.length) (hn2 : n2 = l2.length)
    (h1 : At w a1 c1 (strs l1)) (h2 : At w a2 c2 (strs l2)) (hm : n1 ≤ 9223372036854775807) :
    Calls Try.prog 27 #[.slice a1 n1 c1, .slice a2 n2 c2] w fun e w' => e = .returned (.bool (decide (l1 = l2))) ∧ ∃ n, w' = w.drewN n := by
  by_cases hne : n1 = n2
  · subst hne
    have H1 := Lib.hid hn1
    have H2 := Lib.hid hn2
    clear hn1 hn2
    go_enter Try.func27, Try.ntmps27
    go_wp2
    go_loopw [5, 13] (fun _ i wr => ∃ k : Nat, k ≤ n1 ∧ i = .int .i64 k ∧ l1.take k = l2.take k ∧ ∃ n, wr = w.drewN n) (fun _ i _ => n1 - (intOf i).toNat)
    case atStart => exact ⟨0, Nat.zero_le _, rfl, by simp, 0, rfl⟩
    case round =>
      obtain ⟨k, hk, rfl, htk, n, rfl⟩ := hrel
      have HT := Lib.hid htk
      clear htk
      by_cases hlt : k < n1
      · obtain ⟨s, hs⟩ := some_of_lt (show k < l1.length by rw [← H1.out]; exact hlt)
        obtain ⟨t, ht⟩ := some_of_lt (show k < l2.length by rw [← H2.out]; exact hlt)
        obtain ⟨b1, o1, rfl, hc1⟩ := h1.get (strs_get hs)
        obtain ⟨b2, o2, rfl, hc2⟩ := h2.get (strs_get ht)
        have Hs := Lib.hid hs
        have Ht := Lib.hid ht
        clear hs ht h1 h2
        go_wp2
        go_quiet (fail)
        go_wp2
        · have hst : (!s.toList == t.toList) = true := by assumption
          rw [beq_toList] at hst
          have hst' : s ≠ t := by simpa using hst
          have hl := ne_of_get Hs.out Ht.out hst'
          go_ret
          exact ⟨ret_bool (by simp [hl]), n + nq, World.drewN_drewN ..⟩
        · have hst : (!s.toList == t.toList) = false := by assumption
          rw [beq_toList] at hst
          have hst' : s = t := by simpa using hst
          subst hst'
          go_roundw
          case rel => exact ⟨k + 1, by omega, by go_num, take_eq_succ HT.out Hs.out Ht.out, _, rfl⟩
          case measure => simp [intOf]; omega
      · go_wp2
        go_ret
        refine ⟨ret_bool ?_, _, rfl⟩
        have e1 := HT.out
        rw [List.take_of_length_le (by rw [← H1.out]; omega), List.take_of_length_le (by rw [← H2.out]; omega)] at e1
        simp [e1]
  · have hl : l1 ≠ l2 := fun e => hne (by rw [hn1, hn2, e])
    have HL := Lib.hid hl
    have hb : ((n1 : Int) == (n2 : Int)) = false := by simp; omega
    have hb' : ((n1 : Int) != (n2 : Int)) = true := by simp; omega
    clear hn1 hn2 hl
    go_enter Try.func27, Try.ntmps27
    go_wp2
    go_ret
    exact ⟨ret_bool (by simp [HL.out]), 0, rfl⟩

/-- The first place of v, or -1. -/
def idxI (l : List Int) (v : Int) : Int := if l.idxOf v < l.length then (l.idxOf v : Int) else -1

theorem idxI_hit {l : List Int} {v : Int} {k : Nat} (hk : l[k]? = some v) (hno : ∀ j, j < k → l[j]? ≠ some v) : idxI l v = k := by
  have hlt := (List.getElem?_eq_some_iff.1 hk).1
  have hmem : v ∈ l := List.mem_of_getElem? hk
  have h1 : l.idxOf v < l.length := List.idxOf_lt_length_of_mem hmem
  have h2 : l[l.idxOf v]? = some v := by rw [List.getElem?_eq_getElem h1, List.getElem_idxOf]
  have h3 : ¬ l.idxOf v < k := fun h => hno _ h h2
  have h4 : l.idxOf v ≤ k := by
    by_cases h : l.idxOf v ≤ k
    · exact h
    · have h5 : k < l.findIdx (· == v) := by have e : l.idxOf v = l.findIdx (· == v) := rfl; omega
      have h6 := List.not_of_lt_findIdx h5
      simp [(List.getElem?_eq_some_iff.1 hk).2] at h6
  simp [idxI, h1]; omega

theorem idxI_miss {l : List Int} {v : Int} (hno : ∀ j, j < l.length → l[j]? ≠ some v) : idxI l v = -1 := by
  have hmem : v ∉ l := fun h => by
    obtain ⟨j, hj⟩ := List.getElem?_of_mem h
    exact hno j (List.getElem?_eq_some_iff.1 hj).1 hj
  simp [idxI, List.idxOf_lt_length_iff, hmem]

set_option maxHeartbeats 400000 in
theorem index_any (a : Option Addr) (n c : Nat) (l : List Int) (v : Int) (w : World) (hn : n = l.length)
    (h : At w a c (ints l)) (hm : n ≤ 9223372036854775807) :
    Calls Try.prog 24 #[.slice a n c, .int .i64 v] w fun e w' => e = .returned (.int .i64 (idxI l v)) ∧ w' = w := by
  have H := Lib.hid hn
  clear hn
  go_enter Try.func24, Try.ntmps24
  go_wp2
  go_loop [5, 8] (fun _ i => ∃ k : Nat, k ≤ n ∧ i = .int .i64 k ∧ ∀ j, j < k → l[j]? ≠ some v) (fun _ i => n - (intOf i).toNat)
  case atStart => exact ⟨0, Nat.zero_le _, rfl, fun j hj => by omega⟩
  case round =>
    obtain ⟨k, hk, rfl, hno⟩ := hrel
    have HN := Lib.hid hno
    clear hno
    by_cases hlt : k < n
    · obtain ⟨s, hs⟩ := some_of_lt (show k < l.length by rw [← H.out]; exact hlt)
      obtain ⟨b, o, rfl, hc⟩ := h.get (ints_get hs)
      have Hs := Lib.hid hs
      clear hs h
      by_cases hv : v = s
      · subst hv
        have hI := Lib.hid (idxI_hit Hs.out HN.out)
        go_wp2
        go_ret
        exact ⟨ret_int (by rw [hI.out]), rfl⟩
      · have hb : (v == s) = false := by simp [hv]
        have HV := Lib.hid hv
        clear hv
        go_wp2
        go_round
        case rel =>
          refine ⟨k + 1, by omega, by go_num, fun j hj => ?_⟩
          by_cases hjk : j = k
          · subst hjk; rw [Hs.out]; intro e; exact HV.out (Option.some.inj e).symm
          · exact HN.out j (by omega)
        case measure => simp [intOf]; omega
    · have hI := Lib.hid (idxI_miss (l := l) (v := v) (fun j hj => HN.out j (by have := H.out; omega)))
      go_wp2
      go_ret
      exact ⟨ret_int (by rw [hI.out]), rfl⟩

end Go.Proofs.Ythkkjbigfnimbaa
