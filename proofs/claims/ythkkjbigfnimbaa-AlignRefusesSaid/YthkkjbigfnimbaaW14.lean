/- How the laws open their arguments. -/
import Derived.Test.YthkkjbigfnimbaaW13
import Derived.Test.YthkkjbigfnimbaaW9
namespace Go.Proofs.Ythkkjbigfnimbaa
open Go.RowKit

/-- A slice of bytes that came in reads as At has it. -/
theorem row_at {w : World} {a : Option Addr} {len cap : Nat} {zs : List Int}
    (h : (a = none ∧ len = 0 ∧ cap = 0 ∧ zs = []) ∨ ∃ x, a = some x ∧ len ≤ cap ∧ cap ≤ maxLen ∧ zs.length = cap ∧ (∀ i, i < zs.length → w.cell? (x.add i) = some (.int .u8 (zs.getD i 0))) ∧ ∀ n ∈ zs, (Lit.int .u8 n).wf = true) :
    len = (zs.take len).length ∧ At w a cap ((zs.take len).map (Value.int .u8)) ∧ (∀ z ∈ zs.take len, 0 ≤ z ∧ z ≤ 255) ∧ len ≤ 9223372036854775807 := by
  rcases h with ⟨rfl, rfl, rfl, rfl⟩ | ⟨x, rfl, hlc, hm, hz, hc, hw⟩
  · exact ⟨rfl, At.nil w, (fun z hz => by cases hz), by decide⟩
  · refine ⟨by simp; omega, ⟨by simp; omega, (fun h => by cases h), ?_⟩, fun z hz' => ?_, by unfold maxLen at hm; omega⟩
    · by_cases h0 : len = 0
      · left; subst h0; simp
      · right
        have hx : x.spot = none := by
          have := hc 0 (by omega)
          rw [show x.add 0 = x by simp [Addr.add]] at this
          unfold World.cell? at this
          split at this
          · by_cases hs : x.spot.isSome
            · simp [hs] at this
            · simpa using hs
          · cases this
        obtain ⟨b, off, sp⟩ := x
        simp only at hx
        subst hx
        refine ⟨b, off, rfl, fun j hj => ?_⟩
        simp at hj
        have := hc j (by omega)
        rw [Addr.add_lit] at this
        rw [this, List.getElem?_map, List.getElem?_take_of_lt (by omega)]
        simp [List.getD, show j < zs.length by omega]
    · have := hw z (List.mem_of_mem_take hz')
      simp [Lit.wf, IntKind.min, IntKind.max, IntKind.bits, IntKind.signed] at this
      omega

theorem chrs_len (zs : List Int) : (chrs zs).length ≤ 24 := by simp [chrs]; omega
theorem chr_size (z : Int) : (chr z).size ≤ 1 := by
  unfold chr; split
  · decide
  · split
    · decide
    · split <;> decide
theorem chrs_size (zs : List Int) : ∀ s ∈ chrs zs, s.size ≤ 9223372036854775807 := by
  intro s hs
  obtain ⟨z, _, rfl⟩ := List.mem_map.1 hs
  have := chr_size z
  omega

end Go.Proofs.Ythkkjbigfnimbaa
