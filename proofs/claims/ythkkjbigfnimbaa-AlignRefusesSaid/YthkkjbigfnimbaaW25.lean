/- How AlignRefuses opens its changes. -/
import Derived.Test.YthkkjbigfnimbaaW24
import Derived.Deep.Strs
import Derived.Deep.Slices
namespace Go.Proofs.Ythkkjbigfnimbaa
open Go.ChangeShapes Go.WideShapes Go.RowKit

section
variable {H : Type} {enc : TypeId × Value → H} {W : World} {fuel : Nat} {x : DataW H × List MemPlace}

theorem bytes_at {v : Value} (h : DataW.trod enc Try.prog W 0 (fun _ => true) true fuel 22 [v] = some x) :
    ∃ (a : Option Addr) (len cap : Nat) (zs : List Int), v = .slice a len cap ∧ len = zs.length ∧ At W a cap (zs.map (Value.int .u8)) ∧ (∀ z ∈ zs, 0 ≤ z ∧ z ≤ 255) ∧ len ≤ 9223372036854775807 := by
  rcases open_ints Try.underlying22 Try.underlying5 (by kernel_rfl) h with ⟨hcs, _⟩ | ⟨x, l, c, zs, hcs, _, hl, hm, hz, _, hcell, hwz⟩
  · simp at hcs
    subst hcs
    exact ⟨none, 0, 0, [], rfl, rfl, At.nil W, (fun z hz => by cases hz), by decide⟩
  · simp at hcs
    subst hcs
    exact ⟨some x, l, c, zs.take l, rfl, row_at (.inr ⟨_, rfl, hl, hm, by simpa using hz, hcell, hwz⟩)⟩

theorem changes_at {a : Option Addr} {len cap : Nat} (h : DataW.trod enc Try.prog W 0 (fun _ => true) true fuel 45 [.slice a len cap] = some x) :
    len ≤ 9223372036854775807 ∧ ∀ k, k < len → ChAt W a k := by
  have h47 : Try.prog.cellsOf 47 = 3 := by kernel_rfl
  have h3 : Try.prog.cellsOf 3 = 1 := by kernel_rfl
  have h22 : Try.prog.cellsOf 22 = 1 := by kernel_rfl
  rcases Deep.open_slice Try.underlying45 h with ⟨hcs, _⟩ | ⟨a', l, c, m, n, D, Pl, hcs, _, hl, hm, hmm, _, hi⟩
  · simp at hcs
    obtain ⟨rfl, rfl, rfl⟩ := hcs
    exact ⟨by decide, fun k hk => absurd hk (Nat.not_lt_zero _)⟩
  · simp at hcs
    obtain ⟨rfl, rfl, rfl⟩ := hcs
    refine ⟨by unfold maxLen at hm; omega, fun k hk => ?_⟩
    simp at hmm
    subst hmm
    have hspot : a'.spot = none := by
      obtain ⟨cs', hc, _⟩ := hi 0 (by omega)
      rw [h47] at hc
      obtain ⟨_, hlen, hat⟩ := World.cells?_some hc
      have h0 := hat 0 (by omega)
      rw [show (a'.add (0 * 3)).add 0 = a' by simp [Addr.add]] at h0
      have h1 : cs'[0]? = some (cs'[0]'(by omega)) := List.getElem?_eq_getElem (by omega)
      rw [h1] at h0
      unfold World.cell? at h0
      split at h0
      · by_cases hs : a'.spot.isSome
        · simp [hs] at h0
        · simpa using hs
      · cases h0
    obtain ⟨b, off, sp⟩ := a'
    simp only at hspot
    subst hspot
    obtain ⟨cs', hc, ht⟩ := hi k (by omega)
    obtain ⟨y0, y1, y2, n', _, hlen, t0, t1, t2⟩ := Deep.trod_struct3 Try.underlying47 ht
    rw [h47] at hc hlen
    obtain ⟨_, _, hat⟩ := World.cells?_some hc
    match cs', hlen with
    | [x0, x1, x2], _ =>
      have t0' : DataW.trod enc Try.prog W 0 (fun _ => true) true n' 3 [x0] = some y0 := by simpa [h3] using t0
      have t1' : DataW.trod enc Try.prog W 0 (fun _ => true) true n' 22 [x1] = some y1 := by simpa [h22] using t1
      have t2' : DataW.trod enc Try.prog W 0 (fun _ => true) true n' 22 [x2] = some y2 := by simpa [h22] using t2
      obtain ⟨z, hz, _, _⟩ := DataW.trod_int Try.underlying3 t0'
      simp at hz
      subst hz
      obtain ⟨la, ll, lc, lz, rfl, l1, l2, l3, l4⟩ := bytes_at t1'
      obtain ⟨ra, rl, rc, rz, rfl, r1, r2, r3, r4⟩ := bytes_at t2'
      have c0 := hat 0 (by omega)
      have c1 := hat 1 (by omega)
      have c2 := hat 2 (by omega)
      rw [Addr.add_lit, Addr.add_lit] at c0 c1 c2
      exact ⟨b, off, ⟨z, la, ll, lc, lz, ra, rl, rc, rz⟩, rfl, c0, c1, c2, ⟨l1, l2, l3, l4, r1, r2, r3, r4⟩⟩
end

end Go.Proofs.Ythkkjbigfnimbaa
