/- DependNil: cmp.Or -/
import Derived.Test.YtanilhkjfdagpaaGreatDoorKCmp
import Derived.Handy
namespace Go.Proofs.YtanilhkjfdagpaaGreatDoor
open Go.RowKit
def orI (a b c : Int) : Int := if a ≠ 0 then a else if b ≠ 0 then b else c
set_option maxHeartbeats 1000000 in
theorem or42 (a b c : Int) (B : Nat) (w : World) (h0 : w.cell? ⟨B, 0, none⟩ = some (.int .i64 a)) (h1 : w.cell? ⟨B, 1, none⟩ = some (.int .i64 b)) (h2 : w.cell? ⟨B, 2, none⟩ = some (.int .i64 c)) : Calls Tryz.prog 42 #[.slice (some ⟨B, 0, none⟩) 3 3] w fun e w' => e = .returned (.int .i64 (orI a b c)) ∧ w' = w := by
  unfold orI
  by_cases ha : a = 0
  · rw [if_neg (by simpa using ha)]
    by_cases hb : b = 0
    · rw [if_neg (by simpa using hb)]
      by_cases hc : c = 0
      · go_enter Tryz.func42, Tryz.ntmps42
        go_wp2_with fail
        go_rounds 4
        go_ret
        exact ⟨by simp [hc], rfl⟩
      · go_enter Tryz.func42, Tryz.ntmps42
        go_wp2_with fail
        go_rounds 3
        go_ret
        exact ⟨rfl, rfl⟩
    · rw [if_pos hb]
      go_enter Tryz.func42, Tryz.ntmps42
      go_wp2_with fail
      go_rounds 2
      go_ret
      exact ⟨rfl, rfl⟩
  · rw [if_pos ha]
    go_enter Tryz.func42, Tryz.ntmps42
    go_wp2_with fail
    go_rounds 1
    go_ret
    exact ⟨rfl, rfl⟩
end Go.Proofs.YtanilhkjfdagpaaGreatDoor
