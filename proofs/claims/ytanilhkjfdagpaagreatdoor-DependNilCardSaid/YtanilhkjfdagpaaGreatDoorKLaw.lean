/- DependNil: the law -/
import Derived.Test.YtanilhkjfdagpaaGreatDoorKLess
namespace Go.Proofs.YtanilhkjfdagpaaGreatDoor
open Go.RowKit
theorem nd_eq (a0 a1 a2 b0 b1 b2 : Int) (w : World) : (binOp .eql 24 (nd a0 a1 a2) (nd b0 b1 b2)).run Tryz.prog w = .ok (.bool (decide (a0 = b0 ∧ a1 = b1 ∧ a2 = b2))) w := by
  have h := sq_ok.eq 24 [.u8, .i64, .i64] [.int .u8 a0, .int .i64 a1, .int .i64 a2] [.int .u8 b0, .int .i64 b1, .int .i64 b2] _ rfl rfl w
  rw [run_eql_struct]
  rw [show (Op.equalIn 10000 24 (.agg #[.int .u8 a0, .int .i64 a1, .int .i64 a2]) (.agg #[.int .u8 b0, .int .i64 b1, .int .i64 b2])).run Tryz.prog w = _ from h]
  show Result.ok (Value.bool (Ev.bs (Ev.ieq a0 b0) (Ev.bs (Ev.ieq a1 b1) (Ev.bs (Ev.ieq a2 b2) true false) false) false)) w = _
  rw [Ev.ieq_eq, Ev.ieq_eq, Ev.ieq_eq]
  by_cases h0 : a0 = b0 <;> by_cases h1 : a1 = b1 <;> by_cases h2 : a2 = b2 <;> simp [h0, h1, h2, Ev.bs]
/-- the three arguments, in memory -/
def Args (W : World) (B : Nat) (a0 a1 a2 b0 b1 b2 k0 k1 k2 k3 x1 x2 : Int) (xa : Option Addr) (xl xc : Nat) : Prop :=
  W.cell? ⟨B, 0, none⟩ = some (.int .u8 a0) ∧ W.cell? ⟨B, 1, none⟩ = some (.int .i64 a1) ∧ W.cell? ⟨B, 2, none⟩ = some (.int .i64 a2) ∧
  W.cell? ⟨B + 1, 0, none⟩ = some (.int .u8 b0) ∧ W.cell? ⟨B + 1, 1, none⟩ = some (.int .i64 b1) ∧ W.cell? ⟨B + 1, 2, none⟩ = some (.int .i64 b2) ∧
  W.cell? ⟨B + 1 + 1, 0, none⟩ = some (.int .u8 k0) ∧ W.cell? ⟨B + 1 + 1, 1, none⟩ = some (.int .i64 k1) ∧ W.cell? ⟨B + 1 + 1, 2, none⟩ = some (.int .i64 k2) ∧ W.cell? ⟨B + 1 + 1, 3, none⟩ = some (.int .i64 k3) ∧
  W.cell? ⟨B + 1 + 1, 4, none⟩ = some (.int .i64 x1) ∧ W.cell? ⟨B + 1 + 1, 5, none⟩ = some (.int .i64 x2) ∧ W.cell? ⟨B + 1 + 1, 6, none⟩ = some (.slice xa xl xc)
theorem Args.ext {W W' : World} {B : Nat} {a0 a1 a2 b0 b1 b2 k0 k1 k2 k3 x1 x2 : Int} {xa : Option Addr} {xl xc : Nat} (h : Args W B a0 a1 a2 b0 b1 b2 k0 k1 k2 k3 x1 x2 xa xl xc) (hs : B + 1 + 1 < W.heap.size) (hb : Below W.heap.size W W') :
    Args W' B a0 a1 a2 b0 b1 b2 k0 k1 k2 k3 x1 x2 xa xl xc := by
  obtain ⟨h0, h1, h2, h3, h4, h5, h6, h7, h8, h9, h10, h11, h12⟩ := h
  refine ⟨?_, ?_, ?_, ?_, ?_, ?_, ?_, ?_, ?_, ?_, ?_, ?_, ?_⟩ <;> (rw [hb.cell (by simp only; omega)]; assumption)
theorem edges_nd (a0 a1 a2 : Int) (w : World) : Calls Tryz.prog 7 #[.pointer none, nd a0 a1 a2] w fun e w' => e = .returned (.slice none 0 0) ∧ Below w.heap.size w w' := edges_nil _ rfl w
theorem reach_nd (a0 a1 a2 b0 b1 b2 : Int) (w : World) : Calls Tryz.prog 8 #[.pointer none, nd a0 a1 a2, nd b0 b1 b2] w fun e w' => e = .returned (.bool false) ∧ Below w.heap.size w w' := reach_nil _ _ rfl rfl w
theorem less_self (a0 a1 a2 : Int) (w : World) : Calls Tryz.prog 11 #[nd a0 a1 a2, nd a0 a1 a2] w fun e w' => e = .returned (.bool false) ∧ Below w.heap.size w w' := by
  have := less11 a0 a1 a2 a0 a1 a2 w
  rw [lt3_self] at this
  exact this
set_option maxHeartbeats 4000000 in
set_option maxRecDepth 100000 in
theorem law_walk (a0 a1 a2 b0 b1 b2 k0 k1 k2 k3 x1 x2 : Int) (xa : Option Addr) (xl xc : Nat) (w : World) (hL : LaidG w) :
    Calls Tryz.prog 3 #[nd a0 a1 a2, nd b0 b1 b2, .agg #[.int .u8 k0, .int .i64 k1, .int .i64 k2, .int .i64 k3, .int .i64 x1, .int .i64 x2, .slice xa xl xc]] w fun e w' => e = .returned (.bool true) ∧ Below w.heap.size w w' := by
  have H0 := Lib.hid (fun W (hb : Below w.heap.size w W) => awake_walk (hL.ext hb))
  clear hL
  go_enter Tryz.func3, Tryz.ntmps3
  go_wp2_with fail
  have qA : Args (((w.alloc (.cells #[.int .u8 a0, .int .i64 a1, .int .i64 a2] 24)).alloc (.cells #[.int .u8 b0, .int .i64 b1, .int .i64 b2] 24)).alloc (.cells #[.int .u8 k0, .int .i64 k1, .int .i64 k2, .int .i64 k3, .int .i64 x1, .int .i64 x2, .slice xa xl xc] 30)) w.heap.size a0 a1 a2 b0 b1 b2 k0 k1 k2 k3 x1 x2 xa xl xc := by
    refine ⟨?_, ?_, ?_, ?_, ?_, ?_, ?_, ?_, ?_, ?_, ?_, ?_, ?_⟩ <;> go_simp
  have qb : Below w.heap.size w (((w.alloc (.cells #[.int .u8 a0, .int .i64 a1, .int .i64 a2] 24)).alloc (.cells #[.int .u8 b0, .int .i64 b1, .int .i64 b2] 24)).alloc (.cells #[.int .u8 k0, .int .i64 k1, .int .i64 k2, .int .i64 k3, .int .i64 x1, .int .i64 x2, .slice xa xl xc] 30)) := (((Below.refl _ w).alloc (Nat.le_refl _) _).alloc (by simp) _).alloc (by simp; omega) _
  have qs : w.heap.size + 1 + 1 < (((w.alloc (.cells #[.int .u8 a0, .int .i64 a1, .int .i64 a2] 24)).alloc (.cells #[.int .u8 b0, .int .i64 b1, .int .i64 b2] 24)).alloc (.cells #[.int .u8 k0, .int .i64 k1, .int .i64 k2, .int .i64 k3, .int .i64 x1, .int .i64 x2, .slice xa xl xc] 30)).heap.size := by simp
  generalize (((w.alloc (.cells #[.int .u8 a0, .int .i64 a1, .int .i64 a2] 24)).alloc (.cells #[.int .u8 b0, .int .i64 b1, .int .i64 b2] 24)).alloc (.cells #[.int .u8 k0, .int .i64 k1, .int .i64 k2, .int .i64 k3, .int .i64 x1, .int .i64 x2, .slice xa xl xc] 30)) = W at *
  have HA := Lib.hid qA
  have HW := Lib.hid qb
  have HS := Lib.hid qs
  clear qA qb qs
  refine (H0.out W HW.out).mono ?_
  rintro e wa ⟨rfl, hba⟩
  have HBa := Lib.hid hba
  clear hba
  go_wp2_with fail
  refine (of_nil wa).mono ?_
  rintro e wo ⟨rfl, hbo⟩
  have HBo := Lib.hid (HBa.out.trans (hbo.mono HBa.out.size))
  clear hbo HBa
  go_wp2_with fail
  have HS2 := Lib.hid (fun w' (h : Below W.heap.size W w') => HA.out.ext HS.out h)
  by_cases hab : a0 = b0 ∧ a1 = b1 ∧ a2 = b2
  · obtain ⟨rfl, rfl, rfl⟩ := hab
    have hE : ∀ W, (binOp .eql 24 (nd a0 a1 a2) (nd a0 a1 a2)).run Tryz.prog W = .ok (.bool true) W := fun W => by rw [nd_eq]; simp
    simp only [List.append_eq, List.cons_append, List.nil_append]
    have HB := HBo
    clear HBo
    refine wp_region_held_drew (S := (fun w' => w'.cell? ⟨w.heap.size, 0, none⟩ = some (.int .u8 a0) ∧ w'.cell? ⟨w.heap.size, 1, none⟩ = some (.int .i64 a1) ∧ w'.cell? ⟨w.heap.size, 2, none⟩ = some (.int .i64 a2) ∧ w'.cell? ⟨w.heap.size + 1, 0, none⟩ = some (.int .u8 a0) ∧ w'.cell? ⟨w.heap.size + 1, 1, none⟩ = some (.int .i64 a1) ∧ w'.cell? ⟨w.heap.size + 1, 2, none⟩ = some (.int .i64 a2) ∧ w'.cell? ⟨w.heap.size + 1 + 1, 0, none⟩ = some (.int .u8 k0) ∧ w'.cell? ⟨w.heap.size + 1 + 1, 1, none⟩ = some (.int .i64 k1) ∧ w'.cell? ⟨w.heap.size + 1 + 1, 2, none⟩ = some (.int .i64 k2) ∧ w'.cell? ⟨w.heap.size + 1 + 1, 3, none⟩ = some (.int .i64 k3) ∧ w'.cell? ⟨w.heap.size + 1 + 1, 4, none⟩ = some (.int .i64 x1) ∧ w'.cell? ⟨w.heap.size + 1 + 1, 5, none⟩ = some (.int .i64 x2) ∧ w'.cell? ⟨w.heap.size + 1 + 1, 6, none⟩ = some (.slice xa xl xc))) (by kernel_rfl) (HS2.out _ HB.out.drew) (fun hHeld => ?_)
    refine wpAnyH_take (i := 0) (oi := { dst := some 11, op := Op.move (Operand.tmp 7), type := 32, pos := "law.go:380", after := #[], guard := none }) (v := ?_) rfl (by kernel_rfl) (by kernel_rfl) (by kernel_rfl) (fun _ _ _ h => h) (Or.inl ⟨by rfl, ?_⟩) (by assumption) ?_
    rotate_left
    · (intro w hSw; (try dsimp only at hSw); first | (go_simp; done) | (go_simp; with_reducible rfl))
    (try simp only [Act.put, List.setIfInBounds_toArray, List.set_cons_zero, List.set_cons_succ])
    refine wpAnyH_take (i := 1) (oi := { dst := some 12, op := Op.binOp BinOp.eql 32 (Operand.tmp 11) (Operand.const (Value.pointer none)) 32, type := 4, pos := "law.go:380", after := #[{ on := 0, ground := Ground.data }], guard := none }) (v := ?_) rfl (by kernel_rfl) (by kernel_rfl) (by kernel_rfl) (fun _ _ _ h => h) (Or.inl ⟨by rfl, ?_⟩) (by assumption) ?_
    rotate_left
    · (intro w hSw; (try dsimp only at hSw); first | (go_simp; done) | (go_simp; with_reducible rfl))
    (try simp only [Act.put, List.setIfInBounds_toArray, List.set_cons_zero, List.set_cons_succ])
    refine wpAnyH_take (i := 2) (oi := { dst := some 13, op := Op.move (Operand.tmp 12), type := 4, pos := "law.go:380", after := #[{ on := 1, ground := Ground.data }], guard := none }) (v := ?_) rfl (by kernel_rfl) (by kernel_rfl) (by kernel_rfl) (fun _ _ _ h => h) (Or.inl ⟨by rfl, ?_⟩) (by assumption) ?_
    rotate_left
    · (intro w hSw; (try dsimp only at hSw); first | (go_simp; done) | (go_simp; with_reducible rfl))
    (try simp only [Act.put, List.setIfInBounds_toArray, List.set_cons_zero, List.set_cons_succ])
    refine wpAnyH_take (i := 3) (oi := { dst := some 14, op := Op.move (Operand.tmp 7), type := 32, pos := "law.go:380", after := #[{ on := 2, ground := Ground.guard }], guard := some (2, true) }) (v := ?_) rfl (by kernel_rfl) (by kernel_rfl) (by kernel_rfl) (fun _ _ _ h => h) (Or.inl ⟨by rfl, ?_⟩) (by assumption) ?_
    rotate_left
    · (intro w hSw; (try dsimp only at hSw); first | (go_simp; done) | (go_simp; with_reducible rfl))
    (try simp only [Act.put, List.setIfInBounds_toArray, List.set_cons_zero, List.set_cons_succ])
    refine wpAnyH_ready (rs := [4]) (by kernel_rfl) (by simp) ?_
    refine AllReadyH.cons (o := { dst := some 15, op := Op.call { callee := Callee.value (Operand.func 6), args := #[Operand.tmp 14], argTypes := #[32] }, type := 34, pos := "law.go:380", after := #[{ on := 3, ground := Ground.data }, { on := 2, ground := Ground.chain }, { on := 2, ground := Ground.guard }], guard := some (2, true) }) rfl (fun K hK => ?_) AllReadyH.nil
    go_simp
    refine (nodes_nil _).mono ?_
    rintro e w1 ⟨rfl, hb⟩
    (first | have HB1 := Lib.hid (HB.out.trans (hb.mono HB.out.size)) | have HB1 := Lib.hid (HB.out.drew.trans (hb.mono HB.out.size)) | have HB1 := Lib.hid ((HB.out.alloc HB.out.size _).trans (hb.mono (HB.out.alloc HB.out.size _).size)) | have HB1 := Lib.hid ((HB.out.alloc HB.out.size _).drew.trans (hb.mono (HB.out.alloc HB.out.size _).drew.size)))
    clear HB hb; have HB := HB1; clear HB1
    (try go_wp2_with fail)
    refine hK.out _ _ (by first | exact HS2.out _ HB.out | exact HS2.out _ HB.out.drew | exact HS2.out _ (HB.out.alloc HB.out.size _) | exact HS2.out _ (HB.out.alloc HB.out.size _).drew | exact HS2.out _ (HB.out.drew.alloc HB.out.size _)) (fun hHeld => ?_)
    clear hK K
    (try simp only [Act.put, List.setIfInBounds_toArray, List.set_cons_zero, List.set_cons_succ])
    refine wpAnyH_take (i := 5) (oi := { dst := some 16, op := Op.call { callee := Callee.builtin Builtin.len, args := #[Operand.tmp 15], argTypes := #[34] }, type := 3, pos := "law.go:380", after := #[{ on := 4, ground := Ground.data }, { on := 2, ground := Ground.guard }], guard := some (2, true) }) (v := ?_) rfl (by kernel_rfl) (by kernel_rfl) (by kernel_rfl) (fun _ _ _ h => h) (Or.inl ⟨by rfl, ?_⟩) (by assumption) ?_
    rotate_left
    · (intro w hSw; (try dsimp only at hSw); first | (go_simp; done) | (go_simp; with_reducible rfl))
    (try simp only [Act.put, List.setIfInBounds_toArray, List.set_cons_zero, List.set_cons_succ])
    refine wpAnyH_take (i := 6) (oi := { dst := some 17, op := Op.binOp BinOp.eql 3 (Operand.tmp 16) (Operand.const (Value.int IntKind.i64 0)) 3, type := 4, pos := "law.go:380", after := #[{ on := 5, ground := Ground.data }, { on := 2, ground := Ground.guard }], guard := some (2, true) }) (v := ?_) rfl (by kernel_rfl) (by kernel_rfl) (by kernel_rfl) (fun _ _ _ h => h) (Or.inl ⟨by rfl, ?_⟩) (by assumption) ?_
    rotate_left
    · (intro w hSw; (try dsimp only at hSw); first | (go_simp; done) | (go_simp; with_reducible rfl))
    (try simp only [Act.put, List.setIfInBounds_toArray, List.set_cons_zero, List.set_cons_succ])
    refine wpAnyH_take (i := 7) (oi := { dst := some 18, op := Op.pick (Operand.tmp 13) (Operand.tmp 17) (Operand.const (Value.bool false)), type := 4, pos := "law.go:380", after := #[{ on := 2, ground := Ground.data }, { on := 6, ground := Ground.data }], guard := none }) (v := ?_) rfl (by kernel_rfl) (by kernel_rfl) (by kernel_rfl) (fun _ _ _ h => h) (Or.inl ⟨by rfl, ?_⟩) (by assumption) ?_
    rotate_left
    · (intro w hSw; (try dsimp only at hSw); first | (go_simp; done) | (go_simp; with_reducible rfl))
    (try simp only [Act.put, List.setIfInBounds_toArray, List.set_cons_zero, List.set_cons_succ])
    refine wpAnyH_take (i := 8) (oi := { dst := some 19, op := Op.move (Operand.tmp 18), type := 4, pos := "law.go:380", after := #[{ on := 7, ground := Ground.data }, { on := 4, ground := Ground.chain }], guard := none }) (v := ?_) rfl (by kernel_rfl) (by kernel_rfl) (by kernel_rfl) (fun _ _ _ h => h) (Or.inl ⟨by rfl, ?_⟩) (by assumption) ?_
    rotate_left
    · (intro w hSw; (try dsimp only at hSw); first | (go_simp; done) | (go_simp; with_reducible rfl))
    (try simp only [Act.put, List.setIfInBounds_toArray, List.set_cons_zero, List.set_cons_succ])
    refine wpAnyH_take (i := 9) (oi := { dst := some 20, op := Op.move (Operand.tmp 7), type := 32, pos := "law.go:380", after := #[{ on := 8, ground := Ground.guard }], guard := some (8, true) }) (v := ?_) rfl (by kernel_rfl) (by kernel_rfl) (by kernel_rfl) (fun _ _ _ h => h) (Or.inl ⟨by rfl, ?_⟩) (by assumption) ?_
    rotate_left
    · (intro w hSw; (try dsimp only at hSw); first | (go_simp; done) | (go_simp; with_reducible rfl))
    (try simp only [Act.put, List.setIfInBounds_toArray, List.set_cons_zero, List.set_cons_succ])
    refine wpAnyH_take (i := 10) (oi := { dst := some 21, op := Op.load 24 (Operand.tmp 3), type := 24, pos := "law.go:380", after := #[{ on := 8, ground := Ground.guard }], guard := some (8, true) }) (v := ?_) rfl (by kernel_rfl) (by kernel_rfl) (by kernel_rfl) (fun _ _ _ h => h) (Or.inl ⟨by rfl, ?_⟩) (by assumption) ?_
    rotate_left
    · (intro w hSw; (try dsimp only at hSw); first | (go_simp; done) | (go_simp; with_reducible rfl))
    (try simp only [Act.put, List.setIfInBounds_toArray, List.set_cons_zero, List.set_cons_succ])
    refine wpAnyH_ready (rs := [11]) (by kernel_rfl) (by simp) ?_
    refine AllReadyH.cons (o := { dst := some 22, op := Op.call { callee := Callee.value (Operand.func 7), args := #[Operand.tmp 20, Operand.tmp 21], argTypes := #[32, 24] }, type := 34, pos := "law.go:380", after := #[{ on := 9, ground := Ground.data }, { on := 10, ground := Ground.data }, { on := 8, ground := Ground.chain }, { on := 8, ground := Ground.guard }], guard := some (8, true) }) rfl (fun K hK => ?_) AllReadyH.nil
    go_simp
    refine (edges_nd _ _ _ _).mono ?_
    rintro e w1 ⟨rfl, hb⟩
    (first | have HB1 := Lib.hid (HB.out.trans (hb.mono HB.out.size)) | have HB1 := Lib.hid (HB.out.drew.trans (hb.mono HB.out.size)) | have HB1 := Lib.hid ((HB.out.alloc HB.out.size _).trans (hb.mono (HB.out.alloc HB.out.size _).size)) | have HB1 := Lib.hid ((HB.out.alloc HB.out.size _).drew.trans (hb.mono (HB.out.alloc HB.out.size _).drew.size)))
    clear HB hb; have HB := HB1; clear HB1
    (try go_wp2_with fail)
    refine hK.out _ _ (by first | exact HS2.out _ HB.out | exact HS2.out _ HB.out.drew | exact HS2.out _ (HB.out.alloc HB.out.size _) | exact HS2.out _ (HB.out.alloc HB.out.size _).drew | exact HS2.out _ (HB.out.drew.alloc HB.out.size _)) (fun hHeld => ?_)
    clear hK K
    (try simp only [Act.put, List.setIfInBounds_toArray, List.set_cons_zero, List.set_cons_succ])
    refine wpAnyH_take (i := 12) (oi := { dst := some 23, op := Op.call { callee := Callee.builtin Builtin.len, args := #[Operand.tmp 22], argTypes := #[34] }, type := 3, pos := "law.go:380", after := #[{ on := 11, ground := Ground.data }, { on := 8, ground := Ground.guard }], guard := some (8, true) }) (v := ?_) rfl (by kernel_rfl) (by kernel_rfl) (by kernel_rfl) (fun _ _ _ h => h) (Or.inl ⟨by rfl, ?_⟩) (by assumption) ?_
    rotate_left
    · (intro w hSw; (try dsimp only at hSw); first | (go_simp; done) | (go_simp; with_reducible rfl))
    (try simp only [Act.put, List.setIfInBounds_toArray, List.set_cons_zero, List.set_cons_succ])
    refine wpAnyH_take (i := 13) (oi := { dst := some 24, op := Op.binOp BinOp.eql 3 (Operand.tmp 23) (Operand.const (Value.int IntKind.i64 0)) 3, type := 4, pos := "law.go:380", after := #[{ on := 12, ground := Ground.data }, { on := 8, ground := Ground.guard }], guard := some (8, true) }) (v := ?_) rfl (by kernel_rfl) (by kernel_rfl) (by kernel_rfl) (fun _ _ _ h => h) (Or.inl ⟨by rfl, ?_⟩) (by assumption) ?_
    rotate_left
    · (intro w hSw; (try dsimp only at hSw); first | (go_simp; done) | (go_simp; with_reducible rfl))
    (try simp only [Act.put, List.setIfInBounds_toArray, List.set_cons_zero, List.set_cons_succ])
    refine wpAnyH_take (i := 14) (oi := { dst := some 25, op := Op.pick (Operand.tmp 19) (Operand.tmp 24) (Operand.const (Value.bool false)), type := 4, pos := "law.go:380", after := #[{ on := 8, ground := Ground.data }, { on := 13, ground := Ground.data }], guard := none }) (v := ?_) rfl (by kernel_rfl) (by kernel_rfl) (by kernel_rfl) (fun _ _ _ h => h) (Or.inl ⟨by rfl, ?_⟩) (by assumption) ?_
    rotate_left
    · (intro w hSw; (try dsimp only at hSw); first | (go_simp; done) | (go_simp; with_reducible rfl))
    (try simp only [Act.put, List.setIfInBounds_toArray, List.set_cons_zero, List.set_cons_succ])
    refine wpAnyH_take (i := 15) (oi := { dst := some 26, op := Op.move (Operand.tmp 25), type := 4, pos := "law.go:380", after := #[{ on := 14, ground := Ground.data }, { on := 11, ground := Ground.chain }], guard := none }) (v := ?_) rfl (by kernel_rfl) (by kernel_rfl) (by kernel_rfl) (fun _ _ _ h => h) (Or.inl ⟨by rfl, ?_⟩) (by assumption) ?_
    rotate_left
    · (intro w hSw; (try dsimp only at hSw); first | (go_simp; done) | (go_simp; with_reducible rfl))
    (try simp only [Act.put, List.setIfInBounds_toArray, List.set_cons_zero, List.set_cons_succ])
    refine wpAnyH_take (i := 16) (oi := { dst := some 27, op := Op.move (Operand.tmp 7), type := 32, pos := "law.go:380", after := #[{ on := 15, ground := Ground.guard }], guard := some (15, true) }) (v := ?_) rfl (by kernel_rfl) (by kernel_rfl) (by kernel_rfl) (fun _ _ _ h => h) (Or.inl ⟨by rfl, ?_⟩) (by assumption) ?_
    rotate_left
    · (intro w hSw; (try dsimp only at hSw); first | (go_simp; done) | (go_simp; with_reducible rfl))
    (try simp only [Act.put, List.setIfInBounds_toArray, List.set_cons_zero, List.set_cons_succ])
    refine wpAnyH_take (i := 17) (oi := { dst := some 28, op := Op.load 24 (Operand.tmp 3), type := 24, pos := "law.go:380", after := #[{ on := 15, ground := Ground.guard }], guard := some (15, true) }) (v := ?_) rfl (by kernel_rfl) (by kernel_rfl) (by kernel_rfl) (fun _ _ _ h => h) (Or.inl ⟨by rfl, ?_⟩) (by assumption) ?_
    rotate_left
    · (intro w hSw; (try dsimp only at hSw); first | (go_simp; done) | (go_simp; with_reducible rfl))
    (try simp only [Act.put, List.setIfInBounds_toArray, List.set_cons_zero, List.set_cons_succ])
    refine wpAnyH_take (i := 18) (oi := { dst := some 29, op := Op.load 24 (Operand.tmp 4), type := 24, pos := "law.go:380", after := #[{ on := 15, ground := Ground.guard }], guard := some (15, true) }) (v := ?_) rfl (by kernel_rfl) (by kernel_rfl) (by kernel_rfl) (fun _ _ _ h => h) (Or.inl ⟨by rfl, ?_⟩) (by assumption) ?_
    rotate_left
    · (intro w hSw; (try dsimp only at hSw); first | (go_simp; done) | (go_simp; with_reducible rfl))
    (try simp only [Act.put, List.setIfInBounds_toArray, List.set_cons_zero, List.set_cons_succ])
    refine wpAnyH_ready (rs := [19]) (by kernel_rfl) (by simp) ?_
    refine AllReadyH.cons (o := { dst := some 30, op := Op.call { callee := Callee.value (Operand.func 8), args := #[Operand.tmp 27, Operand.tmp 28, Operand.tmp 29], argTypes := #[32, 24, 24] }, type := 4, pos := "law.go:380", after := #[{ on := 16, ground := Ground.data }, { on := 17, ground := Ground.data }, { on := 18, ground := Ground.data }, { on := 15, ground := Ground.chain }, { on := 15, ground := Ground.guard }], guard := some (15, true) }) rfl (fun K hK => ?_) AllReadyH.nil
    go_simp
    refine (reach_nd _ _ _ _ _ _ _).mono ?_
    rintro e w1 ⟨rfl, hb⟩
    (first | have HB1 := Lib.hid (HB.out.trans (hb.mono HB.out.size)) | have HB1 := Lib.hid (HB.out.drew.trans (hb.mono HB.out.size)) | have HB1 := Lib.hid ((HB.out.alloc HB.out.size _).trans (hb.mono (HB.out.alloc HB.out.size _).size)) | have HB1 := Lib.hid ((HB.out.alloc HB.out.size _).drew.trans (hb.mono (HB.out.alloc HB.out.size _).drew.size)))
    clear HB hb; have HB := HB1; clear HB1
    (try go_wp2_with fail)
    refine hK.out _ _ (by first | exact HS2.out _ HB.out | exact HS2.out _ HB.out.drew | exact HS2.out _ (HB.out.alloc HB.out.size _) | exact HS2.out _ (HB.out.alloc HB.out.size _).drew | exact HS2.out _ (HB.out.drew.alloc HB.out.size _)) (fun hHeld => ?_)
    clear hK K
    (try simp only [Act.put, List.setIfInBounds_toArray, List.set_cons_zero, List.set_cons_succ])
    refine wpAnyH_take (i := 20) (oi := { dst := some 31, op := Op.unOp UnOp.not 4 (Operand.tmp 30), type := 4, pos := "law.go:380", after := #[{ on := 19, ground := Ground.data }, { on := 15, ground := Ground.guard }], guard := some (15, true) }) (v := ?_) rfl (by kernel_rfl) (by kernel_rfl) (by kernel_rfl) (fun _ _ _ h => h) (Or.inl ⟨by rfl, ?_⟩) (by assumption) ?_
    rotate_left
    · (intro w hSw; (try dsimp only at hSw); first | (go_simp; done) | (go_simp; with_reducible rfl))
    (try simp only [Act.put, List.setIfInBounds_toArray, List.set_cons_zero, List.set_cons_succ])
    refine wpAnyH_take (i := 21) (oi := { dst := some 32, op := Op.pick (Operand.tmp 26) (Operand.tmp 31) (Operand.const (Value.bool false)), type := 4, pos := "law.go:380", after := #[{ on := 15, ground := Ground.data }, { on := 20, ground := Ground.data }], guard := none }) (v := ?_) rfl (by kernel_rfl) (by kernel_rfl) (by kernel_rfl) (fun _ _ _ h => h) (Or.inl ⟨by rfl, ?_⟩) (by assumption) ?_
    rotate_left
    · (intro w hSw; (try dsimp only at hSw); first | (go_simp; done) | (go_simp; with_reducible rfl))
    (try simp only [Act.put, List.setIfInBounds_toArray, List.set_cons_zero, List.set_cons_succ])
    refine wpAnyH_take (i := 22) (oi := { dst := some 33, op := Op.move (Operand.tmp 32), type := 4, pos := "law.go:380", after := #[{ on := 21, ground := Ground.data }, { on := 19, ground := Ground.chain }], guard := none }) (v := ?_) rfl (by kernel_rfl) (by kernel_rfl) (by kernel_rfl) (fun _ _ _ h => h) (Or.inl ⟨by rfl, ?_⟩) (by assumption) ?_
    rotate_left
    · (intro w hSw; (try dsimp only at hSw); first | (go_simp; done) | (go_simp; with_reducible rfl))
    (try simp only [Act.put, List.setIfInBounds_toArray, List.set_cons_zero, List.set_cons_succ])
    refine wpAnyH_take (i := 23) (oi := { dst := some 34, op := Op.move (Operand.tmp 7), type := 32, pos := "law.go:380", after := #[{ on := 22, ground := Ground.guard }], guard := some (22, true) }) (v := ?_) rfl (by kernel_rfl) (by kernel_rfl) (by kernel_rfl) (fun _ _ _ h => h) (Or.inl ⟨by rfl, ?_⟩) (by assumption) ?_
    rotate_left
    · (intro w hSw; (try dsimp only at hSw); first | (go_simp; done) | (go_simp; with_reducible rfl))
    (try simp only [Act.put, List.setIfInBounds_toArray, List.set_cons_zero, List.set_cons_succ])
    refine wpAnyH_take (i := 24) (oi := { dst := some 35, op := Op.load 24 (Operand.tmp 3), type := 24, pos := "law.go:380", after := #[{ on := 22, ground := Ground.guard }], guard := some (22, true) }) (v := ?_) rfl (by kernel_rfl) (by kernel_rfl) (by kernel_rfl) (fun _ _ _ h => h) (Or.inl ⟨by rfl, ?_⟩) (by assumption) ?_
    rotate_left
    · (intro w hSw; (try dsimp only at hSw); first | (go_simp; done) | (go_simp; with_reducible rfl))
    (try simp only [Act.put, List.setIfInBounds_toArray, List.set_cons_zero, List.set_cons_succ])
    refine wpAnyH_take (i := 25) (oi := { dst := some 36, op := Op.load 24 (Operand.tmp 3), type := 24, pos := "law.go:380", after := #[{ on := 22, ground := Ground.guard }], guard := some (22, true) }) (v := ?_) rfl (by kernel_rfl) (by kernel_rfl) (by kernel_rfl) (fun _ _ _ h => h) (Or.inl ⟨by rfl, ?_⟩) (by assumption) ?_
    rotate_left
    · (intro w hSw; (try dsimp only at hSw); first | (go_simp; done) | (go_simp; with_reducible rfl))
    (try simp only [Act.put, List.setIfInBounds_toArray, List.set_cons_zero, List.set_cons_succ])
    refine wpAnyH_ready (rs := [26]) (by kernel_rfl) (by simp) ?_
    refine AllReadyH.cons (o := { dst := some 37, op := Op.call { callee := Callee.value (Operand.func 8), args := #[Operand.tmp 34, Operand.tmp 35, Operand.tmp 36], argTypes := #[32, 24, 24] }, type := 4, pos := "law.go:380", after := #[{ on := 23, ground := Ground.data }, { on := 24, ground := Ground.data }, { on := 25, ground := Ground.data }, { on := 22, ground := Ground.chain }, { on := 22, ground := Ground.guard }], guard := some (22, true) }) rfl (fun K hK => ?_) AllReadyH.nil
    go_simp
    refine (reach_nd _ _ _ _ _ _ _).mono ?_
    rintro e w1 ⟨rfl, hb⟩
    (first | have HB1 := Lib.hid (HB.out.trans (hb.mono HB.out.size)) | have HB1 := Lib.hid (HB.out.drew.trans (hb.mono HB.out.size)) | have HB1 := Lib.hid ((HB.out.alloc HB.out.size _).trans (hb.mono (HB.out.alloc HB.out.size _).size)) | have HB1 := Lib.hid ((HB.out.alloc HB.out.size _).drew.trans (hb.mono (HB.out.alloc HB.out.size _).drew.size)))
    clear HB hb; have HB := HB1; clear HB1
    (try go_wp2_with fail)
    refine hK.out _ _ (by first | exact HS2.out _ HB.out | exact HS2.out _ HB.out.drew | exact HS2.out _ (HB.out.alloc HB.out.size _) | exact HS2.out _ (HB.out.alloc HB.out.size _).drew | exact HS2.out _ (HB.out.drew.alloc HB.out.size _)) (fun hHeld => ?_)
    clear hK K
    (try simp only [Act.put, List.setIfInBounds_toArray, List.set_cons_zero, List.set_cons_succ])
    refine wpAnyH_take (i := 27) (oi := { dst := some 38, op := Op.unOp UnOp.not 4 (Operand.tmp 37), type := 4, pos := "law.go:380", after := #[{ on := 26, ground := Ground.data }, { on := 22, ground := Ground.guard }], guard := some (22, true) }) (v := ?_) rfl (by kernel_rfl) (by kernel_rfl) (by kernel_rfl) (fun _ _ _ h => h) (Or.inl ⟨by rfl, ?_⟩) (by assumption) ?_
    rotate_left
    · (intro w hSw; (try dsimp only at hSw); first | (go_simp; done) | (go_simp; with_reducible rfl))
    (try simp only [Act.put, List.setIfInBounds_toArray, List.set_cons_zero, List.set_cons_succ])
    refine wpAnyH_take (i := 28) (oi := { dst := some 39, op := Op.pick (Operand.tmp 33) (Operand.tmp 38) (Operand.const (Value.bool false)), type := 4, pos := "law.go:380", after := #[{ on := 22, ground := Ground.data }, { on := 27, ground := Ground.data }], guard := none }) (v := ?_) rfl (by kernel_rfl) (by kernel_rfl) (by kernel_rfl) (fun _ _ _ h => h) (Or.inl ⟨by rfl, ?_⟩) (by assumption) ?_
    rotate_left
    · (intro w hSw; (try dsimp only at hSw); first | (go_simp; done) | (go_simp; with_reducible rfl))
    (try simp only [Act.put, List.setIfInBounds_toArray, List.set_cons_zero, List.set_cons_succ])
    refine wpAnyH_take (i := 29) (oi := { dst := some 40, op := Op.move (Operand.tmp 39), type := 4, pos := "law.go:380", after := #[{ on := 28, ground := Ground.data }, { on := 26, ground := Ground.chain }], guard := none }) (v := ?_) rfl (by kernel_rfl) (by kernel_rfl) (by kernel_rfl) (fun _ _ _ h => h) (Or.inl ⟨by rfl, ?_⟩) (by assumption) ?_
    rotate_left
    · (intro w hSw; (try dsimp only at hSw); first | (go_simp; done) | (go_simp; with_reducible rfl))
    (try simp only [Act.put, List.setIfInBounds_toArray, List.set_cons_zero, List.set_cons_succ])
    refine wpAnyH_take (i := 30) (oi := { dst := some 41, op := Op.move (Operand.tmp 7), type := 32, pos := "law.go:380", after := #[{ on := 29, ground := Ground.guard }], guard := some (29, true) }) (v := ?_) rfl (by kernel_rfl) (by kernel_rfl) (by kernel_rfl) (fun _ _ _ h => h) (Or.inl ⟨by rfl, ?_⟩) (by assumption) ?_
    rotate_left
    · (intro w hSw; (try dsimp only at hSw); first | (go_simp; done) | (go_simp; with_reducible rfl))
    (try simp only [Act.put, List.setIfInBounds_toArray, List.set_cons_zero, List.set_cons_succ])
    refine wpAnyH_take (i := 31) (oi := { dst := some 42, op := Op.load 24 (Operand.tmp 3), type := 24, pos := "law.go:380", after := #[{ on := 29, ground := Ground.guard }], guard := some (29, true) }) (v := ?_) rfl (by kernel_rfl) (by kernel_rfl) (by kernel_rfl) (fun _ _ _ h => h) (Or.inl ⟨by rfl, ?_⟩) (by assumption) ?_
    rotate_left
    · (intro w hSw; (try dsimp only at hSw); first | (go_simp; done) | (go_simp; with_reducible rfl))
    (try simp only [Act.put, List.setIfInBounds_toArray, List.set_cons_zero, List.set_cons_succ])
    refine wpAnyH_take (i := 32) (oi := { dst := some 43, op := Op.load 24 (Operand.tmp 4), type := 24, pos := "law.go:380", after := #[{ on := 29, ground := Ground.guard }], guard := some (29, true) }) (v := ?_) rfl (by kernel_rfl) (by kernel_rfl) (by kernel_rfl) (fun _ _ _ h => h) (Or.inl ⟨by rfl, ?_⟩) (by assumption) ?_
    rotate_left
    · (intro w hSw; (try dsimp only at hSw); first | (go_simp; done) | (go_simp; with_reducible rfl))
    (try simp only [Act.put, List.setIfInBounds_toArray, List.set_cons_zero, List.set_cons_succ])
    refine wpAnyH_ready (rs := [33]) (by kernel_rfl) (by simp) ?_
    refine AllReadyH.cons (o := { dst := some 44, op := Op.buildSlice 34 2 #[(0, Operand.tmp 42), (1, Operand.tmp 43)], type := 34, pos := "law.go:380", after := #[{ on := 31, ground := Ground.data }, { on := 32, ground := Ground.data }, { on := 29, ground := Ground.guard }], guard := some (29, true) }) rfl (fun K hK => ?_) AllReadyH.nil
    go_simp
    refine hK.out _ _ (by first | exact HS2.out _ HB.out | exact HS2.out _ HB.out.drew | exact HS2.out _ (HB.out.alloc HB.out.size _) | exact HS2.out _ (HB.out.alloc HB.out.size _).drew | exact HS2.out _ (HB.out.drew.alloc HB.out.size _)) (fun hHeld => ?_)
    clear hK K
    (try simp only [Act.put, List.setIfInBounds_toArray, List.set_cons_zero, List.set_cons_succ])
    refine wpAnyH_ready (rs := [34]) (by kernel_rfl) (by simp) ?_
    refine AllReadyH.cons (o := { dst := some 45, op := Op.call { callee := Callee.value (Operand.func 9), args := #[Operand.tmp 41, Operand.tmp 44], argTypes := #[32, 34] }, type := 34, pos := "law.go:380", after := #[{ on := 30, ground := Ground.data }, { on := 33, ground := Ground.data }, { on := 29, ground := Ground.chain }, { on := 29, ground := Ground.guard }], guard := some (29, true) }) rfl (fun K hK => ?_) AllReadyH.nil
    go_simp
    refine (cone_nil _ _).mono ?_
    rintro e w1 ⟨rfl, hb⟩
    (first | have HB1 := Lib.hid (HB.out.trans (hb.mono HB.out.size)) | have HB1 := Lib.hid (HB.out.drew.trans (hb.mono HB.out.size)) | have HB1 := Lib.hid ((HB.out.alloc HB.out.size _).trans (hb.mono (HB.out.alloc HB.out.size _).size)) | have HB1 := Lib.hid ((HB.out.alloc HB.out.size _).drew.trans (hb.mono (HB.out.alloc HB.out.size _).drew.size)))
    clear HB hb; have HB := HB1; clear HB1
    (try go_wp2_with fail)
    refine hK.out _ _ (by first | exact HS2.out _ HB.out | exact HS2.out _ HB.out.drew | exact HS2.out _ (HB.out.alloc HB.out.size _) | exact HS2.out _ (HB.out.alloc HB.out.size _).drew | exact HS2.out _ (HB.out.drew.alloc HB.out.size _)) (fun hHeld => ?_)
    clear hK K
    (try simp only [Act.put, List.setIfInBounds_toArray, List.set_cons_zero, List.set_cons_succ])
    refine wpAnyH_take (i := 35) (oi := { dst := some 46, op := Op.call { callee := Callee.builtin Builtin.len, args := #[Operand.tmp 45], argTypes := #[34] }, type := 3, pos := "law.go:380", after := #[{ on := 34, ground := Ground.data }, { on := 29, ground := Ground.guard }], guard := some (29, true) }) (v := ?_) rfl (by kernel_rfl) (by kernel_rfl) (by kernel_rfl) (fun _ _ _ h => h) (Or.inl ⟨by rfl, ?_⟩) (by assumption) ?_
    rotate_left
    · (intro w hSw; (try dsimp only at hSw); first | (go_simp; done) | (go_simp; with_reducible rfl))
    (try simp only [Act.put, List.setIfInBounds_toArray, List.set_cons_zero, List.set_cons_succ])
    refine wpAnyH_take (i := 36) (oi := { dst := some 47, op := Op.binOp BinOp.eql 3 (Operand.tmp 46) (Operand.const (Value.int IntKind.i64 0)) 3, type := 4, pos := "law.go:380", after := #[{ on := 35, ground := Ground.data }, { on := 29, ground := Ground.guard }], guard := some (29, true) }) (v := ?_) rfl (by kernel_rfl) (by kernel_rfl) (by kernel_rfl) (fun _ _ _ h => h) (Or.inl ⟨by rfl, ?_⟩) (by assumption) ?_
    rotate_left
    · (intro w hSw; (try dsimp only at hSw); first | (go_simp; done) | (go_simp; with_reducible rfl))
    (try simp only [Act.put, List.setIfInBounds_toArray, List.set_cons_zero, List.set_cons_succ])
    refine wpAnyH_take (i := 37) (oi := { dst := some 48, op := Op.pick (Operand.tmp 40) (Operand.tmp 47) (Operand.const (Value.bool false)), type := 4, pos := "law.go:380", after := #[{ on := 29, ground := Ground.data }, { on := 36, ground := Ground.data }], guard := none }) (v := ?_) rfl (by kernel_rfl) (by kernel_rfl) (by kernel_rfl) (fun _ _ _ h => h) (Or.inl ⟨by rfl, ?_⟩) (by assumption) ?_
    rotate_left
    · (intro w hSw; (try dsimp only at hSw); first | (go_simp; done) | (go_simp; with_reducible rfl))
    (try simp only [Act.put, List.setIfInBounds_toArray, List.set_cons_zero, List.set_cons_succ])
    refine wpAnyH_take (i := 38) (oi := { dst := some 49, op := Op.move (Operand.tmp 48), type := 4, pos := "law.go:380", after := #[{ on := 37, ground := Ground.data }, { on := 34, ground := Ground.chain }], guard := none }) (v := ?_) rfl (by kernel_rfl) (by kernel_rfl) (by kernel_rfl) (fun _ _ _ h => h) (Or.inl ⟨by rfl, ?_⟩) (by assumption) ?_
    rotate_left
    · (intro w hSw; (try dsimp only at hSw); first | (go_simp; done) | (go_simp; with_reducible rfl))
    (try simp only [Act.put, List.setIfInBounds_toArray, List.set_cons_zero, List.set_cons_succ])
    refine wpAnyH_take (i := 39) (oi := { dst := some 50, op := Op.move (Operand.tmp 7), type := 32, pos := "law.go:380", after := #[{ on := 38, ground := Ground.guard }], guard := some (38, true) }) (v := ?_) rfl (by kernel_rfl) (by kernel_rfl) (by kernel_rfl) (fun _ _ _ h => h) (Or.inl ⟨by rfl, ?_⟩) (by assumption) ?_
    rotate_left
    · (intro w hSw; (try dsimp only at hSw); first | (go_simp; done) | (go_simp; with_reducible rfl))
    (try simp only [Act.put, List.setIfInBounds_toArray, List.set_cons_zero, List.set_cons_succ])
    refine wpAnyH_take (i := 40) (oi := { dst := some 51, op := Op.load 30 (Operand.tmp 5), type := 30, pos := "law.go:380", after := #[{ on := 38, ground := Ground.guard }], guard := some (38, true) }) (v := ?_) rfl (by kernel_rfl) (by kernel_rfl) (by kernel_rfl) (fun _ _ _ h => h) (Or.inl ⟨by rfl, ?_⟩) (by assumption) ?_
    rotate_left
    · (intro w hSw; (try dsimp only at hSw); first | (go_simp; done) | (go_simp; with_reducible rfl))
    (try simp only [Act.put, List.setIfInBounds_toArray, List.set_cons_zero, List.set_cons_succ])
    refine wpAnyH_ready (rs := [41]) (by kernel_rfl) (by simp) ?_
    refine AllReadyH.cons (o := { dst := some 52, op := Op.call { callee := Callee.value (Operand.func 10), args := #[Operand.tmp 50, Operand.tmp 51], argTypes := #[32, 30] }, type := 34, pos := "law.go:380", after := #[{ on := 39, ground := Ground.data }, { on := 40, ground := Ground.data }, { on := 38, ground := Ground.chain }, { on := 38, ground := Ground.guard }], guard := some (38, true) }) rfl (fun K hK => ?_) AllReadyH.nil
    go_simp
    refine (source_nil _ _ _ _ _ _ _ _).mono ?_
    rintro e w1 ⟨rfl, hb⟩
    (first | have HB1 := Lib.hid (HB.out.trans (hb.mono HB.out.size)) | have HB1 := Lib.hid (HB.out.drew.trans (hb.mono HB.out.size)) | have HB1 := Lib.hid ((HB.out.alloc HB.out.size _).trans (hb.mono (HB.out.alloc HB.out.size _).size)) | have HB1 := Lib.hid ((HB.out.alloc HB.out.size _).drew.trans (hb.mono (HB.out.alloc HB.out.size _).drew.size)))
    clear HB hb; have HB := HB1; clear HB1
    (try go_wp2_with fail)
    refine hK.out _ _ (by first | exact HS2.out _ HB.out | exact HS2.out _ HB.out.drew | exact HS2.out _ (HB.out.alloc HB.out.size _) | exact HS2.out _ (HB.out.alloc HB.out.size _).drew | exact HS2.out _ (HB.out.drew.alloc HB.out.size _)) (fun hHeld => ?_)
    clear hK K
    (try simp only [Act.put, List.setIfInBounds_toArray, List.set_cons_zero, List.set_cons_succ])
    refine wpAnyH_take (i := 42) (oi := { dst := some 53, op := Op.call { callee := Callee.builtin Builtin.len, args := #[Operand.tmp 52], argTypes := #[34] }, type := 3, pos := "law.go:380", after := #[{ on := 41, ground := Ground.data }, { on := 38, ground := Ground.guard }], guard := some (38, true) }) (v := ?_) rfl (by kernel_rfl) (by kernel_rfl) (by kernel_rfl) (fun _ _ _ h => h) (Or.inl ⟨by rfl, ?_⟩) (by assumption) ?_
    rotate_left
    · (intro w hSw; (try dsimp only at hSw); first | (go_simp; done) | (go_simp; with_reducible rfl))
    (try simp only [Act.put, List.setIfInBounds_toArray, List.set_cons_zero, List.set_cons_succ])
    refine wpAnyH_take (i := 43) (oi := { dst := some 54, op := Op.binOp BinOp.eql 3 (Operand.tmp 53) (Operand.const (Value.int IntKind.i64 0)) 3, type := 4, pos := "law.go:380", after := #[{ on := 42, ground := Ground.data }, { on := 38, ground := Ground.guard }], guard := some (38, true) }) (v := ?_) rfl (by kernel_rfl) (by kernel_rfl) (by kernel_rfl) (fun _ _ _ h => h) (Or.inl ⟨by rfl, ?_⟩) (by assumption) ?_
    rotate_left
    · (intro w hSw; (try dsimp only at hSw); first | (go_simp; done) | (go_simp; with_reducible rfl))
    (try simp only [Act.put, List.setIfInBounds_toArray, List.set_cons_zero, List.set_cons_succ])
    refine wpAnyH_take (i := 44) (oi := { dst := some 55, op := Op.pick (Operand.tmp 49) (Operand.tmp 54) (Operand.const (Value.bool false)), type := 4, pos := "law.go:380", after := #[{ on := 38, ground := Ground.data }, { on := 43, ground := Ground.data }], guard := none }) (v := ?_) rfl (by kernel_rfl) (by kernel_rfl) (by kernel_rfl) (fun _ _ _ h => h) (Or.inl ⟨by rfl, ?_⟩) (by assumption) ?_
    rotate_left
    · (intro w hSw; (try dsimp only at hSw); first | (go_simp; done) | (go_simp; with_reducible rfl))
    (try simp only [Act.put, List.setIfInBounds_toArray, List.set_cons_zero, List.set_cons_succ])
    refine wpAnyH_take (i := 45) (oi := { dst := some 56, op := Op.move (Operand.tmp 55), type := 4, pos := "law.go:380", after := #[{ on := 44, ground := Ground.data }, { on := 41, ground := Ground.chain }], guard := none }) (v := ?_) rfl (by kernel_rfl) (by kernel_rfl) (by kernel_rfl) (fun _ _ _ h => h) (Or.inl ⟨by rfl, ?_⟩) (by assumption) ?_
    rotate_left
    · (intro w hSw; (try dsimp only at hSw); first | (go_simp; done) | (go_simp; with_reducible rfl))
    (try simp only [Act.put, List.setIfInBounds_toArray, List.set_cons_zero, List.set_cons_succ])
    refine wpAnyH_take (i := 46) (oi := { dst := some 57, op := Op.load 24 (Operand.tmp 3), type := 24, pos := "law.go:380", after := #[{ on := 45, ground := Ground.guard }], guard := some (45, true) }) (v := ?_) rfl (by kernel_rfl) (by kernel_rfl) (by kernel_rfl) (fun _ _ _ h => h) (Or.inl ⟨by rfl, ?_⟩) (by assumption) ?_
    rotate_left
    · (intro w hSw; (try dsimp only at hSw); first | (go_simp; done) | (go_simp; with_reducible rfl))
    (try simp only [Act.put, List.setIfInBounds_toArray, List.set_cons_zero, List.set_cons_succ])
    refine wpAnyH_take (i := 47) (oi := { dst := some 58, op := Op.load 24 (Operand.tmp 3), type := 24, pos := "law.go:380", after := #[{ on := 45, ground := Ground.guard }], guard := some (45, true) }) (v := ?_) rfl (by kernel_rfl) (by kernel_rfl) (by kernel_rfl) (fun _ _ _ h => h) (Or.inl ⟨by rfl, ?_⟩) (by assumption) ?_
    rotate_left
    · (intro w hSw; (try dsimp only at hSw); first | (go_simp; done) | (go_simp; with_reducible rfl))
    (try simp only [Act.put, List.setIfInBounds_toArray, List.set_cons_zero, List.set_cons_succ])
    refine wpAnyH_ready (rs := [48]) (by kernel_rfl) (by simp) ?_
    refine AllReadyH.cons (o := { dst := some 59, op := Op.call { callee := Callee.value (Operand.func 11), args := #[Operand.tmp 57, Operand.tmp 58], argTypes := #[24, 24] }, type := 4, pos := "law.go:380", after := #[{ on := 46, ground := Ground.data }, { on := 47, ground := Ground.data }, { on := 45, ground := Ground.chain }, { on := 45, ground := Ground.guard }], guard := some (45, true) }) rfl (fun K hK => ?_) AllReadyH.nil
    go_simp
    refine (less_self _ _ _ _).mono ?_
    rintro e w1 ⟨rfl, hb⟩
    (first | have HB1 := Lib.hid (HB.out.trans (hb.mono HB.out.size)) | have HB1 := Lib.hid (HB.out.drew.trans (hb.mono HB.out.size)) | have HB1 := Lib.hid ((HB.out.alloc HB.out.size _).trans (hb.mono (HB.out.alloc HB.out.size _).size)) | have HB1 := Lib.hid ((HB.out.alloc HB.out.size _).drew.trans (hb.mono (HB.out.alloc HB.out.size _).drew.size)))
    clear HB hb; have HB := HB1; clear HB1
    (try go_wp2_with fail)
    refine hK.out _ _ (by first | exact HS2.out _ HB.out | exact HS2.out _ HB.out.drew | exact HS2.out _ (HB.out.alloc HB.out.size _) | exact HS2.out _ (HB.out.alloc HB.out.size _).drew | exact HS2.out _ (HB.out.drew.alloc HB.out.size _)) (fun hHeld => ?_)
    clear hK K
    (try simp only [Act.put, List.setIfInBounds_toArray, List.set_cons_zero, List.set_cons_succ])
    refine wpAnyH_take (i := 49) (oi := { dst := some 60, op := Op.unOp UnOp.not 4 (Operand.tmp 59), type := 4, pos := "law.go:380", after := #[{ on := 48, ground := Ground.data }, { on := 45, ground := Ground.guard }], guard := some (45, true) }) (v := ?_) rfl (by kernel_rfl) (by kernel_rfl) (by kernel_rfl) (fun _ _ _ h => h) (Or.inl ⟨by rfl, ?_⟩) (by assumption) ?_
    rotate_left
    · (intro w hSw; (try dsimp only at hSw); first | (go_simp; done) | (go_simp; with_reducible rfl))
    (try simp only [Act.put, List.setIfInBounds_toArray, List.set_cons_zero, List.set_cons_succ])
    refine wpAnyH_take (i := 50) (oi := { dst := some 61, op := Op.pick (Operand.tmp 56) (Operand.tmp 60) (Operand.const (Value.bool false)), type := 4, pos := "law.go:380", after := #[{ on := 45, ground := Ground.data }, { on := 49, ground := Ground.data }], guard := none }) (v := ?_) rfl (by kernel_rfl) (by kernel_rfl) (by kernel_rfl) (fun _ _ _ h => h) (Or.inl ⟨by rfl, ?_⟩) (by assumption) ?_
    rotate_left
    · (intro w hSw; (try dsimp only at hSw); first | (go_simp; done) | (go_simp; with_reducible rfl))
    (try simp only [Act.put, List.setIfInBounds_toArray, List.set_cons_zero, List.set_cons_succ])
    refine wpAnyH_take (i := 51) (oi := { dst := some 62, op := Op.move (Operand.tmp 61), type := 4, pos := "law.go:380", after := #[{ on := 50, ground := Ground.data }, { on := 48, ground := Ground.chain }], guard := none }) (v := ?_) rfl (by kernel_rfl) (by kernel_rfl) (by kernel_rfl) (fun _ _ _ h => h) (Or.inl ⟨by rfl, ?_⟩) (by assumption) ?_
    rotate_left
    · (intro w hSw; (try dsimp only at hSw); first | (go_simp; done) | (go_simp; with_reducible rfl))
    (try simp only [Act.put, List.setIfInBounds_toArray, List.set_cons_zero, List.set_cons_succ])
    refine wpAnyH_take (i := 52) (oi := { dst := some 63, op := Op.load 24 (Operand.tmp 3), type := 24, pos := "law.go:380", after := #[{ on := 51, ground := Ground.guard }], guard := some (51, true) }) (v := ?_) rfl (by kernel_rfl) (by kernel_rfl) (by kernel_rfl) (fun _ _ _ h => h) (Or.inl ⟨by rfl, ?_⟩) (by assumption) ?_
    rotate_left
    · (intro w hSw; (try dsimp only at hSw); first | (go_simp; done) | (go_simp; with_reducible rfl))
    (try simp only [Act.put, List.setIfInBounds_toArray, List.set_cons_zero, List.set_cons_succ])
    refine wpAnyH_take (i := 53) (oi := { dst := some 64, op := Op.load 24 (Operand.tmp 4), type := 24, pos := "law.go:380", after := #[{ on := 51, ground := Ground.guard }], guard := some (51, true) }) (v := ?_) rfl (by kernel_rfl) (by kernel_rfl) (by kernel_rfl) (fun _ _ _ h => h) (Or.inl ⟨by rfl, ?_⟩) (by assumption) ?_
    rotate_left
    · (intro w hSw; (try dsimp only at hSw); first | (go_simp; done) | (go_simp; with_reducible rfl))
    (try simp only [Act.put, List.setIfInBounds_toArray, List.set_cons_zero, List.set_cons_succ])
    refine wpAnyH_take (i := 54) (oi := { dst := some 65, op := Op.binOp BinOp.eql 24 (Operand.tmp 63) (Operand.tmp 64) 24, type := 4, pos := "law.go:380", after := #[{ on := 52, ground := Ground.data }, { on := 53, ground := Ground.data }, { on := 51, ground := Ground.guard }], guard := some (51, true) }) (v := ?_) rfl (by kernel_rfl) (by kernel_rfl) (by kernel_rfl) (fun _ _ _ h => h) (Or.inl ⟨by rfl, ?_⟩) (by assumption) ?_
    rotate_left
    · (intro w hSw; (try dsimp only at hSw); first | (go_simp; done) | (go_simp; with_reducible rfl))
    (try simp only [Act.put, List.setIfInBounds_toArray, List.set_cons_zero, List.set_cons_succ])
    refine wpAnyH_take (i := 55) (oi := { dst := some 66, op := Op.move (Operand.tmp 65), type := 4, pos := "law.go:380", after := #[{ on := 54, ground := Ground.data }, { on := 51, ground := Ground.chain }, { on := 51, ground := Ground.guard }], guard := some (51, true) }) (v := ?_) rfl (by kernel_rfl) (by kernel_rfl) (by kernel_rfl) (fun _ _ _ h => h) (Or.inl ⟨by rfl, ?_⟩) (by assumption) ?_
    rotate_left
    · (intro w hSw; (try dsimp only at hSw); first | (go_simp; done) | (go_simp; with_reducible rfl))
    (try simp only [Act.put, List.setIfInBounds_toArray, List.set_cons_zero, List.set_cons_succ])
    refine wpAnyH_take (i := 56) (oi := { dst := some 67, op := Op.load 24 (Operand.tmp 3), type := 24, pos := "law.go:380", after := #[{ on := 55, ground := Ground.guard }], guard := some (55, false) }) (v := undef) rfl (by kernel_rfl) (by kernel_rfl) (by kernel_rfl) (fun _ _ _ h => h) (Or.inr ⟨by rfl, rfl⟩) (by assumption) ?_
    (try simp only [Act.put, List.setIfInBounds_toArray, List.set_cons_zero, List.set_cons_succ])
    refine wpAnyH_take (i := 57) (oi := { dst := some 68, op := Op.load 24 (Operand.tmp 4), type := 24, pos := "law.go:380", after := #[{ on := 55, ground := Ground.guard }], guard := some (55, false) }) (v := undef) rfl (by kernel_rfl) (by kernel_rfl) (by kernel_rfl) (fun _ _ _ h => h) (Or.inr ⟨by rfl, rfl⟩) (by assumption) ?_
    (try simp only [Act.put, List.setIfInBounds_toArray, List.set_cons_zero, List.set_cons_succ])
    refine wpAnyH_take (i := 59) (oi := { dst := some 70, op := Op.load 24 (Operand.tmp 4), type := 24, pos := "law.go:380", after := #[{ on := 55, ground := Ground.guard }], guard := some (55, false) }) (v := undef) rfl (by kernel_rfl) (by kernel_rfl) (by kernel_rfl) (fun _ _ _ h => h) (Or.inr ⟨by rfl, rfl⟩) (by assumption) ?_
    (try simp only [Act.put, List.setIfInBounds_toArray, List.set_cons_zero, List.set_cons_succ])
    refine wpAnyH_take (i := 60) (oi := { dst := some 71, op := Op.load 24 (Operand.tmp 3), type := 24, pos := "law.go:380", after := #[{ on := 55, ground := Ground.guard }], guard := some (55, false) }) (v := undef) rfl (by kernel_rfl) (by kernel_rfl) (by kernel_rfl) (fun _ _ _ h => h) (Or.inr ⟨by rfl, rfl⟩) (by assumption) ?_
    (try simp only [Act.put, List.setIfInBounds_toArray, List.set_cons_zero, List.set_cons_succ])
    refine wpAnyH_ready (rs := [58]) (by kernel_rfl) (by simp) ?_
    refine AllReadyH.cons (o := { dst := some 69, op := Op.call { callee := Callee.value (Operand.func 11), args := #[Operand.tmp 67, Operand.tmp 68], argTypes := #[24, 24] }, type := 4, pos := "law.go:380", after := #[{ on := 56, ground := Ground.data }, { on := 57, ground := Ground.data }, { on := 55, ground := Ground.chain }, { on := 55, ground := Ground.guard }], guard := some (55, false) }) rfl (fun K hK => ?_) AllReadyH.nil
    refine Eq.mpr (if_neg (fun h => Bool.noConfusion (show false = true from h))) ?_
    refine hK.out _ _ (by first | exact HS2.out _ HB.out | exact HS2.out _ HB.out.drew | exact HS2.out _ (HB.out.alloc HB.out.size _) | exact HS2.out _ (HB.out.alloc HB.out.size _).drew | exact HS2.out _ (HB.out.drew.alloc HB.out.size _)) (fun hHeld => ?_)
    clear hK K
    (try simp only [Act.put, List.setIfInBounds_toArray, List.set_cons_zero, List.set_cons_succ])
    refine wpAnyH_ready (rs := [61]) (by kernel_rfl) (by simp) ?_
    refine AllReadyH.cons (o := { dst := some 72, op := Op.call { callee := Callee.value (Operand.func 11), args := #[Operand.tmp 70, Operand.tmp 71], argTypes := #[24, 24] }, type := 4, pos := "law.go:380", after := #[{ on := 59, ground := Ground.data }, { on := 60, ground := Ground.data }, { on := 58, ground := Ground.chain }, { on := 55, ground := Ground.guard }], guard := some (55, false) }) rfl (fun K hK => ?_) AllReadyH.nil
    refine Eq.mpr (if_neg (fun h => Bool.noConfusion (show false = true from h))) ?_
    refine hK.out _ _ (by first | exact HS2.out _ HB.out | exact HS2.out _ HB.out.drew | exact HS2.out _ (HB.out.alloc HB.out.size _) | exact HS2.out _ (HB.out.alloc HB.out.size _).drew | exact HS2.out _ (HB.out.drew.alloc HB.out.size _)) (fun hHeld => ?_)
    clear hK K
    (try simp only [Act.put, List.setIfInBounds_toArray, List.set_cons_zero, List.set_cons_succ])
    refine wpAnyH_take (i := 62) (oi := { dst := some 73, op := Op.binOp BinOp.neq 4 (Operand.tmp 69) (Operand.tmp 72) 4, type := 4, pos := "law.go:380", after := #[{ on := 58, ground := Ground.data }, { on := 61, ground := Ground.data }, { on := 55, ground := Ground.guard }], guard := some (55, false) }) (v := undef) rfl (by kernel_rfl) (by kernel_rfl) (by kernel_rfl) (fun _ _ _ h => h) (Or.inr ⟨by rfl, rfl⟩) (by assumption) ?_
    (try simp only [Act.put, List.setIfInBounds_toArray, List.set_cons_zero, List.set_cons_succ])
    refine wpAnyH_take (i := 63) (oi := { dst := some 74, op := Op.pick (Operand.tmp 66) (Operand.const (Value.bool true)) (Operand.tmp 73), type := 4, pos := "law.go:380", after := #[{ on := 55, ground := Ground.data }, { on := 62, ground := Ground.data }, { on := 51, ground := Ground.guard }], guard := some (51, true) }) (v := ?_) rfl (by kernel_rfl) (by kernel_rfl) (by kernel_rfl) (fun _ _ _ h => h) (Or.inl ⟨by rfl, ?_⟩) (by assumption) ?_
    rotate_left
    · (intro w hSw; (try dsimp only at hSw); first | (go_simp; done) | (go_simp; with_reducible rfl))
    (try simp only [Act.put, List.setIfInBounds_toArray, List.set_cons_zero, List.set_cons_succ])
    refine wpAnyH_take (i := 64) (oi := { dst := some 75, op := Op.pick (Operand.tmp 62) (Operand.tmp 74) (Operand.const (Value.bool false)), type := 4, pos := "law.go:380", after := #[{ on := 51, ground := Ground.data }, { on := 63, ground := Ground.data }], guard := none }) (v := ?_) rfl (by kernel_rfl) (by kernel_rfl) (by kernel_rfl) (fun _ _ _ h => h) (Or.inl ⟨by rfl, ?_⟩) (by assumption) ?_
    rotate_left
    · (intro w hSw; (try dsimp only at hSw); first | (go_simp; done) | (go_simp; with_reducible rfl))
    (try simp only [Act.put, List.setIfInBounds_toArray, List.set_cons_zero, List.set_cons_succ])
    refine wpAnyH_ready (rs := [65]) (by kernel_rfl) (by simp) ?_
    refine AllReadyH.cons (o := { dst := some 6, op := Op.assign (Operand.tmp 75), type := 4, pos := "law.go:380", after := #[{ on := 64, ground := Ground.data }, { on := 61, ground := Ground.chain }, { on := 0, ground := Ground.phase }, { on := 1, ground := Ground.phase }, { on := 2, ground := Ground.phase }, { on := 3, ground := Ground.phase }, { on := 4, ground := Ground.phase }, { on := 5, ground := Ground.phase }, { on := 6, ground := Ground.phase }, { on := 7, ground := Ground.phase }, { on := 8, ground := Ground.phase }, { on := 9, ground := Ground.phase }, { on := 10, ground := Ground.phase }, { on := 11, ground := Ground.phase }, { on := 12, ground := Ground.phase }, { on := 13, ground := Ground.phase }, { on := 14, ground := Ground.phase }, { on := 15, ground := Ground.phase }, { on := 16, ground := Ground.phase }, { on := 17, ground := Ground.phase }, { on := 18, ground := Ground.phase }, { on := 19, ground := Ground.phase }, { on := 20, ground := Ground.phase }, { on := 21, ground := Ground.phase }, { on := 22, ground := Ground.phase }, { on := 23, ground := Ground.phase }, { on := 24, ground := Ground.phase }, { on := 25, ground := Ground.phase }, { on := 26, ground := Ground.phase }, { on := 27, ground := Ground.phase }, { on := 28, ground := Ground.phase }, { on := 29, ground := Ground.phase }, { on := 30, ground := Ground.phase }, { on := 31, ground := Ground.phase }, { on := 32, ground := Ground.phase }, { on := 33, ground := Ground.phase }, { on := 34, ground := Ground.phase }, { on := 35, ground := Ground.phase }, { on := 36, ground := Ground.phase }, { on := 37, ground := Ground.phase }, { on := 38, ground := Ground.phase }, { on := 39, ground := Ground.phase }, { on := 40, ground := Ground.phase }, { on := 41, ground := Ground.phase }, { on := 42, ground := Ground.phase }, { on := 43, ground := Ground.phase }, { on := 44, ground := Ground.phase }, { on := 45, ground := Ground.phase }, { on := 46, ground := Ground.phase }, { on := 47, ground := Ground.phase }, { on := 48, ground := Ground.phase }, { on := 49, ground := Ground.phase }, { on := 50, ground := Ground.phase }, { on := 51, ground := Ground.phase }, { on := 52, ground := Ground.phase }, { on := 53, ground := Ground.phase }, { on := 54, ground := Ground.phase }, { on := 55, ground := Ground.phase }, { on := 56, ground := Ground.phase }, { on := 57, ground := Ground.phase }, { on := 58, ground := Ground.phase }, { on := 59, ground := Ground.phase }, { on := 60, ground := Ground.phase }, { on := 61, ground := Ground.phase }, { on := 62, ground := Ground.phase }, { on := 63, ground := Ground.phase }, { on := 64, ground := Ground.phase }], guard := none }) rfl (fun K hK => ?_) AllReadyH.nil
    go_simp
    refine hK.out _ _ (by first | exact HS2.out _ HB.out | exact HS2.out _ HB.out.drew | exact HS2.out _ (HB.out.alloc HB.out.size _) | exact HS2.out _ (HB.out.alloc HB.out.size _).drew | exact HS2.out _ (HB.out.drew.alloc HB.out.size _)) (fun hHeld => ?_)
    clear hK K
    (try simp only [Act.put, List.setIfInBounds_toArray, List.set_cons_zero, List.set_cons_succ])
    refine wpAnyH_done (by kernel_rfl) ?_ _
    go_wp2_with fail
    go_ret
    exact ⟨rfl, HW.out.trans (HB.out.mono HW.out.size)⟩
  · have hE : ∀ W, (binOp .eql 24 (nd a0 a1 a2) (nd b0 b1 b2)).run Tryz.prog W = .ok (.bool false) W := fun W => by rw [nd_eq]; simp [hab]
    have HL2 := Lib.hid (less11 b0 b1 b2 a0 a1 a2)
    rw [lt3_ne a0 a1 a2 b0 b1 b2 hab] at HL2
    have HL1 := Lib.hid (less11 a0 a1 a2 b0 b1 b2)
    generalize lt3 a0 a1 a2 b0 b1 b2 = r at HL1 HL2
    simp only [List.append_eq, List.cons_append, List.nil_append]
    have HB := HBo
    clear HBo
    refine wp_region_held_drew (S := (fun w' => w'.cell? ⟨w.heap.size, 0, none⟩ = some (.int .u8 a0) ∧ w'.cell? ⟨w.heap.size, 1, none⟩ = some (.int .i64 a1) ∧ w'.cell? ⟨w.heap.size, 2, none⟩ = some (.int .i64 a2) ∧ w'.cell? ⟨w.heap.size + 1, 0, none⟩ = some (.int .u8 b0) ∧ w'.cell? ⟨w.heap.size + 1, 1, none⟩ = some (.int .i64 b1) ∧ w'.cell? ⟨w.heap.size + 1, 2, none⟩ = some (.int .i64 b2) ∧ w'.cell? ⟨w.heap.size + 1 + 1, 0, none⟩ = some (.int .u8 k0) ∧ w'.cell? ⟨w.heap.size + 1 + 1, 1, none⟩ = some (.int .i64 k1) ∧ w'.cell? ⟨w.heap.size + 1 + 1, 2, none⟩ = some (.int .i64 k2) ∧ w'.cell? ⟨w.heap.size + 1 + 1, 3, none⟩ = some (.int .i64 k3) ∧ w'.cell? ⟨w.heap.size + 1 + 1, 4, none⟩ = some (.int .i64 x1) ∧ w'.cell? ⟨w.heap.size + 1 + 1, 5, none⟩ = some (.int .i64 x2) ∧ w'.cell? ⟨w.heap.size + 1 + 1, 6, none⟩ = some (.slice xa xl xc))) (by kernel_rfl) (HS2.out _ HB.out.drew) (fun hHeld => ?_)
    refine wpAnyH_take (i := 0) (oi := { dst := some 11, op := Op.move (Operand.tmp 7), type := 32, pos := "law.go:380", after := #[], guard := none }) (v := ?_) rfl (by kernel_rfl) (by kernel_rfl) (by kernel_rfl) (fun _ _ _ h => h) (Or.inl ⟨by rfl, ?_⟩) (by assumption) ?_
    rotate_left; · (intro w hSw; (try dsimp only at hSw); first | (go_simp; done) | (go_simp; with_reducible rfl))
    (try simp only [Act.put, List.setIfInBounds_toArray, List.set_cons_zero, List.set_cons_succ])
    refine wpAnyH_take (i := 1) (oi := { dst := some 12, op := Op.binOp BinOp.eql 32 (Operand.tmp 11) (Operand.const (Value.pointer none)) 32, type := 4, pos := "law.go:380", after := #[{ on := 0, ground := Ground.data }], guard := none }) (v := ?_) rfl (by kernel_rfl) (by kernel_rfl) (by kernel_rfl) (fun _ _ _ h => h) (Or.inl ⟨by rfl, ?_⟩) (by assumption) ?_
    rotate_left; · (intro w hSw; (try dsimp only at hSw); first | (go_simp; done) | (go_simp; with_reducible rfl))
    (try simp only [Act.put, List.setIfInBounds_toArray, List.set_cons_zero, List.set_cons_succ])
    refine wpAnyH_take (i := 2) (oi := { dst := some 13, op := Op.move (Operand.tmp 12), type := 4, pos := "law.go:380", after := #[{ on := 1, ground := Ground.data }], guard := none }) (v := ?_) rfl (by kernel_rfl) (by kernel_rfl) (by kernel_rfl) (fun _ _ _ h => h) (Or.inl ⟨by rfl, ?_⟩) (by assumption) ?_
    rotate_left; · (intro w hSw; (try dsimp only at hSw); first | (go_simp; done) | (go_simp; with_reducible rfl))
    (try simp only [Act.put, List.setIfInBounds_toArray, List.set_cons_zero, List.set_cons_succ])
    refine wpAnyH_take (i := 3) (oi := { dst := some 14, op := Op.move (Operand.tmp 7), type := 32, pos := "law.go:380", after := #[{ on := 2, ground := Ground.guard }], guard := some (2, true) }) (v := ?_) rfl (by kernel_rfl) (by kernel_rfl) (by kernel_rfl) (fun _ _ _ h => h) (Or.inl ⟨by rfl, ?_⟩) (by assumption) ?_
    rotate_left; · (intro w hSw; (try dsimp only at hSw); first | (go_simp; done) | (go_simp; with_reducible rfl))
    (try simp only [Act.put, List.setIfInBounds_toArray, List.set_cons_zero, List.set_cons_succ])
    refine wpAnyH_ready (rs := [4]) (by kernel_rfl) (by simp) ?_
    refine AllReadyH.cons (o := { dst := some 15, op := Op.call { callee := Callee.value (Operand.func 6), args := #[Operand.tmp 14], argTypes := #[32] }, type := 34, pos := "law.go:380", after := #[{ on := 3, ground := Ground.data }, { on := 2, ground := Ground.chain }, { on := 2, ground := Ground.guard }], guard := some (2, true) }) rfl (fun K hK => ?_) AllReadyH.nil
    go_simp
    refine (nodes_nil _).mono ?_
    rintro e w1 ⟨rfl, hb⟩
    (first | have HB1 := Lib.hid (HB.out.trans (hb.mono HB.out.size)) | have HB1 := Lib.hid (HB.out.drew.trans (hb.mono HB.out.size)) | have HB1 := Lib.hid ((HB.out.alloc HB.out.size _).trans (hb.mono (HB.out.alloc HB.out.size _).size)) | have HB1 := Lib.hid ((HB.out.alloc HB.out.size _).drew.trans (hb.mono (HB.out.alloc HB.out.size _).drew.size)))
    clear HB hb; have HB := HB1; clear HB1
    (try go_wp2_with fail)
    refine hK.out _ _ (by first | exact HS2.out _ HB.out | exact HS2.out _ HB.out.drew | exact HS2.out _ (HB.out.alloc HB.out.size _) | exact HS2.out _ (HB.out.alloc HB.out.size _).drew | exact HS2.out _ (HB.out.drew.alloc HB.out.size _)) (fun hHeld => ?_)
    clear hK K
    (try simp only [Act.put, List.setIfInBounds_toArray, List.set_cons_zero, List.set_cons_succ])
    refine wpAnyH_take (i := 5) (oi := { dst := some 16, op := Op.call { callee := Callee.builtin Builtin.len, args := #[Operand.tmp 15], argTypes := #[34] }, type := 3, pos := "law.go:380", after := #[{ on := 4, ground := Ground.data }, { on := 2, ground := Ground.guard }], guard := some (2, true) }) (v := ?_) rfl (by kernel_rfl) (by kernel_rfl) (by kernel_rfl) (fun _ _ _ h => h) (Or.inl ⟨by rfl, ?_⟩) (by assumption) ?_
    rotate_left; · (intro w hSw; (try dsimp only at hSw); first | (go_simp; done) | (go_simp; with_reducible rfl))
    (try simp only [Act.put, List.setIfInBounds_toArray, List.set_cons_zero, List.set_cons_succ])
    refine wpAnyH_take (i := 6) (oi := { dst := some 17, op := Op.binOp BinOp.eql 3 (Operand.tmp 16) (Operand.const (Value.int IntKind.i64 0)) 3, type := 4, pos := "law.go:380", after := #[{ on := 5, ground := Ground.data }, { on := 2, ground := Ground.guard }], guard := some (2, true) }) (v := ?_) rfl (by kernel_rfl) (by kernel_rfl) (by kernel_rfl) (fun _ _ _ h => h) (Or.inl ⟨by rfl, ?_⟩) (by assumption) ?_
    rotate_left; · (intro w hSw; (try dsimp only at hSw); first | (go_simp; done) | (go_simp; with_reducible rfl))
    (try simp only [Act.put, List.setIfInBounds_toArray, List.set_cons_zero, List.set_cons_succ])
    refine wpAnyH_take (i := 7) (oi := { dst := some 18, op := Op.pick (Operand.tmp 13) (Operand.tmp 17) (Operand.const (Value.bool false)), type := 4, pos := "law.go:380", after := #[{ on := 2, ground := Ground.data }, { on := 6, ground := Ground.data }], guard := none }) (v := ?_) rfl (by kernel_rfl) (by kernel_rfl) (by kernel_rfl) (fun _ _ _ h => h) (Or.inl ⟨by rfl, ?_⟩) (by assumption) ?_
    rotate_left; · (intro w hSw; (try dsimp only at hSw); first | (go_simp; done) | (go_simp; with_reducible rfl))
    (try simp only [Act.put, List.setIfInBounds_toArray, List.set_cons_zero, List.set_cons_succ])
    refine wpAnyH_take (i := 8) (oi := { dst := some 19, op := Op.move (Operand.tmp 18), type := 4, pos := "law.go:380", after := #[{ on := 7, ground := Ground.data }, { on := 4, ground := Ground.chain }], guard := none }) (v := ?_) rfl (by kernel_rfl) (by kernel_rfl) (by kernel_rfl) (fun _ _ _ h => h) (Or.inl ⟨by rfl, ?_⟩) (by assumption) ?_
    rotate_left; · (intro w hSw; (try dsimp only at hSw); first | (go_simp; done) | (go_simp; with_reducible rfl))
    (try simp only [Act.put, List.setIfInBounds_toArray, List.set_cons_zero, List.set_cons_succ])
    refine wpAnyH_take (i := 9) (oi := { dst := some 20, op := Op.move (Operand.tmp 7), type := 32, pos := "law.go:380", after := #[{ on := 8, ground := Ground.guard }], guard := some (8, true) }) (v := ?_) rfl (by kernel_rfl) (by kernel_rfl) (by kernel_rfl) (fun _ _ _ h => h) (Or.inl ⟨by rfl, ?_⟩) (by assumption) ?_
    rotate_left; · (intro w hSw; (try dsimp only at hSw); first | (go_simp; done) | (go_simp; with_reducible rfl))
    (try simp only [Act.put, List.setIfInBounds_toArray, List.set_cons_zero, List.set_cons_succ])
    refine wpAnyH_take (i := 10) (oi := { dst := some 21, op := Op.load 24 (Operand.tmp 3), type := 24, pos := "law.go:380", after := #[{ on := 8, ground := Ground.guard }], guard := some (8, true) }) (v := ?_) rfl (by kernel_rfl) (by kernel_rfl) (by kernel_rfl) (fun _ _ _ h => h) (Or.inl ⟨by rfl, ?_⟩) (by assumption) ?_
    rotate_left; · (intro w hSw; (try dsimp only at hSw); first | (go_simp; done) | (go_simp; with_reducible rfl))
    (try simp only [Act.put, List.setIfInBounds_toArray, List.set_cons_zero, List.set_cons_succ])
    refine wpAnyH_ready (rs := [11]) (by kernel_rfl) (by simp) ?_
    refine AllReadyH.cons (o := { dst := some 22, op := Op.call { callee := Callee.value (Operand.func 7), args := #[Operand.tmp 20, Operand.tmp 21], argTypes := #[32, 24] }, type := 34, pos := "law.go:380", after := #[{ on := 9, ground := Ground.data }, { on := 10, ground := Ground.data }, { on := 8, ground := Ground.chain }, { on := 8, ground := Ground.guard }], guard := some (8, true) }) rfl (fun K hK => ?_) AllReadyH.nil
    go_simp
    refine (edges_nd _ _ _ _).mono ?_
    rintro e w1 ⟨rfl, hb⟩
    (first | have HB1 := Lib.hid (HB.out.trans (hb.mono HB.out.size)) | have HB1 := Lib.hid (HB.out.drew.trans (hb.mono HB.out.size)) | have HB1 := Lib.hid ((HB.out.alloc HB.out.size _).trans (hb.mono (HB.out.alloc HB.out.size _).size)) | have HB1 := Lib.hid ((HB.out.alloc HB.out.size _).drew.trans (hb.mono (HB.out.alloc HB.out.size _).drew.size)))
    clear HB hb; have HB := HB1; clear HB1
    (try go_wp2_with fail)
    refine hK.out _ _ (by first | exact HS2.out _ HB.out | exact HS2.out _ HB.out.drew | exact HS2.out _ (HB.out.alloc HB.out.size _) | exact HS2.out _ (HB.out.alloc HB.out.size _).drew | exact HS2.out _ (HB.out.drew.alloc HB.out.size _)) (fun hHeld => ?_)
    clear hK K
    (try simp only [Act.put, List.setIfInBounds_toArray, List.set_cons_zero, List.set_cons_succ])
    refine wpAnyH_take (i := 12) (oi := { dst := some 23, op := Op.call { callee := Callee.builtin Builtin.len, args := #[Operand.tmp 22], argTypes := #[34] }, type := 3, pos := "law.go:380", after := #[{ on := 11, ground := Ground.data }, { on := 8, ground := Ground.guard }], guard := some (8, true) }) (v := ?_) rfl (by kernel_rfl) (by kernel_rfl) (by kernel_rfl) (fun _ _ _ h => h) (Or.inl ⟨by rfl, ?_⟩) (by assumption) ?_
    rotate_left; · (intro w hSw; (try dsimp only at hSw); first | (go_simp; done) | (go_simp; with_reducible rfl))
    (try simp only [Act.put, List.setIfInBounds_toArray, List.set_cons_zero, List.set_cons_succ])
    refine wpAnyH_take (i := 13) (oi := { dst := some 24, op := Op.binOp BinOp.eql 3 (Operand.tmp 23) (Operand.const (Value.int IntKind.i64 0)) 3, type := 4, pos := "law.go:380", after := #[{ on := 12, ground := Ground.data }, { on := 8, ground := Ground.guard }], guard := some (8, true) }) (v := ?_) rfl (by kernel_rfl) (by kernel_rfl) (by kernel_rfl) (fun _ _ _ h => h) (Or.inl ⟨by rfl, ?_⟩) (by assumption) ?_
    rotate_left; · (intro w hSw; (try dsimp only at hSw); first | (go_simp; done) | (go_simp; with_reducible rfl))
    (try simp only [Act.put, List.setIfInBounds_toArray, List.set_cons_zero, List.set_cons_succ])
    refine wpAnyH_take (i := 14) (oi := { dst := some 25, op := Op.pick (Operand.tmp 19) (Operand.tmp 24) (Operand.const (Value.bool false)), type := 4, pos := "law.go:380", after := #[{ on := 8, ground := Ground.data }, { on := 13, ground := Ground.data }], guard := none }) (v := ?_) rfl (by kernel_rfl) (by kernel_rfl) (by kernel_rfl) (fun _ _ _ h => h) (Or.inl ⟨by rfl, ?_⟩) (by assumption) ?_
    rotate_left; · (intro w hSw; (try dsimp only at hSw); first | (go_simp; done) | (go_simp; with_reducible rfl))
    (try simp only [Act.put, List.setIfInBounds_toArray, List.set_cons_zero, List.set_cons_succ])
    refine wpAnyH_take (i := 15) (oi := { dst := some 26, op := Op.move (Operand.tmp 25), type := 4, pos := "law.go:380", after := #[{ on := 14, ground := Ground.data }, { on := 11, ground := Ground.chain }], guard := none }) (v := ?_) rfl (by kernel_rfl) (by kernel_rfl) (by kernel_rfl) (fun _ _ _ h => h) (Or.inl ⟨by rfl, ?_⟩) (by assumption) ?_
    rotate_left; · (intro w hSw; (try dsimp only at hSw); first | (go_simp; done) | (go_simp; with_reducible rfl))
    (try simp only [Act.put, List.setIfInBounds_toArray, List.set_cons_zero, List.set_cons_succ])
    refine wpAnyH_take (i := 16) (oi := { dst := some 27, op := Op.move (Operand.tmp 7), type := 32, pos := "law.go:380", after := #[{ on := 15, ground := Ground.guard }], guard := some (15, true) }) (v := ?_) rfl (by kernel_rfl) (by kernel_rfl) (by kernel_rfl) (fun _ _ _ h => h) (Or.inl ⟨by rfl, ?_⟩) (by assumption) ?_
    rotate_left; · (intro w hSw; (try dsimp only at hSw); first | (go_simp; done) | (go_simp; with_reducible rfl))
    (try simp only [Act.put, List.setIfInBounds_toArray, List.set_cons_zero, List.set_cons_succ])
    refine wpAnyH_take (i := 17) (oi := { dst := some 28, op := Op.load 24 (Operand.tmp 3), type := 24, pos := "law.go:380", after := #[{ on := 15, ground := Ground.guard }], guard := some (15, true) }) (v := ?_) rfl (by kernel_rfl) (by kernel_rfl) (by kernel_rfl) (fun _ _ _ h => h) (Or.inl ⟨by rfl, ?_⟩) (by assumption) ?_
    rotate_left; · (intro w hSw; (try dsimp only at hSw); first | (go_simp; done) | (go_simp; with_reducible rfl))
    (try simp only [Act.put, List.setIfInBounds_toArray, List.set_cons_zero, List.set_cons_succ])
    refine wpAnyH_take (i := 18) (oi := { dst := some 29, op := Op.load 24 (Operand.tmp 4), type := 24, pos := "law.go:380", after := #[{ on := 15, ground := Ground.guard }], guard := some (15, true) }) (v := ?_) rfl (by kernel_rfl) (by kernel_rfl) (by kernel_rfl) (fun _ _ _ h => h) (Or.inl ⟨by rfl, ?_⟩) (by assumption) ?_
    rotate_left; · (intro w hSw; (try dsimp only at hSw); first | (go_simp; done) | (go_simp; with_reducible rfl))
    (try simp only [Act.put, List.setIfInBounds_toArray, List.set_cons_zero, List.set_cons_succ])
    refine wpAnyH_ready (rs := [19]) (by kernel_rfl) (by simp) ?_
    refine AllReadyH.cons (o := { dst := some 30, op := Op.call { callee := Callee.value (Operand.func 8), args := #[Operand.tmp 27, Operand.tmp 28, Operand.tmp 29], argTypes := #[32, 24, 24] }, type := 4, pos := "law.go:380", after := #[{ on := 16, ground := Ground.data }, { on := 17, ground := Ground.data }, { on := 18, ground := Ground.data }, { on := 15, ground := Ground.chain }, { on := 15, ground := Ground.guard }], guard := some (15, true) }) rfl (fun K hK => ?_) AllReadyH.nil
    go_simp
    refine (reach_nd _ _ _ _ _ _ _).mono ?_
    rintro e w1 ⟨rfl, hb⟩
    (first | have HB1 := Lib.hid (HB.out.trans (hb.mono HB.out.size)) | have HB1 := Lib.hid (HB.out.drew.trans (hb.mono HB.out.size)) | have HB1 := Lib.hid ((HB.out.alloc HB.out.size _).trans (hb.mono (HB.out.alloc HB.out.size _).size)) | have HB1 := Lib.hid ((HB.out.alloc HB.out.size _).drew.trans (hb.mono (HB.out.alloc HB.out.size _).drew.size)))
    clear HB hb; have HB := HB1; clear HB1
    (try go_wp2_with fail)
    refine hK.out _ _ (by first | exact HS2.out _ HB.out | exact HS2.out _ HB.out.drew | exact HS2.out _ (HB.out.alloc HB.out.size _) | exact HS2.out _ (HB.out.alloc HB.out.size _).drew | exact HS2.out _ (HB.out.drew.alloc HB.out.size _)) (fun hHeld => ?_)
    clear hK K
    (try simp only [Act.put, List.setIfInBounds_toArray, List.set_cons_zero, List.set_cons_succ])
    refine wpAnyH_take (i := 20) (oi := { dst := some 31, op := Op.unOp UnOp.not 4 (Operand.tmp 30), type := 4, pos := "law.go:380", after := #[{ on := 19, ground := Ground.data }, { on := 15, ground := Ground.guard }], guard := some (15, true) }) (v := ?_) rfl (by kernel_rfl) (by kernel_rfl) (by kernel_rfl) (fun _ _ _ h => h) (Or.inl ⟨by rfl, ?_⟩) (by assumption) ?_
    rotate_left; · (intro w hSw; (try dsimp only at hSw); first | (go_simp; done) | (go_simp; with_reducible rfl))
    (try simp only [Act.put, List.setIfInBounds_toArray, List.set_cons_zero, List.set_cons_succ])
    refine wpAnyH_take (i := 21) (oi := { dst := some 32, op := Op.pick (Operand.tmp 26) (Operand.tmp 31) (Operand.const (Value.bool false)), type := 4, pos := "law.go:380", after := #[{ on := 15, ground := Ground.data }, { on := 20, ground := Ground.data }], guard := none }) (v := ?_) rfl (by kernel_rfl) (by kernel_rfl) (by kernel_rfl) (fun _ _ _ h => h) (Or.inl ⟨by rfl, ?_⟩) (by assumption) ?_
    rotate_left; · (intro w hSw; (try dsimp only at hSw); first | (go_simp; done) | (go_simp; with_reducible rfl))
    (try simp only [Act.put, List.setIfInBounds_toArray, List.set_cons_zero, List.set_cons_succ])
    refine wpAnyH_take (i := 22) (oi := { dst := some 33, op := Op.move (Operand.tmp 32), type := 4, pos := "law.go:380", after := #[{ on := 21, ground := Ground.data }, { on := 19, ground := Ground.chain }], guard := none }) (v := ?_) rfl (by kernel_rfl) (by kernel_rfl) (by kernel_rfl) (fun _ _ _ h => h) (Or.inl ⟨by rfl, ?_⟩) (by assumption) ?_
    rotate_left; · (intro w hSw; (try dsimp only at hSw); first | (go_simp; done) | (go_simp; with_reducible rfl))
    (try simp only [Act.put, List.setIfInBounds_toArray, List.set_cons_zero, List.set_cons_succ])
    refine wpAnyH_take (i := 23) (oi := { dst := some 34, op := Op.move (Operand.tmp 7), type := 32, pos := "law.go:380", after := #[{ on := 22, ground := Ground.guard }], guard := some (22, true) }) (v := ?_) rfl (by kernel_rfl) (by kernel_rfl) (by kernel_rfl) (fun _ _ _ h => h) (Or.inl ⟨by rfl, ?_⟩) (by assumption) ?_
    rotate_left; · (intro w hSw; (try dsimp only at hSw); first | (go_simp; done) | (go_simp; with_reducible rfl))
    (try simp only [Act.put, List.setIfInBounds_toArray, List.set_cons_zero, List.set_cons_succ])
    refine wpAnyH_take (i := 24) (oi := { dst := some 35, op := Op.load 24 (Operand.tmp 3), type := 24, pos := "law.go:380", after := #[{ on := 22, ground := Ground.guard }], guard := some (22, true) }) (v := ?_) rfl (by kernel_rfl) (by kernel_rfl) (by kernel_rfl) (fun _ _ _ h => h) (Or.inl ⟨by rfl, ?_⟩) (by assumption) ?_
    rotate_left; · (intro w hSw; (try dsimp only at hSw); first | (go_simp; done) | (go_simp; with_reducible rfl))
    (try simp only [Act.put, List.setIfInBounds_toArray, List.set_cons_zero, List.set_cons_succ])
    refine wpAnyH_take (i := 25) (oi := { dst := some 36, op := Op.load 24 (Operand.tmp 3), type := 24, pos := "law.go:380", after := #[{ on := 22, ground := Ground.guard }], guard := some (22, true) }) (v := ?_) rfl (by kernel_rfl) (by kernel_rfl) (by kernel_rfl) (fun _ _ _ h => h) (Or.inl ⟨by rfl, ?_⟩) (by assumption) ?_
    rotate_left; · (intro w hSw; (try dsimp only at hSw); first | (go_simp; done) | (go_simp; with_reducible rfl))
    (try simp only [Act.put, List.setIfInBounds_toArray, List.set_cons_zero, List.set_cons_succ])
    refine wpAnyH_ready (rs := [26]) (by kernel_rfl) (by simp) ?_
    refine AllReadyH.cons (o := { dst := some 37, op := Op.call { callee := Callee.value (Operand.func 8), args := #[Operand.tmp 34, Operand.tmp 35, Operand.tmp 36], argTypes := #[32, 24, 24] }, type := 4, pos := "law.go:380", after := #[{ on := 23, ground := Ground.data }, { on := 24, ground := Ground.data }, { on := 25, ground := Ground.data }, { on := 22, ground := Ground.chain }, { on := 22, ground := Ground.guard }], guard := some (22, true) }) rfl (fun K hK => ?_) AllReadyH.nil
    go_simp
    refine (reach_nd _ _ _ _ _ _ _).mono ?_
    rintro e w1 ⟨rfl, hb⟩
    (first | have HB1 := Lib.hid (HB.out.trans (hb.mono HB.out.size)) | have HB1 := Lib.hid (HB.out.drew.trans (hb.mono HB.out.size)) | have HB1 := Lib.hid ((HB.out.alloc HB.out.size _).trans (hb.mono (HB.out.alloc HB.out.size _).size)) | have HB1 := Lib.hid ((HB.out.alloc HB.out.size _).drew.trans (hb.mono (HB.out.alloc HB.out.size _).drew.size)))
    clear HB hb; have HB := HB1; clear HB1
    (try go_wp2_with fail)
    refine hK.out _ _ (by first | exact HS2.out _ HB.out | exact HS2.out _ HB.out.drew | exact HS2.out _ (HB.out.alloc HB.out.size _) | exact HS2.out _ (HB.out.alloc HB.out.size _).drew | exact HS2.out _ (HB.out.drew.alloc HB.out.size _)) (fun hHeld => ?_)
    clear hK K
    (try simp only [Act.put, List.setIfInBounds_toArray, List.set_cons_zero, List.set_cons_succ])
    refine wpAnyH_take (i := 27) (oi := { dst := some 38, op := Op.unOp UnOp.not 4 (Operand.tmp 37), type := 4, pos := "law.go:380", after := #[{ on := 26, ground := Ground.data }, { on := 22, ground := Ground.guard }], guard := some (22, true) }) (v := ?_) rfl (by kernel_rfl) (by kernel_rfl) (by kernel_rfl) (fun _ _ _ h => h) (Or.inl ⟨by rfl, ?_⟩) (by assumption) ?_
    rotate_left; · (intro w hSw; (try dsimp only at hSw); first | (go_simp; done) | (go_simp; with_reducible rfl))
    (try simp only [Act.put, List.setIfInBounds_toArray, List.set_cons_zero, List.set_cons_succ])
    refine wpAnyH_take (i := 28) (oi := { dst := some 39, op := Op.pick (Operand.tmp 33) (Operand.tmp 38) (Operand.const (Value.bool false)), type := 4, pos := "law.go:380", after := #[{ on := 22, ground := Ground.data }, { on := 27, ground := Ground.data }], guard := none }) (v := ?_) rfl (by kernel_rfl) (by kernel_rfl) (by kernel_rfl) (fun _ _ _ h => h) (Or.inl ⟨by rfl, ?_⟩) (by assumption) ?_
    rotate_left; · (intro w hSw; (try dsimp only at hSw); first | (go_simp; done) | (go_simp; with_reducible rfl))
    (try simp only [Act.put, List.setIfInBounds_toArray, List.set_cons_zero, List.set_cons_succ])
    refine wpAnyH_take (i := 29) (oi := { dst := some 40, op := Op.move (Operand.tmp 39), type := 4, pos := "law.go:380", after := #[{ on := 28, ground := Ground.data }, { on := 26, ground := Ground.chain }], guard := none }) (v := ?_) rfl (by kernel_rfl) (by kernel_rfl) (by kernel_rfl) (fun _ _ _ h => h) (Or.inl ⟨by rfl, ?_⟩) (by assumption) ?_
    rotate_left; · (intro w hSw; (try dsimp only at hSw); first | (go_simp; done) | (go_simp; with_reducible rfl))
    (try simp only [Act.put, List.setIfInBounds_toArray, List.set_cons_zero, List.set_cons_succ])
    refine wpAnyH_take (i := 30) (oi := { dst := some 41, op := Op.move (Operand.tmp 7), type := 32, pos := "law.go:380", after := #[{ on := 29, ground := Ground.guard }], guard := some (29, true) }) (v := ?_) rfl (by kernel_rfl) (by kernel_rfl) (by kernel_rfl) (fun _ _ _ h => h) (Or.inl ⟨by rfl, ?_⟩) (by assumption) ?_
    rotate_left; · (intro w hSw; (try dsimp only at hSw); first | (go_simp; done) | (go_simp; with_reducible rfl))
    (try simp only [Act.put, List.setIfInBounds_toArray, List.set_cons_zero, List.set_cons_succ])
    refine wpAnyH_take (i := 31) (oi := { dst := some 42, op := Op.load 24 (Operand.tmp 3), type := 24, pos := "law.go:380", after := #[{ on := 29, ground := Ground.guard }], guard := some (29, true) }) (v := ?_) rfl (by kernel_rfl) (by kernel_rfl) (by kernel_rfl) (fun _ _ _ h => h) (Or.inl ⟨by rfl, ?_⟩) (by assumption) ?_
    rotate_left; · (intro w hSw; (try dsimp only at hSw); first | (go_simp; done) | (go_simp; with_reducible rfl))
    (try simp only [Act.put, List.setIfInBounds_toArray, List.set_cons_zero, List.set_cons_succ])
    refine wpAnyH_take (i := 32) (oi := { dst := some 43, op := Op.load 24 (Operand.tmp 4), type := 24, pos := "law.go:380", after := #[{ on := 29, ground := Ground.guard }], guard := some (29, true) }) (v := ?_) rfl (by kernel_rfl) (by kernel_rfl) (by kernel_rfl) (fun _ _ _ h => h) (Or.inl ⟨by rfl, ?_⟩) (by assumption) ?_
    rotate_left; · (intro w hSw; (try dsimp only at hSw); first | (go_simp; done) | (go_simp; with_reducible rfl))
    (try simp only [Act.put, List.setIfInBounds_toArray, List.set_cons_zero, List.set_cons_succ])
    refine wpAnyH_ready (rs := [33]) (by kernel_rfl) (by simp) ?_
    refine AllReadyH.cons (o := { dst := some 44, op := Op.buildSlice 34 2 #[(0, Operand.tmp 42), (1, Operand.tmp 43)], type := 34, pos := "law.go:380", after := #[{ on := 31, ground := Ground.data }, { on := 32, ground := Ground.data }, { on := 29, ground := Ground.guard }], guard := some (29, true) }) rfl (fun K hK => ?_) AllReadyH.nil
    go_simp
    refine hK.out _ _ (by first | exact HS2.out _ HB.out | exact HS2.out _ HB.out.drew | exact HS2.out _ (HB.out.alloc HB.out.size _) | exact HS2.out _ (HB.out.alloc HB.out.size _).drew | exact HS2.out _ (HB.out.drew.alloc HB.out.size _)) (fun hHeld => ?_)
    clear hK K
    (try simp only [Act.put, List.setIfInBounds_toArray, List.set_cons_zero, List.set_cons_succ])
    refine wpAnyH_ready (rs := [34]) (by kernel_rfl) (by simp) ?_
    refine AllReadyH.cons (o := { dst := some 45, op := Op.call { callee := Callee.value (Operand.func 9), args := #[Operand.tmp 41, Operand.tmp 44], argTypes := #[32, 34] }, type := 34, pos := "law.go:380", after := #[{ on := 30, ground := Ground.data }, { on := 33, ground := Ground.data }, { on := 29, ground := Ground.chain }, { on := 29, ground := Ground.guard }], guard := some (29, true) }) rfl (fun K hK => ?_) AllReadyH.nil
    go_simp
    refine (cone_nil _ _).mono ?_
    rintro e w1 ⟨rfl, hb⟩
    (first | have HB1 := Lib.hid (HB.out.trans (hb.mono HB.out.size)) | have HB1 := Lib.hid (HB.out.drew.trans (hb.mono HB.out.size)) | have HB1 := Lib.hid ((HB.out.alloc HB.out.size _).trans (hb.mono (HB.out.alloc HB.out.size _).size)) | have HB1 := Lib.hid ((HB.out.alloc HB.out.size _).drew.trans (hb.mono (HB.out.alloc HB.out.size _).drew.size)))
    clear HB hb; have HB := HB1; clear HB1
    (try go_wp2_with fail)
    refine hK.out _ _ (by first | exact HS2.out _ HB.out | exact HS2.out _ HB.out.drew | exact HS2.out _ (HB.out.alloc HB.out.size _) | exact HS2.out _ (HB.out.alloc HB.out.size _).drew | exact HS2.out _ (HB.out.drew.alloc HB.out.size _)) (fun hHeld => ?_)
    clear hK K
    (try simp only [Act.put, List.setIfInBounds_toArray, List.set_cons_zero, List.set_cons_succ])
    refine wpAnyH_take (i := 35) (oi := { dst := some 46, op := Op.call { callee := Callee.builtin Builtin.len, args := #[Operand.tmp 45], argTypes := #[34] }, type := 3, pos := "law.go:380", after := #[{ on := 34, ground := Ground.data }, { on := 29, ground := Ground.guard }], guard := some (29, true) }) (v := ?_) rfl (by kernel_rfl) (by kernel_rfl) (by kernel_rfl) (fun _ _ _ h => h) (Or.inl ⟨by rfl, ?_⟩) (by assumption) ?_
    rotate_left; · (intro w hSw; (try dsimp only at hSw); first | (go_simp; done) | (go_simp; with_reducible rfl))
    (try simp only [Act.put, List.setIfInBounds_toArray, List.set_cons_zero, List.set_cons_succ])
    refine wpAnyH_take (i := 36) (oi := { dst := some 47, op := Op.binOp BinOp.eql 3 (Operand.tmp 46) (Operand.const (Value.int IntKind.i64 0)) 3, type := 4, pos := "law.go:380", after := #[{ on := 35, ground := Ground.data }, { on := 29, ground := Ground.guard }], guard := some (29, true) }) (v := ?_) rfl (by kernel_rfl) (by kernel_rfl) (by kernel_rfl) (fun _ _ _ h => h) (Or.inl ⟨by rfl, ?_⟩) (by assumption) ?_
    rotate_left; · (intro w hSw; (try dsimp only at hSw); first | (go_simp; done) | (go_simp; with_reducible rfl))
    (try simp only [Act.put, List.setIfInBounds_toArray, List.set_cons_zero, List.set_cons_succ])
    refine wpAnyH_take (i := 37) (oi := { dst := some 48, op := Op.pick (Operand.tmp 40) (Operand.tmp 47) (Operand.const (Value.bool false)), type := 4, pos := "law.go:380", after := #[{ on := 29, ground := Ground.data }, { on := 36, ground := Ground.data }], guard := none }) (v := ?_) rfl (by kernel_rfl) (by kernel_rfl) (by kernel_rfl) (fun _ _ _ h => h) (Or.inl ⟨by rfl, ?_⟩) (by assumption) ?_
    rotate_left; · (intro w hSw; (try dsimp only at hSw); first | (go_simp; done) | (go_simp; with_reducible rfl))
    (try simp only [Act.put, List.setIfInBounds_toArray, List.set_cons_zero, List.set_cons_succ])
    refine wpAnyH_take (i := 38) (oi := { dst := some 49, op := Op.move (Operand.tmp 48), type := 4, pos := "law.go:380", after := #[{ on := 37, ground := Ground.data }, { on := 34, ground := Ground.chain }], guard := none }) (v := ?_) rfl (by kernel_rfl) (by kernel_rfl) (by kernel_rfl) (fun _ _ _ h => h) (Or.inl ⟨by rfl, ?_⟩) (by assumption) ?_
    rotate_left; · (intro w hSw; (try dsimp only at hSw); first | (go_simp; done) | (go_simp; with_reducible rfl))
    (try simp only [Act.put, List.setIfInBounds_toArray, List.set_cons_zero, List.set_cons_succ])
    refine wpAnyH_take (i := 39) (oi := { dst := some 50, op := Op.move (Operand.tmp 7), type := 32, pos := "law.go:380", after := #[{ on := 38, ground := Ground.guard }], guard := some (38, true) }) (v := ?_) rfl (by kernel_rfl) (by kernel_rfl) (by kernel_rfl) (fun _ _ _ h => h) (Or.inl ⟨by rfl, ?_⟩) (by assumption) ?_
    rotate_left; · (intro w hSw; (try dsimp only at hSw); first | (go_simp; done) | (go_simp; with_reducible rfl))
    (try simp only [Act.put, List.setIfInBounds_toArray, List.set_cons_zero, List.set_cons_succ])
    refine wpAnyH_take (i := 40) (oi := { dst := some 51, op := Op.load 30 (Operand.tmp 5), type := 30, pos := "law.go:380", after := #[{ on := 38, ground := Ground.guard }], guard := some (38, true) }) (v := ?_) rfl (by kernel_rfl) (by kernel_rfl) (by kernel_rfl) (fun _ _ _ h => h) (Or.inl ⟨by rfl, ?_⟩) (by assumption) ?_
    rotate_left; · (intro w hSw; (try dsimp only at hSw); first | (go_simp; done) | (go_simp; with_reducible rfl))
    (try simp only [Act.put, List.setIfInBounds_toArray, List.set_cons_zero, List.set_cons_succ])
    refine wpAnyH_ready (rs := [41]) (by kernel_rfl) (by simp) ?_
    refine AllReadyH.cons (o := { dst := some 52, op := Op.call { callee := Callee.value (Operand.func 10), args := #[Operand.tmp 50, Operand.tmp 51], argTypes := #[32, 30] }, type := 34, pos := "law.go:380", after := #[{ on := 39, ground := Ground.data }, { on := 40, ground := Ground.data }, { on := 38, ground := Ground.chain }, { on := 38, ground := Ground.guard }], guard := some (38, true) }) rfl (fun K hK => ?_) AllReadyH.nil
    go_simp
    refine (source_nil _ _ _ _ _ _ _ _).mono ?_
    rintro e w1 ⟨rfl, hb⟩
    (first | have HB1 := Lib.hid (HB.out.trans (hb.mono HB.out.size)) | have HB1 := Lib.hid (HB.out.drew.trans (hb.mono HB.out.size)) | have HB1 := Lib.hid ((HB.out.alloc HB.out.size _).trans (hb.mono (HB.out.alloc HB.out.size _).size)) | have HB1 := Lib.hid ((HB.out.alloc HB.out.size _).drew.trans (hb.mono (HB.out.alloc HB.out.size _).drew.size)))
    clear HB hb; have HB := HB1; clear HB1
    (try go_wp2_with fail)
    refine hK.out _ _ (by first | exact HS2.out _ HB.out | exact HS2.out _ HB.out.drew | exact HS2.out _ (HB.out.alloc HB.out.size _) | exact HS2.out _ (HB.out.alloc HB.out.size _).drew | exact HS2.out _ (HB.out.drew.alloc HB.out.size _)) (fun hHeld => ?_)
    clear hK K
    (try simp only [Act.put, List.setIfInBounds_toArray, List.set_cons_zero, List.set_cons_succ])
    refine wpAnyH_take (i := 42) (oi := { dst := some 53, op := Op.call { callee := Callee.builtin Builtin.len, args := #[Operand.tmp 52], argTypes := #[34] }, type := 3, pos := "law.go:380", after := #[{ on := 41, ground := Ground.data }, { on := 38, ground := Ground.guard }], guard := some (38, true) }) (v := ?_) rfl (by kernel_rfl) (by kernel_rfl) (by kernel_rfl) (fun _ _ _ h => h) (Or.inl ⟨by rfl, ?_⟩) (by assumption) ?_
    rotate_left; · (intro w hSw; (try dsimp only at hSw); first | (go_simp; done) | (go_simp; with_reducible rfl))
    (try simp only [Act.put, List.setIfInBounds_toArray, List.set_cons_zero, List.set_cons_succ])
    refine wpAnyH_take (i := 43) (oi := { dst := some 54, op := Op.binOp BinOp.eql 3 (Operand.tmp 53) (Operand.const (Value.int IntKind.i64 0)) 3, type := 4, pos := "law.go:380", after := #[{ on := 42, ground := Ground.data }, { on := 38, ground := Ground.guard }], guard := some (38, true) }) (v := ?_) rfl (by kernel_rfl) (by kernel_rfl) (by kernel_rfl) (fun _ _ _ h => h) (Or.inl ⟨by rfl, ?_⟩) (by assumption) ?_
    rotate_left; · (intro w hSw; (try dsimp only at hSw); first | (go_simp; done) | (go_simp; with_reducible rfl))
    (try simp only [Act.put, List.setIfInBounds_toArray, List.set_cons_zero, List.set_cons_succ])
    refine wpAnyH_take (i := 44) (oi := { dst := some 55, op := Op.pick (Operand.tmp 49) (Operand.tmp 54) (Operand.const (Value.bool false)), type := 4, pos := "law.go:380", after := #[{ on := 38, ground := Ground.data }, { on := 43, ground := Ground.data }], guard := none }) (v := ?_) rfl (by kernel_rfl) (by kernel_rfl) (by kernel_rfl) (fun _ _ _ h => h) (Or.inl ⟨by rfl, ?_⟩) (by assumption) ?_
    rotate_left; · (intro w hSw; (try dsimp only at hSw); first | (go_simp; done) | (go_simp; with_reducible rfl))
    (try simp only [Act.put, List.setIfInBounds_toArray, List.set_cons_zero, List.set_cons_succ])
    refine wpAnyH_take (i := 45) (oi := { dst := some 56, op := Op.move (Operand.tmp 55), type := 4, pos := "law.go:380", after := #[{ on := 44, ground := Ground.data }, { on := 41, ground := Ground.chain }], guard := none }) (v := ?_) rfl (by kernel_rfl) (by kernel_rfl) (by kernel_rfl) (fun _ _ _ h => h) (Or.inl ⟨by rfl, ?_⟩) (by assumption) ?_
    rotate_left; · (intro w hSw; (try dsimp only at hSw); first | (go_simp; done) | (go_simp; with_reducible rfl))
    (try simp only [Act.put, List.setIfInBounds_toArray, List.set_cons_zero, List.set_cons_succ])
    refine wpAnyH_take (i := 46) (oi := { dst := some 57, op := Op.load 24 (Operand.tmp 3), type := 24, pos := "law.go:380", after := #[{ on := 45, ground := Ground.guard }], guard := some (45, true) }) (v := ?_) rfl (by kernel_rfl) (by kernel_rfl) (by kernel_rfl) (fun _ _ _ h => h) (Or.inl ⟨by rfl, ?_⟩) (by assumption) ?_
    rotate_left; · (intro w hSw; (try dsimp only at hSw); first | (go_simp; done) | (go_simp; with_reducible rfl))
    (try simp only [Act.put, List.setIfInBounds_toArray, List.set_cons_zero, List.set_cons_succ])
    refine wpAnyH_take (i := 47) (oi := { dst := some 58, op := Op.load 24 (Operand.tmp 3), type := 24, pos := "law.go:380", after := #[{ on := 45, ground := Ground.guard }], guard := some (45, true) }) (v := ?_) rfl (by kernel_rfl) (by kernel_rfl) (by kernel_rfl) (fun _ _ _ h => h) (Or.inl ⟨by rfl, ?_⟩) (by assumption) ?_
    rotate_left; · (intro w hSw; (try dsimp only at hSw); first | (go_simp; done) | (go_simp; with_reducible rfl))
    (try simp only [Act.put, List.setIfInBounds_toArray, List.set_cons_zero, List.set_cons_succ])
    refine wpAnyH_ready (rs := [48]) (by kernel_rfl) (by simp) ?_
    refine AllReadyH.cons (o := { dst := some 59, op := Op.call { callee := Callee.value (Operand.func 11), args := #[Operand.tmp 57, Operand.tmp 58], argTypes := #[24, 24] }, type := 4, pos := "law.go:380", after := #[{ on := 46, ground := Ground.data }, { on := 47, ground := Ground.data }, { on := 45, ground := Ground.chain }, { on := 45, ground := Ground.guard }], guard := some (45, true) }) rfl (fun K hK => ?_) AllReadyH.nil
    go_simp
    refine (less_self _ _ _ _).mono ?_
    rintro e w1 ⟨rfl, hb⟩
    (first | have HB1 := Lib.hid (HB.out.trans (hb.mono HB.out.size)) | have HB1 := Lib.hid (HB.out.drew.trans (hb.mono HB.out.size)) | have HB1 := Lib.hid ((HB.out.alloc HB.out.size _).trans (hb.mono (HB.out.alloc HB.out.size _).size)) | have HB1 := Lib.hid ((HB.out.alloc HB.out.size _).drew.trans (hb.mono (HB.out.alloc HB.out.size _).drew.size)))
    clear HB hb; have HB := HB1; clear HB1
    (try go_wp2_with fail)
    refine hK.out _ _ (by first | exact HS2.out _ HB.out | exact HS2.out _ HB.out.drew | exact HS2.out _ (HB.out.alloc HB.out.size _) | exact HS2.out _ (HB.out.alloc HB.out.size _).drew | exact HS2.out _ (HB.out.drew.alloc HB.out.size _)) (fun hHeld => ?_)
    clear hK K
    (try simp only [Act.put, List.setIfInBounds_toArray, List.set_cons_zero, List.set_cons_succ])
    refine wpAnyH_take (i := 49) (oi := { dst := some 60, op := Op.unOp UnOp.not 4 (Operand.tmp 59), type := 4, pos := "law.go:380", after := #[{ on := 48, ground := Ground.data }, { on := 45, ground := Ground.guard }], guard := some (45, true) }) (v := ?_) rfl (by kernel_rfl) (by kernel_rfl) (by kernel_rfl) (fun _ _ _ h => h) (Or.inl ⟨by rfl, ?_⟩) (by assumption) ?_
    rotate_left; · (intro w hSw; (try dsimp only at hSw); first | (go_simp; done) | (go_simp; with_reducible rfl))
    (try simp only [Act.put, List.setIfInBounds_toArray, List.set_cons_zero, List.set_cons_succ])
    refine wpAnyH_take (i := 50) (oi := { dst := some 61, op := Op.pick (Operand.tmp 56) (Operand.tmp 60) (Operand.const (Value.bool false)), type := 4, pos := "law.go:380", after := #[{ on := 45, ground := Ground.data }, { on := 49, ground := Ground.data }], guard := none }) (v := ?_) rfl (by kernel_rfl) (by kernel_rfl) (by kernel_rfl) (fun _ _ _ h => h) (Or.inl ⟨by rfl, ?_⟩) (by assumption) ?_
    rotate_left; · (intro w hSw; (try dsimp only at hSw); first | (go_simp; done) | (go_simp; with_reducible rfl))
    (try simp only [Act.put, List.setIfInBounds_toArray, List.set_cons_zero, List.set_cons_succ])
    refine wpAnyH_take (i := 51) (oi := { dst := some 62, op := Op.move (Operand.tmp 61), type := 4, pos := "law.go:380", after := #[{ on := 50, ground := Ground.data }, { on := 48, ground := Ground.chain }], guard := none }) (v := ?_) rfl (by kernel_rfl) (by kernel_rfl) (by kernel_rfl) (fun _ _ _ h => h) (Or.inl ⟨by rfl, ?_⟩) (by assumption) ?_
    rotate_left; · (intro w hSw; (try dsimp only at hSw); first | (go_simp; done) | (go_simp; with_reducible rfl))
    (try simp only [Act.put, List.setIfInBounds_toArray, List.set_cons_zero, List.set_cons_succ])
    refine wpAnyH_take (i := 52) (oi := { dst := some 63, op := Op.load 24 (Operand.tmp 3), type := 24, pos := "law.go:380", after := #[{ on := 51, ground := Ground.guard }], guard := some (51, true) }) (v := ?_) rfl (by kernel_rfl) (by kernel_rfl) (by kernel_rfl) (fun _ _ _ h => h) (Or.inl ⟨by rfl, ?_⟩) (by assumption) ?_
    rotate_left; · (intro w hSw; (try dsimp only at hSw); first | (go_simp; done) | (go_simp; with_reducible rfl))
    (try simp only [Act.put, List.setIfInBounds_toArray, List.set_cons_zero, List.set_cons_succ])
    refine wpAnyH_take (i := 53) (oi := { dst := some 64, op := Op.load 24 (Operand.tmp 4), type := 24, pos := "law.go:380", after := #[{ on := 51, ground := Ground.guard }], guard := some (51, true) }) (v := ?_) rfl (by kernel_rfl) (by kernel_rfl) (by kernel_rfl) (fun _ _ _ h => h) (Or.inl ⟨by rfl, ?_⟩) (by assumption) ?_
    rotate_left; · (intro w hSw; (try dsimp only at hSw); first | (go_simp; done) | (go_simp; with_reducible rfl))
    (try simp only [Act.put, List.setIfInBounds_toArray, List.set_cons_zero, List.set_cons_succ])
    refine wpAnyH_take (i := 54) (oi := { dst := some 65, op := Op.binOp BinOp.eql 24 (Operand.tmp 63) (Operand.tmp 64) 24, type := 4, pos := "law.go:380", after := #[{ on := 52, ground := Ground.data }, { on := 53, ground := Ground.data }, { on := 51, ground := Ground.guard }], guard := some (51, true) }) (v := ?_) rfl (by kernel_rfl) (by kernel_rfl) (by kernel_rfl) (fun _ _ _ h => h) (Or.inl ⟨by rfl, ?_⟩) (by assumption) ?_
    rotate_left; · (intro w hSw; (try dsimp only at hSw); first | (go_simp; done) | (go_simp; with_reducible rfl))
    (try simp only [Act.put, List.setIfInBounds_toArray, List.set_cons_zero, List.set_cons_succ])
    refine wpAnyH_take (i := 55) (oi := { dst := some 66, op := Op.move (Operand.tmp 65), type := 4, pos := "law.go:380", after := #[{ on := 54, ground := Ground.data }, { on := 51, ground := Ground.chain }, { on := 51, ground := Ground.guard }], guard := some (51, true) }) (v := ?_) rfl (by kernel_rfl) (by kernel_rfl) (by kernel_rfl) (fun _ _ _ h => h) (Or.inl ⟨by rfl, ?_⟩) (by assumption) ?_
    rotate_left; · (intro w hSw; (try dsimp only at hSw); first | (go_simp; done) | (go_simp; with_reducible rfl))
    (try simp only [Act.put, List.setIfInBounds_toArray, List.set_cons_zero, List.set_cons_succ])
    refine wpAnyH_take (i := 56) (oi := { dst := some 67, op := Op.load 24 (Operand.tmp 3), type := 24, pos := "law.go:380", after := #[{ on := 55, ground := Ground.guard }], guard := some (55, false) }) (v := ?_) rfl (by kernel_rfl) (by kernel_rfl) (by kernel_rfl) (fun _ _ _ h => h) (Or.inl ⟨by rfl, ?_⟩) (by assumption) ?_
    rotate_left; · (intro w hSw; (try dsimp only at hSw); first | (go_simp; done) | (go_simp; with_reducible rfl))
    (try simp only [Act.put, List.setIfInBounds_toArray, List.set_cons_zero, List.set_cons_succ])
    refine wpAnyH_take (i := 57) (oi := { dst := some 68, op := Op.load 24 (Operand.tmp 4), type := 24, pos := "law.go:380", after := #[{ on := 55, ground := Ground.guard }], guard := some (55, false) }) (v := ?_) rfl (by kernel_rfl) (by kernel_rfl) (by kernel_rfl) (fun _ _ _ h => h) (Or.inl ⟨by rfl, ?_⟩) (by assumption) ?_
    rotate_left; · (intro w hSw; (try dsimp only at hSw); first | (go_simp; done) | (go_simp; with_reducible rfl))
    (try simp only [Act.put, List.setIfInBounds_toArray, List.set_cons_zero, List.set_cons_succ])
    refine wpAnyH_take (i := 59) (oi := { dst := some 70, op := Op.load 24 (Operand.tmp 4), type := 24, pos := "law.go:380", after := #[{ on := 55, ground := Ground.guard }], guard := some (55, false) }) (v := ?_) rfl (by kernel_rfl) (by kernel_rfl) (by kernel_rfl) (fun _ _ _ h => h) (Or.inl ⟨by rfl, ?_⟩) (by assumption) ?_
    rotate_left; · (intro w hSw; (try dsimp only at hSw); first | (go_simp; done) | (go_simp; with_reducible rfl))
    (try simp only [Act.put, List.setIfInBounds_toArray, List.set_cons_zero, List.set_cons_succ])
    refine wpAnyH_take (i := 60) (oi := { dst := some 71, op := Op.load 24 (Operand.tmp 3), type := 24, pos := "law.go:380", after := #[{ on := 55, ground := Ground.guard }], guard := some (55, false) }) (v := ?_) rfl (by kernel_rfl) (by kernel_rfl) (by kernel_rfl) (fun _ _ _ h => h) (Or.inl ⟨by rfl, ?_⟩) (by assumption) ?_
    rotate_left; · (intro w hSw; (try dsimp only at hSw); first | (go_simp; done) | (go_simp; with_reducible rfl))
    (try simp only [Act.put, List.setIfInBounds_toArray, List.set_cons_zero, List.set_cons_succ])
    refine wpAnyH_ready (rs := [58]) (by kernel_rfl) (by simp) ?_
    refine AllReadyH.cons (o := { dst := some 69, op := Op.call { callee := Callee.value (Operand.func 11), args := #[Operand.tmp 67, Operand.tmp 68], argTypes := #[24, 24] }, type := 4, pos := "law.go:380", after := #[{ on := 56, ground := Ground.data }, { on := 57, ground := Ground.data }, { on := 55, ground := Ground.chain }, { on := 55, ground := Ground.guard }], guard := some (55, false) }) rfl (fun K hK => ?_) AllReadyH.nil
    go_simp
    refine (HL1.out _).mono ?_
    rintro e w1 ⟨rfl, hb⟩
    (first | have HB1 := Lib.hid (HB.out.trans (hb.mono HB.out.size)) | have HB1 := Lib.hid (HB.out.drew.trans (hb.mono HB.out.size)) | have HB1 := Lib.hid ((HB.out.alloc HB.out.size _).trans (hb.mono (HB.out.alloc HB.out.size _).size)) | have HB1 := Lib.hid ((HB.out.alloc HB.out.size _).drew.trans (hb.mono (HB.out.alloc HB.out.size _).drew.size)))
    clear HB hb; have HB := HB1; clear HB1
    (try go_wp2_with fail)
    refine hK.out _ _ (by first | exact HS2.out _ HB.out | exact HS2.out _ HB.out.drew | exact HS2.out _ (HB.out.alloc HB.out.size _) | exact HS2.out _ (HB.out.alloc HB.out.size _).drew | exact HS2.out _ (HB.out.drew.alloc HB.out.size _)) (fun hHeld => ?_)
    clear hK K
    (try simp only [Act.put, List.setIfInBounds_toArray, List.set_cons_zero, List.set_cons_succ])
    refine wpAnyH_ready (rs := [61]) (by kernel_rfl) (by simp) ?_
    refine AllReadyH.cons (o := { dst := some 72, op := Op.call { callee := Callee.value (Operand.func 11), args := #[Operand.tmp 70, Operand.tmp 71], argTypes := #[24, 24] }, type := 4, pos := "law.go:380", after := #[{ on := 59, ground := Ground.data }, { on := 60, ground := Ground.data }, { on := 58, ground := Ground.chain }, { on := 55, ground := Ground.guard }], guard := some (55, false) }) rfl (fun K hK => ?_) AllReadyH.nil
    go_simp
    refine (HL2.out _).mono ?_
    rintro e w1 ⟨rfl, hb⟩
    (first | have HB1 := Lib.hid (HB.out.trans (hb.mono HB.out.size)) | have HB1 := Lib.hid (HB.out.drew.trans (hb.mono HB.out.size)) | have HB1 := Lib.hid ((HB.out.alloc HB.out.size _).trans (hb.mono (HB.out.alloc HB.out.size _).size)) | have HB1 := Lib.hid ((HB.out.alloc HB.out.size _).drew.trans (hb.mono (HB.out.alloc HB.out.size _).drew.size)))
    clear HB hb; have HB := HB1; clear HB1
    (try go_wp2_with fail)
    refine hK.out _ _ (by first | exact HS2.out _ HB.out | exact HS2.out _ HB.out.drew | exact HS2.out _ (HB.out.alloc HB.out.size _) | exact HS2.out _ (HB.out.alloc HB.out.size _).drew | exact HS2.out _ (HB.out.drew.alloc HB.out.size _)) (fun hHeld => ?_)
    clear hK K
    (try simp only [Act.put, List.setIfInBounds_toArray, List.set_cons_zero, List.set_cons_succ])
    refine wpAnyH_take (i := 62) (oi := { dst := some 73, op := Op.binOp BinOp.neq 4 (Operand.tmp 69) (Operand.tmp 72) 4, type := 4, pos := "law.go:380", after := #[{ on := 58, ground := Ground.data }, { on := 61, ground := Ground.data }, { on := 55, ground := Ground.guard }], guard := some (55, false) }) (v := ?_) rfl (by kernel_rfl) (by kernel_rfl) (by kernel_rfl) (fun _ _ _ h => h) (Or.inl ⟨by rfl, ?_⟩) (by assumption) ?_
    rotate_left; · (intro w hSw; (try dsimp only at hSw); first | (go_simp; done) | (go_simp; with_reducible rfl))
    (try simp only [Act.put, List.setIfInBounds_toArray, List.set_cons_zero, List.set_cons_succ])
    refine wpAnyH_take (i := 63) (oi := { dst := some 74, op := Op.pick (Operand.tmp 66) (Operand.const (Value.bool true)) (Operand.tmp 73), type := 4, pos := "law.go:380", after := #[{ on := 55, ground := Ground.data }, { on := 62, ground := Ground.data }, { on := 51, ground := Ground.guard }], guard := some (51, true) }) (v := ?_) rfl (by kernel_rfl) (by kernel_rfl) (by kernel_rfl) (fun _ _ _ h => h) (Or.inl ⟨by rfl, ?_⟩) (by assumption) ?_
    rotate_left; · (intro w hSw; (try dsimp only at hSw); first | (go_simp; done) | (go_simp; with_reducible rfl))
    (try simp only [Act.put, List.setIfInBounds_toArray, List.set_cons_zero, List.set_cons_succ])
    refine wpAnyH_take (i := 64) (oi := { dst := some 75, op := Op.pick (Operand.tmp 62) (Operand.tmp 74) (Operand.const (Value.bool false)), type := 4, pos := "law.go:380", after := #[{ on := 51, ground := Ground.data }, { on := 63, ground := Ground.data }], guard := none }) (v := ?_) rfl (by kernel_rfl) (by kernel_rfl) (by kernel_rfl) (fun _ _ _ h => h) (Or.inl ⟨by rfl, ?_⟩) (by assumption) ?_
    rotate_left; · (intro w hSw; (try dsimp only at hSw); first | (go_simp; done) | (go_simp; with_reducible rfl))
    (try simp only [Act.put, List.setIfInBounds_toArray, List.set_cons_zero, List.set_cons_succ])
    refine wpAnyH_ready (rs := [65]) (by kernel_rfl) (by simp) ?_
    refine AllReadyH.cons (o := { dst := some 6, op := Op.assign (Operand.tmp 75), type := 4, pos := "law.go:380", after := #[{ on := 64, ground := Ground.data }, { on := 61, ground := Ground.chain }, { on := 0, ground := Ground.phase }, { on := 1, ground := Ground.phase }, { on := 2, ground := Ground.phase }, { on := 3, ground := Ground.phase }, { on := 4, ground := Ground.phase }, { on := 5, ground := Ground.phase }, { on := 6, ground := Ground.phase }, { on := 7, ground := Ground.phase }, { on := 8, ground := Ground.phase }, { on := 9, ground := Ground.phase }, { on := 10, ground := Ground.phase }, { on := 11, ground := Ground.phase }, { on := 12, ground := Ground.phase }, { on := 13, ground := Ground.phase }, { on := 14, ground := Ground.phase }, { on := 15, ground := Ground.phase }, { on := 16, ground := Ground.phase }, { on := 17, ground := Ground.phase }, { on := 18, ground := Ground.phase }, { on := 19, ground := Ground.phase }, { on := 20, ground := Ground.phase }, { on := 21, ground := Ground.phase }, { on := 22, ground := Ground.phase }, { on := 23, ground := Ground.phase }, { on := 24, ground := Ground.phase }, { on := 25, ground := Ground.phase }, { on := 26, ground := Ground.phase }, { on := 27, ground := Ground.phase }, { on := 28, ground := Ground.phase }, { on := 29, ground := Ground.phase }, { on := 30, ground := Ground.phase }, { on := 31, ground := Ground.phase }, { on := 32, ground := Ground.phase }, { on := 33, ground := Ground.phase }, { on := 34, ground := Ground.phase }, { on := 35, ground := Ground.phase }, { on := 36, ground := Ground.phase }, { on := 37, ground := Ground.phase }, { on := 38, ground := Ground.phase }, { on := 39, ground := Ground.phase }, { on := 40, ground := Ground.phase }, { on := 41, ground := Ground.phase }, { on := 42, ground := Ground.phase }, { on := 43, ground := Ground.phase }, { on := 44, ground := Ground.phase }, { on := 45, ground := Ground.phase }, { on := 46, ground := Ground.phase }, { on := 47, ground := Ground.phase }, { on := 48, ground := Ground.phase }, { on := 49, ground := Ground.phase }, { on := 50, ground := Ground.phase }, { on := 51, ground := Ground.phase }, { on := 52, ground := Ground.phase }, { on := 53, ground := Ground.phase }, { on := 54, ground := Ground.phase }, { on := 55, ground := Ground.phase }, { on := 56, ground := Ground.phase }, { on := 57, ground := Ground.phase }, { on := 58, ground := Ground.phase }, { on := 59, ground := Ground.phase }, { on := 60, ground := Ground.phase }, { on := 61, ground := Ground.phase }, { on := 62, ground := Ground.phase }, { on := 63, ground := Ground.phase }, { on := 64, ground := Ground.phase }], guard := none }) rfl (fun K hK => ?_) AllReadyH.nil
    go_simp
    refine hK.out _ _ (by first | exact HS2.out _ HB.out | exact HS2.out _ HB.out.drew | exact HS2.out _ (HB.out.alloc HB.out.size _) | exact HS2.out _ (HB.out.alloc HB.out.size _).drew | exact HS2.out _ (HB.out.drew.alloc HB.out.size _)) (fun hHeld => ?_)
    clear hK K
    (try simp only [Act.put, List.setIfInBounds_toArray, List.set_cons_zero, List.set_cons_succ])
    refine wpAnyH_done (by kernel_rfl) ?_ _
    go_wp2_with fail
    go_ret
    exact ⟨by cases r <;> rfl, HW.out.trans (HB.out.mono HW.out.size)⟩
end Go.Proofs.YtanilhkjfdagpaaGreatDoor
