/- no function of the program starts a goroutine: in pieces -/
import Derived.Test.YtcnhmjkmlncbhaaGreatDoorRows
import Derived.ProofKit
import Derived.KernelRfl
import Derived.SevenTiedAt
namespace Go.Proofs.YtcnhmjkmlncbhaaGreatDoor
theorem gk0 : ((Tryz.prog.funcs.toList.drop 0).take 40).all (fun g => !g.goes) = true := by kernel_rfl
theorem gk1 : ((Tryz.prog.funcs.toList.drop 40).take 40).all (fun g => !g.goes) = true := by kernel_rfl
theorem gk2 : ((Tryz.prog.funcs.toList.drop 80).take 40).all (fun g => !g.goes) = true := by kernel_rfl
theorem gk3 : ((Tryz.prog.funcs.toList.drop 120).take 40).all (fun g => !g.goes) = true := by kernel_rfl
theorem gk4 : ((Tryz.prog.funcs.toList.drop 160).take 40).all (fun g => !g.goes) = true := by kernel_rfl
theorem gk5 : ((Tryz.prog.funcs.toList.drop 200).take 40).all (fun g => !g.goes) = true := by kernel_rfl
theorem gk6 : ((Tryz.prog.funcs.toList.drop 240).take 40).all (fun g => !g.goes) = true := by kernel_rfl
theorem gk7 : ((Tryz.prog.funcs.toList.drop 280).take 40).all (fun g => !g.goes) = true := by kernel_rfl
theorem gk8 : ((Tryz.prog.funcs.toList.drop 320).take 40).all (fun g => !g.goes) = true := by kernel_rfl
theorem gk9 : ((Tryz.prog.funcs.toList.drop 360).take 40).all (fun g => !g.goes) = true := by kernel_rfl
theorem gk10 : ((Tryz.prog.funcs.toList.drop 400).take 40).all (fun g => !g.goes) = true := by kernel_rfl
theorem gk11 : ((Tryz.prog.funcs.toList.drop 440).take 17).all (fun g => !g.goes) = true := by kernel_rfl
theorem gkn : Tryz.prog.funcs.toList.length = 457 := by kernel_rfl
theorem all_cut {α : Type} (p : α → Bool) (n : Nat) : ∀ l : List α, (l.take n).all p = true → (l.drop n).all p = true → l.all p = true := by
  intro l h1 h2
  rw [← List.take_append_drop n l, List.all_append, h1, h2]; rfl
theorem all_dd {α : Type} (p : α → Bool) (l : List α) (a n : Nat) (h1 : ((l.drop a).take n).all p = true) (h2 : (l.drop (a + n)).all p = true) : (l.drop a).all p = true :=
  all_cut p n (l.drop a) h1 (by rw [List.drop_drop]; exact h2)
theorem gk_join (l : List Func) (hn : l.length = 457) (h0 : ((l.drop 0).take 40).all (fun g => !g.goes) = true) (h1 : ((l.drop 40).take 40).all (fun g => !g.goes) = true) (h2 : ((l.drop 80).take 40).all (fun g => !g.goes) = true) (h3 : ((l.drop 120).take 40).all (fun g => !g.goes) = true) (h4 : ((l.drop 160).take 40).all (fun g => !g.goes) = true) (h5 : ((l.drop 200).take 40).all (fun g => !g.goes) = true) (h6 : ((l.drop 240).take 40).all (fun g => !g.goes) = true) (h7 : ((l.drop 280).take 40).all (fun g => !g.goes) = true) (h8 : ((l.drop 320).take 40).all (fun g => !g.goes) = true) (h9 : ((l.drop 360).take 40).all (fun g => !g.goes) = true) (h10 : ((l.drop 400).take 40).all (fun g => !g.goes) = true) (h11 : ((l.drop 440).take 17).all (fun g => !g.goes) = true) : l.all (fun g => !g.goes) = true := by
  have e : l = l.drop 0 := (List.drop_zero).symm
  rw [e]
  refine all_dd _ l 0 40 h0 ?_
  refine all_dd _ l 40 40 h1 ?_
  refine all_dd _ l 80 40 h2 ?_
  refine all_dd _ l 120 40 h3 ?_
  refine all_dd _ l 160 40 h4 ?_
  refine all_dd _ l 200 40 h5 ?_
  refine all_dd _ l 240 40 h6 ?_
  refine all_dd _ l 280 40 h7 ?_
  refine all_dd _ l 320 40 h8 ?_
  refine all_dd _ l 360 40 h9 ?_
  refine all_dd _ l 400 40 h10 ?_
  refine all_dd _ l 440 17 h11 ?_
  rw [List.drop_of_length_le (by rw [hn]; decide)]; rfl
theorem gk_none : Tryz.prog.funcs.toList.all (fun g => !g.goes) = true := gk_join Tryz.prog.funcs.toList gkn gk0 gk1 gk2 gk3 gk4 gk5 gk6 gk7 gk8 gk9 gk10 gk11
theorem goes_none (P : Program) (h : P.funcs.toList.all (fun g => !g.goes) = true) (f : FuncId) : P.goes f = false := by
  have h1 : ∀ g ∈ P.funcs.toList, Func.goes g = false := fun g hg => by have := List.all_eq_true.mp h g hg; simpa using this
  have h2 : P.funcs.any Func.goes = false := by
    rw [← Array.any_toList, List.any_eq_false]; intro g hg; rw [h1 g hg]; decide
  have h3 : ((P.closure f).any fun g => (P.funcs[g]?).any Func.goes) = false := by
    rw [List.any_eq_false]; intro g _
    match hg : P.funcs[g]? with
    | none => exact Bool.false_ne_true
    | some x =>
      have : x ∈ P.funcs.toList := Array.mem_toList_iff.mpr (Array.mem_of_getElem? hg)
      show ¬ Func.goes x = true
      rw [h1 x this]; exact Bool.false_ne_true
  unfold Program.goes; rw [h3, h2, Bool.and_false]; rfl
theorem goesBy_none (c : OpenClaim) (P : Program) (hP : P.funcs.toList.all (fun g => !g.goes) = true) : false = c.goesBy P := by
  have h := goes_none P hP
  have h1 : ∀ s, P.goesFrom s = false := fun s => by
    unfold Program.goesFrom
    match P.funcNamed s with
    | none => rfl
    | some f => exact h f
  have h2 : (P.inits.toList.any P.goes) = false := by
    rw [List.any_eq_false]; intro f _; rw [h f]; exact Bool.false_ne_true
  unfold OpenClaim.goesBy Program.goesAt
  rw [h1, Bool.false_or, h2]
  cases c.start <;> rfl
theorem fact_goes : false = Rows.contrastListsRow.goesBy Tryz.prog := goesBy_none Rows.contrastListsRow Tryz.prog gk_none
end Go.Proofs.YtcnhmjkmlncbhaaGreatDoor
