/- The law, and its closed call awake. -/
import Derived.Test.YthicpeihkkokmaaGreatDoorRows
import Derived.ProofKit
import Derived.KernelRfl
import Derived.SevenTiedAt
set_option linter.unusedVariables false
set_option linter.unusedSimpArgs false
namespace Go.Proofs.YthicpeihkkokmaaGreatDoor
theorem gk0:((Tryz.prog.funcs.toList.drop 0).take 40).all (fun g=> !g.goes)=true:=by kernel_rfl
theorem gk1:((Tryz.prog.funcs.toList.drop 40).take 40).all (fun g=> !g.goes)=true:=by kernel_rfl
theorem gk2:((Tryz.prog.funcs.toList.drop 80).take 40).all (fun g=> !g.goes)=true:=by kernel_rfl
theorem gk3:((Tryz.prog.funcs.toList.drop 120).take 40).all (fun g=> !g.goes)=true:=by kernel_rfl
theorem gk4:((Tryz.prog.funcs.toList.drop 160).take 40).all (fun g=> !g.goes)=true:=by kernel_rfl
theorem gk5:((Tryz.prog.funcs.toList.drop 200).take 40).all (fun g=> !g.goes)=true:=by kernel_rfl
theorem gk6:((Tryz.prog.funcs.toList.drop 240).take 40).all (fun g=> !g.goes)=true:=by kernel_rfl
theorem gk7:((Tryz.prog.funcs.toList.drop 280).take 40).all (fun g=> !g.goes)=true:=by kernel_rfl
theorem gk8:((Tryz.prog.funcs.toList.drop 320).take 6).all (fun g=> !g.goes)=true:=by kernel_rfl
theorem gkn:Tryz.prog.funcs.toList.length=326:=by kernel_rfl
theorem aU3{α:Type}(p:α->Bool)(n:Nat):∀l:List α,(l.take n).all p=true->(l.drop n).all p=true->l.all p=true:=by
 intro l h1 h2;rw[<-List.take_append_drop n l,List.all_append,h1,h2];rfl
theorem vp{α:Type}(p:α->Bool)(l:List α)(a n:Nat)(h1:((l.drop a).take n).all p=true)(h2:(l.drop (a+n)).all p=true):(l.drop a).all p=true:=
 aU3 p n (l.drop a) h1 (by rw[List.drop_drop];exact h2)
theorem aR1(l:List Func)(hn:l.length=326)(h0:((l.drop 0).take 40).all (fun g=> !g.goes)=true)(h1:((l.drop 40).take 40).all (fun g=> !g.goes)=true)(h2:((l.drop 80).take 40).all (fun g=> !g.goes)=true)(h3:((l.drop 120).take 40).all (fun g=> !g.goes)=true)(h4:((l.drop 160).take 40).all (fun g=> !g.goes)=true)(h5:((l.drop 200).take 40).all (fun g=> !g.goes)=true)(h6:((l.drop 240).take 40).all (fun g=> !g.goes)=true)(h7:((l.drop 280).take 40).all (fun g=> !g.goes)=true)(h8:((l.drop 320).take 6).all (fun g=> !g.goes)=true):l.all (fun g=> !g.goes)=true:=by
 have e:l=l.drop 0:=(List.drop_zero).symm;rw[e];refine vp _ l 0 40 h0 ?_;refine vp _ l 40 40 h1 ?_;refine vp _ l 80 40 h2 ?_;refine vp _ l 120 40 h3 ?_;refine vp _ l 160 40 h4 ?_;refine vp _ l 200 40 h5 ?_;refine vp _ l 240 40 h6 ?_;refine vp _ l 280 40 h7 ?_;refine vp _ l 320 6 h8 ?_;rw[List.drop_of_length_le (by rw[hn];decide)];rfl
theorem aR0:Tryz.prog.funcs.toList.all (fun g=> !g.goes)=true:=aR1 Tryz.prog.funcs.toList gkn gk0 gk1 gk2 gk3 gk4 gk5 gk6 gk7 gk8
theorem ay1(P:Program)(h:P.funcs.toList.all (fun g=> !g.goes)=true)(f:FuncId):P.goes f=false:=by
 have h1:∀g∈P.funcs.toList,Func.goes g=false:=fun g hg=>by have:=List.all_eq_true.mp h g hg;simpa using this
 have h2:P.funcs.any Func.goes=false:=by
  rw[<-Array.any_toList,List.any_eq_false];intro g hg;rw[h1 g hg];decide
 have h3:((P.closure f).any fun g=>(P.funcs[g]?).any Func.goes)=false:=by
  rw[List.any_eq_false];intro g _
  match hg:P.funcs[g]? with
  |none=>exact Bool.false_ne_true
  |some x=>
   have:x∈P.funcs.toList:=Array.mem_toList_iff.mpr (Array.mem_of_getElem? hg);show ¬Func.goes x=true;rw[h1 x this];exact Bool.false_ne_true
 unfold Program.goes;rw[h3,h2,Bool.and_false];rfl
theorem aq7(c:OpenClaim)(P:Program)(hP:P.funcs.toList.all (fun g=> !g.goes)=true):false=c.goesBy P:=by
 have h:=ay1 P hP;have h1:∀s,P.goesFrom s=false:=fun s=>by
  unfold Program.goesFrom
  match P.funcNamed s with
  |none=>rfl
  |some f=>exact h f
 have h2:(P.inits.toList.any P.goes)=false:=by
  rw[List.any_eq_false];intro f _;rw[h f];exact Bool.false_ne_true
 unfold OpenClaim.goesBy Program.goesAt;rw[h1,Bool.false_or,h2];cases c.start<;>rfl
theorem ay8:false=Rows.dependOrdersRow.goesBy Tryz.prog:=aq7 Rows.dependOrdersRow Tryz.prog aR0
theorem aR9:Rows.dependOrdersRow.wfByText (OpenSpec.ofChange Rows.dependOrdersSpec)=true:=by kernel_rfl
theorem ay7:Tryz.prog.mainIs=some (true, "ea10ec4014e47d38e6a852d628627330223758ba376a716595f965e2f9796315".toList):=by kernel_rfl
theorem au4:false=Tryz.prog.looks []:=by kernel_rfl
theorem au3:([25,59].all fun u=> !Tryz.prog.wantsStandIn u)=true:=by kernel_rfl
end Go.Proofs.YthicpeihkkokmaaGreatDoor
