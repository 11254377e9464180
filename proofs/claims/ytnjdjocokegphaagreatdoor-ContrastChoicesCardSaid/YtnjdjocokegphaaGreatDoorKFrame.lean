/-
  PROVED: for every input ContrastChoices returns true, and its arguments read afterwards as before; the package-level tables lie as the program's text lays them (the card ties them).
-/
import Derived.Test.YtnjdjocokegphaaGreatDoorKLaw
import Derived.Deep.Slices
import Derived.Deep.Strs
import Derived.SizedLaws
import Derived.Test.YtnjdjocokegphaaGreatDoorKFacts1
import Derived.Test.YtnjdjocokegphaaGreatDoorKFacts2
import Derived.Test.YtnjdjocokegphaaGreatDoorTie
import Derived.Test.YtnjdjocokegphaaGreatDoorCards
import Derived.ProofKit
import Derived.OpenShut
import Derived.LaidMore
import Derived.Lay
import Derived.SevenTiedAt
import Derived.Stop.Joined
import Derived.ChangeOld
import Derived.Below
import Derived.Clock
set_option linter.unusedVariables false
set_option linter.unusedSimpArgs false
set_option maxHeartbeats 4000000
set_option maxRecDepth 100000
namespace Go.Proofs.YtnjdjocokegphaaGreatDoor
open Go.ChangeShapes Go.WideShapes Go.ChangeAt Go.RowKit Go.Ex Go.Fl Go.Clock
theorem own:ownKnob Tryz.prog.godebug=none:=by kernel_rfl
theorem XU:laidOutB Tryz.prog=true:=by kernel_rfl
theorem XE:yc Tryz.prog 12 29=true:=by kernel_rfl
theorem lifted(os:Os)(Pc:os.Started)(H:Type)(enc:xN×xM→H)(F:Stop.Interp):
 ReturnsInHanded {calm:=true} Tryz.checked os 3 .any (fun w args=>(Rows.contrastChoicesSpec.pre enc Tryz.prog Tryz.f3 [] false w args∧laidMetH Tryz.prog K.qi w)∧sizedMet enc Tryz.prog Tryz.f3 (OpenSpec.ofChange Rows.contrastChoicesSpec) false w args)
  ((OpenSpec.ofChange Rows.contrastChoicesSpec).postWith enc Tryz.prog Tryz.f3 F (outsideKept [.timePasses]) false true false):=by
 refine returns_of_change (C:=Tryz.checked) (X:=fun w _=>laidMetH Tryz.prog K.qi w) (fun _ _ _ hh h=>h.of_heap hh) own Pc (by kernel_rfl) Tryz.func3
  (witness_at (enc:=enc) (C:=Tryz.checked) (os:=os) (X:=fun w _=>laidMetH Tryz.prog K.qi w) (World.laidAll Tryz.prog os K.qi) #[.agg #[.int .u8 0,.slice none 0 0,.slice none 0 0,.slice none 0 0,.slice none 0 0,.int .u8 0],.agg #[.int .u8 0,.slice none 0 0,.slice none 0 0,.slice none 0 0,.slice none 0 0,.int .u8 0]] 8 (World.laidAll_os _ _ _)
   (World.shaped_of_ZipB (by kernel_rfl) (by kernel_rfl)) (by kernel_rfl) (by kernel_rfl) (by kernel_rfl)
   (by rw[MakeChecks.laidMetH_plain _ _ _ (by kernel_rfl)];exact laidMet_laidAll _ (by kernel_rfl) (by kernel_rfl))) ?_
 intro W mG args ds gs dD5 ai6 hW aI5 aU hL _;have hval:∀(j:Nat) t v,Tryz.f3.params[j]? =some t→args[j]? =some v→Value.okWide Tryz.prog W .any mG t v:=ai6;have hW':=hW;obtain⟨p,q,hA0,hV,rfl,kN,cS⟩:=hW;have hA:DataW.TrodAll enc Tryz.prog W 0 (fun _=>true) true Tryz.f3.params.toList args.toList ds p:=hA0;rw[Tryz.params3] at hA hval;obtain⟨v0,vs0,d0,ds0,p0,q0,il,rfl,rfl,h0,r0⟩:=trodAll_cons hA;obtain⟨v1,vs1,d1,ds1,p1,q1,YX,rfl,rfl,h1,r1⟩:=trodAll_cons r0;obtain⟨rfl,rfl,rfl⟩:=trodAll_nil r1;obtain rfl:args= #[v0,v1]:=by cases args;simp_all
 obtain⟨rfl,rfl⟩:=trodVars_none hV;have k0:=h0;have k1:=h1;have lt0:∀x∈p0,x.block<W.heap.size:=by obtain⟨m,hm⟩:=k0;exact DataW.trod_lt m _ _ _ hm
 have lt1:∀x∈p1,x.block<W.heap.size:=by obtain⟨m,hm⟩:=k1;exact DataW.trod_lt m _ _ _ hm
 obtain⟨cs0,rfl,_⟩:=okWide_struct Tryz.underlying29 (hval 0 29 v0 rfl rfl);obtain⟨cs1,rfl,_⟩:=okWide_struct Tryz.underlying29 (hval 1 29 v1 rfl rfl);obtain⟨x,hx⟩:∃x:ve,pB W x.d cs0.toList:=by
  obtain⟨m,hm⟩:=h0;obtain⟨ds,t1,t2⟩:=Vt 12 29 m _ _ XE hm;obtain⟨x,rfl⟩:=Yj t1;exact⟨x,t2⟩
 obtain⟨y,hy⟩:∃x:ve,pB W x.d cs1.toList:=by
  obtain⟨m,hm⟩:=h1;obtain⟨ds,t1,t2⟩:=Vt 12 29 m _ _ XE hm;obtain⟨x,rfl⟩:=Yj t1;exact⟨x,t2⟩
 clear hA0 ai6;have hG:=K.cl6 hL;refine(bj9 (w:=W) hG.2 hG.1 x y hx hy).mono fun e W' ⟨he,dn1⟩=> ?_
 subst he;have since:=Since.of_below dn1;have Vi:=since.2;exact⟨_,rfl,⟨_,_,_,[],_,[],hW',trodAll_mk1 (shut_bool Tryz.underlying4 _),(trodAll_cons_mk (Below.trod XU (by kernel_rfl) (of_decide_eq_true (by kernel_rfl)) k0 Vi lt0) (trodAll_cons_mk (Below.trod XU (by kernel_rfl) (of_decide_eq_true (by kernel_rfl)) k1 Vi lt1) trodAll_mk0)),rfl,Vi.frame _,fun h=>by cases h⟩,since.1⟩
theorem cR0:Rows.ContrastChoicesSaid:=
 holds_of_wide_time 3 Tryz.f3 rfl rfl rfl rfl rfl rfl rfl ⟨rfl,rfl,rfl,rfl,rfl⟩ rfl rfl rfl rfl rfl (by kernel_rfl) Tryz.func3 VN
  (of_decide_eq_true (by kernel_rfl)) (by unfold Func.isWrapper;first|(rw[if_pos (by decide+kernel)];kernel_rfl)|(rw[if_neg (by decide+kernel)];exact⟨rfl,rfl⟩))
  (fun os Pc H enc _ F=>lifted os Pc H enc F)
theorem proved:Rows.ContrastChoicesCardSaid:=
 Claim7.holds_tied_plain_at .later [] [.data,.data,.data,.data,.data,.data,.data,.data] true (true, "44ba96afa0b93bd55a11bfe720209d936f02e47f0377f17fae6d914fd1811caf") false
  cR0 (fun _ h=>by cases h) bu4 (fun _ h=>by cases h) contrastChoices_row_tie rfl ⟨rfl,rfl⟩ bd6 rfl
  (fun f fn hf nP=>by
   obtain rfl:f=3:=xC ((show Tryz.prog.funcNamed "rootcause/rootcauselaw47.ContrastChoices"=some 3 by kernel_rfl).symm.trans hf)|>.symm
   obtain rfl:fn=Tryz.f3:=(xC (Tryz.func3.symm.trans nP)).symm;exact⟨aZ5,fun j t ht=>by
    rw[Tryz.params3] at ht;have hm:t∈[29,29]:=by simpa using Array.mem_of_getElem? ht
    exact(show Tryz.prog.wantsStandIn t=false by simpa using List.all_eq_true.1 aZ4 t hm)⟩)
  bd7
#print axioms proved
end Go.Proofs.YtnjdjocokegphaaGreatDoor
