/-
  PROVED: for every input DependEdges returns true, and its arguments read afterwards as before; the package-level tables lie as the program's text lays them (the card ties them).
-/
import Derived.Test.YthicpeihkkokmaaGreatDoorKLaw
import Derived.Test.YthicpeihkkokmaaGreatDoorKFacts1
import Derived.Test.YthicpeihkkokmaaGreatDoorKFacts2
import Derived.Test.YthicpeihkkokmaaGreatDoorTie
import Derived.Test.YthicpeihkkokmaaGreatDoorCards
import Derived.ProofKit
import Derived.OpenShut
import Derived.LaidMore
import Derived.Lay
import Derived.SevenTiedAt
import Derived.Stop.Joined
import Derived.ChangeOld
import Derived.Below
import Derived.Deep.Slices
import Derived.Deep.Strs
import Derived.SizedLaws
set_option linter.unusedVariables false
set_option linter.unusedSimpArgs false
set_option maxHeartbeats 4000000
set_option maxRecDepth 100000
namespace Go.Proofs.YthicpeihkkokmaaGreatDoor
open Go.ChangeShapes Go.WideShapes Go.ChangeAt Go.RowKit Go.Ex Go.Fl
theorem own:ownKnob Tryz.prog.godebug=none:=by kernel_rfl
theorem Xp:laidOutB Tryz.prog=true:=by kernel_rfl
theorem aN7:vh Tryz.prog 12 25=true:=by kernel_rfl
theorem lifted(os:Os)(Oo:os.Started)(H:Type)(enc:xN×xM->H):
 ReturnsInHanded {} Tryz.checked os 4 .any (fun w args=>(Rows.dependEdgesSpec.pre enc Tryz.prog Tryz.f4 [] false w args/\laidMetH Tryz.prog oV w)/\sizedMet enc Tryz.prog Tryz.f4 (OpenSpec.ofChange Rows.dependEdgesSpec) false w args)
  (Rows.dependEdgesSpec.post enc Tryz.prog Tryz.f4 false true false false):=by
 refine returnsInHanded_of_change_and (C:=Tryz.checked) (X:=fun w _=>laidMetH Tryz.prog oV w) (fun _ _ _ hh h=>h.of_heap hh) own Oo (by kernel_rfl) Tryz.func4
  (ChangeSpec.witness_shaped (enc:=enc) (C:=Tryz.checked) (os:=os) (X:=fun w _=>laidMetH Tryz.prog oV w) false (World.laidAll Tryz.prog os oV) #[.agg #[.int .u8 0,.slice none 0 0,.slice none 0 0]] 8 (World.laidAll_os _ _ _)
   (World.shaped_of_ZipB (by kernel_rfl) (by kernel_rfl)) (by kernel_rfl) (by kernel_rfl) (by kernel_rfl)
   (by rw[MakeChecks.laidMetH_plain _ _ _ (by kernel_rfl)];exact laidMet_laidAll _ (by kernel_rfl) (by kernel_rfl))) ?_
 intro W pO args ds gs bU5 Zo hW cq4 _ hL _;have hval:∀(j:Nat) t v,Tryz.f4.params[j]? =some t->args[j]? =some v->Value.okWide Tryz.prog W .any pO t v:=Zo;have hW':=hW;obtain⟨p,q,hA0,hV,rfl,nj,dw⟩:=hW;have hA:DataW.TrodAll enc Tryz.prog W 0 (fun _=>true) true Tryz.f4.params.toList args.toList ds p:=hA0;rw[Tryz.params4] at hA hval;obtain⟨v0,ul,d0,wM,p0,q0,pI,rfl,rfl,h0,r0⟩:=trodAll_cons hA;obtain⟨rfl,rfl,rfl⟩:=trodAll_nil r0;obtain rfl:args= #[v0]:=by cases args;simp_all
 obtain⟨rfl,rfl⟩:=trodVars_none hV;have k0:=h0;have lt0:∀x∈p0,x.block<W.heap.size:=by obtain⟨m,hm⟩:=k0;exact DataW.trod_lt m _ _ _ hm
 obtain⟨cs0,rfl,_⟩:=okWide_struct Tryz.underlying25 (hval 0 25 v0 rfl rfl);obtain⟨x,hx⟩:∃x:ui,qn W x.d cs0.toList:=by
  obtain⟨m,hm⟩:=h0;obtain⟨ds,t1,t2⟩:=Uy 12 25 m _ _ aN7 hm;obtain⟨x,rfl⟩:=bg3 t1;exact⟨x,t2⟩
 clear hA0 Zo;refine(aF9 (w:=W) (bl5 hL) (bl4 hL) x hx).mono fun e W' ⟨he,bel⟩=> ?_
 subst he;exact⟨_,rfl,_,_,_,[],_,[],hW',trodAll_mk1 (shut_bool Tryz.underlying4 _),(trodAll_cons_mk (Below.trod Xp (by kernel_rfl) (of_decide_eq_true (by kernel_rfl)) k0 bel lt0) trodAll_mk0),rfl,bel.frame _,fun h=>by cases h⟩
theorem bu9:Rows.DependEdgesSaid:=
 OpenClaim.holds_of_wide 4 Tryz.f4 rfl rfl rfl rfl rfl rfl rfl ⟨rfl,rfl,rfl,rfl,rfl⟩ rfl rfl rfl rfl rfl (by kernel_rfl) Tryz.func4 UU
  (of_decide_eq_true (by kernel_rfl)) (by unfold Func.isWrapper;first|(rw[i_ (by decide+kernel)];kernel_rfl)|(rw[j_ (by decide+kernel)];exact⟨rfl,rfl⟩))
  (fun os Oo H enc _=>lifted os Oo H enc)
theorem proved:Rows.DependEdgesCardSaid:=
 Claim7.holds_tied_plain_at .later [] [.data,.data,.data,.data,.data,.data,.data,.data,.data] true (true, "ea10ec4014e47d38e6a852d628627330223758ba376a716595f965e2f9796315") false
  bu9 (fun _ h=>by cases h) aR9 (fun _ h=>by cases h) dependEdges_row_tie rfl ⟨rfl,rfl⟩ ay7 rfl
  (fun f fn hf qK=>by
   obtain rfl:f=4:=xC ((show Tryz.prog.funcNamed "rootcause/rootcauselaw39.DependEdges"=some 4 by kernel_rfl).symm.trans hf)|>.symm
   obtain rfl:fn=Tryz.f4:=(xC (Tryz.func4.symm.trans qK)).symm;exact⟨au4,fun j t ht=>by
    rw[Tryz.params4] at ht;have hm:t∈[25]:=by simpa using Array.mem_of_getElem? ht
    exact(show Tryz.prog.wantsStandIn t=false by simpa using List.all_eq_true.1 au3 t hm)⟩)
  ay8
#print axioms proved
end Go.Proofs.YthicpeihkkokmaaGreatDoor
