/-
  PROVED: for every input DependSources returns true, and its arguments read afterwards as before; the package-level tables lie as the program's text lays them (the card ties them).
-/
import Derived.Test.YthicpeihkkokmaaGreatDoorKLaw
import Derived.Test.YthicpeihkkokmaaGreatDoorKFacts1
import Derived.Test.YthicpeihkkokmaaGreatDoorKFacts2
import Derived.Test.YthicpeihkkokmaaGreatDoorTie
import Derived.Test.YthicpeihkkokmaaGreatDoorCards
import Derived.ProofKit
import Derived.OpenShut
import Derived.LaidMore
import Derived.Lay
import Derived.SevenTiedAt
import Derived.Stop.Joined
import Derived.ChangeOld
import Derived.Below
import Derived.Deep.Slices
import Derived.Deep.Strs
import Derived.SizedLaws
set_option linter.unusedVariables false
set_option linter.unusedSimpArgs false
set_option maxHeartbeats 4000000
set_option maxRecDepth 100000
namespace Go.Proofs.YthicpeihkkokmaaGreatDoor
open Go.ChangeShapes Go.WideShapes Go.ChangeAt Go.RowKit Go.Ex Go.Fl
theorem own:ownKnob Tryz.prog.godebug=none:=by kernel_rfl
theorem aY9:laidOutB Tryz.prog=true:=by kernel_rfl
theorem aW7:yW Tryz.prog 12 25=true:=by kernel_rfl
theorem TN:yW Tryz.prog 12 61=true:=by kernel_rfl
theorem lifted(os:Os)(Pw:os.Started)(H:Type)(enc:xN×xM->H):
 ReturnsInHanded {} Tryz.checked os 7 .any (fun w args=>(Rows.dependSourcesSpec.pre enc Tryz.prog Tryz.f7 [] false w args/\laidMetH Tryz.prog pq w)/\sizedMet enc Tryz.prog Tryz.f7 (OpenSpec.ofChange Rows.dependSourcesSpec) false w args)
  (Rows.dependSourcesSpec.post enc Tryz.prog Tryz.f7 false true false false):=by
 refine returnsInHanded_of_change_and (C:=Tryz.checked) (X:=fun w _=>laidMetH Tryz.prog pq w) (fun _ _ _ hh h=>h.of_heap hh) own Pw (by kernel_rfl) Tryz.func7
  (ChangeSpec.witness_shaped (enc:=enc) (C:=Tryz.checked) (os:=os) (X:=fun w _=>laidMetH Tryz.prog pq w) false (World.laidAll Tryz.prog os pq) #[.agg #[.int .u8 0,.slice none 0 0,.slice none 0 0],.slice none 0 0] 8 (World.laidAll_os _ _ _)
   (World.shaped_of_ZipB (by kernel_rfl) (by kernel_rfl)) (by kernel_rfl) (by kernel_rfl) (by kernel_rfl)
   (by rw[MakeChecks.laidMetH_plain _ _ _ (by kernel_rfl)];exact laidMet_laidAll _ (by kernel_rfl) (by kernel_rfl))) ?_
 intro W n9 args ds gs cb5 ab7 hW cx6 _ hL _;have hval:∀(j:Nat) t v,Tryz.f7.params[j]? =some t->args[j]? =some v->Value.okWide Tryz.prog W .any n9 t v:=ab7;have hW':=hW;obtain⟨p,q,hA0,hV,rfl,lT,dj⟩:=hW;have hA:DataW.TrodAll enc Tryz.prog W 0 (fun _=>true) true Tryz.f7.params.toList args.toList ds p:=hA0;rw[Tryz.params7] at hA hval;obtain⟨v0,vf,d0,yn,p0,q0,oM,rfl,rfl,h0,r0⟩:=trodAll_cons hA;obtain⟨v1,vs1,d1,ds1,p1,q1,bk3,rfl,rfl,h1,r1⟩:=trodAll_cons r0;obtain⟨rfl,rfl,rfl⟩:=trodAll_nil r1;obtain rfl:args= #[v0,v1]:=by cases args;simp_all
 obtain⟨rfl,rfl⟩:=trodVars_none hV;have k0:=h0;have k1:=h1;have lt1:∀x∈p1,x.block<W.heap.size:=by obtain⟨m,hm⟩:=k1;exact DataW.trod_lt m _ _ _ hm
 have lt0:∀x∈p0,x.block<W.heap.size:=by obtain⟨m,hm⟩:=k0;exact DataW.trod_lt m _ _ _ hm
 obtain⟨cs0,rfl,_⟩:=okWide_struct Tryz.underlying25 (hval 0 25 v0 rfl rfl);obtain⟨x,hx⟩:∃x:vc,tu W x.d cs0.toList:=by
  obtain⟨m,hm⟩:=h0;obtain⟨ds,t1,t2⟩:=av3 12 25 m _ _ aW7 hm;obtain⟨x,rfl⟩:=bq1 t1;exact⟨x,t2⟩
 obtain⟨a1,n1,c1,rfl⟩:=okWide_slice Tryz.underlying61 (hval 1 61 v1 rfl rfl);obtain⟨y,hy⟩:∃y:List RC,tu W [.sl (gj y)] [.slice a1 n1 c1]:=by
  obtain⟨m,hm⟩:=h1;obtain⟨ds,t1,t2⟩:=av3 12 61 m _ _ TN hm;obtain⟨y,rfl⟩:=Sa t1;exact⟨y,t2⟩
 clear hA0 ab7;refine(aO6 (w:=W) (bu0 hL) (bt9 hL) x y hx hy).mono fun e W' ⟨he,Me⟩=> ?_
 subst he;exact⟨_,rfl,_,_,_,[],_,[],hW',trodAll_mk1 (shut_bool Tryz.underlying4 _),(trodAll_cons_mk (Below.trod aY9 (by kernel_rfl) (of_decide_eq_true (by kernel_rfl)) k0 Me lt0) (trodAll_cons_mk (Below.trod aY9 (by kernel_rfl) (of_decide_eq_true (by kernel_rfl)) k1 Me lt1) trodAll_mk0)),rfl,Me.frame _,fun h=>by cases h⟩
theorem bB7:Rows.DependSourcesSaid:=
 OpenClaim.holds_of_wide 7 Tryz.f7 rfl rfl rfl rfl rfl rfl rfl ⟨rfl,rfl,rfl,rfl,rfl⟩ rfl rfl rfl rfl rfl (by kernel_rfl) Tryz.func7 V4
  (of_decide_eq_true (by kernel_rfl)) (by unfold Func.isWrapper;first|(rw[i_ (by decide+kernel)];kernel_rfl)|(rw[j_ (by decide+kernel)];exact⟨rfl,rfl⟩))
  (fun os Pw H enc _=>lifted os Pw H enc)
theorem proved:Rows.DependSourcesCardSaid:=
 Claim7.holds_tied_plain_at .later [] [.data,.data,.data,.data,.data,.data,.data,.data,.data] true (true, "ea10ec4014e47d38e6a852d628627330223758ba376a716595f965e2f9796315") false
  bB7 (fun _ h=>by cases h) bb1 (fun _ h=>by cases h) dependSources_row_tie rfl ⟨rfl,rfl⟩ aG9 rfl
  (fun f fn hf pT=>by
   obtain rfl:f=7:=xC ((show Tryz.prog.funcNamed "rootcause/rootcauselaw39.DependSources"=some 7 by kernel_rfl).symm.trans hf)|>.symm
   obtain rfl:fn=Tryz.f7:=(xC (Tryz.func7.symm.trans pT)).symm;exact⟨aC1,fun j t ht=>by
    rw[Tryz.params7] at ht;have hm:t∈[25,61]:=by simpa using Array.mem_of_getElem? ht
    exact(show Tryz.prog.wantsStandIn t=false by simpa using List.all_eq_true.1 aC0 t hm)⟩)
  aH0
#print axioms proved
end Go.Proofs.YthicpeihkkokmaaGreatDoor
