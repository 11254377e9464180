/-
  PROVED: for every input DependOrders returns true, and its arguments read afterwards as before; the package-level tables lie as the program's text lays them (the card ties them).
-/
import Derived.Test.YthicpeihkkokmaaGreatDoorKLaw
import Derived.Test.YthicpeihkkokmaaGreatDoorKFacts1
import Derived.Test.YthicpeihkkokmaaGreatDoorKFacts2
import Derived.Test.YthicpeihkkokmaaGreatDoorTie
import Derived.Test.YthicpeihkkokmaaGreatDoorCards
import Derived.ProofKit
import Derived.OpenShut
import Derived.LaidMore
import Derived.Lay
import Derived.SevenTiedAt
import Derived.Stop.Joined
import Derived.ChangeOld
import Derived.Below
import Derived.Deep.Slices
import Derived.Deep.Strs
import Derived.SizedLaws
set_option linter.unusedVariables false
set_option linter.unusedSimpArgs false
set_option maxHeartbeats 4000000
set_option maxRecDepth 100000
namespace Go.Proofs.YthicpeihkkokmaaGreatDoor
open Go.ChangeShapes Go.WideShapes Go.ChangeAt Go.RowKit Go.Ex Go.Fl
theorem own:ownKnob Tryz.prog.godebug=none:=by kernel_rfl
theorem Xp:laidOutB Tryz.prog=true:=by kernel_rfl
theorem aN7:vh Tryz.prog 12 25=true:=by kernel_rfl
theorem ya{W:World}{pO:Nat}{v:xM}(h:Value.okWide Tryz.prog W .any pO 59 v):∃x y z:Nat,(x<=255/\y<=255/\z<=255)/\v= .agg #[.int .u8 x,.int .u8 y,.int .u8 z]:=by
 simp only [Value.okWide,Tryz.underlying59] at h;obtain⟨⟨l⟩,rfl,hs,ts,ht,_,hr⟩:=h;obtain rfl:=xC ((show Tryz.prog.cellTypes Tryz.prog.depth 59=some [5,5,5] by kernel_rfl).symm.trans ht);have hs:l.length=3:=hs.trans (by kernel_rfl);have hc:∀(i:Nat) v,l[i]? =some v->∃n:Nat,n<=255/\v= .int .u8 n:=fun i v hi=>by
  obtain⟨u,hu,ho⟩:=hr i v (by simpa using hi);obtain rfl:u=5:=by simpa using xu hu
  have e:Value.okWide Tryz.prog W .any pO 5 v=Cell.okWide Tryz.prog W .any pO 5 v:=by unfold Value.okWide;rw[Tryz.underlying5]
  obtain⟨n,rfl⟩:=okWide_int Tryz.underlying5 (e.mpr ho);have h2:IntKind.u8.has n:=by simpa[Cell.okWide,Cell.ok,Tryz.underlying5] using ho
  have h3:0<=n/\n<=255:=h2;exact⟨n.toNat,MK,by rw[Int.toNat_of_nonneg h3.1]⟩
 match l,hs with
 |[a,b,c],_=>
  obtain⟨x,hx,rfl⟩:=hc 0 a rfl;obtain⟨y,hy,rfl⟩:=hc 1 b rfl;obtain⟨z,hz,rfl⟩:=hc 2 c rfl;exact⟨x,y,z,⟨hx,hy,hz⟩,rfl⟩
theorem lifted(os:Os)(Oo:os.Started)(H:Type)(enc:xN×xM->H):
 ReturnsInHanded {} Tryz.checked os 6 .any (fun w args=>(Rows.dependOrdersSpec.pre enc Tryz.prog Tryz.f6 [] false w args/\laidMetH Tryz.prog oV w)/\sizedMet enc Tryz.prog Tryz.f6 (OpenSpec.ofChange Rows.dependOrdersSpec) false w args)
  (Rows.dependOrdersSpec.post enc Tryz.prog Tryz.f6 false true false false):=by
 refine returnsInHanded_of_change_and (C:=Tryz.checked) (X:=fun w _=>laidMetH Tryz.prog oV w) (fun _ _ _ hh h=>h.of_heap hh) own Oo (by kernel_rfl) Tryz.func6
  (ChangeSpec.witness_shaped (enc:=enc) (C:=Tryz.checked) (os:=os) (X:=fun w _=>laidMetH Tryz.prog oV w) false (World.laidAll Tryz.prog os oV) #[.agg #[.int .u8 0,.slice none 0 0,.slice none 0 0],.agg #[.int .u8 0,.int .u8 0,.int .u8 0]] 8 (World.laidAll_os _ _ _)
   (World.shaped_of_ZipB (by kernel_rfl) (by kernel_rfl)) (by kernel_rfl) (by kernel_rfl) (by kernel_rfl)
   (by rw[MakeChecks.laidMetH_plain _ _ _ (by kernel_rfl)];exact laidMet_laidAll _ (by kernel_rfl) (by kernel_rfl))) ?_
 intro W pO args ds gs bU5 Zo hW cq4 _ hL _;have hval:∀(j:Nat) t v,Tryz.f6.params[j]? =some t->args[j]? =some v->Value.okWide Tryz.prog W .any pO t v:=Zo;have hW':=hW;obtain⟨p,q,hA0,hV,rfl,nj,dw⟩:=hW;have hA:DataW.TrodAll enc Tryz.prog W 0 (fun _=>true) true Tryz.f6.params.toList args.toList ds p:=hA0;rw[Tryz.params6] at hA hval;obtain⟨v0,ul,d0,wM,p0,q0,pI,rfl,rfl,h0,r0⟩:=trodAll_cons hA;obtain⟨v1,vs1,d1,ds1,p1,q1,YF,rfl,rfl,h1,r1⟩:=trodAll_cons r0;obtain⟨rfl,rfl,rfl⟩:=trodAll_nil r1;obtain rfl:args= #[v0,v1]:=by cases args;simp_all
 obtain⟨rfl,rfl⟩:=trodVars_none hV;have k0:=h0;have k1:=h1;have lt1:∀x∈p1,x.block<W.heap.size:=by obtain⟨m,hm⟩:=k1;exact DataW.trod_lt m _ _ _ hm
 have lt0:∀x∈p0,x.block<W.heap.size:=by obtain⟨m,hm⟩:=k0;exact DataW.trod_lt m _ _ _ hm
 obtain⟨cs0,rfl,_⟩:=okWide_struct Tryz.underlying25 (hval 0 25 v0 rfl rfl);obtain⟨x,hx⟩:∃x:ui,qn W x.d cs0.toList:=by
  obtain⟨m,hm⟩:=h0;obtain⟨ds,t1,t2⟩:=Uy 12 25 m _ _ aN7 hm;obtain⟨x,rfl⟩:=bg3 t1;exact⟨x,t2⟩
 obtain⟨x1,y1,z1,hb,rfl⟩:=ya (hval 1 59 v1 rfl rfl);clear hA0 Zo;refine(aF9 (w:=W) (bl5 hL) (bl4 hL) x hb hx).mono fun e W' ⟨he,ei⟩=> ?_
 subst he;exact⟨_,rfl,_,_,_,[],_,[],hW',trodAll_mk1 (shut_bool Tryz.underlying4 _),(trodAll_cons_mk (Below.trod Xp (by kernel_rfl) (of_decide_eq_true (by kernel_rfl)) k0 ei lt0) (trodAll_cons_mk (Below.trod Xp (by kernel_rfl) (of_decide_eq_true (by kernel_rfl)) k1 ei lt1) trodAll_mk0)),rfl,ei.frame _,fun h=>by cases h⟩
theorem bu9:Rows.DependOrdersSaid:=
 OpenClaim.holds_of_wide 6 Tryz.f6 rfl rfl rfl rfl rfl rfl rfl ⟨rfl,rfl,rfl,rfl,rfl⟩ rfl rfl rfl rfl rfl (by kernel_rfl) Tryz.func6 UU
  (of_decide_eq_true (by kernel_rfl)) (by unfold Func.isWrapper;first|(rw[i_ (by decide+kernel)];kernel_rfl)|(rw[j_ (by decide+kernel)];exact⟨rfl,rfl⟩))
  (fun os Oo H enc _=>lifted os Oo H enc)
theorem proved:Rows.DependOrdersCardSaid:=
 Claim7.holds_tied_plain_at .later [] [.data,.data,.data,.data,.data,.data,.data,.data,.data] true (true, "ea10ec4014e47d38e6a852d628627330223758ba376a716595f965e2f9796315") false
  bu9 (fun _ h=>by cases h) aR9 (fun _ h=>by cases h) dependOrders_row_tie rfl ⟨rfl,rfl⟩ ay7 rfl
  (fun f fn hf qK=>by
   obtain rfl:f=6:=xC ((show Tryz.prog.funcNamed "rootcause/rootcauselaw39.DependOrders"=some 6 by kernel_rfl).symm.trans hf)|>.symm
   obtain rfl:fn=Tryz.f6:=(xC (Tryz.func6.symm.trans qK)).symm;exact⟨au4,fun j t ht=>by
    rw[Tryz.params6] at ht;have hm:t∈[25,59]:=by simpa using Array.mem_of_getElem? ht
    exact(show Tryz.prog.wantsStandIn t=false by simpa using List.all_eq_true.1 au3 t hm)⟩)
  ay8
#print axioms proved
end Go.Proofs.YthicpeihkkokmaaGreatDoor
