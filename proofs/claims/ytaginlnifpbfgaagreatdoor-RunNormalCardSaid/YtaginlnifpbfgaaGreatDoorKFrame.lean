/-
  PROVED: for every input RunNormal returns true, and its arguments read afterwards as before; the package-level tables lie as the program's text lays them (the card ties them).
-/
import Derived.Test.YtaginlnifpbfgaaGreatDoorKLaw
import Derived.Test.YtaginlnifpbfgaaGreatDoorKFacts1
import Derived.Test.YtaginlnifpbfgaaGreatDoorKFacts2
import Derived.Test.YtaginlnifpbfgaaGreatDoorTie
import Derived.Test.YtaginlnifpbfgaaGreatDoorCards
import Derived.ProofKit
import Derived.OpenShut
import Derived.LaidMore
import Derived.Lay
import Derived.SevenTiedAt
import Derived.Stop.Joined
import Derived.ChangeOld
import Derived.Below
import Derived.Deep.Slices
import Derived.Deep.Strs
import Derived.SizedLaws
set_option linter.unusedVariables false
set_option linter.unusedSimpArgs false
set_option maxHeartbeats 4000000
set_option maxRecDepth 100000
namespace Go.Proofs.YtaginlnifpbfgaaGreatDoor
open Go.ChangeShapes Go.WideShapes Go.ChangeAt Go.RowKit Go.Ex Go.Fl
theorem own:ownKnob Tryz.prog.godebug=none:=by kernel_rfl
theorem WS:laidOutB Tryz.prog=true:=by kernel_rfl
theorem bd4:wD Tryz.prog 12 25=true:=by kernel_rfl
theorem bm7:wD Tryz.prog 12 5=true:=by kernel_rfl
theorem lifted(os:Os)(OZ:os.Started)(H:Type)(enc:xN×xM→H):
 ReturnsInHanded {} Tryz.checked os 3 .any (fun w args=>(Rows.runNormalSpec.pre enc Tryz.prog Tryz.f3 [] false w args∧laidMetH Tryz.prog K.pz w)∧sizedMet enc Tryz.prog Tryz.f3 (OpenSpec.ofChange Rows.runNormalSpec) false w args)
  (Rows.runNormalSpec.post enc Tryz.prog Tryz.f3 false true false false):=by
 refine returnsInHanded_of_change_and (C:=Tryz.checked) (X:=fun w _=>laidMetH Tryz.prog K.pz w) (fun _ _ _ hh h=>h.of_heap hh) own OZ (by kernel_rfl) Tryz.func3
  (ChangeSpec.witness_shaped (enc:=enc) (C:=Tryz.checked) (os:=os) (X:=fun w _=>laidMetH Tryz.prog K.pz w) false (World.laidAll Tryz.prog os K.pz) #[.agg #[.int .u8 0,.slice none 0 0,.slice none 0 0],.int .u8 0] 8 (World.laidAll_os _ _ _)
   (World.shaped_of_ZipB (by kernel_rfl) (by kernel_rfl)) (by kernel_rfl) (by kernel_rfl) (by kernel_rfl)
   (by rw[MakeChecks.laidMetH_plain _ _ _ (by kernel_rfl)];exact laidMet_laidAll _ (by kernel_rfl) (by kernel_rfl))) ?_
 intro W nY args ds gs dh8 ZO hW av3 _ hL _;have hval:∀(j:Nat) t v,Tryz.f3.params[j]? =some t→args[j]? =some v→Value.okWide Tryz.prog W .any nY t v:=ZO;have hW':=hW;obtain⟨p,q,hA0,hV,rfl,jz,c6⟩:=hW;have hA:DataW.TrodAll enc Tryz.prog W 0 (fun _=>true) true Tryz.f3.params.toList args.toList ds p:=hA0;rw[Tryz.params3] at hA hval;obtain⟨v0,vs0,d0,ds0,p0,q0,iR,rfl,rfl,h0,r0⟩:=trodAll_cons hA;obtain⟨v1,vs1,d1,ds1,p1,q1,XG,rfl,rfl,h1,r1⟩:=trodAll_cons r0;obtain⟨rfl,rfl,rfl⟩:=trodAll_nil r1;obtain rfl:args= #[v0,v1]:=by cases args;simp_all
 obtain⟨rfl,rfl⟩:=trodVars_none hV;have k0:=h0;have k1:=h1;have lt0:∀x∈p0,x.block<W.heap.size:=by obtain⟨m,hm⟩:=k0;exact DataW.trod_lt m _ _ _ hm
 have lt1:∀x∈p1,x.block<W.heap.size:=by obtain⟨m,hm⟩:=k1;exact DataW.trod_lt m _ _ _ hm
 obtain⟨cs0,rfl,_⟩:=okWide_struct Tryz.underlying25 (hval 0 25 v0 rfl rfl);obtain⟨n1,rfl⟩:∃n,v1= .int .u8 n:=okWide_int Tryz.underlying5 (hval 1 5 v1 rfl rfl);obtain⟨x,hx⟩:∃x:vF,ue W x.d cs0.toList:=by
  obtain⟨m,hm⟩:=h0;obtain⟨ds,t1,t2⟩:=UB 12 25 m _ _ bd4 hm;obtain⟨x,rfl⟩:=bB9 t1;exact⟨x,t2⟩
 obtain⟨b,hb⟩:∃b:UInt8,Value.int .u8 n1= .int .u8 (b.toNat:Nat):=by
  obtain⟨m,hm⟩:=h1;obtain⟨ds,t1,t2⟩:=UB 12 5 m _ _ bm7 hm;obtain⟨b,rfl⟩:=E8 t1;have:=t2.2.2 0 _ _ rfl rfl;cases this;exact⟨b,rfl⟩
 clear hA0 ZO;have hG:=K.bR0 hL;refine(aW9 (w:=W) hG.2 hG.1 x b hx hb).mono fun e W' ⟨he,Ur⟩=> ?_
 subst he;exact⟨_,rfl,_,_,_,[],_,[],hW',trodAll_mk1 (shut_bool Tryz.underlying4 _),(trodAll_cons_mk (Below.trod WS (by kernel_rfl) (of_decide_eq_true (by kernel_rfl)) k0 Ur lt0) (trodAll_cons_mk (Below.trod WS (by kernel_rfl) (of_decide_eq_true (by kernel_rfl)) k1 Ur lt1) trodAll_mk0)),rfl,Ur.frame _,fun h=>by cases h⟩
theorem cw7:Rows.RunNormalSaid:=
 OpenClaim.holds_of_wide 3 Tryz.f3 rfl rfl rfl rfl rfl rfl rfl ⟨rfl,rfl,rfl,rfl,rfl⟩ rfl rfl rfl rfl rfl (by kernel_rfl) Tryz.func3 UX
  (of_decide_eq_true (by kernel_rfl)) (by unfold Func.isWrapper;first|(rw[if_pos (by decide+kernel)];kernel_rfl)|(rw[if_neg (by decide+kernel)];exact⟨rfl,rfl⟩))
  (fun os OZ H enc _=>lifted os OZ H enc)
theorem proved:Rows.RunNormalCardSaid:=
 Claim7.holds_tied_plain_at .later [] [.data,.data,.data,.data,.data,.data,.data,.data,.data] true (true, "fcfa3cdc244bf9c8dcc242b384aeb638cf77c05a72bbb0c420780a2620afcb48") false
  cw7 (fun _ h=>by cases h) bg4 (fun _ h=>by cases h) runNormal_row_tie rfl ⟨rfl,rfl⟩ aQ6 rfl
  (fun f fn hf pb=>by
   obtain rfl:f=3:=xC ((show Tryz.prog.funcNamed "rootcause/rootcauselaw17.RunNormal"=some 3 by kernel_rfl).symm.trans hf)|>.symm
   obtain rfl:fn=Tryz.f3:=(xC (Tryz.func3.symm.trans pb)).symm;exact⟨aM1,fun j t ht=>by
    rw[Tryz.params3] at ht;have hm:t∈[25,5]:=by simpa using Array.mem_of_getElem? ht
    exact(show Tryz.prog.wantsStandIn t=false by simpa using List.all_eq_true.1 aM0 t hm)⟩)
  aQ7
#print axioms proved
end Go.Proofs.YtaginlnifpbfgaaGreatDoor
