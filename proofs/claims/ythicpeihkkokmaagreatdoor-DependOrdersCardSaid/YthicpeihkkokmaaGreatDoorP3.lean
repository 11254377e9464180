/- What these functions answer. -/
import Derived.Test.YthicpeihkkokmaaGreatDoorP2
set_option linter.unusedVariables false
set_option linter.unusedSimpArgs false
set_option maxHeartbeats 4000000
set_option maxRecDepth 100000
namespace Go.Fl
open Go.Ex
structure ui where
 flags:UInt8
 links:EH
 parts:List Pt
def ui.d(p:ui):Di:=[bD p.flags.toNat,.sl (bG p.links),.sl (p.parts.map Pt.d)]
structure iV (flags:Nat) (ar:Dw) (i:Nat) (c:Cm):Prop where
 name:c.name=[(97+i).toUInt8]
 rest:∃ints tables al,1<=ints/\ints<=3/\tables<=1/\ar[i]? =some al/\
  c.vars=(List.range ints).map (fun k=>(⟨nm 120 k,1,k⟩:Vr))++(⟨nm 98 0,2,0⟩:Vr)::(List.range tables).map (fun k=>(⟨nm 116 k,3,0⟩:Vr))/\
  1<=c.aS.length/\c.aS.length<=2/\(∃l∈c.aS,l.length=al.length)/\
  ∀l∈c.aS,1<=l.length/\l.length<=al.length/\∀k h,l[k]? =some h->rq ints tables flags i ar al k h
structure gU (ar:Dw) (f:dj):Prop where
 name:f.name=[102,108,101,101,116,49]
 flags:f.flags.length<=2/\∀k x,f.flags[k]? =some x->x.name=nm 102 k
 links:∃ks:List (Nat×Nat),f.links=ks.map (fun p=>(⟨[(97+p.1/ar.length).toUInt8],[(97+p.1%ar.length).toUInt8],p.2⟩:Lk))/\ks.Pairwise (fun p q=>p.1<q.1)/\∀p∈ks,p.1<ar.length*ar.length/\1<=p.2/\p.2<=3
 n:f.comps.length=ar.length/\1<=ar.length/\ar.length<=3
 ji:∀l∈ar,1<=l.length/\l.length<=3/\∀n∈l,n<=2
 comps:∀i c,f.comps[i]? =some c->iV f.flags.length ar i c
end Go.Fl
namespace Go.Proofs.YthicpeihkkokmaaGreatDoor
open Go.Ex Go.RowKit Go.Fl
variable{k n ints tables fl:Nat}{ar:Dw}{al:Es}{dA:List Hn}{ks:List (Nat×Nat)}{L:EH}{C:List Pt}
theorem aW9{a b c:Nat}:aF (.bin .shr c) [.int .u8 (a:Nat),jD b]=some (.int .u8 ((a/2^min b 8:Nat):Int)):=by
 show ofInt (bs (kL (b:Int) 0) none (some (.int .u8 (Int.fdiv a (.ofNat (Nat.pow 2 (Nat.min (Int.toNat (b:Int)) 8)))))))=_;rw[oT,f_ MK];show some (D.int .u8 (Int.fdiv (a:Int) ((2^min b 8:Nat):Int)))=_;rw[<-Int.ofNat_fdiv]
theorem Kp(h:k<n)(hn:n<=3):aF (.uu 1 0 1 false) [jD k,.str [97],.str [98],.str [99]]=some (.str [(97+k).toUInt8]):=GW MK
section
variable{X:Bv}{parts:List Pt}{flags:List Fg}{links:List Lk}{Q:Di->Prop}{comps:List Cm}{i len:Nat}{p:Pt}
def rX(k:Nat):List Vr:=(List.range k).map (fun k=>(⟨nm 120 k,1,k⟩:Vr))
def bV(n k:Nat):List Vr:=rX n++(⟨nm 98 0,2,0⟩:Vr)::(List.range k).map (fun k=>(⟨nm 116 k,3,0⟩:Vr))
theorem WG(k:Nat):(rX k).map Vr.r++[[.str (nm 120 k),iD 1,iD k]]=(rX (k+1)).map Vr.r:=by simp[rX,List.range_succ,Vr.r]
theorem WI(n:Nat):(rX n).map Vr.r++[[.str (nm 98 0),iD 2,iD 0]]=(bV n 0).map Vr.r:=by simp[bV,Vr.r]
theorem WH(n k:Nat):(bV n k).map Vr.r++[[.str (nm 116 k),iD 3,iD 0]]=(bV n (k+1)).map Vr.r:=by simp[bV,List.range_succ,Vr.r]
theorem Va(k:Nat):((rX k).map Vr.r).length=k:=by simp[rX]
theorem Vb(n k:Nat):((bV n k).map Vr.r).length=n+1+k:=by simp[bV,rX];omega
theorem EP(l:List Cd)(k:Nat):(l.map Cd.d).take k=(l.take k).map Cd.d:=by rw[List.map_take]
theorem zu(comps:List Cm)(c:Cm):comps.map Cm.r++[Cm.r c]=(comps++[c]).map Cm.r:=NS
abbrev cD(ar:Dw)(i:Nat)(parts:List Pt)(len:Nat)(Qi:Ca)(nl k:Nat)(flags:List Fg)(links:List Lk)(comps:List Cm)(p:Pt)(vars:List Vr):Di:=
 [.sl (ep ar),jD i,.sl (parts.map Pt.d),jD len,.sl Qi,jD nl,jD k,.sl (flags.map Fg.d),.sl (links.map Lk.d),.sl (comps.map Cm.r),bD p.ints.toNat,bD p.tables.toNat,.sl (p.hs.map Cd.d),.sl (p.second.map Cd.d),.str [(97+i).toUInt8],.sl (vars.map Vr.r)]
abbrev eD(ar:Dw)(parts:List Pt)(len i:Nat)(flags:List Fg)(links:List Lk)(comps:List Cm):Di:=
 [.sl (ep ar),.sl (parts.map Pt.d),jD len,jD i,.sl (flags.map Fg.d),.sl (links.map Lk.d),.sl (comps.map Cm.r)]
theorem IM{α:Type}{l:List α}{a:α}{i:Nat}{R:Nat->α->Prop}(hi:l.length=i)(h:∀i c,l[i]? =some c->R i c)(ha:R i a):∀i c,(l++[a])[i]? =some c->R i c:=by
 intro k c hk;rcases Nat.lt_or_ge k l.length with bm|jv
 ·rw[xw bm] at hk;exact h k c hk
 ·rw[xq jv] at hk;have h0:k - l.length=0:=by
   rcases xI (k - l.length) with h|h
   ·exact h
   ·rw[List.getElem?_eq_none Of] at hk;cases hk
  rw[h0] at hk;cases hk;obtain rfl:k=i:=MK
  exact ha
theorem iV.one{nf i:Nat}(i1:1<=ints)(i3:ints<=3)(t1:tables<=1)(aR:ar[i]? =some al)(eW:∀k h,dA[k]? =some h->rq ints tables nf i ar al k h)(h1:dA.length=al.length)(h2:1<=dA.length):
 iV nf ar i ⟨[(97+i).toUInt8],bV ints tables,[dA]⟩:=
 ⟨rfl,ints,tables,al,i1,i3,t1,aR,rfl,xk 1,by show 1<=2;omega,⟨dA,List.mem_singleton_self _,h1⟩,fun l hl=>by rw[xy] at hl;subst hl;exact⟨h2,Nat.le_of_eq h1,eW⟩⟩
theorem iV.two{nf i:Nat}{cJ:List Hn}(i1:1<=ints)(i3:ints<=3)(t1:tables<=1)(aR:ar[i]? =some al)(eW:∀k h,dA[k]? =some h->rq ints tables nf i ar al k h)(fO:∀k h,cJ[k]? =some h->rq ints tables nf i ar al k h)
 (h1:dA.length<=al.length) (h2:1<=dA.length) (h3:cJ.length<=al.length) (h4:1<=cJ.length) (h5:dA.length=al.length\/cJ.length=al.length):iV nf ar i ⟨[(97+i).toUInt8],bV ints tables,[dA,cJ]⟩:=
 ⟨rfl,ints,tables,al,i1,i3,t1,aR,rfl,by show 1<=2;omega,xk 2,by
  rcases h5 with h|h
  ·exact⟨dA,NS,h⟩
  ·exact⟨cJ,NS,h⟩,fun l hl=>by
  rcases xG.1 hl with rfl|hl
  ·exact⟨h2,h1,eW⟩
  ·rw[xy] at hl;subst hl;exact⟨h4,h3,fO⟩⟩
theorem au{rows:Ca}(h:rows.length=n):aF .sj [.sl rows]=some (jD n):=by rw[<-h];rfl
theorem b9(bK:(flags.map Fg.d).length<=2)(hi:i<(ep ar).length)(gS:(ep ar).length<=3)(oH:comps.length=i)(cP:∀l∈ar,1<=l.length/\l.length<=3/\∀n∈l,n<=2)(aR:ar[i]? =some al)(aE:al.length=min 3 (max 1 (max p.hs.length p.second.length)))
 (H:∀c:Cm,iV (flags.map Fg.d).length ar i c->Rn F X 11 7 (eD ar parts len (i+1) flags links (comps++[c])) Q):
 ∀(f k:Nat),k+f=p.tables.toNat%2->Rn F X 11 9 (cD ar i parts len (ku 116 (p.tables.toNat%2)) (p.tables.toNat%2) k flags links comps p (bV (1+p.ints.toNat%3) k)) Q:=by
 have oD:=Vb (1+p.ints.toNat%3);intro f
 induction f with
 |zero=>
  intro k hk;have wD:(comps.map Cm.r).length=comps.length:=xm _;have hA:(p.hs.map Cd.d).length=p.hs.length:=xm _;have hB:(p.second.map Cd.d).length=p.second.length:=xm _;obtain rfl:k=p.tables.toNat%2:=MK
  have t1:p.tables.toNat%2<=1:=MK
  have i1:1<=1+p.ints.toNat%3:=MK
  have i3:1+p.ints.toNat%3<=3:=MK
  refine wr Y<|wn Y af<|wo Y (ka (b:=3) .u8 MK)<|wo Y oC<|wo Y (bg (a:=1) MK)<|wo Y (ka (b:=2) .u8 MK)<|lR<|wo Y oC<|wo Y bc<|wo Y bc<|wl Y (xT _ 3) rfl<|vZ<|wo Y (mW MK)<|wo Y bc ?_;rw[EP];rcases xI p.hs.length with h0|h0
  ·have e1:(p.hs.take (min (p.hs.map Cd.d).length 3))=[]:=by rw[xE.1 h0];rfl
   rw[e1];refine wg 3 Y<|wx Y (wV (cs:=[⟨1,[]⟩]) (bs:=[]) (params:=0) (left:=0) i1 i3 t1 bK hi gS cP aR (by show 1<=_;omega)) fun|_,⟨dA,params,bs,left,rfl,fM,eW⟩=>⟨Y,?_⟩
   refine kq<|wg 3 Y<|wo Y bc ?_;have l1:dA.length=max 1 (min 3 p.hs.length):=by rw[fM];show 1=_;omega
   rcases xI p.second.length with g0|g0
   ·refine Wp.c8 Y bZ (by rw[hB];omega)<|wg 2 Y<|mv<|wo Y oP<|wo Y oA ?_
    (have:=H ⟨[(97+i).toUInt8],bV (1+p.ints.toNat%3) (p.tables.toNat%2),[dA]⟩ (iV.one i1 i3 t1 aR eW MK MK);unfold eD at this;rw[<-zu] at this;exact b_ Y this)
   ·refine Wp.dt Y bZ (by rw[hB];omega)<|wo Y bc<|mv<|wl Y (xT _ 3) rfl<|wo Y (mW MK)<|wg 1 Y ?_;rw[EP];refine wx Y (wV i1 i3 t1 bK hi gS cP aR (by rw[xz];omega)) fun|_,⟨cJ,Ow,Ub,C7,rfl,aL,fO⟩=>⟨Y,?_⟩
    refine wg 2 Y<|uk<|wo Y (gb rfl rfl NS NS)<|wg 2 Y<|wo Y oP<|wo Y oA ?_;dsimp only [ew,Ex.r,St.r,c_,n_,kK,kJ,kI,kH,kG];refine b_ Y ?_;rw[xz] at aL;have:=H ⟨[(97+i).toUInt8],bV (1+p.ints.toNat%3) (p.tables.toNat%2),[dA,cJ]⟩ (iV.two i1 i3 t1 aR eW fO MK MK MK MK MK);unfold eD at this;rw[<-zu] at this;exact this
  ·refine Wp.c8 Y ay (by rw[xm,xz];omega)<|wg 1 Y<|wx Y (wV (bs:=[]) (params:=0) (left:=0) i1 i3 t1 bK hi gS cP aR (by rw[xz];omega)) fun|_,⟨dA,params,bs,left,rfl,fM,eW⟩=>⟨Y,?_⟩
   refine wg 2 Y<|kq<|wg 1 Y<|wo Y bc ?_;rw[xz] at fM;have l1:dA.length=max 1 (min 3 p.hs.length):=MK
   rcases xI p.second.length with g0|g0
   ·refine Wp.c8 Y bZ (by rw[hB];omega)<|wg 2 Y<|wo Y oP<|mv<|wo Y oA ?_
    (have:=H ⟨[(97+i).toUInt8],bV (1+p.ints.toNat%3) (p.tables.toNat%2),[dA]⟩ (iV.one i1 i3 t1 aR eW MK MK);unfold eD at this;rw[<-zu] at this;exact b_ Y this)
   ·refine Wp.dt Y bZ (by rw[hB];omega)<|wo Y bc<|wl Y (xT _ 3) rfl<|mv<|wo Y (mW MK)<|wg 1 Y ?_;rw[EP];refine wx Y (wV i1 i3 t1 bK hi gS cP aR (by rw[xz];omega)) fun|_,⟨cJ,Ow,Ub,C7,rfl,aL,fO⟩=>⟨Y,?_⟩
    refine wg 2 Y<|wo Y (gb rfl rfl NS NS)<|uk<|wg 2 Y<|wo Y oP<|wo Y oA<|b_ Y ?_;rw[xz] at aL;have:=H ⟨[(97+i).toUInt8],bV (1+p.ints.toNat%3) (p.tables.toNat%2),[dA,cJ]⟩ (iV.two i1 i3 t1 aR eW fO MK MK MK MK MK);unfold eD at this;rw[<-zu] at this;exact this
 |succ f ih=>
  intro k hk;refine wr Y<|wy Y af<|wo Y (ax (nD MK) rfl)<|wg 3 Y<|wo Y (gb rfl rfl (by rw[oD];omega) (by rw[oD];omega))<|lR<|wo Y oA ?_
  (have:=ih (k+1) MK;unfold cD at this;rw[<-WH] at this;exact b_ Y this)
theorem b8(H:Rn F X 11 9 (cD ar i parts len (ku 116 (p.tables.toNat%2)) (p.tables.toNat%2) 0 flags links comps p (bV (1+p.ints.toNat%3) 0)) Q):
 ∀(f k:Nat),k+f=1+p.ints.toNat%3->Rn F X 11 8 (cD ar i parts len (ku 120 (1+p.ints.toNat%3)) (1+p.ints.toNat%3) k flags links comps p (rX k)) Q:=by
 have hx:=Va;intro f
 induction f with
 |zero=>
  intro k hk;obtain rfl:k=1+p.ints.toNat%3:=MK
  have:=H;unfold cD at this;rw[<-WI] at this;exact wr Y<|wn Y af<|wg 2 Y<|wo Y (gb rfl rfl (by rw[hx];omega) (by rw[hx];omega))<|wo Y (ka (b:=2) .u8 MK)<|wo Y oC<|lR<|wl Y (l8 (c:=116) (n:=p.tables.toNat%2) MK MK) rfl<|wo Y (au (xY _ _))<|wj this
 |succ f ih=>
  intro k hk;refine wr Y<|wy Y af<|wo Y (ax (nD MK) rfl)<|wg 3 Y<|wo Y (gb rfl rfl (by rw[hx];omega) (by rw[hx];omega))<|lR<|wo Y oA ?_
  (have:=ih (k+1) MK;unfold cD at this;rw[<-WG] at this;exact b_ Y this)
theorem b6(bK:(flags.map Fg.d).length<=2)(hi:i<(ep ar).length)(gS:(ep ar).length<=3)(oH:comps.length=i)(cP:∀l∈ar,1<=l.length/\l.length<=3/\∀n∈l,n<=2)(aR:ar[i]? =some al)(aE:al.length=min 3 (max 1 (max p.hs.length p.second.length)))
 (H:∀c:Cm,iV (flags.map Fg.d).length ar i c->Rn F X 11 7 (eD ar parts len (i+1) flags links (comps++[c])) Q):
 ∀(f k:Nat),k+f=p.tables.toNat%2->Rn F X 11 6 (cD ar i parts len (ku 116 (p.tables.toNat%2)) (p.tables.toNat%2) k flags links comps p (bV (1+p.ints.toNat%3) k)) Q:=by
 have oD:=Vb (1+p.ints.toNat%3);intro f
 induction f with
 |zero=>
  intro k hk;have wD:(comps.map Cm.r).length=comps.length:=xm _;have hA:(p.hs.map Cd.d).length=p.hs.length:=xm _;have hB:(p.second.map Cd.d).length=p.second.length:=xm _;obtain rfl:k=p.tables.toNat%2:=MK
  have t1:p.tables.toNat%2<=1:=MK
  have i1:1<=1+p.ints.toNat%3:=MK
  have i3:1+p.ints.toNat%3<=3:=MK
  refine wr Y<|wn Y af<|wo Y (ka (b:=3) .u8 MK)<|wo Y oC<|wo Y (bg (a:=1) MK)<|wo Y (ka (b:=2) .u8 MK)<|lR<|wo Y oC<|wo Y bc<|wo Y bc<|wl Y (xT _ 3) rfl<|vZ<|wo Y (mW MK)<|wo Y bc ?_;rw[EP];rcases xI p.hs.length with h0|h0
  ·have e1:(p.hs.take (min (p.hs.map Cd.d).length 3))=[]:=by rw[xE.1 h0];rfl
   rw[e1];refine wg 3 Y<|wx Y (wV (cs:=[⟨1,[]⟩]) (bs:=[]) (params:=0) (left:=0) i1 i3 t1 bK hi gS cP aR (by show 1<=_;omega)) fun|_,⟨dA,params,bs,left,rfl,fM,eW⟩=>⟨Y,?_⟩
   refine kq<|wg 3 Y<|wo Y bc ?_;have l1:dA.length=max 1 (min 3 p.hs.length):=by rw[fM];show 1=_;omega
   rcases xI p.second.length with g0|g0
   ·refine Wp.c8 Y bZ (by rw[hB];omega)<|wg 2 Y<|mv<|wo Y oP<|wo Y oA ?_
    (have:=H ⟨[(97+i).toUInt8],bV (1+p.ints.toNat%3) (p.tables.toNat%2),[dA]⟩ (iV.one i1 i3 t1 aR eW MK MK);unfold eD at this;rw[<-zu] at this;exact b_ Y this)
   ·refine Wp.dt Y bZ (by rw[hB];omega)<|wo Y bc<|mv<|wl Y (xT _ 3) rfl<|wo Y (mW MK)<|wg 1 Y ?_;rw[EP];refine wx Y (wV i1 i3 t1 bK hi gS cP aR (by rw[xz];omega)) fun|_,⟨cJ,Ow,Ub,C7,rfl,aL,fO⟩=>⟨Y,?_⟩
    refine wg 2 Y<|uk<|wo Y (gb rfl rfl NS NS)<|wg 2 Y<|wo Y oP<|wo Y oA ?_;dsimp only [ew,Ex.r,St.r,c_,n_,kK,kJ,kI,kH,kG];refine b_ Y ?_;rw[xz] at aL;have:=H ⟨[(97+i).toUInt8],bV (1+p.ints.toNat%3) (p.tables.toNat%2),[dA,cJ]⟩ (iV.two i1 i3 t1 aR eW fO MK MK MK MK MK);unfold eD at this;rw[<-zu] at this;exact this
  ·refine Wp.c8 Y ay (by rw[xm,xz];omega)<|wg 1 Y<|wx Y (wV (bs:=[]) (params:=0) (left:=0) i1 i3 t1 bK hi gS cP aR (by rw[xz];omega)) fun|_,⟨dA,params,bs,left,rfl,fM,eW⟩=>⟨Y,?_⟩
   refine wg 2 Y<|kq<|wg 1 Y<|wo Y bc ?_;rw[xz] at fM;have l1:dA.length=max 1 (min 3 p.hs.length):=MK
   rcases xI p.second.length with g0|g0
   ·refine Wp.c8 Y bZ (by rw[hB];omega)<|wg 2 Y<|wo Y oP<|mv<|wo Y oA ?_
    (have:=H ⟨[(97+i).toUInt8],bV (1+p.ints.toNat%3) (p.tables.toNat%2),[dA]⟩ (iV.one i1 i3 t1 aR eW MK MK);unfold eD at this;rw[<-zu] at this;exact b_ Y this)
   ·refine Wp.dt Y bZ (by rw[hB];omega)<|wo Y bc<|wl Y (xT _ 3) rfl<|mv<|wo Y (mW MK)<|wg 1 Y ?_;rw[EP];refine wx Y (wV i1 i3 t1 bK hi gS cP aR (by rw[xz];omega)) fun|_,⟨cJ,Ow,Ub,C7,rfl,aL,fO⟩=>⟨Y,?_⟩
    refine wg 2 Y<|wo Y (gb rfl rfl NS NS)<|uk<|wg 2 Y<|wo Y oP<|wo Y oA<|b_ Y ?_;rw[xz] at aL;have:=H ⟨[(97+i).toUInt8],bV (1+p.ints.toNat%3) (p.tables.toNat%2),[dA,cJ]⟩ (iV.two i1 i3 t1 aR eW fO MK MK MK MK MK);unfold eD at this;rw[<-zu] at this;exact this
 |succ f ih=>
  intro k hk;refine wr Y<|wy Y af<|wo Y (ax (nD MK) rfl)<|wg 3 Y<|wo Y (gb rfl rfl (by rw[oD];omega) (by rw[oD];omega))<|lR<|wo Y oA ?_
  (have:=ih (k+1) MK;unfold cD at this;rw[<-WH] at this;exact b_ Y this)
theorem b5(H:Rn F X 11 6 (cD ar i parts len (ku 116 (p.tables.toNat%2)) (p.tables.toNat%2) 0 flags links comps p (bV (1+p.ints.toNat%3) 0)) Q):
 ∀(f k:Nat),k+f=1+p.ints.toNat%3->Rn F X 11 5 (cD ar i parts len (ku 120 (1+p.ints.toNat%3)) (1+p.ints.toNat%3) k flags links comps p (rX k)) Q:=by
 have hx:=Va;intro f
 induction f with
 |zero=>
  intro k hk;obtain rfl:k=1+p.ints.toNat%3:=MK
  have:=H;unfold cD at this;rw[<-WI] at this;exact wr Y<|wn Y af<|wg 2 Y<|wo Y (gb rfl rfl (by rw[hx];omega) (by rw[hx];omega))<|wo Y (ka (b:=2) .u8 MK)<|wo Y oC<|lR<|wl Y (l8 (c:=116) (n:=p.tables.toNat%2) MK MK) rfl<|wo Y (au (xY _ _))<|wj this
 |succ f ih=>
  intro k hk;refine wr Y<|wy Y af<|wo Y (ax (nD MK) rfl)<|wg 3 Y<|wo Y (gb rfl rfl (by rw[hx];omega) (by rw[hx];omega))<|lR<|wo Y oA ?_
  (have:=ih (k+1) MK;unfold cD at this;rw[<-WG] at this;exact b_ Y this)
theorem aT7(bK:(flags.map Fg.d).length<=2)(hn:(parts.map Pt.d).length=(ep ar).length)(gS:(ep ar).length<=3)(oH:comps.length=i)(cP:∀l∈ar,1<=l.length/\l.length<=3/\∀n∈l,n<=2)
 (aR:∀(i:Nat) (p:Pt),parts[i]? =some p->∃al,ar[i]? =some al/\al.length=min 3 (max 1 (max p.hs.length p.second.length))) (hi:i<(parts.map Pt.d).length)
 (H:∀c:Cm,iV (flags.map Fg.d).length ar i c->Rn F X 11 7 (eD ar parts (parts.map Pt.d).length (i+1) flags links (comps++[c])) Q):Rn F X 11 7 (eD ar parts (parts.map Pt.d).length i flags links comps) Q:=by
 obtain⟨p,hp,HG⟩:=AI hi;obtain⟨al,ha,HJ⟩:=aR i p hp;have:=b8 (ar:=ar) (i:=i) (parts:=parts) (len:=(parts.map Pt.d).length) (flags:=flags) (links:=links) (comps:=comps) (p:=p) (Q:=Q) (b9 bK MK gS oH cP ha HJ H (p.tables.toNat%2) 0 MK) (1+p.ints.toNat%3) 0 MK;exact wr Y<|wy Y af<|wo Y (ax HG rfl)<|wg 1 Y<|lS<|wy Y (qj (n:=3))<|wo Y (Kp (n:=3) MK MK)<|wo Y (ka (b:=3) .u8 MK)<|wo Y oC<|wo Y (bg (a:=1) MK)<|oe<|wl Y (l8 (c:=120) (n:=1+p.ints.toNat%3) MK MK) rfl<|wo Y (au (xY _ _))<|wj this
theorem aT8(bK:(flags.map Fg.d).length<=2)(hn:(parts.map Pt.d).length=(ep ar).length)(gS:(ep ar).length<=3)(oH:comps.length=i)(cP:∀l∈ar,1<=l.length/\l.length<=3/\∀n∈l,n<=2)
 (aR:∀(i:Nat) (p:Pt),parts[i]? =some p->∃al,ar[i]? =some al/\al.length=min 3 (max 1 (max p.hs.length p.second.length))) (hi:i<(parts.map Pt.d).length)
 (H:∀c:Cm,iV (flags.map Fg.d).length ar i c->Rn F X 11 7 (eD ar parts (parts.map Pt.d).length (i+1) flags links (comps++[c])) Q):Rn F X 11 4 (eD ar parts (parts.map Pt.d).length i flags links comps) Q:=by
 obtain⟨p,hp,HG⟩:=AI hi;obtain⟨al,ha,HJ⟩:=aR i p hp;have:=b5 (ar:=ar) (i:=i) (parts:=parts) (len:=(parts.map Pt.d).length) (flags:=flags) (links:=links) (comps:=comps) (p:=p) (Q:=Q) (b6 bK MK gS oH cP ha HJ H (p.tables.toNat%2) 0 MK) (1+p.ints.toNat%3) 0 MK;exact wr Y<|wy Y af<|wo Y (ax HG rfl)<|wg 1 Y<|lS<|wy Y (qj (n:=3))<|wo Y (Kp (n:=3) MK MK)<|wo Y (ka (b:=3) .u8 MK)<|wo Y oC<|wo Y (bg (a:=1) MK)<|oe<|wl Y (l8 (c:=120) (n:=1+p.ints.toNat%3) MK MK) rfl<|wo Y (au (xY _ _))<|wj this
def am1(flags:List Fg)(links:List Lk)(ar:Dw)(o:Di):Prop:=∃cs:List Cm,o=[.str [102,108,101,101,116,49],.sl (flags.map Fg.d),.sl (links.map Lk.d),.sl (cs.map Cm.r)]/\cs.length=ar.length/\∀i c,cs[i]? =some c->iV flags.length ar i c
theorem b7(bK:(flags.map Fg.d).length<=2)(hn:(parts.map Pt.d).length=(ep ar).length)(gS:(ep ar).length<=3)(cP:∀l∈ar,1<=l.length/\l.length<=3/\∀n∈l,n<=2)
 (aR:∀(i:Nat) (p:Pt),parts[i]? =some p->∃al,ar[i]? =some al/\al.length=min 3 (max 1 (max p.hs.length p.second.length))):
 ∀(f i:Nat),i+f=(parts.map Pt.d).length->∀(comps:List Cm),comps.length=i->(∀i c,comps[i]? =some c->iV flags.length ar i c)->Rn F X 11 7 (eD ar parts (parts.map Pt.d).length i flags links comps) (am1 flags links ar):=by
 intro f
 induction f with
 |zero=>
  intro i hi comps hc hk;exact wr Y<|wn Y af<|wt Y ⟨comps,rfl,by rw[<-zZ];omega,hk⟩
 |succ f ih=>
  intro i hi comps hc hk;refine aT7 bK hn gS hc cP aR MK (fun c ho=>ih (i+1) MK (comps++[c]) Of (IM hc hk ?_));rw[xm] at ho;exact ho
theorem b4(bK:(flags.map Fg.d).length<=2)(hn:(parts.map Pt.d).length=(ep ar).length)(gS:(ep ar).length<=3)(cq8:1<=(ep ar).length)(cP:∀l∈ar,1<=l.length/\l.length<=3/\∀n∈l,n<=2)
 (aR:∀(i:Nat) (p:Pt),parts[i]? =some p->∃al,ar[i]? =some al/\al.length=min 3 (max 1 (max p.hs.length p.second.length))):Rn F X 11 4 (eD ar parts (parts.map Pt.d).length 0 flags links []) (am1 flags links ar):=
 aT8 bK hn gS rfl cP aR MK (fun c ho=>b7 bK hn gS cP aR ((parts.map Pt.d).length - 1) 1 MK [c] rfl (IM (l:=[]) rfl (fun i c h=>by simp at h) (by rw[xm] at ho;exact ho)))
theorem aK1(ar:Dw)(l:Es):ep ar++[[.sl (li l)]]=ep (ar++[l]):=by simp[ep,li]
def aa5(parts:List Pt)(ar:Dw)(n:Nat):Prop:=ar.length=n/\(∀l∈ar,1<=l.length/\l.length<=3/\∀n∈l,n<=2)/\∀(i:Nat) (p:Pt),i<n->parts[i]? =some p->∃al,ar[i]? =some al/\al.length=min 3 (max 1 (max p.hs.length p.second.length))
theorem b3(bF:parts.length<=3)(H:∀ar,aa5 parts ar parts.length->Rn F X 11 4 (eD ar parts (parts.map Pt.d).length 0 flags links []) Q):∀(f i:Nat),i+f=parts.length->∀ar,aa5 parts ar i->Rn F X 11 3 [.sl (parts.map Pt.d),.sl (ep ar),jD (parts.map Pt.d).length,jD i,.sl (flags.map Fg.d),.sl (links.map Lk.d)] Q:=by
 have jf:(parts.map Pt.d).length=parts.length:=xm _;intro f
 induction f with
 |zero=>
  intro i hi ar ha;obtain rfl:i=parts.length:=MK
  exact wr Y<|wn Y af<|wo Y bc<|wj (H ar ha)
 |succ f ih=>
  intro i hi ar ha;obtain⟨p,hp,HG⟩:=AI (f:=Pt.d) (l:=parts) (i:=i) MK;obtain⟨nw,BM,TG⟩:=ha;refine wr Y<|wy Y af<|wo Y (ax HG rfl)<|wg 1 Y<|dF<|wg 1 Y<|wx Y (aJ9 p) fun|_,⟨al,rfl,aR,fj⟩=>⟨Y,?_⟩
  refine wg 2 Y<|wo Y (gb rfl rfl (by rw[zZ];omega) (by rw[zZ];omega))<|wo Y oA<|dW<|b_ Y ?_;have:=ih (i+1) MK (ar++[al]) ⟨by rw[xa,nw];rfl,fun l h=>by
   rcases xF.1 h with h|h
   ·exact BM l h
   ·rw[xy] at h;subst h;exact⟨MK,MK,fj⟩,fun j q hj hq=>by
   rcases Nat.lt_or_ge j i with bm|jv
   ·obtain⟨MF,h1,h2⟩:=TG j q bm hq;exact⟨MF,by rw[xw MK];exact h1,h2⟩
   ·obtain rfl:j=i:=MK
    rw[hp] at hq;cases hq;exact⟨al,by rw[xq MK,nw,Nat.sub_self];rfl,aR⟩⟩
  rw[<-aK1] at this;exact this
def yZ(n:Nat)(ks:List (Nat×Nat)):List Lk:=ks.map (fun p=>(⟨[(97+p.1/n).toUInt8],[(97+p.1%n).toUInt8],p.2⟩:Lk))
theorem bv4(n k t:Nat)(ks:List (Nat×Nat)):(yZ n ks).map Lk.d++[[.str [(97+k/n).toUInt8],.str [(97+k%n).toUInt8],iD t]]=(yZ n (ks++[(k,t)])).map Lk.d:=by simp[yZ,Lk.d]
def vC(n k:Nat)(ks:List (Nat×Nat)):Prop:=ks.length<=k/\ks.Pairwise (fun p q=>p.1<q.1)/\∀p∈ks,p.1<k/\p.1<n*n/\1<=p.2/\p.2<=3
theorem vC.mono(h:vC n k ks):vC n (k+1) ks:=⟨by have:=h.1;omega,h.2.1,fun p hp=>by have:=h.2.2 p hp;exact⟨MK,this.2⟩⟩
theorem vC.snoc{t:Nat}(h:vC n k ks)(hk:k<n*n)(h1:1<=t)(h3:t<=3):vC n (k+1) (ks++[(k,t)]):=
 ⟨by have:=h.1;rw[xa];show ks.length+1<=_;omega,List.pairwise_append.2 ⟨h.2.1,List.pairwise_singleton _ _,fun a ha b hb=>by rw[xy] at hb;subst hb;exact(h.2.2 a ha).1⟩,fun p hp=>by
  rcases xF.1 hp with hp|hp
  ·have:=h.2.2 p hp;exact⟨MK,this.2⟩
  ·rw[xy] at hp;subst hp;exact⟨by show k<k+1;omega,hk,h1,h3⟩⟩
theorem aJ2(h:k<(bG L).length):∃b:UInt8,(bG L)[k]? =some [bD b.toNat]:=(AI h).imp fun _ h=>h.2
theorem b2(oB:1<=n)(ww:n<=3)(hn:(parts.map Pt.d).length=n)
 (H:∀ks,vC n (n*n) ks->Rn F X 11 3 [.sl (parts.map Pt.d),.sl (ep []),jD (parts.map Pt.d).length,jD 0,.sl (flags.map Fg.d),.sl ((yZ n ks).map Lk.d)] Q):
 ∀(f k:Nat),k+f=n*n->∀ks,vC n k ks->Rn F X 11 2 [jD n,.sl (parts.map Pt.d),jD k,bD fl,.sl (bG L),.sl (C.map Pt.d),.sl (flags.map Fg.d),.sl ((yZ n ks).map Lk.d)] Q:=by
 have hn9:n*n<=9:=Nat.mul_le_mul ww ww;have HI:∀ks,((yZ n ks).map Lk.d).length=ks.length:=fun ks=>by simp[yZ]
 intro f
 induction f with
 |zero=>
  intro k hk ks dS;obtain rfl:k=n*n:=MK
  refine wr Y<|wo Y bc<|d_ Y af ?_ ?_<;>intro h
  ·exact wo Y (rT MK)<|wn Y af<|wo Y bc<|wj (H ks dS)
  ·exact wo Y bc<|wj (H ks dS)
 |succ f ih=>
  intro k hk ks dS;have hd:k/n<n:=Nat.div_lt_of_lt_mul MK;have hm:k%n<n:=Nat.mod_lt _ oB;have Eo:=dS.1;have up:vC n (n*n) ks:=⟨MK,dS.2.1,fun p hp=>by have:=dS.2.2 p hp;exact⟨MK,this.2⟩⟩;refine wr Y<|wo Y bc<|d_ Y af ?_ ?_<;>intro h
  ·refine wo Y (rT MK)<|wy Y af ?_
   (obtain⟨b,zk⟩:=aJ2 (k:=k) (L:=L) MK;refine e_ Y (ax zk rfl) rfl ?_)
   refine wg 1 Y<|lS<|wo Y (ka (b:=4) .u8 MK)<|d_ Y bZ ?_ ?_<;>intro h
   ·refine wo Y (vj oB MK)<|wy Y (qj (n:=3))<|wo Y (Kp (n:=n) MK MK)<|wo Y (ka (b:=n) .i64 oB)<|oe<|wy Y (qj (n:=3))<|wo Y (Kp (n:=n) MK MK)<|wo Y (ax zk rfl)<|wg 1 Y<|wo Y (ka (b:=4) .u8 MK)<|lR<|wo Y oC<|wg 2 Y<|wo Y (gb rfl rfl (by rw[HI];omega) (by rw[HI];omega))<|wo Y oA<|vZ ?_
    (have:=ih (k+1) MK (ks++[(k,b.toNat%4)]) (dS.snoc MK MK MK);rw[<-bv4] at this;exact b_ Y this)
   ·exact wo Y oA<|b_ Y (ih (k+1) MK ks dS.mono)
  ·exact wo Y bc<|wj (H ks up)
theorem ag6(flags:List Fg)(n:aq)(b:Bool):flags.map Fg.d++[[.str n,.bool b]]=(flags++[(⟨n,b⟩:Fg)]).map Fg.d:=by simp[Fg.d]
theorem b1(BH:fl%3<=2)
 (H:∀flags:List Fg,flags.length=fl%3->(∀k x,flags[k]? =some x->x.name=nm 102 k)->Rn F X 11 2 [jD n,.sl (parts.map Pt.d),jD 0,bD fl,.sl (bG L),.sl (C.map Pt.d),.sl (flags.map Fg.d),.sl []] Q):
 ∀(f k:Nat),k+f=fl%3->∀flags:List Fg,flags.length=k->(∀k x,flags[k]? =some x->x.name=nm 102 k)->Rn F X 11 1 [jD n,.sl (parts.map Pt.d),.sl (ku 102 (fl%3)),jD (fl%3),jD k,bD fl,.sl (bG L),.sl (C.map Pt.d),.sl (flags.map Fg.d)] Q:=by
 intro f
 induction f with
 |zero=>
  intro k hk flags hl hx;exact wr Y<|wn Y af<|b_ Y (H flags MK hx)
 |succ f ih=>
  intro k hk flags hl hx;have Tv:(flags.map Fg.d).length=flags.length:=xm _;refine wr Y<|wy Y af<|wo Y (ax (nD MK) rfl)<|wg 1 Y<|wo Y (bg (a:=4) MK)<|wo Y aW9<|mw<|wo Y (ka (b:=2) .u8 MK)<|d_ Y ay ?_ ?_<;>intro h
  ·refine wg 2 Y<|wo Y oP<|wo Y oA<|gV ?_
   (have:=ih (k+1) MK (flags++[⟨nm 102 k,true⟩]) Of (IM hl hx rfl);rw[<-ag6] at this;exact b_ Y this)
  ·refine wg 2 Y<|wo Y oP<|wo Y oA<|gV ?_
   (have:=ih (k+1) MK (flags++[⟨nm 102 k,false⟩]) Of (IM hl hx rfl);rw[<-ag6] at this;exact b_ Y this)
theorem ptT(l:List Pt)(k:Nat):(l.map Pt.d).take k=(l.take k).map Pt.d:=by rw[List.map_take]
def YW(o:Di):Prop:=∃f ar,o=dj.r f/\gU ar f
theorem U'(oB:1<=n)(ww:n<=3)(hn:parts.length=n):Rn F X 11 1 [jD n,.sl (parts.map Pt.d),.sl (ku 102 (fl%3)),jD (fl%3),jD 0,bD fl,.sl (bG L),.sl (C.map Pt.d),.sl []] YW:=by
 have jf:(parts.map Pt.d).length=parts.length:=xm _;refine b1 MK (fun flags hf hx=> ?_) (fl%3) 0 MK [] rfl (fun k x h=>by simp at h);have Tv:(flags.map Fg.d).length=flags.length:=xm _;refine b2 oB ww MK (fun ks dS=> ?_) (n*n) 0 MK [] ⟨xL _,.nil,fun p h=>by cases h⟩;refine b3 MK (fun ar ha=> ?_) parts.length 0 MK [] ⟨rfl,fun l h=>(by cases h),fun i p h=>MK⟩;have aR:ar.length=n:=by rw[ha.1,hn]
 refine(b4 MK (by rw[zZ,aR];omega) (by rw[zZ];omega) (by rw[zZ];omega) ha.2.1 (fun i p h=>ha.2.2 i p (xe.1 h).1 h)).mono ?_;rintro _ ⟨cs,rfl,hl,hc⟩;refine⟨⟨[102,108,101,101,116,49],flags,yZ n ks,cs⟩,ar,rfl,rfl,⟨by show flags.length<=2;omega,hx⟩,⟨ks,by rw[aR];rfl,dS.2.1,fun p hp=>by rw[aR];have:=dS.2.2 p hp;exact⟨this.2.1,this.2.2⟩⟩,⟨hl,MK,MK⟩,ha.2.1,hc⟩
theorem Od(p:ui):Rn F X 11 0 p.d YW:=by
 obtain⟨fl,L,C⟩:=p;have hC:(C.map Pt.d).length=C.length:=xm _;refine wr Y<|wo Y bc<|wl Y (xT _ 3) rfl<|wo Y (mW MK)<|d_ Y ay ?_ ?_<;>intro h
 ·exact wo Y (ka (b:=3) .u8 MK)<|w7<|wo Y oC<|wl Y (l8 (c:=102) (n:=fl.toNat%3) MK MK) rfl<|wo Y (au (xY _ _))<|wg 1 Y<|dF<|b_ Y (U' (parts:=[⟨0,0,[],[]⟩]) (n:=1) MK MK rfl)
 ·refine wo Y (ka (b:=3) .u8 MK)<|w7<|wo Y oC<|wl Y (l8 (c:=102) (n:=fl.toNat%3) MK MK) rfl<|wo Y (au (xY _ _)) ?_
  (dsimp only at h;have:=U' (X:=X) (parts:=C.take (min (C.map Pt.d).length 3)) (n:=min (C.map Pt.d).length 3) (L:=L) (fl:=fl.toNat) (C:=C) MK MK (by rw[xz];omega);rw[<-ptT] at this;exact b_ Y this)
end
end Go.Proofs.YthicpeihkkokmaaGreatDoor
namespace Go.Fl
open Go.Ex
variable{k:Nat}
inductive jo (P:Ex->Prop):Ex->Prop
 |mk {op:Nat} {name:aq} {n:Nat} {args:List Ex} (h:P ⟨op,name,n,args⟩) (ha:∀a∈args,jo P a):jo P ⟨op,name,n,args⟩
def GN:L5:=[[102,108,101,101,116,49],nm 102 0,nm 102 1,[97],[98],[99],nm 120 0,nm 120 1,nm 120 2,nm 98 0,nm 116 0,nm 104 0,nm 104 1,nm 104 2,nm 112 0,nm 112 1]
def jr(op:Nat):Nat:=if op=6\/op=7\/op=9\/op=10 then 1 else if 11<=op then 2 else 0
structure gO (e:Ex):Prop where
 op:∃op name n args,e=⟨op,name,n,args⟩/\1<=op/\op<=23/\args.length=jr op/\(op=1/\n<=8\/op≠1/\n=0)/\(5<=op/\op<=8/\name∈GN\/(op<5\/8<op)/\name=[])
theorem gO.of{op:Nat}{name:aq}{n:Nat}{args:List Ex}(h1:1<=op)(h2:op<=23)(h3:args.length=jr op)(h4:op=1/\n<=8\/op≠1/\n=0)(h5:5<=op/\op<=8/\name∈GN\/(op<5\/8<op)/\name=[]):gO ⟨op,name,n,args⟩:=⟨op,name,n,args,rfl,h1,h2,h3,h4,h5⟩
theorem gO.get{op:Nat}{name:aq}{n:Nat}{args:List Ex}(h:gO ⟨op,name,n,args⟩):1<=op/\op<=23/\args.length=jr op/\(op=1/\n<=8\/op≠1/\n=0)/\(5<=op/\op<=8/\name∈GN\/(op<5\/8<op)/\name=[]):=by
 obtain⟨_,_,_,_,e,h⟩:=h;cases e;exact h
theorem Lm(h:k<3):nm 120 k∈GN:=by
 have:k=0\/k=1\/k=2:=MK
 rcases this with rfl|rfl|rfl<;>decide
theorem RM(h:k<3):nm 104 k∈GN:=by
 have:k=0\/k=1\/k=2:=MK
 rcases this with rfl|rfl|rfl<;>decide
theorem Ln(h:k<3):[(97+k).toUInt8]∈GN:=by
 have:k=0\/k=1\/k=2:=MK
 rcases this with rfl|rfl|rfl<;>decide
theorem ag3(h:k<2):nm 102 k∈GN:=by
 have:k=0\/k=1:=MK
 rcases this with rfl|rfl<;>decide
theorem ag2(h:k<2):nm 112 k∈GN:=by
 have:k=0\/k=1:=MK
 rcases this with rfl|rfl<;>decide
theorem DS:nm 116 0∈GN:=Pp
theorem RN:nm 98 0∈GN:=Pp
structure Sc.Ok (c:Sc):Prop where
 i:c.ints<=3
 t:c.tables<=1
 f:c.flags<=2
 p:c.params<=2
theorem fD.all{c:Sc}(hc:c.Ok){d:Nat}{e:Ex}(h:fD c d e):jo gO e:=by
 have h1:=hc.i;have h2:=hc.p
 induction h with
 |num n h=>exact .mk (.of MK MK rfl (.inl ⟨rfl,h⟩) (.inr ⟨MK,rfl⟩)) (fun a h=>by cases h)
 |var k h=>exact .mk (.of MK MK rfl (.inr ⟨MK,rfl⟩) (.inl ⟨MK,MK,Lm MK⟩)) (fun a h=>by cases h)
 |lW k h=>exact .mk (.of MK MK rfl (.inr ⟨MK,rfl⟩) (.inl ⟨MK,MK,ag2 MK⟩)) (fun a h=>by cases h)
 |now=>exact .mk (.of MK MK rfl (.inr ⟨MK,rfl⟩) (.inr ⟨MK,rfl⟩)) (fun a h=>by cases h)
 |get h _ ih=>exact .mk (.of MK MK rfl (.inr ⟨MK,rfl⟩) (.inl ⟨MK,MK,DS⟩)) (fun a h=>by rw[xy] at h;subst h;exact ih)
 |size h=>exact .mk (.of MK MK rfl (.inr ⟨MK,rfl⟩) (.inl ⟨MK,MK,DS⟩)) (fun a h=>by cases h)
 |neg _ ih=>exact .mk (.of MK MK rfl (.inr ⟨MK,rfl⟩) (.inr ⟨MK,rfl⟩)) (fun a h=>by rw[xy] at h;subst h;exact ih)
 |bin op a b _ _ kw dO=>exact .mk (.of MK MK (by unfold jr;rw[j_ MK,i_ MK];rfl) (.inr ⟨MK,rfl⟩) (.inr ⟨MK,rfl⟩)) (fun a h=>by
  rcases xG.1 h with rfl|h
  ·exact kw
  ·rw[xy] at h;subst h;exact dO)
theorem jS.all{c:Sc}(hc:c.Ok){d:Nat}{e:Ex}(h:jS c d e):jo gO e:=by
 have h1:=hc.f
 induction h with
 |lit op a b=>exact .mk (.of MK MK (by unfold jr;rw[j_ MK,j_ MK];rfl) (.inr ⟨MK,rfl⟩) (.inr ⟨MK,rfl⟩)) (fun a h=>by cases h)
 |b0=>exact .mk (.of MK MK rfl (.inr ⟨MK,rfl⟩) (.inl ⟨MK,MK,RN⟩)) (fun a h=>by cases h)
 |flag k h=>exact .mk (.of MK MK rfl (.inr ⟨MK,rfl⟩) (.inl ⟨MK,MK,ag3 MK⟩)) (fun a h=>by cases h)
 |has h he=>exact .mk (.of MK MK rfl (.inr ⟨MK,rfl⟩) (.inl ⟨MK,MK,DS⟩)) (fun a h=>by rw[xy] at h;subst h;exact he.all hc)
 |not _ ih=>exact .mk (.of MK MK rfl (.inr ⟨MK,rfl⟩) (.inr ⟨MK,rfl⟩)) (fun a h=>by rw[xy] at h;subst h;exact ih)
 |B1 op a b _ _ kw dO=>exact .mk (.of MK MK (by unfold jr;rw[j_ MK,i_ MK];rfl) (.inr ⟨MK,rfl⟩) (.inr ⟨MK,rfl⟩)) (fun a h=>by
  rcases xG.1 h with rfl|h
  ·exact kw
  ·rw[xy] at h;subst h;exact dO)
 |cmp op a b ha hb=>exact .mk (.of MK MK (by unfold jr;rw[j_ MK,i_ MK];rfl) (.inr ⟨MK,rfl⟩) (.inr ⟨MK,rfl⟩)) (fun a h=>by
  rcases xG.1 h with rfl|h
  ·exact ha.all hc
  ·rw[xy] at h;subst h;exact hb.all hc)
theorem Gd{α β:Type}(f:α->β)(V:List α)(a:α)(aa:List α):((V++a::aa).map f)[V.length]? =some (f a):=by
 rw[List.map_append,xq NS];simp
end Go.Fl
namespace Go.Proofs.YthicpeihkkokmaaGreatDoor
open Go.Ex Go.RowKit Go.Fl
section
variable{X:Bv}
theorem Yb:∀(l:List Fl.Ex),Ex.rs l=l.map Ex.r
 |[]=>rfl
 |e::l=>by show Ex.r e::Ex.rs l=_;rw[Yb l];rfl
theorem CJ:∀(l:List Fl.Ex),Ex.ss l=l.map Ex.s
 |[]=>rfl
 |e::l=>by show Ex.s e::Ex.ss l=_;rw[CJ l];rfl
theorem WR:∀(l:JH),St.rs l=l.map St.r
 |[]=>rfl
 |e::l=>by show St.r e::St.rs l=_;rw[WR l];rfl
theorem Fu:∀(l:JH),St.ss l=l.map St.s
 |[]=>rfl
 |e::l=>by show St.s e::St.ss l=_;rw[Fu l];rfl
theorem JE(V:List Fl.Ex)(a:Fl.Ex)(aa:List Fl.Ex):(Ex.rs (V++a::aa))[V.length]? =some (Ex.r a):=by rw[Yb];exact Gd _ _ _ _
theorem qe(V:List Fl.Ex)(a:Fl.Ex)(aa:List Fl.Ex):(Ex.ss (V++a::aa))[V.length]? =some (Ex.s a):=by rw[CJ];exact Gd _ _ _ _
theorem I7(V:JH)(a:St)(aa:JH):(St.rs (V++a::aa))[V.length]? =some (St.r a):=by rw[WR];exact Gd _ _ _ _
theorem uY(V:JH)(a:St)(aa:JH):(St.ss (V++a::aa))[V.length]? =some (St.s a):=by rw[Fu];exact Gd _ _ _ _
theorem WO(l:List Fl.Ex)(e:Fl.Ex):Ex.ss l++[Ex.s e]=Ex.ss (l++[e]):=by simp[CJ]
theorem aC7(l:JH)(e:St):St.ss l++[St.s e]=St.ss (l++[e]):=by simp[Fu]
theorem gf(l:List Fl.Ex):(Ex.ss l).length=l.length:=by simp[CJ]
theorem l9(l:JH):(St.ss l).length=l.length:=by simp[Fu]
theorem bA{α:Type}(V:List α)(a:α)(aa:List α):V++a::aa=(V++[a])++aa:=NS
theorem aS0{e:Fl.Ex}(h:jo gO e):Rn F X 12 0 (Ex.r e) (·=Ex.s e):=by
 induction h with
 | @mk op name n args hn ha ih=>
  obtain⟨h1,h2,h3,h4,h5⟩:=hn.get;have dY:jr op<=2:=by unfold jr;split<;>(try split)<;>omega
  have loop:∀(aa V:List Fl.Ex),args=V++aa->Rn F X 12 1 [.sl (Ex.rs args),jD args.length,jD V.length,bD op,.str name,iD n,.sl (Ex.ss V)] (·=Ex.s ⟨op,name,n,args⟩):=by
   intro aa
   induction aa with
   |nil=>
    intro V hp;rw[xj] at hp;subst hp;exact wr Y<|wn Y af<|wt Y Y
   |cons a aa cS=>
    intro V hp;have aE:args.length=V.length+(aa.length+1):=by rw[hp,xa];rfl
    have ao:(Ex.rs args)[V.length]? =some (Ex.r a):=by rw[hp];exact JE _ _ _
    have nw:=ih a (by rw[hp];simp);have:=cS (V++[a]) (by rw[hp,bA]);rw[<-WO,xa] at this;obtain⟨o1,n1,i1,a1⟩:=a;exact wr Y<|wy Y af<|wo Y (ax ao Y)<|wg 1 Y<|lS<|wl Y nw rfl<|oe<|wg 2 Y<|wo Y (gb rfl rfl (by rw[gf];omega) (by rw[gf];omega))<|wo Y oA<|wj this
  exact wr Y<|wo Y (yf MK)<|wo Y (au (qV _))<|wj (loop args [] rfl)
end
end Go.Proofs.YthicpeihkkokmaaGreatDoor
namespace Go.Fl
open Go.Ex
mutual
def Ex.dp:Ex->Nat| .mk _ _ _ args=>Ex.eB args+1
def Ex.eB:List Ex->Nat|[]=>0|e::l=>max (Ex.dp e) (Ex.eB l)
end
theorem fD.dp{c:Sc}{d:Nat}{e:Ex}(h:fD c d e):e.dp<=d+1:=by
 induction h with
 |num n h=>simp[Ex.dp,Ex.eB]
 |var k h=>simp[Ex.dp,Ex.eB]
 |lW k h=>simp[Ex.dp,Ex.eB]
 |now=>simp[Ex.dp,Ex.eB]
 |get h _ ih=>simp[Ex.dp,Ex.eB];omega
 |size h=>simp[Ex.dp,Ex.eB]
 |neg _ ih=>simp[Ex.dp,Ex.eB];omega
 |bin op a b _ _ kw dO=>simp[Ex.dp,Ex.eB];omega
theorem jS.dp{c:Sc}{d:Nat}{e:Ex}(h:jS c d e):e.dp<=d+1:=by
 induction h with
 |lit op a b=>simp[Ex.dp,Ex.eB]
 |b0=>simp[Ex.dp,Ex.eB]
 |flag k h=>simp[Ex.dp,Ex.eB]
 |has h he=>have:=he.dp;simp[Ex.dp,Ex.eB];omega
 |not _ ih=>simp[Ex.dp,Ex.eB];omega
 |B1 op a b _ _ kw dO=>simp[Ex.dp,Ex.eB];omega
 |cmp op a b ha hb=>have:=ha.dp;have:=hb.dp;simp[Ex.dp,Ex.eB];omega
inductive dL (P:St->Prop):St->Prop
 |mk {kind:Nat} {name cf:aq} {bf:List Ex} {th el:JH} (h:P ⟨kind,name,cf,bf,th,el⟩) (h1:∀s∈th,dL P s) (h2:∀s∈el,dL P s):dL P ⟨kind,name,cf,bf,th,el⟩
theorem dL.head{P:St->Prop}{s:St}(h:dL P s):P s:=by cases h;assumption
structure Dr (kind:Nat) (name cf:aq) (bf:List Ex) (th el:JH):Prop where
 k1:1<=kind
 uw:kind<=10
 ex:∀e∈bf,jo gO e/\e.dp<=6
 nm:(kind=1\/kind=2\/kind=3\/kind=6\/kind=9)/\name∈GN\/(kind=4\/kind=5\/kind=7\/kind=8\/kind=10)/\name=[]
 hn:(kind=6\/kind=7)/\cf∈GN\/(kind≠6/\kind≠7)/\cf=[]
 ln:(kind=1\/kind=3\/kind=4\/kind=5\/kind=9)/\bf.length=1\/(kind=2\/kind=8)/\bf.length=2\/kind=6/\bf.length<=2\/kind=7/\1<=bf.length/\bf.length<=3\/kind=10/\bf.length=0
 g9:kind=4\/kind=5\/th=[]
 eln:kind=4\/kind=8\/kind=9\/el=[]
 tl:th.length<=12
 ll:el.length<=12
def jy:St->Prop| .mk kind name cf bf th el=>Dr kind name cf bf th el
structure Wd.Ok (w:Wd):Prop where
 sc:w.sc.Ok
 EV:w.ar.length<=3
 ji:∀l∈w.ar,l.length<=3/\∀n∈l,n<=2
theorem iB{α:Type}{l:List α}{i:Nat}{a:α}(h:l[i]? =some a):i<l.length:=(xe.1 h).1
theorem tX{α:Type}{P:α->Prop}{a:α}(h:P a):∀x∈[a],P x:=fun x hx=>by rw[xy] at hx;subst hx;exact h
theorem KZ{α:Type}{P:α->Prop}{a b:α}(h:P a)(k:P b):∀x∈[a,b],P x:=fun x hx=>by
 rcases xG.1 hx with rfl|hx
 ·exact h
 ·exact tX k x hx
theorem lO.node{w:Wd}(hw:w.Ok){B:JH->Prop}{s:St}(h:lO w B s)(hn:s.n<=12):jy s:=by
 have ie:∀{e:Ex},fD w.sc 3 e->jo gO e/\e.dp<=6:=fun h=>⟨h.all hw.sc,by have:=h.dp;omega⟩
 have be:∀{e:Ex},jS w.sc 5 e->jo gO e/\e.dp<=6:=fun h=>⟨h.all hw.sc,by have:=h.dp;omega⟩
 have hi:=hw.sc.i;have aE:∀l:JH,St.ns l<=12->l.length<=12:=fun l h=>xH (Go.Proofs.YthicpeihkkokmaaGreatDoor.mS l) h
 have hz:([]:JH).length<=12:=xL _;cases h with
 |mZ k hk he=>exact⟨MK,MK,tX (ie he),.inl ⟨MK,Lm MK⟩,.inr ⟨MK,rfl⟩,.inl ⟨MK,rfl⟩,.inr (.inr Y),.inr (.inr (.inr Y)),hz,hz⟩
 |AN he=>exact⟨MK,MK,tX (be he),.inl ⟨MK,RN⟩,.inr ⟨MK,rfl⟩,.inl ⟨MK,rfl⟩,.inr (.inr Y),.inr (.inr (.inr Y)),hz,hz⟩
 |put h ha hb=>exact⟨MK,MK,KZ (ie ha) (ie hb),.inl ⟨MK,DS⟩,.inr ⟨MK,rfl⟩,.inr (.inl ⟨MK,rfl⟩),.inr (.inr Y),.inr (.inr (.inr Y)),hz,hz⟩
 |del h ha=>exact⟨MK,MK,tX (ie ha),.inl ⟨MK,DS⟩,.inr ⟨MK,rfl⟩,.inl ⟨MK,rfl⟩,.inr (.inr Y),.inr (.inr (.inr Y)),hz,hz⟩
 | @cond e he th el h1 h2=>have fL:=hn;simp[St.n] at fL;exact⟨MK,MK,tX (be he),.inr ⟨MK,rfl⟩,.inr ⟨MK,rfl⟩,.inl ⟨MK,rfl⟩,.inl Y,.inl Y,aE _ (by simp[St.ns] at*;omega),aE _ (by simp[St.ns] at*;omega)⟩
 |Du he h1=>have fL:=hn;simp[St.n] at fL;exact⟨MK,MK,tX (be he),.inr ⟨MK,rfl⟩,.inr ⟨MK,rfl⟩,.inl ⟨MK,rfl⟩,.inr (.inl Y),.inr (.inr (.inr Y)),aE _ (by simp[St.ns] at*;omega),hz⟩
 |send i h n cb hh he hn=>
  have q1:=iB cb;have q2:=iB hh
  have q3:=hw.ji _ (xu cb);have q4:=q3.2 _ (xu hh);have q5:=hw.EV;exact⟨MK,MK,fun e h=>ie (he e h),.inl ⟨MK,Ln MK⟩,.inl ⟨MK,RM MK⟩,.inr (.inr (.inl ⟨rfl,MK⟩)),.inr (.inr Y),.inr (.inr (.inr Y)),hz,hz⟩
 |Bi h n cb hh he hn=>
  have q1:=iB cb;have q2:=iB hh
  have q3:=hw.ji _ (xu cb);have q4:=q3.2 _ (xu hh);exact⟨MK,MK,fun e h=>ie (he e h),.inr ⟨MK,rfl⟩,.inl ⟨MK,RM MK⟩,.inr (.inr (.inr (.inl ⟨rfl,MK,MK⟩))),.inr (.inr Y),.inr (.inr (.inr Y)),hz,hz⟩
 |store ha hb h2=>have fL:=hn;simp[St.n] at fL;exact⟨MK,MK,KZ (ie ha) (ie hb),.inr ⟨MK,rfl⟩,.inr ⟨MK,rfl⟩,.inr (.inl ⟨MK,rfl⟩),.inr (.inr Y),.inr (.inl Y),hz,aE _ (by simp[St.ns] at*;omega)⟩
 |Dg k hk ha h2=>have fL:=hn;simp[St.n] at fL;exact⟨MK,MK,tX (ie ha),.inl ⟨MK,Lm MK⟩,.inr ⟨MK,rfl⟩,.inl ⟨MK,rfl⟩,.inr (.inr Y),.inr (.inr (.inl Y)),hz,aE _ (by simp[St.ns] at*;omega)⟩
 |stop=>exact⟨MK,MK,fun e h=>(by cases h),.inr ⟨MK,rfl⟩,.inr ⟨MK,rfl⟩,.inr (.inr (.inr (.inr ⟨rfl,rfl⟩))),.inr (.inr Y),.inr (.inr (.inr Y)),hz,hz⟩
theorem Yr:∀{l:JH} {s:St},s∈l->s.n<=St.ns l
 |t::l,s,h=>by
  rcases xG.1 h with rfl|h
  ·simp[St.ns]
  ·have:=Yr h;simp[St.ns];omega
theorem lO.nest{w:Wd}{B:JH->Prop}{kind:Nat}{name cf:aq}{bf:List Ex}{th el:JH}(h:lO w B ⟨kind,name,cf,bf,th,el⟩):(th=[]\/B th)/\(el=[]\/B el):=by
 cases h with
 |cond he h1 h2=>exact⟨.inr h1,.inr h2⟩
 |Du he h1=>exact⟨.inr h1,.inl Y⟩
 |store ha hb h2=>exact⟨.inl Y,.inr h2⟩
 |Dg k hk ha h2=>exact⟨.inl Y,.inr h2⟩
 |mZ|AN|put|del|send|Bi|stop=>exact⟨.inl Y,.inl Y⟩
theorem jQ.all{w:Wd}(hw:w.Ok):∀{d:Nat} {l:JH},jQ w d l->St.ns l<=12->∀s∈l,dL jy s
 |0,l,h,_,s,hs=>by rw[show l=[] from h] at hs;cases hs
 |d+1,l,h,hn,s,hs=>by
  have h1:=h s hs;have h2:=Yr hs;have h3:=h1.node hw MK;obtain⟨kind,name,cf,bf,th,el⟩:=s;simp only [St.n] at h2;obtain⟨n1,n2⟩:=h1.nest;refine .mk h3 (fun s hs=> ?_) (fun s hs=> ?_)
  ·rcases n1 with rfl|n1
   ·cases hs
   ·exact jQ.all hw n1 MK s hs
  ·rcases n2 with rfl|n2
   ·cases hs
   ·exact jQ.all hw n2 MK s hs
end Go.Fl
namespace Go.Proofs.YthicpeihkkokmaaGreatDoor
open Go.Ex Go.RowKit Go.Fl
variable{P:JH->Prop}
section
section
variable{X:Bv}
def Sub(P:JH->Prop):St->Prop| .mk _ _ _ _ th el=>P th/\P el
theorem dL.sub(H:∀l:JH,l.length<=12->(∀s∈l,jy s/\Sub P s)->P l){s:St}(h:dL jy s):Sub P s:=by
 induction h with
 | @mk kind name cf bf th el h h1 h2 kw dO=>exact⟨H th h.tl (fun s hs=>⟨(h1 s hs).head,kw s hs⟩),H el h.ll (fun s hs=>⟨(h2 s hs).head,dO s hs⟩)⟩
theorem dL.list(H:∀l:JH,l.length<=12->(∀s∈l,jy s/\Sub P s)->P l){l:JH}(hl:l.length<=12)(h:∀s∈l,dL jy s):P l:=H l hl (fun s hs=>⟨(h s hs).head,dL.sub H (h s hs)⟩)
theorem aJ4{l:JH}(hl:l.length<=12)(h:∀s∈l,dL jy s):Rn F X 13 0 [.sl (St.rs l)] (·=[.sl (St.ss l)]):=by
 refine dL.list (P:=fun l=>Rn F X 13 0 [.sl (St.rs l)] (·=[.sl (St.ss l)])) ?_ hl h;clear hl h l;intro l hl h;have loop:∀(aa V:JH),l=V++aa->Rn F X 13 1 [.sl (St.ss V),.sl (St.rs l),jD l.length,jD V.length] (·=[.sl (St.ss l)]):=by
  intro aa
  induction aa with
  |nil=>
   intro V hp;rw[xj] at hp;subst hp;exact wr Y<|wn Y af<|wt Y Y
  |cons a aa cS=>
   intro V hp;have aE:l.length=V.length+(aa.length+1):=by rw[hp,xa];rfl
   have ao:(St.rs l)[V.length]? =some (St.r a):=by rw[hp];exact I7 _ _ _
   obtain⟨ha,hs⟩:=h a (by rw[hp];simp);have:=cS (V++[a]) (by rw[hp,bA]);rw[<-aC7,xa] at this;obtain⟨kind,name,cf,bf,th,el⟩:=a;obtain⟨dA,cJ⟩:=hs;have cp6:=ha.uw;have fI:bf.length<=3:=by have:=ha.ln;omega
   have Aq:∀(bW bh:List Fl.Ex),bf=bh++bW->Rn F X 13 2 [.sl (St.ss V),.sl (St.rs l),jD l.length,jD V.length,.sl (Ex.rs bf),jD bf.length,jD bh.length,bD kind,.str name,.str cf,.sl (Ex.ss bh),.sl (St.ss th),.sl (St.ss el)] (·=[.sl (St.ss l)]):=by
    intro bW
    induction bW with
    |nil=>
     intro bh aO;rw[xj] at aO;subst aO;exact wr Y<|wn Y af<|wg 2 Y<|wo Y (gb rfl rfl (by rw[l9];omega) (by rw[l9];omega))<|wo Y oA<|wj this
    |cons e bW dO=>
     intro bh aO;have r9:bf.length=bh.length+(bW.length+1):=by rw[aO,xa];rfl
     have gR:(Ex.rs bf)[bh.length]? =some (Ex.r e):=by rw[aO];exact JE _ _ _
     have he:=(ha.ex e (by rw[aO];simp)).1;have yo:=dO (bh++[e]) (by rw[aO,bA]);rw[<-WO,xa] at yo;have gZ:=aS0 (X:=X) he;obtain⟨o1,n1,i1,a1⟩:=e;exact wr Y<|wy Y af<|wo Y (ax gR rfl)<|wg 1 Y<|D5<|wl Y gZ rfl<|jX<|wg 2 Y<|wo Y (gb rfl rfl (by rw[gf];omega) (by rw[gf];omega))<|wo Y oA<|wj yo
   exact wr Y<|wy Y af<|wo Y (ax ao Y)<|wg 1 Y<|dF<|wo Y (yf MK)<|wl Y dA rfl<|wl Y cJ rfl<|wo Y (au (qV _))<|dW<|wj (Aq bf [] rfl)
 exact wr Y<|wo Y (au (nC _))<|wj (loop l [] rfl)
end
end
end Go.Proofs.YthicpeihkkokmaaGreatDoor
namespace Go.Fl
open Go.Ex
mutual
def St.dp:St->Nat| .mk _ _ _ _ th el=>max (St.eB th) (St.eB el)
def St.eB:JH->Nat|[]=>0|s::l=>max (St.dp s+1) (St.eB l)
end
structure B6 (h:Hn):Prop where
 name:h.name∈GN
 params:h.params.length<=2/\∀p∈h.params,p∈GN
 n:St.ns h.body<=12
 dp:St.eB h.body<=4
 len:h.body.length<=12
 body:∀s∈h.body,dL jy s
structure VrS (v:Vr):Prop where
 name:v.name∈GN
 type:v.type=1/\v.init<=2\/(v.type=2\/v.type=3)/\v.init=0
structure Io (c:Cm):Prop where
 name:c.name∈GN
 vars:c.vars.length<=5/\∀v∈c.vars,VrS v
 vs:1<=c.aS.length/\c.aS.length<=2
 hs:∀l∈c.aS,l.length<=3/\∀h∈l,B6 h
structure LkS (l:Lk):Prop where
 src:l.src∈GN
 dst:l.dst∈GN
 y0:1<=l.y0/\l.y0<=3
structure tw (f:dj):Prop where
 name:f.name∈GN
 flags:f.flags.length<=2/\∀x∈f.flags,x.name∈GN
 links:f.links.length<=9/\∀x∈f.links,LkS x
 comps:1<=f.comps.length/\f.comps.length<=3/\∀x∈f.comps,Io x
theorem PD:∀{l:JH} {n:Nat},(∀s∈l,s.dp+1<=n)->St.eB l<=n
 |[],n,h=>xL _
 |s::l,n,h=>by
  have h1:=h s NS;have h2:=PD (l:=l) (fun t ht=>h t (by simp[ht]));simp only [St.eB];omega
theorem jQ.dp{w:Wd}:∀{d:Nat} {l:JH},jQ w d l->St.eB l<=d
 |0,l,h=>by rw[show l=[] from h];exact xk _
 |d+1,l,h=>PD fun s hs=>by
  have h1:=h s hs;obtain⟨kind,name,cf,bf,th,el⟩:=s;obtain⟨n1,n2⟩:=h1.nest;have e1:St.eB th<=d:=by
   rcases n1 with rfl|n1
   ·exact xL _
   ·exact jQ.dp n1
  have e2:St.eB el<=d:=by
   rcases n2 with rfl|n2
   ·exact xL _
   ·exact jQ.dp n2
  simp only [St.dp];omega
theorem qf{α:Type}{l:List α}{a:α}(h:a∈l):∃i:Nat,l[i]? =some a:=List.mem_iff_getElem?.1 h
theorem rq.ok{ints tables flags own:Nat}{ar:Dw}{al:Es}{k:Nat}{h:Hn}(hk:k<3)(i3:ints<=3)(t1:tables<=1)(f2:flags<=2)(EV:ar.length<=3)(cP:∀l∈ar,1<=l.length/\l.length<=3/\∀n∈l,n<=2)(aR:al∈ar)(ho:rq ints tables flags own ar al k h):B6 h:=by
 obtain⟨n,hn,hp,hb⟩:=ho.lW;have fj:=(cP al aR).2.2 n (xu hn);have mI:h.params.length<=2/\∀p∈h.params,p∈GN:=by
  rw[hp];refine⟨by simp[aP];exact fj,fun p h=> ?_⟩;obtain⟨j,hj,rfl⟩:=xJ.1 h;exact ag2 (by have:=List.mem_range.1 hj;omega)
 exact⟨by rw[ho.name];exact RM hk,mI,ho.n,hb.dp,xH (Go.Proofs.YthicpeihkkokmaaGreatDoor.mS _) ho.n,hb.all ⟨⟨i3,t1,f2,fj⟩,EV,fun l h=>(cP l h).2⟩ ho.n⟩
theorem iV.ok{nf i:Nat}{ar:Dw}{c:Cm}(f2:nf<=2)(EV:ar.length<=3)(cP:∀l∈ar,1<=l.length/\l.length<=3/\∀n∈l,n<=2)(ho:iV nf ar i c):Io c:=by
 obtain⟨ints,tables,al,i1,i3,t1,aR,hv,h1,h2,h3,h4⟩:=ho.rest;have hi:=iB aR;have hm:=xu aR;refine⟨by rw[ho.name];exact Ln MK,⟨by rw[hv];simp;omega,fun v h=> ?_⟩,⟨h1,h2⟩,fun l hl=>⟨xH (h4 l hl).2.1 (cP al hm).2.1,fun h hh=> ?_⟩⟩
 ·rw[hv] at h;rcases xF.1 h with h|h
  ·obtain⟨j,hj,rfl⟩:=xJ.1 h;have:=List.mem_range.1 hj;exact⟨Lm MK,.inl ⟨rfl,by show j<=2;omega⟩⟩
  ·rcases xG.1 h with rfl|h
   ·exact⟨RN,.inr ⟨.inl Y,rfl⟩⟩
   ·obtain⟨j,hj,rfl⟩:=xJ.1 h;have:=List.mem_range.1 hj;obtain rfl:j=0:=MK
    exact⟨DS,.inr ⟨.inr Y,rfl⟩⟩
 ·obtain⟨k,hk⟩:=qf hh;have q:=(h4 l hl).2.1;have q2:=iB hk;have q3:=(cP al hm).2.1;exact((h4 l hl).2.2 k h hk).ok MK i3 t1 f2 EV cP hm
theorem gU.ok{ar:Dw}{f:dj}(h:gU ar f):tw f:=by
 have hn:=h.n;obtain⟨ks,dS,hp,hk⟩:=h.links;have hk9:ar.length*ar.length<=9:=Nat.mul_le_mul hn.2.2 hn.2.2;refine⟨by rw[h.name];decide,⟨h.flags.1,fun x hx=> ?_⟩,⟨?_,fun x hx=> ?_⟩,⟨MK,MK,fun c hc=> ?_⟩⟩
 ·obtain⟨i,hi⟩:=qf hx;have:=iB hi;rw[h.flags.2 i x hi];exact ag3 (by have:=h.flags.1;omega)
 ·rw[dS,xm];have hb:∀(l:List (Nat×Nat)) (m:Nat),l.Pairwise (fun p q=>p.1<q.1)->(∀p∈l,m<=p.1/\p.1<9)->l.length+m<=9\/l=[]:=by
   intro l
   induction l with
   |nil=>intro m _ _;exact .inr Y
   |cons p l ih=>
    intro m hp hm;have h1:=hm p NS;cases hp with
    |cons h2 h3=>
     rcases ih (p.1+1) h3 (fun q hq=>⟨h2 q hq,(hm q (by simp[hq])).2⟩) with h|rfl
     ·left;rw[xi];omega
     ·left;simp;omega
  rcases hb ks 0 hp (fun p hp=>⟨xL _,by have:=hk p hp;omega⟩) with h|rfl
  ·omega
  ·exact xL _
 ·rw[dS] at hx;obtain⟨p,hp,rfl⟩:=xJ.1 hx;have h1:=hk p hp;have h2:p.1/ar.length<ar.length:=Nat.div_lt_of_lt_mul h1.1;have h3:p.1%ar.length<ar.length:=Nat.mod_lt _ hn.2.1;exact⟨Ln MK,Ln MK,h1.2⟩
 ·obtain⟨i,hi⟩:=qf hc;exact(h.comps i c hi).ok h.flags.1 hn.2.2 h.ji
end Go.Fl
namespace Go.Proofs.YthicpeihkkokmaaGreatDoor
open Go.Ex Go.RowKit Go.Fl
variable{α:Type}
section
section
variable{X:Bv}
theorem cz{f:α->Di}{l V aa:List α}{a:α}(h:l=V++a::aa):(l.map f)[V.length]? =some (f a):=by subst h;exact Gd _ _ _ _
theorem bC{l V aa:List α}{a:α}(h:l=V++a::aa):l.length=V.length+(aa.length+1):=by rw[h,xa];rfl
theorem Fy(f:α->Di)(l:List α)(a:α):l.map f++[f a]=(l++[a]).map f:=NS
theorem ch(f:α->Di)(l:List α):(l.map f).length=l.length:=xm _
theorem IE(l:L5):∀row∈strs l,row.length=1/\row.all D.cell=true:=by
 intro row h;obtain⟨p,_,rfl⟩:=xJ.1 h;exact⟨rfl,rfl⟩
def pd(vs:Mm):Ca:=vs.map fun l=>[.sl (l.map Hn.r)]
def ca(vs:Mm):Ca:=vs.map fun l=>[.sl (l.map Hn.s)]
theorem av9{cs:List Cm}{nm:aq}{A B:Ca}(h3:cs.length<=3)(hc:∀c∈cs,Io c):∀(aa V:List Cm),cs=V++aa->Rn F X 14 3 [.sl (cs.map Cm.r),jD cs.length,jD V.length,.str nm,.sl A,.sl B,.sl (V.map Cm.s)] (·=[.str nm,.sl A,.sl B,.sl (cs.map Cm.s)]):=by
 intro aa
 induction aa with
 |nil=>
  intro V hp;rw[xj] at hp;subst hp;exact wr Y<|wn Y af<|wt Y Y
 |cons c aa cS=>
  intro V hp;have aE:=bC hp;have ao:=cz (f:=Cm.r) hp;have df:=hc c (by rw[hp];simp);have next:=cS (V++[c]) (by rw[hp,bA]);rw[<-Fy,xa] at next;obtain⟨cn,vars,vs⟩:=c;have hvn:vars.length<=5:=df.vars.1;have bH:vs.length<=2:=df.vs.2;have kW:∀(bW bh:Mm),vs=bh++bW->Rn F X 14 5 [.sl (cs.map Cm.r),jD cs.length,jD V.length,.sl (pd vs),jD vs.length,jD bh.length,.str nm,.sl A,.sl B,.sl (V.map Cm.s),.str cn,.sl (vars.map Vr.s),.sl (ca bh)] (·=[.str nm,.sl A,.sl B,.sl (cs.map Cm.s)]):=by
   intro bW
   induction bW with
   |nil=>
    intro bh aO;rw[xj] at aO;subst aO;exact wr Y<|wn Y af<|wg 2 Y<|wo Y (gb rfl rfl (by rw[ch];omega) (by rw[ch];omega))<|wo Y oA<|wj next
   |cons v bW dO=>
    intro bh aO;have r9:=bC aO;have gR:(pd vs)[bh.length]? =some [.sl (v.map Hn.r)]:=cz (f:=fun l:List Hn=>[D.sl (l.map Hn.r)]) aO;have jl:=dO (bh++[v]) (by rw[aO,bA]);have es:ca (bh++[v])=ca bh++[[.sl (v.map Hn.s)]]:=by simp[ca]
    rw[es,xa] at jl;have hv:=df.hs v (by show v∈vs;rw[aO];simp);have jf:(ca bh).length=bh.length:=xm _;have mg:∀(dV bq:List Hn),v=bq++dV->Rn F X 14 6 [.sl (cs.map Cm.r),jD cs.length,jD V.length,.sl (pd vs),jD vs.length,jD bh.length,.sl (v.map Hn.r),jD v.length,jD bq.length,.str nm,.sl A,.sl B,.sl (V.map Cm.s),.str cn,.sl (vars.map Vr.s),.sl (ca bh),.sl (bq.map Hn.s)] (·=[.str nm,.sl A,.sl B,.sl (cs.map Cm.s)]):=by
     intro dV
     induction dV with
     |nil=>
      intro bq bF;rw[xj] at bF;subst bF;exact wr Y<|wn Y af<|wg 2 Y<|wo Y oP<|wo Y oA<|wj jl
     |cons h dV mB=>
      intro bq bF;have vz:=bC bF;have gQ:=cz (f:=Hn.r) bF;have fA:=mB (bq++[h]) (by rw[bF,bA]);rw[<-Fy,xa] at fA;have hh:=hv.2 h (by rw[bF];simp);have hb:=aJ4 (X:=X) hh.len hh.body;have Td:=hv.1;obtain⟨hn,mI,zk⟩:=h;have co7:mI.length<=2:=hh.params.1;have fW:(strs mI).length=mI.length:=xm _;exact wr Y<|wy Y af<|wo Y (ax gQ rfl)<|wg 1 Y<|je<|wg 1 Y<|wo Y (yg (rows:=[]) (IE _) Of Of)<|wl Y hb rfl<|wg 2 Y<|wo Y (gb rfl rfl (by rw[ch];omega) (by rw[ch];omega))<|vY<|wo Y oA<|wj fA
    exact wr Y<|wy Y af<|wo Y (ax gR rfl)<|wg 1 Y<|wo Y (au (ch _ _))<|wj (mg v [] rfl)
  have Ge:∀(bW bh:List Vr),vars=bh++bW->Rn F X 14 4 [.sl (cs.map Cm.r),jD cs.length,jD V.length,.sl (vars.map Vr.r),jD vars.length,jD bh.length,.str nm,.sl A,.sl B,.sl (V.map Cm.s),.str cn,.sl (pd vs),.sl (bh.map Vr.s)] (·=[.str nm,.sl A,.sl B,.sl (cs.map Cm.s)]):=by
   intro bW
   induction bW with
   |nil=>
    intro bh aO;rw[xj] at aO;subst aO;exact wr Y<|wn Y af<|wo Y (au (xm _))<|wj (kW vs [] rfl)
   |cons v bW dO=>
    intro bh aO;have r9:=bC aO;have gR:=cz (f:=Vr.r) aO;have jl:=dO (bh++[v]) (by rw[aO,bA]);rw[<-Fy,xa] at jl;have hv:=(df.vars.2 v (by show v∈vars;rw[aO];simp)).type;obtain⟨vn,vt,vi⟩:=v;have hvt:vt<=3:=by simp at hv;omega
    exact wr Y<|wy Y af<|wo Y (ax gR rfl)<|wg 1 Y<|gV<|wo Y (yf MK)<|wg 2 Y<|wo Y (gb rfl rfl (by rw[ch];omega) (by rw[ch];omega))<|wo Y oA<|je<|wj jl
  exact wr Y<|wy Y af<|wo Y (ax ao Y)<|wg 1 Y<|dF<|wo Y (au (ch _ _))<|wj (Ge vars [] rfl)
theorem av8{f:dj}(hf:tw f):Rn F X 14 0 f.r (·=f.s):=by
 obtain⟨nm,fl,lk,cs⟩:=f;have BH:fl.length<=2:=hf.flags.1;have HI:lk.length<=9:=hf.links.1;have df:cs.length<=3:=hf.comps.2.1;have Am:∀(aa V:List Lk),lk=V++aa->Rn F X 14 2 [.sl (lk.map Lk.d),jD lk.length,jD V.length,.str nm,.sl (fl.map Fg.d),.sl (cs.map Cm.r),.sl (fl.map Fg.d),.sl (V.map Lk.d)] (·=[.str nm,.sl (fl.map Fg.d),.sl (lk.map Lk.d),.sl (cs.map Cm.s)]):=by
  intro aa
  induction aa with
  |nil=>
   intro V hp;rw[xj] at hp;subst hp;exact wr Y<|wn Y af<|wo Y (au (ch _ _))<|b_ Y (av9 df hf.comps.2.2 cs [] rfl)
  |cons v aa ih=>
   intro V hp;have aE:=bC hp;have ao:=cz (f:=Lk.d) hp;have next:=ih (V++[v]) (by rw[hp,bA]);rw[<-Fy,xa] at next;obtain⟨a,b,c⟩:=v;exact wr Y<|wy Y af<|wo Y (ax ao Y)<|wg 1 Y<|lS<|wg 2 Y<|wo Y (gb rfl rfl (by rw[ch];omega) (by rw[ch];omega))<|wo Y oA<|wj next
 have Az:∀(aa V:List Fg),fl=V++aa->Rn F X 14 1 [.sl (fl.map Fg.d),jD fl.length,jD V.length,.str nm,.sl (lk.map Lk.d),.sl (cs.map Cm.r),.sl (V.map Fg.d)] (·=[.str nm,.sl (fl.map Fg.d),.sl (lk.map Lk.d),.sl (cs.map Cm.s)]):=by
  intro aa
  induction aa with
  |nil=>
   intro V hp;rw[xj] at hp;subst hp;exact wr Y<|wn Y af<|wo Y (au (ch _ _))<|wj (Am lk [] rfl)
  |cons v aa ih=>
   intro V hp;have aE:=bC hp;have ao:=cz (f:=Fg.d) hp;have next:=ih (V++[v]) (by rw[hp,bA]);rw[<-Fy,xa] at next;obtain⟨a,b⟩:=v;cases b
   ·exact wr Y<|wy Y af<|wo Y (ax ao Y)<|wg 2 Y<|nR<|wg 2 Y<|wo Y (gb rfl rfl (by rw[ch];omega) (by rw[ch];omega))<|wo Y oA<|wj next
   ·exact wr Y<|wy Y af<|wo Y (ax ao Y)<|wg 1 Y<|nR<|wg 2 Y<|wo Y (gb rfl rfl (by rw[ch];omega) (by rw[ch];omega))<|wo Y oA<|wj next
 exact wr Y<|wo Y (au (ch _ _))<|wj (Az fl [] rfl)
end
end
end Go.Proofs.YthicpeihkkokmaaGreatDoor
namespace Go.Fl
open Go.Ex
theorem Ex.Jr:∀{l:List Ex} {a:Ex},a∈l->a.dp<=Ex.eB l
 |e::l,a,h=>by
  rcases xG.1 h with rfl|h
  ·simp only [Ex.eB];omega
  ·have:=Ex.Jr h;simp only [Ex.eB];omega
theorem Ex.Wm:∀(l:List Ex) (a:Ex),Ex.eB (l++[a])=max (Ex.eB l) a.dp
 |[],a=>by simp[Ex.eB]
 |e::l,a=>by simp only [c_,Ex.eB,Ex.Wm l a];omega
def St.mx:JH->Nat|[]=>0|s::l=>max (St.dp s) (St.mx l)
theorem St.Xj:∀(l:JH) (a:St),St.mx (l++[a])=max (St.mx l) a.dp
 |[],a=>by simp[St.mx]
 |e::l,a=>by simp only [c_,St.mx,St.Xj l a];omega
theorem St.YL:∀(l:JH),l≠[]->St.eB l=St.mx l+1
 |[],h=>absurd rfl h
 |[s],_=>by simp[St.eB,St.mx]
 |s::t::l,_=>by
  have:=St.YL (t::l) NS;rw[St.eB,St.mx,this];omega
def St.sb:JH->Nat|[]=>0|s::l=>St.sub s+St.sb l
theorem St.WY:∀(l:JH) (a:St),St.sb (l++[a])=St.sb l+a.sub
 |[],a=>by simp[St.sb]
 |e::l,a=>by simp only [c_,St.sb,St.WY l a];omega
theorem St.Qh:∀(l:JH),St.ns l=l.length+St.sb l
 |[]=>rfl
 | .mk .. ::l=>by simp only [St.ns,St.n,St.sb,St.sub,St.Qh l,xi];omega
theorem St.vk:∀(l m:JH),St.ns (l++m)=St.ns l+St.ns m
 |[],m=>by simp[St.ns]
 |e::l,m=>by simp only [c_,St.ns,St.vk l m];omega
theorem St.Ys:∀{l:JH} {a:St},a∈l->a.dp<=St.mx l
 |e::l,a,h=>by
  rcases xG.1 h with rfl|h
  ·simp only [St.mx];omega
  ·have:=St.Ys h;simp only [St.mx];omega
end Go.Fl
namespace Go.Proofs.YthicpeihkkokmaaGreatDoor
open Go.Ex Go.RowKit Go.Fl
variable{P:Nat->Prop}
section
variable{X:Bv}
theorem aO5{a b c:Nat}:aF .mx [iD a,iD b,iD c]=some (iD (max a (max b c))):=by rw[aX1];congr 2;omega
theorem au6{e:Fl.Ex}(h:jo gO e):e.dp<=100->Rn F X 17 0 (Ex.s e) (·=[iD e.dp]):=by
 induction h with
 | @mk op name n args hn ha ih=>
  intro hd;have nq:Ex.eB args+1<=100:=hd;obtain⟨h1,h2,h3,h4,h5⟩:=hn.get;have dY:jr op<=2:=by unfold jr;split<;>(try split)<;>omega
  have loop:∀(aa V:List Fl.Ex),args=V++aa->Rn F X 17 1 [iD (Ex.eB V),jD args.length,jD V.length,bD op,.str name,iD n,.sl (Ex.ss args)] (·=[iD (Ex.eB args+1)]):=by
   intro aa
   induction aa with
   |nil=>
    intro V hp;rw[xj] at hp;subst hp;exact wr Y<|wn Y af<|wo Y oA<|wt Y Y
   |cons a aa cS=>
    intro V hp;have aE:=bC hp;have ao:(Ex.ss args)[V.length]? =some (Ex.s a):=by rw[hp];exact qe _ _ _
    have hm:a∈args:=by rw[hp];simp
    have nw:=ih a hm (xH (Ex.Jr hm) MK);have:=cS (V++[a]) (by rw[hp,bA]);rw[Ex.Wm,xa] at this;obtain⟨o1,n1,i1,a1⟩:=a;exact wr Y<|wy Y af<|wo Y (ax ao Y)<|wg 1 Y<|lS<|wl Y nw rfl<|wo Y aX2<|wo Y oA<|wj this
  exact wr Y<|wo Y (au (gf _))<|wj (loop args [] rfl)
theorem aC3:∀(m:Nat) (l:JH),St.ns l<=m->m<=12->Rn F X 15 0 [.sl (St.ss l)] (·=[iD (St.ns l)]):=by
 intro m
 induction m with
 |zero=>
  intro l hl _;have:=mS l;obtain rfl:l=[]:=xE.1 MK;exact wr Y<|wo Y bc<|wo Y bc<|b_ Y<|wr Y<|wg 1 Y<|wt Y Y
 |succ m ih=>
  intro l hl hm;have gK:=St.Qh l;have loop:∀(aa V:JH),l=V++aa->Rn F X 15 1 [.sl (St.ss l),iD (l.length+St.sb V),jD l.length,jD V.length] (·=[iD (St.ns l)]):=by
   intro aa
   induction aa with
   |nil=>
    intro V hp;rw[xj] at hp;subst hp;rw[<-gK];exact wr Y<|wn Y af<|wt Y Y
   |cons a aa cS=>
    intro V hp;have aE:=bC hp;have ao:(St.ss l)[V.length]? =some (St.s a):=by rw[hp];exact uY _ _ _
    have lj:St.ns l=St.ns V+(St.n a+St.ns aa):=by rw[hp,St.vk];rfl
    have Ti:=St.Qh V;have:=cS (V++[a]) (by rw[hp,bA]);rw[St.WY,xa] at this;obtain⟨kind,name,cf,bf,th,el⟩:=a;simp only [St.n] at lj;simp only [St.sub] at this;rw[<-Nat.add_assoc] at this;have i1:=ih th MK MK;have i2:=ih el MK MK;exact wr Y<|wy Y af<|wo Y (ax ao Y)<|wg 2 Y<|wo Y (ax ao Y)<|w8<|wg 2 Y<|wl Y i1 rfl<|wl Y i2 rfl<|lS<|wo Y (bg MK)<|wo Y (bg MK)<|wo Y oA<|wj this
  exact wr Y<|wo Y (au (l9 _))<|wo Y (au (l9 _))<|wj (loop l [] rfl)
theorem aI0:∀(m:Nat) (l:JH),St.ns l<=m->m<=12->St.eB l<=12->Rn F X 16 0 [.sl (St.ss l)] (·=[iD (St.eB l)]):=by
 intro m
 induction m with
 |zero=>
  intro l hl _ _;have:=mS l;obtain rfl:l=[]:=xE.1 MK;exact wr Y<|wo Y bc<|wg 1 Y<|wt Y Y
 |succ m ih=>
  intro l hl hm hd;rcases xI l.length with h0|h0
  ·obtain rfl:l=[]:=xE.1 h0;exact wr Y<|wo Y bc<|wg 1 Y<|wt Y Y
  have bo:l≠[]:=fun h=>by rw[h] at h0;cases h0
  have Tp:=St.YL l bo;have cp1:=mS l;have loop:∀(aa V:JH),l=V++aa->Rn F X 16 1 [.sl (St.ss l),iD (St.mx V),jD l.length,jD V.length] (·=[iD (St.eB l)]):=by
   intro aa
   induction aa with
   |nil=>
    intro V hp;rw[xj] at hp;subst hp;rw[Tp];exact wr Y<|wn Y af<|wo Y oA<|wt Y Y
   |cons a aa cS=>
    intro V hp;have aE:=bC hp;have ao:(St.ss l)[V.length]? =some (St.s a):=by rw[hp];exact uY _ _ _
    have lj:St.ns l=St.ns V+(St.n a+St.ns aa):=by rw[hp,St.vk];rfl
    have hdm:=St.Ys (l:=l) (a:=a) (by rw[hp];simp);have:=cS (V++[a]) (by rw[hp,bA]);rw[St.Xj,xa] at this;obtain⟨kind,name,cf,bf,th,el⟩:=a;simp only [St.n] at lj;simp only [St.dp] at this hdm;have i1:=ih th MK MK MK;have i2:=ih el MK MK MK;exact wr Y<|wy Y af<|wo Y (ax ao Y)<|wg 2 Y<|wo Y (ax ao Y)<|w8<|wg 2 Y<|wl Y i1 rfl<|wl Y i2 rfl<|lS<|wo Y aO5<|wo Y oA<|wj this
  exact wr Y<|wo Y (au (l9 _))<|wn Y ay<|wo Y (au (l9 _))<|wj (loop l [] rfl)
theorem XT{op:Nat}(h1:1<=op)(h2:op<=23)(h:P 1/\P 2/\P 3/\P 4/\P 5/\P 6/\P 7/\P 8/\P 9/\P 10/\P 11/\P 12/\P 13/\P 14/\P 15/\P 16/\P 17/\P 18/\P 19/\P 20/\P 21/\P 22/\P 23):P op:=by
 have:op=1\/op=2\/op=3\/op=4\/op=5\/op=6\/op=7\/op=8\/op=9\/op=10\/op=11\/op=12\/op=13\/op=14\/op=15\/op=16\/op=17\/op=18\/op=19\/op=20\/op=21\/op=22\/op=23:=MK
 obtain⟨a1,a2,a3,a4,a5,a6,a7,a8,a9,a10,a11,a12,a13,a14,a15,a16,a17,a18,a19,a20,a21,a22,a23⟩:=h;rcases this with rfl|rfl|rfl|rfl|rfl|rfl|rfl|rfl|rfl|rfl|rfl|rfl|rfl|rfl|rfl|rfl|rfl|rfl|rfl|rfl|rfl|rfl|rfl<;>assumption
def vJ(op:Nat):Bool:=decide (5<=op/\op<=8)
def GS(op:Nat):Nat:=if op<=8 then 7 else if op<=10 then 6 else if op<=13 then 5 else if op<=15 then 4 else if op<=21 then 3 else if op=22 then 2 else 1
def o5(op:Nat):aq:=match op with
 |2=>[116,114,117,101]
 |3=>[102,97,108,115,101]
 |4=>[110,111,119]
 |7=>[104,97,115,32]
 |8=>[115,105,122,101,32]
 |9=>[45]
 |10=>[110,111,116,32]
 |11=>[32,42,32]
 |12=>[32,47,32]
 |13=>[32,37,32]
 |14=>[32,43,32]
 |15=>[32,45,32]
 |16=>[32,61,61,32]
 |17=>[32,33,61,32]
 |18=>[32,60,32]
 |19=>[32,60,61,32]
 |20=>[32,62,32]
 |21=>[32,62,61,32]
 |22=>[32,97,110,100,32]
 |23=>[32,111,114,32]
 |_=>[]
theorem zJ{op:Nat}(h1:1<=op)(h2:op<=23):Rn F X 18 0 [bD op] (·=[iD (jr op),.bool (vJ op),iD (GS op),.str (o5 op),.bool true]):=by
 refine XT h1 h2 (P:=fun op=>Rn F X 18 0 [bD op] (·=[iD (jr op),.bool (vJ op),iD (GS op),.str (o5 op),.bool true])) ⟨?_,?_,?_,?_,?_,?_,?_,?_,?_,?_,?_,?_,?_,?_,?_,?_,?_,?_,?_,?_,?_,?_,?_⟩
 ·exact wr Y<|wg 5 Y<|w5<|wt Y Y
 ·exact wr Y<|wg 5 Y<|w5<|wt Y Y
 ·exact wr Y<|wg 5 Y<|w5<|wt Y Y
 ·exact wr Y<|wg 5 Y<|w5<|wt Y Y
 ·exact wr Y<|wg 4 Y<|w5<|wt Y Y
 ·exact wr Y<|wg 4 Y<|w5<|wt Y Y
 ·exact wr Y<|wg 4 Y<|w5<|wt Y Y
 ·exact wr Y<|wg 4 Y<|w5<|wt Y Y
 ·exact wr Y<|wg 5 Y<|w5<|wt Y Y
 ·exact wr Y<|wg 5 Y<|w5<|wt Y Y
 ·exact wr Y<|wg 5 Y<|w5<|wt Y Y
 ·exact wr Y<|wg 5 Y<|w5<|wt Y Y
 ·exact wr Y<|wg 5 Y<|w5<|wt Y Y
 ·exact wr Y<|wg 5 Y<|w5<|wt Y Y
 ·exact wr Y<|wg 5 Y<|w5<|wt Y Y
 ·exact wr Y<|wg 5 Y<|w5<|wt Y Y
 ·exact wr Y<|wg 5 Y<|w5<|wt Y Y
 ·exact wr Y<|wg 5 Y<|w5<|wt Y Y
 ·exact wr Y<|wg 5 Y<|w5<|wt Y Y
 ·exact wr Y<|wg 5 Y<|w5<|wt Y Y
 ·exact wr Y<|wg 5 Y<|w5<|wt Y Y
 ·exact wr Y<|wg 5 Y<|w5<|wt Y Y
 ·exact wr Y<|wg 5 Y<|w5<|wt Y Y
def fo(k:Nat):Bool×Bool×Nat×Nat×Bool×Bool:=match k with
 |1=>(true,false,1,1,false,false)
 |2=>(true,false,2,2,false,false)
 |3=>(true,false,1,1,false,false)
 |4=>(false,false,1,1,true,true)
 |5=>(false,false,1,1,true,false)
 |6=>(true,true,0,4,false,false)
 |7=>(false,true,1,5,false,false)
 |8=>(false,false,2,2,false,true)
 |9=>(true,false,1,1,false,true)
 |_=>(false,false,0,0,false,false)
theorem aT1{k:Nat}(h1:1<=k)(h2:k<=10)(h:P 1/\P 2/\P 3/\P 4/\P 5/\P 6/\P 7/\P 8/\P 9/\P 10):P k:=by
 have:k=1\/k=2\/k=3\/k=4\/k=5\/k=6\/k=7\/k=8\/k=9\/k=10:=MK
 obtain⟨a1,a2,a3,a4,a5,a6,a7,a8,a9,a10⟩:=h;rcases this with rfl|rfl|rfl|rfl|rfl|rfl|rfl|rfl|rfl|rfl<;>assumption
def foD(k:Nat):Di:=[.bool (fo k).1,.bool (fo k).2.1,iD (fo k).2.2.1,iD (fo k).2.2.2.1,.bool (fo k).2.2.2.2.1,.bool (fo k).2.2.2.2.2,.bool true]
theorem XF{k:Nat}(h1:1<=k)(h2:k<=10):Rn F X 19 0 [bD k] (·=foD k):=by
 refine aT1 h1 h2 (P:=fun k=>Rn F X 19 0 [bD k] (·=foD k)) ⟨?_,?_,?_,?_,?_,?_,?_,?_,?_,?_⟩
 ·exact wr Y<|wg 11 Y<|w7<|wt Y Y
 ·exact wr Y<|wg 11 Y<|w7<|wt Y Y
 ·exact wr Y<|wg 11 Y<|w7<|wt Y Y
 ·exact wr Y<|wg 16 Y<|w7<|wt Y Y
 ·exact wr Y<|wg 17 Y<|w7<|wt Y Y
 ·exact wr Y<|wg 7 Y<|w7<|wt Y Y
 ·exact wr Y<|wg 15 Y<|w7<|wt Y Y
 ·exact wr Y<|wg 18 Y<|w7<|wt Y Y
 ·exact wr Y<|wg 10 Y<|w7<|wt Y Y
 ·exact wr Y<|wg 19 Y<|w7<|wt Y Y
end
end Go.Proofs.YthicpeihkkokmaaGreatDoor
