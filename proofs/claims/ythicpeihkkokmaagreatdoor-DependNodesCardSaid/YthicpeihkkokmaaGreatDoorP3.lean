/- What these functions answer. -/
import Derived.Test.YthicpeihkkokmaaGreatDoorP2
set_option linter.unusedVariables false
set_option linter.unusedSimpArgs false
set_option maxHeartbeats 4000000
set_option maxRecDepth 100000
namespace Go.Fl
open Go.Ex
structure vc where
 flags:UInt8
 links:yy
 parts:List Pt
def vc.d(p:vc):kG:=[bD p.flags.toNat,.sl (bV p.links),.sl (p.parts.map Pt.d)]
structure jm (flags:Nat) (ar:rQ) (i:Nat) (c:Cm):Prop where
 name:c.name=[(97+i).toUInt8]
 rest:∃ints tables al,1<=ints/\ints<=3/\tables<=1/\ar[i]? =some al/\
  c.vars=(List.range ints).map (fun k=>(⟨nm 120 k,1,k⟩:Vr))++(⟨nm 98 0,2,0⟩:Vr)::(List.range tables).map (fun k=>(⟨nm 116 k,3,0⟩:Vr))/\
  1<=c.aT.length/\c.aT.length<=2/\(∃l∈c.aT,l.length=al.length)/\
  ∀l∈c.aT,1<=l.length/\l.length<=al.length/\∀k h,l[k]? =some h->sh ints tables flags i ar al k h
structure gZ (ar:rQ) (f:dg):Prop where
 name:f.name=[102,108,101,101,116,49]
 flags:f.flags.length<=2/\∀k x,f.flags[k]? =some x->x.name=nm 102 k
 links:∃ks:List (Nat×Nat),f.links=ks.map (fun p=>(⟨[(97+p.1/ar.length).toUInt8],[(97+p.1%ar.length).toUInt8],p.2⟩:Lk))/\ks.Pairwise (fun p q=>p.1<q.1)/\∀p∈ks,p.1<ar.length*ar.length/\1<=p.2/\p.2<=3
 n:f.comps.length=ar.length/\1<=ar.length/\ar.length<=3
 jC:∀l∈ar,1<=l.length/\l.length<=3/\∀n∈l,n<=2
 comps:∀i c,f.comps[i]? =some c->jm f.flags.length ar i c
end Go.Fl
namespace Go.Proofs.YthicpeihkkokmaaGreatDoor
open Go.Ex Go.RowKit Go.Fl
theorem bg8{a b c:Nat}:aL (.bin .shr c) [.int .u8 (a:Nat),jD b]=some (.int .u8 ((a/2^min b 8:Nat):Int)):=by
 show ofInt (bs (iI (b:Int) 0) none (some (.int .u8 (Int.fdiv a (.ofNat (Nat.pow 2 (Nat.min (Int.toNat (b:Int)) 8)))))))=_;rw[nZ,decide_eq_false PT];show some (D.int .u8 (Int.fdiv (a:Int) ((2^min b 8:Nat):Int)))=_;rw[<-Int.ofNat_fdiv]
theorem Lx{k n:Nat}(h:k<n)(hn:n<=3):aL (.vk 1 0 1 false) [jD k,.str [97],.str [98],.str [99]]=some (.str [(97+k).toUInt8]):=H3 PT
section
variable{X:fm}{ar:rQ}{parts:List Pt}{flags:List Fg}{links:List Lk}{Q:kG->Prop}{comps:List Cm}{i len:Nat}{p:Pt}
def sX(k:Nat):List Vr:=(List.range k).map (fun k=>(⟨nm 120 k,1,k⟩:Vr))
def bW(n k:Nat):List Vr:=sX n++(⟨nm 98 0,2,0⟩:Vr)::(List.range k).map (fun k=>(⟨nm 116 k,3,0⟩:Vr))
theorem XV(k:Nat):(sX k).map Vr.r++[[.str (nm 120 k),iD 1,iD k]]=(sX (k+1)).map Vr.r:=by simp[sX,List.range_succ,Vr.r]
theorem XX(n:Nat):(sX n).map Vr.r++[[.str (nm 98 0),iD 2,iD 0]]=(bW n 0).map Vr.r:=by simp[bW,Vr.r]
theorem XW(n k:Nat):(bW n k).map Vr.r++[[.str (nm 116 k),iD 3,iD 0]]=(bW n (k+1)).map Vr.r:=by simp[bW,List.range_succ,Vr.r]
theorem Wr(k:Nat):((sX k).map Vr.r).length=k:=by simp[sX]
theorem Ws(n k:Nat):((bW n k).map Vr.r).length=n+1+k:=by simp[bW,sX];omega
theorem F5(l:List Cd)(k:Nat):(l.map Cd.d).take k=(l.take k).map Cd.d:=by rw[List.map_take]
theorem Aw(comps:List Cm)(c:Cm):comps.map Cm.r++[Cm.r c]=(comps++[c]).map Cm.r:=P6
abbrev cD(ar:rQ)(i:Nat)(parts:List Pt)(len:Nat)(Rr:gj)(nl k:Nat)(flags:List Fg)(links:List Lk)(comps:List Cm)(p:Pt)(vars:List Vr):kG:=
 [.sl (ey ar),jD i,.sl (parts.map Pt.d),jD len,.sl Rr,jD nl,jD k,.sl (flags.map Fg.d),.sl (links.map Lk.d),.sl (comps.map Cm.r),bD p.ints.toNat,bD p.tables.toNat,.sl (p.hs.map Cd.d),.sl (p.second.map Cd.d),.str [(97+i).toUInt8],.sl (vars.map Vr.r)]
abbrev eD(ar:rQ)(parts:List Pt)(len i:Nat)(flags:List Fg)(links:List Lk)(comps:List Cm):kG:=
 [.sl (ey ar),.sl (parts.map Pt.d),jD len,jD i,.sl (flags.map Fg.d),.sl (links.map Lk.d),.sl (comps.map Cm.r)]
theorem JN{α:Type}{l:List α}{a:α}{i:Nat}{R:Nat->α->Prop}(hi:l.length=i)(h:∀i c,l[i]? =some c->R i c)(ha:R i a):∀i c,(l++[a])[i]? =some c->R i c:=by
 intro k c hk;rcases Nat.lt_or_ge k l.length with bk|iL
 ·rw[xw bk] at hk;exact h k c hk
 ·rw[xq iL] at hk;have h0:k - l.length=0:=by
   rcases xI (k - l.length) with h|h
   ·exact h
   ·rw[List.getElem?_eq_none Qo] at hk;cases hk
  rw[h0] at hk;cases hk;obtain rfl:k=i:=PT
  exact ha
theorem jm.one{nf i ints tables:Nat}{ar:rQ}{al:uo}{df:List Hn}(i1:1<=ints)(i3:ints<=3)(t1:tables<=1)(aQ:ar[i]? =some al)(fk:∀k h,df[k]? =some h->sh ints tables nf i ar al k h)(h1:df.length=al.length)(h2:1<=df.length):
 jm nf ar i ⟨[(97+i).toUInt8],bW ints tables,[df]⟩:=
 ⟨rfl,ints,tables,al,i1,i3,t1,aQ,rfl,xk 1,by show 1<=2;omega,⟨df,List.mem_singleton_self _,h1⟩,fun l hl=>by rw[xy] at hl;subst hl;exact⟨h2,Nat.le_of_eq h1,fk⟩⟩
theorem jm.two{nf i ints tables:Nat}{ar:rQ}{al:uo}{df cL:List Hn}(i1:1<=ints)(i3:ints<=3)(t1:tables<=1)(aQ:ar[i]? =some al)(fk:∀k h,df[k]? =some h->sh ints tables nf i ar al k h)(gJ:∀k h,cL[k]? =some h->sh ints tables nf i ar al k h)
 (h1:df.length<=al.length) (h2:1<=df.length) (h3:cL.length<=al.length) (h4:1<=cL.length) (h5:df.length=al.length\/cL.length=al.length):jm nf ar i ⟨[(97+i).toUInt8],bW ints tables,[df,cL]⟩:=
 ⟨rfl,ints,tables,al,i1,i3,t1,aQ,rfl,by show 1<=2;omega,xk 2,by
  rcases h5 with h|h
  ·exact⟨df,P6,h⟩
  ·exact⟨cL,P6,h⟩,fun l hl=>by
  rcases xG.1 hl with rfl|hl
  ·exact⟨h2,h1,fk⟩
  ·rw[xy] at hl;subst hl;exact⟨h4,h3,gJ⟩⟩
theorem az{rows:gj}{n:Nat}(h:rows.length=n):aL .uT [.sl rows]=some (jD n):=by rw[<-h];rfl
theorem b9(bE:(flags.map Fg.d).length<=2)(hi:i<(ey ar).length)(gX:(ey ar).length<=3)(o7:comps.length=i)(cS:∀l∈ar,1<=l.length/\l.length<=3/\∀n∈l,n<=2){al:uo}(aQ:ar[i]? =some al)(aD:al.length=min 3 (max 1 (max p.hs.length p.second.length)))
 (H:∀c:Cm,jm (flags.map Fg.d).length ar i c->Rn F X 11 7 (eD ar parts len (i+1) flags links (comps++[c])) Q):
 ∀(f k:Nat),k+f=p.tables.toNat%2->Rn F X 11 9 (cD ar i parts len (kH 116 (p.tables.toNat%2)) (p.tables.toNat%2) k flags links comps p (bW (1+p.ints.toNat%3) k)) Q:=by
 have o4:=Ws (1+p.ints.toNat%3);intro f
 induction f with
 |zero=>
  intro k hk;have vB:(comps.map Cm.r).length=comps.length:=xm _;have hA:(p.hs.map Cd.d).length=p.hs.length:=xm _;have hB:(p.second.map Cd.d).length=p.second.length:=xm _;obtain rfl:k=p.tables.toNat%2:=PT
  have t1:p.tables.toNat%2<=1:=PT
  have i1:1<=1+p.ints.toNat%3:=PT
  have i3:1+p.ints.toNat%3<=3:=PT
  refine wr rfl<|wn rfl ai<|wo rfl (mG (b:=3) .u8 PT)<|wo rfl oC<|wo rfl (bm (a:=1) PT)<|wo rfl (mG (b:=2) .u8 PT)<|mf<|wo rfl oC<|wo rfl bf<|wo rfl bf<|wl rfl (yJ _ 3) rfl<|xR<|wo rfl (nw PT)<|wo rfl bf ?_;rw[F5];rcases xI p.hs.length with h0|h0
  ·have e1:(p.hs.take (min (p.hs.map Cd.d).length 3))=[]:=by rw[xE.1 h0];rfl
   rw[e1];refine wg 3 rfl<|wx rfl (yu (cs:=[⟨1,[]⟩]) (bs:=[]) (params:=0) (left:=0) i1 i3 t1 bE hi gX cS aQ (by show 1<=_;omega)) fun|_,⟨df,params,bs,left,rfl,gg,fk⟩=>⟨rfl,?_⟩
   refine kF<|wg 3 rfl<|wo rfl bf ?_;have l1:df.length=max 1 (min 3 p.hs.length):=by rw[gg];show 1=_;omega
   rcases xI p.second.length with g0|g0
   ·refine Wp.dF rfl cg (by rw[hB];omega)<|wg 2 rfl<|mR<|wo rfl oP<|wo rfl oA ?_
    (have:=H ⟨[(97+i).toUInt8],bW (1+p.ints.toNat%3) (p.tables.toNat%2),[df]⟩ (jm.one i1 i3 t1 aQ fk PT PT);unfold eD at this;rw[<-Aw] at this;exact Wp.jump rfl this)
   ·refine Wp.dO rfl cg (by rw[hB];omega)<|wo rfl bf<|mR<|wl rfl (yJ _ 3) rfl<|wo rfl (nw PT)<|wg 1 rfl ?_;rw[F5];refine wx rfl (yu i1 i3 t1 bE hi gX cS aQ (by rw[xz];omega)) fun|_,⟨cL,PF,Vh,Eg,rfl,aW,gJ⟩=>⟨rfl,?_⟩
    refine wg 2 rfl<|vd<|wo rfl (gD rfl rfl P6 P6)<|wg 2 rfl<|wo rfl oP<|wo rfl oA ?_;dsimp only [eA,Ex.r,St.r,List.cons_append,List.nil_append,lh,lg,k9,kZ,kY];refine Wp.jump rfl ?_;rw[xz] at aW;have:=H ⟨[(97+i).toUInt8],bW (1+p.ints.toNat%3) (p.tables.toNat%2),[df,cL]⟩ (jm.two i1 i3 t1 aQ fk gJ PT PT PT PT PT);unfold eD at this;rw[<-Aw] at this;exact this
  ·refine Wp.dF rfl ay (by rw[xm,xz];omega)<|wg 1 rfl<|wx rfl (yu (bs:=[]) (params:=0) (left:=0) i1 i3 t1 bE hi gX cS aQ (by rw[xz];omega)) fun|_,⟨df,params,bs,left,rfl,gg,fk⟩=>⟨rfl,?_⟩
   refine wg 2 rfl<|kF<|wg 1 rfl<|wo rfl bf ?_;rw[xz] at gg;have l1:df.length=max 1 (min 3 p.hs.length):=PT
   rcases xI p.second.length with g0|g0
   ·refine Wp.dF rfl cg (by rw[hB];omega)<|wg 2 rfl<|wo rfl oP<|mR<|wo rfl oA ?_
    (have:=H ⟨[(97+i).toUInt8],bW (1+p.ints.toNat%3) (p.tables.toNat%2),[df]⟩ (jm.one i1 i3 t1 aQ fk PT PT);unfold eD at this;rw[<-Aw] at this;exact Wp.jump rfl this)
   ·refine Wp.dO rfl cg (by rw[hB];omega)<|wo rfl bf<|wl rfl (yJ _ 3) rfl<|mR<|wo rfl (nw PT)<|wg 1 rfl ?_;rw[F5];refine wx rfl (yu i1 i3 t1 bE hi gX cS aQ (by rw[xz];omega)) fun|_,⟨cL,PF,Vh,Eg,rfl,aW,gJ⟩=>⟨rfl,?_⟩
    refine wg 2 rfl<|wo rfl (gD rfl rfl P6 P6)<|vd<|wg 2 rfl<|wo rfl oP<|wo rfl oA<|Wp.jump rfl ?_;rw[xz] at aW;have:=H ⟨[(97+i).toUInt8],bW (1+p.ints.toNat%3) (p.tables.toNat%2),[df,cL]⟩ (jm.two i1 i3 t1 aQ fk gJ PT PT PT PT PT);unfold eD at this;rw[<-Aw] at this;exact this
 |succ f ih=>
  intro k hk;refine wr rfl<|wy rfl ai<|wo rfl (aA (nY PT) rfl)<|wg 3 rfl<|wo rfl (gD rfl rfl (by rw[o4];omega) (by rw[o4];omega))<|mf<|wo rfl oA ?_
  (have:=ih (k+1) PT;unfold cD at this;rw[<-XW] at this;exact Wp.jump rfl this)
theorem b8(H:Rn F X 11 9 (cD ar i parts len (kH 116 (p.tables.toNat%2)) (p.tables.toNat%2) 0 flags links comps p (bW (1+p.ints.toNat%3) 0)) Q):
 ∀(f k:Nat),k+f=1+p.ints.toNat%3->Rn F X 11 8 (cD ar i parts len (kH 120 (1+p.ints.toNat%3)) (1+p.ints.toNat%3) k flags links comps p (sX k)) Q:=by
 have hx:=Wr;intro f
 induction f with
 |zero=>
  intro k hk;obtain rfl:k=1+p.ints.toNat%3:=PT
  have:=H;unfold cD at this;rw[<-XX] at this;exact wr rfl<|wn rfl ai<|wg 2 rfl<|wo rfl (gD rfl rfl (by rw[hx];omega) (by rw[hx];omega))<|wo rfl (mG (b:=2) .u8 PT)<|wo rfl oC<|mf<|wl rfl (mA (c:=116) (n:=p.tables.toNat%2) PT PT) rfl<|wo rfl (az (yP _ _))<|wj this
 |succ f ih=>
  intro k hk;refine wr rfl<|wy rfl ai<|wo rfl (aA (nY PT) rfl)<|wg 3 rfl<|wo rfl (gD rfl rfl (by rw[hx];omega) (by rw[hx];omega))<|mf<|wo rfl oA ?_
  (have:=ih (k+1) PT;unfold cD at this;rw[<-XV] at this;exact Wp.jump rfl this)
theorem b6(bE:(flags.map Fg.d).length<=2)(hi:i<(ey ar).length)(gX:(ey ar).length<=3)(o7:comps.length=i)(cS:∀l∈ar,1<=l.length/\l.length<=3/\∀n∈l,n<=2){al:uo}(aQ:ar[i]? =some al)(aD:al.length=min 3 (max 1 (max p.hs.length p.second.length)))
 (H:∀c:Cm,jm (flags.map Fg.d).length ar i c->Rn F X 11 7 (eD ar parts len (i+1) flags links (comps++[c])) Q):
 ∀(f k:Nat),k+f=p.tables.toNat%2->Rn F X 11 6 (cD ar i parts len (kH 116 (p.tables.toNat%2)) (p.tables.toNat%2) k flags links comps p (bW (1+p.ints.toNat%3) k)) Q:=by
 have o4:=Ws (1+p.ints.toNat%3);intro f
 induction f with
 |zero=>
  intro k hk;have vB:(comps.map Cm.r).length=comps.length:=xm _;have hA:(p.hs.map Cd.d).length=p.hs.length:=xm _;have hB:(p.second.map Cd.d).length=p.second.length:=xm _;obtain rfl:k=p.tables.toNat%2:=PT
  have t1:p.tables.toNat%2<=1:=PT
  have i1:1<=1+p.ints.toNat%3:=PT
  have i3:1+p.ints.toNat%3<=3:=PT
  refine wr rfl<|wn rfl ai<|wo rfl (mG (b:=3) .u8 PT)<|wo rfl oC<|wo rfl (bm (a:=1) PT)<|wo rfl (mG (b:=2) .u8 PT)<|mf<|wo rfl oC<|wo rfl bf<|wo rfl bf<|wl rfl (yJ _ 3) rfl<|xR<|wo rfl (nw PT)<|wo rfl bf ?_;rw[F5];rcases xI p.hs.length with h0|h0
  ·have e1:(p.hs.take (min (p.hs.map Cd.d).length 3))=[]:=by rw[xE.1 h0];rfl
   rw[e1];refine wg 3 rfl<|wx rfl (yu (cs:=[⟨1,[]⟩]) (bs:=[]) (params:=0) (left:=0) i1 i3 t1 bE hi gX cS aQ (by show 1<=_;omega)) fun|_,⟨df,params,bs,left,rfl,gg,fk⟩=>⟨rfl,?_⟩
   refine kF<|wg 3 rfl<|wo rfl bf ?_;have l1:df.length=max 1 (min 3 p.hs.length):=by rw[gg];show 1=_;omega
   rcases xI p.second.length with g0|g0
   ·refine Wp.dF rfl cg (by rw[hB];omega)<|wg 2 rfl<|mR<|wo rfl oP<|wo rfl oA ?_
    (have:=H ⟨[(97+i).toUInt8],bW (1+p.ints.toNat%3) (p.tables.toNat%2),[df]⟩ (jm.one i1 i3 t1 aQ fk PT PT);unfold eD at this;rw[<-Aw] at this;exact Wp.jump rfl this)
   ·refine Wp.dO rfl cg (by rw[hB];omega)<|wo rfl bf<|mR<|wl rfl (yJ _ 3) rfl<|wo rfl (nw PT)<|wg 1 rfl ?_;rw[F5];refine wx rfl (yu i1 i3 t1 bE hi gX cS aQ (by rw[xz];omega)) fun|_,⟨cL,PF,Vh,Eg,rfl,aW,gJ⟩=>⟨rfl,?_⟩
    refine wg 2 rfl<|vd<|wo rfl (gD rfl rfl P6 P6)<|wg 2 rfl<|wo rfl oP<|wo rfl oA ?_;dsimp only [eA,Ex.r,St.r,List.cons_append,List.nil_append,lh,lg,k9,kZ,kY];refine Wp.jump rfl ?_;rw[xz] at aW;have:=H ⟨[(97+i).toUInt8],bW (1+p.ints.toNat%3) (p.tables.toNat%2),[df,cL]⟩ (jm.two i1 i3 t1 aQ fk gJ PT PT PT PT PT);unfold eD at this;rw[<-Aw] at this;exact this
  ·refine Wp.dF rfl ay (by rw[xm,xz];omega)<|wg 1 rfl<|wx rfl (yu (bs:=[]) (params:=0) (left:=0) i1 i3 t1 bE hi gX cS aQ (by rw[xz];omega)) fun|_,⟨df,params,bs,left,rfl,gg,fk⟩=>⟨rfl,?_⟩
   refine wg 2 rfl<|kF<|wg 1 rfl<|wo rfl bf ?_;rw[xz] at gg;have l1:df.length=max 1 (min 3 p.hs.length):=PT
   rcases xI p.second.length with g0|g0
   ·refine Wp.dF rfl cg (by rw[hB];omega)<|wg 2 rfl<|wo rfl oP<|mR<|wo rfl oA ?_
    (have:=H ⟨[(97+i).toUInt8],bW (1+p.ints.toNat%3) (p.tables.toNat%2),[df]⟩ (jm.one i1 i3 t1 aQ fk PT PT);unfold eD at this;rw[<-Aw] at this;exact Wp.jump rfl this)
   ·refine Wp.dO rfl cg (by rw[hB];omega)<|wo rfl bf<|wl rfl (yJ _ 3) rfl<|mR<|wo rfl (nw PT)<|wg 1 rfl ?_;rw[F5];refine wx rfl (yu i1 i3 t1 bE hi gX cS aQ (by rw[xz];omega)) fun|_,⟨cL,PF,Vh,Eg,rfl,aW,gJ⟩=>⟨rfl,?_⟩
    refine wg 2 rfl<|wo rfl (gD rfl rfl P6 P6)<|vd<|wg 2 rfl<|wo rfl oP<|wo rfl oA<|Wp.jump rfl ?_;rw[xz] at aW;have:=H ⟨[(97+i).toUInt8],bW (1+p.ints.toNat%3) (p.tables.toNat%2),[df,cL]⟩ (jm.two i1 i3 t1 aQ fk gJ PT PT PT PT PT);unfold eD at this;rw[<-Aw] at this;exact this
 |succ f ih=>
  intro k hk;refine wr rfl<|wy rfl ai<|wo rfl (aA (nY PT) rfl)<|wg 3 rfl<|wo rfl (gD rfl rfl (by rw[o4];omega) (by rw[o4];omega))<|mf<|wo rfl oA ?_
  (have:=ih (k+1) PT;unfold cD at this;rw[<-XW] at this;exact Wp.jump rfl this)
theorem b5(H:Rn F X 11 6 (cD ar i parts len (kH 116 (p.tables.toNat%2)) (p.tables.toNat%2) 0 flags links comps p (bW (1+p.ints.toNat%3) 0)) Q):
 ∀(f k:Nat),k+f=1+p.ints.toNat%3->Rn F X 11 5 (cD ar i parts len (kH 120 (1+p.ints.toNat%3)) (1+p.ints.toNat%3) k flags links comps p (sX k)) Q:=by
 have hx:=Wr;intro f
 induction f with
 |zero=>
  intro k hk;obtain rfl:k=1+p.ints.toNat%3:=PT
  have:=H;unfold cD at this;rw[<-XX] at this;exact wr rfl<|wn rfl ai<|wg 2 rfl<|wo rfl (gD rfl rfl (by rw[hx];omega) (by rw[hx];omega))<|wo rfl (mG (b:=2) .u8 PT)<|wo rfl oC<|mf<|wl rfl (mA (c:=116) (n:=p.tables.toNat%2) PT PT) rfl<|wo rfl (az (yP _ _))<|wj this
 |succ f ih=>
  intro k hk;refine wr rfl<|wy rfl ai<|wo rfl (aA (nY PT) rfl)<|wg 3 rfl<|wo rfl (gD rfl rfl (by rw[hx];omega) (by rw[hx];omega))<|mf<|wo rfl oA ?_
  (have:=ih (k+1) PT;unfold cD at this;rw[<-XV] at this;exact Wp.jump rfl this)
theorem bd2(bE:(flags.map Fg.d).length<=2)(hn:(parts.map Pt.d).length=(ey ar).length)(gX:(ey ar).length<=3)(o7:comps.length=i)(cS:∀l∈ar,1<=l.length/\l.length<=3/\∀n∈l,n<=2)
 (aQ:∀(i:Nat) (p:Pt),parts[i]? =some p->∃al,ar[i]? =some al/\al.length=min 3 (max 1 (max p.hs.length p.second.length))) (hi:i<(parts.map Pt.d).length)
 (H:∀c:Cm,jm (flags.map Fg.d).length ar i c->Rn F X 11 7 (eD ar parts (parts.map Pt.d).length (i+1) flags links (comps++[c])) Q):Rn F X 11 7 (eD ar parts (parts.map Pt.d).length i flags links comps) Q:=by
 obtain⟨p,hp,IR⟩:=BL hi;obtain⟨al,ha,IV⟩:=aQ i p hp;have:=b8 (ar:=ar) (i:=i) (parts:=parts) (len:=(parts.map Pt.d).length) (flags:=flags) (links:=links) (comps:=comps) (p:=p) (Q:=Q) (b9 bE PT gX o7 cS ha IV H (p.tables.toNat%2) 0 PT) (1+p.ints.toNat%3) 0 PT;exact wr rfl<|wy rfl ai<|wo rfl (aA IR rfl)<|wg 1 rfl<|mg<|wy rfl (qL (n:=3))<|wo rfl (Lx (n:=3) PT PT)<|wo rfl (mG (b:=3) .u8 PT)<|wo rfl oC<|wo rfl (bm (a:=1) PT)<|oT<|wl rfl (mA (c:=120) (n:=1+p.ints.toNat%3) PT PT) rfl<|wo rfl (az (yP _ _))<|wj this
theorem bd3(bE:(flags.map Fg.d).length<=2)(hn:(parts.map Pt.d).length=(ey ar).length)(gX:(ey ar).length<=3)(o7:comps.length=i)(cS:∀l∈ar,1<=l.length/\l.length<=3/\∀n∈l,n<=2)
 (aQ:∀(i:Nat) (p:Pt),parts[i]? =some p->∃al,ar[i]? =some al/\al.length=min 3 (max 1 (max p.hs.length p.second.length))) (hi:i<(parts.map Pt.d).length)
 (H:∀c:Cm,jm (flags.map Fg.d).length ar i c->Rn F X 11 7 (eD ar parts (parts.map Pt.d).length (i+1) flags links (comps++[c])) Q):Rn F X 11 4 (eD ar parts (parts.map Pt.d).length i flags links comps) Q:=by
 obtain⟨p,hp,IR⟩:=BL hi;obtain⟨al,ha,IV⟩:=aQ i p hp;have:=b5 (ar:=ar) (i:=i) (parts:=parts) (len:=(parts.map Pt.d).length) (flags:=flags) (links:=links) (comps:=comps) (p:=p) (Q:=Q) (b6 bE PT gX o7 cS ha IV H (p.tables.toNat%2) 0 PT) (1+p.ints.toNat%3) 0 PT;exact wr rfl<|wy rfl ai<|wo rfl (aA IR rfl)<|wg 1 rfl<|mg<|wy rfl (qL (n:=3))<|wo rfl (Lx (n:=3) PT PT)<|wo rfl (mG (b:=3) .u8 PT)<|wo rfl oC<|wo rfl (bm (a:=1) PT)<|oT<|wl rfl (mA (c:=120) (n:=1+p.ints.toNat%3) PT PT) rfl<|wo rfl (az (yP _ _))<|wj this
def at7(flags:List Fg)(links:List Lk)(ar:rQ)(o:kG):Prop:=∃cs:List Cm,o=[.str [102,108,101,101,116,49],.sl (flags.map Fg.d),.sl (links.map Lk.d),.sl (cs.map Cm.r)]/\cs.length=ar.length/\∀i c,cs[i]? =some c->jm flags.length ar i c
theorem b7(bE:(flags.map Fg.d).length<=2)(hn:(parts.map Pt.d).length=(ey ar).length)(gX:(ey ar).length<=3)(cS:∀l∈ar,1<=l.length/\l.length<=3/\∀n∈l,n<=2)
 (aQ:∀(i:Nat) (p:Pt),parts[i]? =some p->∃al,ar[i]? =some al/\al.length=min 3 (max 1 (max p.hs.length p.second.length))):
 ∀(f i:Nat),i+f=(parts.map Pt.d).length->∀(comps:List Cm),comps.length=i->(∀i c,comps[i]? =some c->jm flags.length ar i c)->Rn F X 11 7 (eD ar parts (parts.map Pt.d).length i flags links comps) (at7 flags links ar):=by
 intro f
 induction f with
 |zero=>
  intro i hi comps hc hk;exact wr rfl<|wn rfl ai<|wt rfl ⟨comps,rfl,by rw[<-AZ];omega,hk⟩
 |succ f ih=>
  intro i hi comps hc hk;refine bd2 bE hn gX hc cS aQ PT (fun c ho=>ih (i+1) PT (comps++[c]) Qo (JN hc hk ?_));rw[xm] at ho;exact ho
theorem b4(bE:(flags.map Fg.d).length<=2)(hn:(parts.map Pt.d).length=(ey ar).length)(gX:(ey ar).length<=3)(cy0:1<=(ey ar).length)(cS:∀l∈ar,1<=l.length/\l.length<=3/\∀n∈l,n<=2)
 (aQ:∀(i:Nat) (p:Pt),parts[i]? =some p->∃al,ar[i]? =some al/\al.length=min 3 (max 1 (max p.hs.length p.second.length))):Rn F X 11 4 (eD ar parts (parts.map Pt.d).length 0 flags links []) (at7 flags links ar):=
 bd3 bE hn gX rfl cS aQ PT (fun c ho=>b7 bE hn gX cS aQ ((parts.map Pt.d).length - 1) 1 PT [c] rfl (JN (l:=[]) rfl (fun i c h=>by simp at h) (by rw[xm] at ho;exact ho)))
theorem aT0(ar:rQ)(l:uo):ey ar++[[.sl (lO l)]]=ey (ar++[l]):=by simp[ey,lO]
def ag9(parts:List Pt)(ar:rQ)(n:Nat):Prop:=ar.length=n/\(∀l∈ar,1<=l.length/\l.length<=3/\∀n∈l,n<=2)/\∀(i:Nat) (p:Pt),i<n->parts[i]? =some p->∃al,ar[i]? =some al/\al.length=min 3 (max 1 (max p.hs.length p.second.length))
theorem b3(bH:parts.length<=3)(H:∀ar,ag9 parts ar parts.length->Rn F X 11 4 (eD ar parts (parts.map Pt.d).length 0 flags links []) Q):∀(f i:Nat),i+f=parts.length->∀ar,ag9 parts ar i->Rn F X 11 3 [.sl (parts.map Pt.d),.sl (ey ar),jD (parts.map Pt.d).length,jD i,.sl (flags.map Fg.d),.sl (links.map Lk.d)] Q:=by
 have iZ:(parts.map Pt.d).length=parts.length:=xm _;intro f
 induction f with
 |zero=>
  intro i hi ar ha;obtain rfl:i=parts.length:=PT
  exact wr rfl<|wn rfl ai<|wo rfl bf<|wj (H ar ha)
 |succ f ih=>
  intro i hi ar ha;obtain⟨p,hp,IR⟩:=BL (f:=Pt.d) (l:=parts) (i:=i) PT;obtain⟨nS,CS,UR⟩:=ha;refine wr rfl<|wy rfl ai<|wo rfl (aA IR rfl)<|wg 1 rfl<|dC<|wg 1 rfl<|wx rfl (aS8 p) fun|_,⟨al,rfl,aQ,gf⟩=>⟨rfl,?_⟩
  refine wg 2 rfl<|wo rfl (gD rfl rfl (by rw[AZ];omega) (by rw[AZ];omega))<|wo rfl oA<|ei<|Wp.jump rfl ?_;have:=ih (i+1) PT (ar++[al]) ⟨by rw[xa,nS];rfl,fun l h=>by
   rcases xF.1 h with h|h
   ·exact CS l h
   ·rw[xy] at h;subst h;exact⟨PT,PT,gf⟩,fun j q hj hq=>by
   rcases Nat.lt_or_ge j i with bk|iL
   ·obtain⟨NM,h1,h2⟩:=UR j q bk hq;exact⟨NM,by rw[xw PT];exact h1,h2⟩
   ·obtain rfl:j=i:=PT
    rw[hp] at hq;cases hq;exact⟨al,by rw[xq PT,nS,Nat.sub_self];rfl,aQ⟩⟩
  rw[<-aT0] at this;exact this
def z9(n:Nat)(ks:List (Nat×Nat)):List Lk:=ks.map (fun p=>(⟨[(97+p.1/n).toUInt8],[(97+p.1%n).toUInt8],p.2⟩:Lk))
theorem bC2(n k t:Nat)(ks:List (Nat×Nat)):(z9 n ks).map Lk.d++[[.str [(97+k/n).toUInt8],.str [(97+k%n).toUInt8],iD t]]=(z9 n (ks++[(k,t)])).map Lk.d:=by simp[z9,Lk.d]
def wA(n k:Nat)(ks:List (Nat×Nat)):Prop:=ks.length<=k/\ks.Pairwise (fun p q=>p.1<q.1)/\∀p∈ks,p.1<k/\p.1<n*n/\1<=p.2/\p.2<=3
theorem wA.mono{n k:Nat}{ks:List (Nat×Nat)}(h:wA n k ks):wA n (k+1) ks:=⟨by have:=h.1;omega,h.2.1,fun p hp=>by have:=h.2.2 p hp;exact⟨PT,this.2⟩⟩
theorem wA.snoc{n k t:Nat}{ks:List (Nat×Nat)}(h:wA n k ks)(hk:k<n*n)(h1:1<=t)(h3:t<=3):wA n (k+1) (ks++[(k,t)]):=
 ⟨by have:=h.1;rw[xa];show ks.length+1<=_;omega,List.pairwise_append.2 ⟨h.2.1,List.pairwise_singleton _ _,fun a ha b hb=>by rw[xy] at hb;subst hb;exact(h.2.2 a ha).1⟩,fun p hp=>by
  rcases xF.1 hp with hp|hp
  ·have:=h.2.2 p hp;exact⟨PT,this.2⟩
  ·rw[xy] at hp;subst hp;exact⟨by show k<k+1;omega,hk,h1,h3⟩⟩
theorem aS0{L:yy}{k:Nat}(h:k<(bV L).length):∃b:UInt8,(bV L)[k]? =some [bD b.toNat]:=(BL h).imp fun _ h=>h.2
theorem b2{n:Nat}{L:yy}{fl:Nat}{C:List Pt}(nQ:1<=n)(yc:n<=3)(hn:(parts.map Pt.d).length=n)
 (H:∀ks,wA n (n*n) ks->Rn F X 11 3 [.sl (parts.map Pt.d),.sl (ey []),jD (parts.map Pt.d).length,jD 0,.sl (flags.map Fg.d),.sl ((z9 n ks).map Lk.d)] Q):
 ∀(f k:Nat),k+f=n*n->∀ks,wA n k ks->Rn F X 11 2 [jD n,.sl (parts.map Pt.d),jD k,bD fl,.sl (bV L),.sl (C.map Pt.d),.sl (flags.map Fg.d),.sl ((z9 n ks).map Lk.d)] Q:=by
 have hn9:n*n<=9:=Nat.mul_le_mul yc yc;have IT:∀ks,((z9 n ks).map Lk.d).length=ks.length:=fun ks=>by simp[z9]
 intro f
 induction f with
 |zero=>
  intro k hk ks dW;obtain rfl:k=n*n:=PT
  refine wr rfl<|wo rfl bf<|Wp.aG rfl ai (fun h=> ?_) (fun h=> ?_)
  ·exact wo rfl (uA PT)<|wn rfl ai<|wo rfl bf<|wj (H ks dW)
  ·exact wo rfl bf<|wj (H ks dW)
 |succ f ih=>
  intro k hk ks dW;have hd:k/n<n:=Nat.div_lt_of_lt_mul PT;have hm:k%n<n:=Nat.mod_lt _ nQ;have FC:=dW.1;have up:wA n (n*n) ks:=⟨PT,dW.2.1,fun p hp=>by have:=dW.2.2 p hp;exact⟨PT,this.2⟩⟩;refine wr rfl<|wo rfl bf<|Wp.aG rfl ai (fun h=> ?_) (fun h=> ?_)
  ·refine wo rfl (uA PT)<|wy rfl ai ?_
   (obtain⟨b,Aq⟩:=aS0 (k:=k) (L:=L) PT;refine Wp.op rfl (aA Aq rfl) rfl ?_)
   refine wg 1 rfl<|mg<|wo rfl (mG (b:=4) .u8 PT)<|Wp.aG rfl cg (fun h=> ?_) (fun h=> ?_)
   ·refine wo rfl (wb nQ PT)<|wy rfl (qL (n:=3))<|wo rfl (Lx (n:=n) PT PT)<|wo rfl (mG (b:=n) .i64 nQ)<|oT<|wy rfl (qL (n:=3))<|wo rfl (Lx (n:=n) PT PT)<|wo rfl (aA Aq rfl)<|wg 1 rfl<|wo rfl (mG (b:=4) .u8 PT)<|mf<|wo rfl oC<|wg 2 rfl<|wo rfl (gD rfl rfl (by rw[IT];omega) (by rw[IT];omega))<|wo rfl oA<|xR ?_
    (have:=ih (k+1) PT (ks++[(k,b.toNat%4)]) (dW.snoc PT PT PT);rw[<-bC2] at this;exact Wp.jump rfl this)
   ·exact wo rfl oA<|Wp.jump rfl (ih (k+1) PT ks dW.mono)
  ·exact wo rfl bf<|wj (H ks up)
theorem an5(flags:List Fg)(n:aq)(b:Bool):flags.map Fg.d++[[.str n,.bool b]]=(flags++[(⟨n,b⟩:Fg)]).map Fg.d:=by simp[Fg.d]
theorem b1{n:Nat}{L:yy}{fl:Nat}{C:List Pt}(CK:fl%3<=2)
 (H:∀flags:List Fg,flags.length=fl%3->(∀k x,flags[k]? =some x->x.name=nm 102 k)->Rn F X 11 2 [jD n,.sl (parts.map Pt.d),jD 0,bD fl,.sl (bV L),.sl (C.map Pt.d),.sl (flags.map Fg.d),.sl []] Q):
 ∀(f k:Nat),k+f=fl%3->∀flags:List Fg,flags.length=k->(∀k x,flags[k]? =some x->x.name=nm 102 k)->Rn F X 11 1 [jD n,.sl (parts.map Pt.d),.sl (kH 102 (fl%3)),jD (fl%3),jD k,bD fl,.sl (bV L),.sl (C.map Pt.d),.sl (flags.map Fg.d)] Q:=by
 intro f
 induction f with
 |zero=>
  intro k hk flags hl hx;exact wr rfl<|wn rfl ai<|Wp.jump rfl (H flags PT hx)
 |succ f ih=>
  intro k hk flags hl hx;have UE:(flags.map Fg.d).length=flags.length:=xm _;refine wr rfl<|wy rfl ai<|wo rfl (aA (nY PT) rfl)<|wg 1 rfl<|wo rfl (bm (a:=4) PT)<|wo rfl bg8<|mS<|wo rfl (mG (b:=2) .u8 PT)<|Wp.aG rfl ay (fun h=> ?_) (fun h=> ?_)
  ·refine wg 2 rfl<|wo rfl oP<|wo rfl oA<|hZ ?_
   (have:=ih (k+1) PT (flags++[⟨nm 102 k,true⟩]) Qo (JN hl hx rfl);rw[<-an5] at this;exact Wp.jump rfl this)
  ·refine wg 2 rfl<|wo rfl oP<|wo rfl oA<|hZ ?_
   (have:=ih (k+1) PT (flags++[⟨nm 102 k,false⟩]) Qo (JN hl hx rfl);rw[<-an5] at this;exact Wp.jump rfl this)
theorem ptT(l:List Pt)(k:Nat):(l.map Pt.d).take k=(l.take k).map Pt.d:=by rw[List.map_take]
def Z3(o:kG):Prop:=∃f ar,o=dg.r f/\gZ ar f
theorem Wn{n:Nat}{L:yy}{fl:Nat}{C:List Pt}(nQ:1<=n)(yc:n<=3)(hn:parts.length=n):Rn F X 11 1 [jD n,.sl (parts.map Pt.d),.sl (kH 102 (fl%3)),jD (fl%3),jD 0,bD fl,.sl (bV L),.sl (C.map Pt.d),.sl []] Z3:=by
 have iZ:(parts.map Pt.d).length=parts.length:=xm _;refine b1 PT (fun flags hf hx=> ?_) (fl%3) 0 PT [] rfl (fun k x h=>by simp at h);have UE:(flags.map Fg.d).length=flags.length:=xm _;refine b2 nQ yc PT (fun ks dW=> ?_) (n*n) 0 PT [] ⟨xL _,.nil,fun p h=>by cases h⟩;refine b3 PT (fun ar ha=> ?_) parts.length 0 PT [] ⟨rfl,fun l h=>(by cases h),fun i p h=>PT⟩;have aQ:ar.length=n:=by rw[ha.1,hn]
 refine(b4 PT (by rw[AZ,aQ];omega) (by rw[AZ];omega) (by rw[AZ];omega) ha.2.1 (fun i p h=>ha.2.2 i p (xe.1 h).1 h)).mono ?_;rintro _ ⟨cs,rfl,hl,hc⟩;refine⟨⟨[102,108,101,101,116,49],flags,z9 n ks,cs⟩,ar,rfl,rfl,⟨by show flags.length<=2;omega,hx⟩,⟨ks,by rw[aQ];rfl,dW.2.1,fun p hp=>by rw[aQ];have:=dW.2.2 p hp;exact⟨this.2.1,this.2.2⟩⟩,⟨hl,PT,PT⟩,ha.2.1,hc⟩
theorem Pn(p:vc):Rn F X 11 0 p.d Z3:=by
 obtain⟨fl,L,C⟩:=p;have hC:(C.map Pt.d).length=C.length:=xm _;refine wr rfl<|wo rfl bf<|wl rfl (yJ _ 3) rfl<|wo rfl (nw PT)<|Wp.aG rfl ay (fun h=> ?_) (fun h=> ?_)
 ·exact wo rfl (mG (b:=3) .u8 PT)<|w7<|wo rfl oC<|wl rfl (mA (c:=102) (n:=fl.toNat%3) PT PT) rfl<|wo rfl (az (yP _ _))<|wg 1 rfl<|dC<|Wp.jump rfl (Wn (parts:=[⟨0,0,[],[]⟩]) (n:=1) PT PT rfl)
 ·refine wo rfl (mG (b:=3) .u8 PT)<|w7<|wo rfl oC<|wl rfl (mA (c:=102) (n:=fl.toNat%3) PT PT) rfl<|wo rfl (az (yP _ _)) ?_
  (dsimp only at h;have:=Wn (X:=X) (parts:=C.take (min (C.map Pt.d).length 3)) (n:=min (C.map Pt.d).length 3) (L:=L) (fl:=fl.toNat) (C:=C) PT PT (by rw[xz];omega);rw[<-ptT] at this;exact Wp.jump rfl this)
end
end Go.Proofs.YthicpeihkkokmaaGreatDoor
namespace Go.Fl
open Go.Ex
inductive jK (P:Ex->Prop):Ex->Prop
 |mk {op:Nat} {name:aq} {n:Nat} {args:List Ex} (h:P ⟨op,name,n,args⟩) (ha:∀a∈args,jK P a):jK P ⟨op,name,n,args⟩
def GN:Mm:=[[102,108,101,101,116,49],nm 102 0,nm 102 1,[97],[98],[99],nm 120 0,nm 120 1,nm 120 2,nm 98 0,nm 116 0,nm 104 0,nm 104 1,nm 104 2,nm 112 0,nm 112 1]
def jM(op:Nat):Nat:=if op=6\/op=7\/op=9\/op=10 then 1 else if 11<=op then 2 else 0
structure gV (e:Ex):Prop where
 op:∃op name n args,e=⟨op,name,n,args⟩/\1<=op/\op<=23/\args.length=jM op/\(op=1/\n<=8\/op≠1/\n=0)/\(5<=op/\op<=8/\name∈GN\/(op<5\/8<op)/\name=[])
theorem gV.of{op:Nat}{name:aq}{n:Nat}{args:List Ex}(h1:1<=op)(h2:op<=23)(h3:args.length=jM op)(h4:op=1/\n<=8\/op≠1/\n=0)(h5:5<=op/\op<=8/\name∈GN\/(op<5\/8<op)/\name=[]):gV ⟨op,name,n,args⟩:=⟨op,name,n,args,rfl,h1,h2,h3,h4,h5⟩
theorem gV.get{op:Nat}{name:aq}{n:Nat}{args:List Ex}(h:gV ⟨op,name,n,args⟩):1<=op/\op<=23/\args.length=jM op/\(op=1/\n<=8\/op≠1/\n=0)/\(5<=op/\op<=8/\name∈GN\/(op<5\/8<op)/\name=[]):=by
 obtain⟨_,_,_,_,e,h⟩:=h;cases e;exact h
theorem MA{k:Nat}(h:k<3):nm 120 k∈GN:=by
 have:k=0\/k=1\/k=2:=PT
 rcases this with rfl|rfl|rfl<;>decide
theorem SY{k:Nat}(h:k<3):nm 104 k∈GN:=by
 have:k=0\/k=1\/k=2:=PT
 rcases this with rfl|rfl|rfl<;>decide
theorem MB{k:Nat}(h:k<3):[(97+k).toUInt8]∈GN:=by
 have:k=0\/k=1\/k=2:=PT
 rcases this with rfl|rfl|rfl<;>decide
theorem an2{k:Nat}(h:k<2):nm 102 k∈GN:=by
 have:k=0\/k=1:=PT
 rcases this with rfl|rfl<;>decide
theorem an1{k:Nat}(h:k<2):nm 112 k∈GN:=by
 have:k=0\/k=1:=PT
 rcases this with rfl|rfl<;>decide
theorem EX:nm 116 0∈GN:=RZ
theorem SZ:nm 98 0∈GN:=RZ
structure Sc.Ok (c:Sc):Prop where
 i:c.ints<=3
 t:c.tables<=1
 f:c.flags<=2
 p:c.params<=2
theorem fS.all{c:Sc}(hc:c.Ok){d:Nat}{e:Ex}(h:fS c d e):jK gV e:=by
 have h1:=hc.i;have h2:=hc.p
 induction h with
 |num n h=>exact .mk (.of PT PT rfl (.inl ⟨rfl,h⟩) (.inr ⟨PT,rfl⟩)) (fun a h=>by cases h)
 |var k h=>exact .mk (.of PT PT rfl (.inr ⟨PT,rfl⟩) (.inl ⟨PT,PT,MA PT⟩)) (fun a h=>by cases h)
 |mm k h=>exact .mk (.of PT PT rfl (.inr ⟨PT,rfl⟩) (.inl ⟨PT,PT,an1 PT⟩)) (fun a h=>by cases h)
 |now=>exact .mk (.of PT PT rfl (.inr ⟨PT,rfl⟩) (.inr ⟨PT,rfl⟩)) (fun a h=>by cases h)
 |get h _ ih=>exact .mk (.of PT PT rfl (.inr ⟨PT,rfl⟩) (.inl ⟨PT,PT,EX⟩)) (fun a h=>by rw[xy] at h;subst h;exact ih)
 |size h=>exact .mk (.of PT PT rfl (.inr ⟨PT,rfl⟩) (.inl ⟨PT,PT,EX⟩)) (fun a h=>by cases h)
 |neg _ ih=>exact .mk (.of PT PT rfl (.inr ⟨PT,rfl⟩) (.inr ⟨PT,rfl⟩)) (fun a h=>by rw[xy] at h;subst h;exact ih)
 |bin op a b _ _ kI dT=>exact .mk (.of PT PT (by unfold jM;rw[if_neg PT,if_pos PT];rfl) (.inr ⟨PT,rfl⟩) (.inr ⟨PT,rfl⟩)) (fun a h=>by
  rcases xG.1 h with rfl|h
  ·exact kI
  ·rw[xy] at h;subst h;exact dT)
theorem ka.all{c:Sc}(hc:c.Ok){d:Nat}{e:Ex}(h:ka c d e):jK gV e:=by
 have h1:=hc.f
 induction h with
 |lit op a b=>exact .mk (.of PT PT (by unfold jM;rw[if_neg PT,if_neg PT];rfl) (.inr ⟨PT,rfl⟩) (.inr ⟨PT,rfl⟩)) (fun a h=>by cases h)
 |b0=>exact .mk (.of PT PT rfl (.inr ⟨PT,rfl⟩) (.inl ⟨PT,PT,SZ⟩)) (fun a h=>by cases h)
 |flag k h=>exact .mk (.of PT PT rfl (.inr ⟨PT,rfl⟩) (.inl ⟨PT,PT,an2 PT⟩)) (fun a h=>by cases h)
 |has h he=>exact .mk (.of PT PT rfl (.inr ⟨PT,rfl⟩) (.inl ⟨PT,PT,EX⟩)) (fun a h=>by rw[xy] at h;subst h;exact he.all hc)
 |not _ ih=>exact .mk (.of PT PT rfl (.inr ⟨PT,rfl⟩) (.inr ⟨PT,rfl⟩)) (fun a h=>by rw[xy] at h;subst h;exact ih)
 |C4 op a b _ _ kI dT=>exact .mk (.of PT PT (by unfold jM;rw[if_neg PT,if_pos PT];rfl) (.inr ⟨PT,rfl⟩) (.inr ⟨PT,rfl⟩)) (fun a h=>by
  rcases xG.1 h with rfl|h
  ·exact kI
  ·rw[xy] at h;subst h;exact dT)
 |cmp op a b ha hb=>exact .mk (.of PT PT (by unfold jM;rw[if_neg PT,if_pos PT];rfl) (.inr ⟨PT,rfl⟩) (.inr ⟨PT,rfl⟩)) (fun a h=>by
  rcases xG.1 h with rfl|h
  ·exact ha.all hc
  ·rw[xy] at h;subst h;exact hb.all hc)
theorem Hj{α β:Type}(f:α->β)(pre:List α)(a:α)(aa:List α):((pre++a::aa).map f)[pre.length]? =some (f a):=by
 rw[List.map_append,xq P6];simp
end Go.Fl
namespace Go.Proofs.YthicpeihkkokmaaGreatDoor
open Go.Ex Go.RowKit Go.Fl
section
variable{X:fm}
theorem Zg:∀(l:List Fl.Ex),Ex.rs l=l.map Ex.r
 |[]=>rfl
 |e::l=>by show Ex.r e::Ex.rs l=_;rw[Zg l];rfl
theorem DS:∀(l:List Fl.Ex),Ex.ss l=l.map Ex.s
 |[]=>rfl
 |e::l=>by show Ex.s e::Ex.ss l=_;rw[DS l];rfl
theorem X5:∀(l:KP),St.rs l=l.map St.r
 |[]=>rfl
 |e::l=>by show St.r e::St.rs l=_;rw[X5 l];rfl
theorem Gu:∀(l:KP),St.ss l=l.map St.s
 |[]=>rfl
 |e::l=>by show St.s e::St.ss l=_;rw[Gu l];rfl
theorem KH(pre:List Fl.Ex)(a:Fl.Ex)(aa:List Fl.Ex):(Ex.rs (pre++a::aa))[pre.length]? =some (Ex.r a):=by rw[Zg];exact Hj _ _ _ _
theorem qF(pre:List Fl.Ex)(a:Fl.Ex)(aa:List Fl.Ex):(Ex.ss (pre++a::aa))[pre.length]? =some (Ex.s a):=by rw[DS];exact Hj _ _ _ _
theorem J7(pre:KP)(a:St)(aa:KP):(St.rs (pre++a::aa))[pre.length]? =some (St.r a):=by rw[X5];exact Hj _ _ _ _
theorem vV(pre:KP)(a:St)(aa:KP):(St.ss (pre++a::aa))[pre.length]? =some (St.s a):=by rw[Gu];exact Hj _ _ _ _
theorem X4(l:List Fl.Ex)(e:Fl.Ex):Ex.ss l++[Ex.s e]=Ex.ss (l++[e]):=by simp[DS]
theorem aL4(l:KP)(e:St):St.ss l++[St.s e]=St.ss (l++[e]):=by simp[Gu]
theorem gF(l:List Fl.Ex):(Ex.ss l).length=l.length:=by simp[DS]
theorem mC(l:KP):(St.ss l).length=l.length:=by simp[Gu]
theorem bw{α:Type}(pre:List α)(a:α)(aa:List α):pre++a::aa=(pre++[a])++aa:=P6
theorem bb2{e:Fl.Ex}(h:jK gV e):Rn F X 12 0 (Ex.r e) (·=Ex.s e):=by
 induction h with
 | @mk op name n args hn ha ih=>
  obtain⟨h1,h2,h3,h4,h5⟩:=hn.get;have ek:jM op<=2:=by unfold jM;split<;>(try split)<;>omega
  have loop:∀(aa pre:List Fl.Ex),args=pre++aa->Rn F X 12 1 [.sl (Ex.rs args),jD args.length,jD pre.length,bD op,.str name,iD n,.sl (Ex.ss pre)] (·=Ex.s ⟨op,name,n,args⟩):=by
   intro aa
   induction aa with
   |nil=>
    intro pre hp;rw[xj] at hp;subst hp;exact wr rfl<|wn rfl ai<|wt rfl rfl
   |cons a aa cX=>
    intro pre hp;have aD:args.length=pre.length+(aa.length+1):=by rw[hp,xa];rfl
    have ao:(Ex.rs args)[pre.length]? =some (Ex.r a):=by rw[hp];exact KH _ _ _
    have nS:=ih a (by rw[hp];simp);have:=cX (pre++[a]) (by rw[hp,bw]);rw[<-X4,xa] at this;obtain⟨o1,n1,i1,a1⟩:=a;exact wr rfl<|wy rfl ai<|wo rfl (aA ao rfl)<|wg 1 rfl<|mg<|wl rfl nS rfl<|oT<|wg 2 rfl<|wo rfl (gD rfl rfl (by rw[gF];omega) (by rw[gF];omega))<|wo rfl oA<|wj this
  exact wr rfl<|wo rfl (yZ PT)<|wo rfl (az (rR _))<|wj (loop args [] rfl)
end
end Go.Proofs.YthicpeihkkokmaaGreatDoor
namespace Go.Fl
open Go.Ex
mutual
def Ex.dp:Ex->Nat| .mk _ _ _ args=>Ex.eF args+1
def Ex.eF:List Ex->Nat|[]=>0|e::l=>max (Ex.dp e) (Ex.eF l)
end
theorem fS.dp{c:Sc}{d:Nat}{e:Ex}(h:fS c d e):e.dp<=d+1:=by
 induction h with
 |num n h=>simp[Ex.dp,Ex.eF]
 |var k h=>simp[Ex.dp,Ex.eF]
 |mm k h=>simp[Ex.dp,Ex.eF]
 |now=>simp[Ex.dp,Ex.eF]
 |get h _ ih=>simp[Ex.dp,Ex.eF];omega
 |size h=>simp[Ex.dp,Ex.eF]
 |neg _ ih=>simp[Ex.dp,Ex.eF];omega
 |bin op a b _ _ kI dT=>simp[Ex.dp,Ex.eF];omega
theorem ka.dp{c:Sc}{d:Nat}{e:Ex}(h:ka c d e):e.dp<=d+1:=by
 induction h with
 |lit op a b=>simp[Ex.dp,Ex.eF]
 |b0=>simp[Ex.dp,Ex.eF]
 |flag k h=>simp[Ex.dp,Ex.eF]
 |has h he=>have:=he.dp;simp[Ex.dp,Ex.eF];omega
 |not _ ih=>simp[Ex.dp,Ex.eF];omega
 |C4 op a b _ _ kI dT=>simp[Ex.dp,Ex.eF];omega
 |cmp op a b ha hb=>have:=ha.dp;have:=hb.dp;simp[Ex.dp,Ex.eF];omega
inductive dM (P:St->Prop):St->Prop
 |mk {kind:Nat} {name cf:aq} {bh:List Ex} {th el:KP} (h:P ⟨kind,name,cf,bh,th,el⟩) (h1:∀s∈th,dM P s) (h2:∀s∈el,dM P s):dM P ⟨kind,name,cf,bh,th,el⟩
theorem dM.head{P:St->Prop}{s:St}(h:dM P s):P s:=by cases h;assumption
structure Ey (kind:Nat) (name cf:aq) (bh:List Ex) (th el:KP):Prop where
 k1:1<=kind
 vl:kind<=10
 ex:∀e∈bh,jK gV e/\e.dp<=6
 nm:(kind=1\/kind=2\/kind=3\/kind=6\/kind=9)/\name∈GN\/(kind=4\/kind=5\/kind=7\/kind=8\/kind=10)/\name=[]
 hn:(kind=6\/kind=7)/\cf∈GN\/(kind≠6/\kind≠7)/\cf=[]
 ln:(kind=1\/kind=3\/kind=4\/kind=5\/kind=9)/\bh.length=1\/(kind=2\/kind=8)/\bh.length=2\/kind=6/\bh.length<=2\/kind=7/\1<=bh.length/\bh.length<=3\/kind=10/\bh.length=0
 thn:kind=4\/kind=5\/th=[]
 eln:kind=4\/kind=8\/kind=9\/el=[]
 tl:th.length<=12
 ll:el.length<=12
def jR:St->Prop| .mk kind name cf bh th el=>Ey kind name cf bh th el
structure Wd.Ok (w:Wd):Prop where
 sc:w.sc.Ok
 F8:w.ar.length<=3
 jC:∀l∈w.ar,l.length<=3/\∀n∈l,n<=2
theorem iR{α:Type}{l:List α}{i:Nat}{a:α}(h:l[i]? =some a):i<l.length:=(xe.1 h).1
theorem uS{α:Type}{P:α->Prop}{a:α}(h:P a):∀x∈[a],P x:=fun x hx=>by rw[xy] at hx;subst hx;exact h
theorem Md{α:Type}{P:α->Prop}{a b:α}(h:P a)(k:P b):∀x∈[a,b],P x:=fun x hx=>by
 rcases xG.1 hx with rfl|hx
 ·exact h
 ·exact uS k x hx
theorem ma.node{w:Wd}(hw:w.Ok){B:KP->Prop}{s:St}(h:ma w B s)(hn:s.n<=12):jR s:=by
 have ie:∀{e:Ex},fS w.sc 3 e->jK gV e/\e.dp<=6:=fun h=>⟨h.all hw.sc,by have:=h.dp;omega⟩
 have be:∀{e:Ex},ka w.sc 5 e->jK gV e/\e.dp<=6:=fun h=>⟨h.all hw.sc,by have:=h.dp;omega⟩
 have hi:=hw.sc.i;have aD:∀l:KP,St.ns l<=12->l.length<=12:=fun l h=>xH (Go.Proofs.YthicpeihkkokmaaGreatDoor.nj l) h
 have hz:([]:KP).length<=12:=xL _;cases h with
 |nz k hk he=>exact⟨PT,PT,uS (ie he),.inl ⟨PT,MA PT⟩,.inr ⟨PT,rfl⟩,.inl ⟨PT,rfl⟩,.inr (.inr rfl),.inr (.inr (.inr rfl)),hz,hz⟩
 |BS he=>exact⟨PT,PT,uS (be he),.inl ⟨PT,SZ⟩,.inr ⟨PT,rfl⟩,.inl ⟨PT,rfl⟩,.inr (.inr rfl),.inr (.inr (.inr rfl)),hz,hz⟩
 |put h ha hb=>exact⟨PT,PT,Md (ie ha) (ie hb),.inl ⟨PT,EX⟩,.inr ⟨PT,rfl⟩,.inr (.inl ⟨PT,rfl⟩),.inr (.inr rfl),.inr (.inr (.inr rfl)),hz,hz⟩
 |del h ha=>exact⟨PT,PT,uS (ie ha),.inl ⟨PT,EX⟩,.inr ⟨PT,rfl⟩,.inl ⟨PT,rfl⟩,.inr (.inr rfl),.inr (.inr (.inr rfl)),hz,hz⟩
 | @cond e he th el h1 h2=>have fy:=hn;simp[St.n] at fy;exact⟨PT,PT,uS (be he),.inr ⟨PT,rfl⟩,.inr ⟨PT,rfl⟩,.inl ⟨PT,rfl⟩,.inl rfl,.inl rfl,aD _ (by simp[St.ns] at*;omega),aD _ (by simp[St.ns] at*;omega)⟩
 |EB he h1=>have fy:=hn;simp[St.n] at fy;exact⟨PT,PT,uS (be he),.inr ⟨PT,rfl⟩,.inr ⟨PT,rfl⟩,.inl ⟨PT,rfl⟩,.inr (.inl rfl),.inr (.inr (.inr rfl)),aD _ (by simp[St.ns] at*;omega),hz⟩
 |send i h n gx hh he hn=>
  have q1:=iR gx;have q2:=iR hh
  have q3:=hw.jC _ (xu gx);have q4:=q3.2 _ (xu hh);have q5:=hw.F8;exact⟨PT,PT,fun e h=>ie (he e h),.inl ⟨PT,MB PT⟩,.inl ⟨PT,SY PT⟩,.inr (.inr (.inl ⟨rfl,PT⟩)),.inr (.inr rfl),.inr (.inr (.inr rfl)),hz,hz⟩
 |Ci h n gx hh he hn=>
  have q1:=iR gx;have q2:=iR hh
  have q3:=hw.jC _ (xu gx);have q4:=q3.2 _ (xu hh);exact⟨PT,PT,fun e h=>ie (he e h),.inr ⟨PT,rfl⟩,.inl ⟨PT,SY PT⟩,.inr (.inr (.inr (.inl ⟨rfl,PT,PT⟩))),.inr (.inr rfl),.inr (.inr (.inr rfl)),hz,hz⟩
 |store ha hb h2=>have fy:=hn;simp[St.n] at fy;exact⟨PT,PT,Md (ie ha) (ie hb),.inr ⟨PT,rfl⟩,.inr ⟨PT,rfl⟩,.inr (.inl ⟨PT,rfl⟩),.inr (.inr rfl),.inr (.inl rfl),hz,aD _ (by simp[St.ns] at*;omega)⟩
 |Eo k hk ha h2=>have fy:=hn;simp[St.n] at fy;exact⟨PT,PT,uS (ie ha),.inl ⟨PT,MA PT⟩,.inr ⟨PT,rfl⟩,.inl ⟨PT,rfl⟩,.inr (.inr rfl),.inr (.inr (.inl rfl)),hz,aD _ (by simp[St.ns] at*;omega)⟩
 |stop=>exact⟨PT,PT,fun e h=>(by cases h),.inr ⟨PT,rfl⟩,.inr ⟨PT,rfl⟩,.inr (.inr (.inr (.inr ⟨rfl,rfl⟩))),.inr (.inr rfl),.inr (.inr (.inr rfl)),hz,hz⟩
theorem Zv:∀{l:KP} {s:St},s∈l->s.n<=St.ns l
 |t::l,s,h=>by
  rcases xG.1 h with rfl|h
  ·simp[St.ns]
  ·have:=Zv h;simp[St.ns];omega
theorem ma.nest{w:Wd}{B:KP->Prop}{kind:Nat}{name cf:aq}{bh:List Ex}{th el:KP}(h:ma w B ⟨kind,name,cf,bh,th,el⟩):(th=[]\/B th)/\(el=[]\/B el):=by
 cases h with
 |cond he h1 h2=>exact⟨.inr h1,.inr h2⟩
 |EB he h1=>exact⟨.inr h1,.inl rfl⟩
 |store ha hb h2=>exact⟨.inl rfl,.inr h2⟩
 |Eo k hk ha h2=>exact⟨.inl rfl,.inr h2⟩
 |nz|BS|put|del|send|Ci|stop=>exact⟨.inl rfl,.inl rfl⟩
theorem j8.all{w:Wd}(hw:w.Ok):∀{d:Nat} {l:KP},j8 w d l->St.ns l<=12->∀s∈l,dM jR s
 |0,l,h,_,s,hs=>by rw[show l=[] from h] at hs;cases hs
 |d+1,l,h,hn,s,hs=>by
  have h1:=h s hs;have h2:=Zv hs;have h3:=h1.node hw PT;obtain⟨kind,name,cf,bh,th,el⟩:=s;simp only [St.n] at h2;obtain⟨n1,n2⟩:=h1.nest;refine .mk h3 (fun s hs=> ?_) (fun s hs=> ?_)
  ·rcases n1 with rfl|n1
   ·cases hs
   ·exact j8.all hw n1 PT s hs
  ·rcases n2 with rfl|n2
   ·cases hs
   ·exact j8.all hw n2 PT s hs
end Go.Fl
namespace Go.Proofs.YthicpeihkkokmaaGreatDoor
open Go.Ex Go.RowKit Go.Fl
section
variable{X:fm}
def Sub(P:KP->Prop):St->Prop| .mk _ _ _ _ th el=>P th/\P el
theorem dM.sub{P:KP->Prop}(H:∀l:KP,l.length<=12->(∀s∈l,jR s/\Sub P s)->P l){s:St}(h:dM jR s):Sub P s:=by
 induction h with
 | @mk kind name cf bh th el h h1 h2 kI dT=>exact⟨H th h.tl (fun s hs=>⟨(h1 s hs).head,kI s hs⟩),H el h.ll (fun s hs=>⟨(h2 s hs).head,dT s hs⟩)⟩
theorem dM.list{P:KP->Prop}(H:∀l:KP,l.length<=12->(∀s∈l,jR s/\Sub P s)->P l){l:KP}(hl:l.length<=12)(h:∀s∈l,dM jR s):P l:=H l hl (fun s hs=>⟨(h s hs).head,dM.sub H (h s hs)⟩)
theorem aS2{l:KP}(hl:l.length<=12)(h:∀s∈l,dM jR s):Rn F X 13 0 [.sl (St.rs l)] (·=[.sl (St.ss l)]):=by
 refine dM.list (P:=fun l=>Rn F X 13 0 [.sl (St.rs l)] (·=[.sl (St.ss l)])) ?_ hl h;clear hl h l;intro l hl h;have loop:∀(aa pre:KP),l=pre++aa->Rn F X 13 1 [.sl (St.ss pre),.sl (St.rs l),jD l.length,jD pre.length] (·=[.sl (St.ss l)]):=by
  intro aa
  induction aa with
  |nil=>
   intro pre hp;rw[xj] at hp;subst hp;exact wr rfl<|wn rfl ai<|wt rfl rfl
  |cons a aa cX=>
   intro pre hp;have aD:l.length=pre.length+(aa.length+1):=by rw[hp,xa];rfl
   have ao:(St.rs l)[pre.length]? =some (St.r a):=by rw[hp];exact J7 _ _ _
   obtain⟨ha,hs⟩:=h a (by rw[hp];simp);have:=cX (pre++[a]) (by rw[hp,bw]);rw[<-aL4,xa] at this;obtain⟨kind,name,cf,bh,th,el⟩:=a;obtain⟨df,cL⟩:=hs;have cw9:=ha.vl;have fX:bh.length<=3:=by have:=ha.ln;omega
   have Bt:∀(bX bj:List Fl.Ex),bh=bj++bX->Rn F X 13 2 [.sl (St.ss pre),.sl (St.rs l),jD l.length,jD pre.length,.sl (Ex.rs bh),jD bh.length,jD bj.length,bD kind,.str name,.str cf,.sl (Ex.ss bj),.sl (St.ss th),.sl (St.ss el)] (·=[.sl (St.ss l)]):=by
    intro bX
    induction bX with
    |nil=>
     intro bj aO;rw[xj] at aO;subst aO;exact wr rfl<|wn rfl ai<|wg 2 rfl<|wo rfl (gD rfl rfl (by rw[mC];omega) (by rw[mC];omega))<|wo rfl oA<|wj this
    |cons e bX dT=>
     intro bj aO;have s8:bh.length=bj.length+(bX.length+1):=by rw[aO,xa];rfl
     have ji:(Ex.rs bh)[bj.length]? =some (Ex.r e):=by rw[aO];exact KH _ _ _
     have he:=(ha.ex e (by rw[aO];simp)).1;have ze:=dT (bj++[e]) (by rw[aO,bw]);rw[<-X4,xa] at ze;have ij:=bb2 (X:=X) he;obtain⟨o1,n1,i1,a1⟩:=e;exact wr rfl<|wy rfl ai<|wo rfl (aA ji rfl)<|wg 1 rfl<|Fe<|wl rfl ij rfl<|kj<|wg 2 rfl<|wo rfl (gD rfl rfl (by rw[gF];omega) (by rw[gF];omega))<|wo rfl oA<|wj ze
   exact wr rfl<|wy rfl ai<|wo rfl (aA ao rfl)<|wg 1 rfl<|dC<|wo rfl (yZ PT)<|wl rfl df rfl<|wl rfl cL rfl<|wo rfl (az (rR _))<|ei<|wj (Bt bh [] rfl)
 exact wr rfl<|wo rfl (az (nX _))<|wj (loop l [] rfl)
end
end Go.Proofs.YthicpeihkkokmaaGreatDoor
namespace Go.Fl
open Go.Ex
mutual
def St.dp:St->Nat| .mk _ _ _ _ th el=>max (St.eF th) (St.eF el)
def St.eF:KP->Nat|[]=>0|s::l=>max (St.dp s+1) (St.eF l)
end
structure C9 (h:Hn):Prop where
 name:h.name∈GN
 params:h.params.length<=2/\∀p∈h.params,p∈GN
 n:St.ns h.body<=12
 dp:St.eF h.body<=4
 len:h.body.length<=12
 body:∀s∈h.body,dM jR s
structure VrS (v:Vr):Prop where
 name:v.name∈GN
 type:v.type=1/\v.init<=2\/(v.type=2\/v.type=3)/\v.init=0
structure Jm (c:Cm):Prop where
 name:c.name∈GN
 vars:c.vars.length<=5/\∀v∈c.vars,VrS v
 vs:1<=c.aT.length/\c.aT.length<=2
 hs:∀l∈c.aT,l.length<=3/\∀h∈l,C9 h
structure LkS (l:Lk):Prop where
 src:l.src∈GN
 dst:l.dst∈GN
 Aa:1<=l.Aa/\l.Aa<=3
structure uj (f:dg):Prop where
 name:f.name∈GN
 flags:f.flags.length<=2/\∀x∈f.flags,x.name∈GN
 links:f.links.length<=9/\∀x∈f.links,LkS x
 comps:1<=f.comps.length/\f.comps.length<=3/\∀x∈f.comps,Jm x
theorem QM:∀{l:KP} {n:Nat},(∀s∈l,s.dp+1<=n)->St.eF l<=n
 |[],n,h=>xL _
 |s::l,n,h=>by
  have h1:=h s P6;have h2:=QM (l:=l) (fun t ht=>h t (by simp[ht]));simp only [St.eF];omega
theorem j8.dp{w:Wd}:∀{d:Nat} {l:KP},j8 w d l->St.eF l<=d
 |0,l,h=>by rw[show l=[] from h];exact xk _
 |d+1,l,h=>QM fun s hs=>by
  have h1:=h s hs;obtain⟨kind,name,cf,bh,th,el⟩:=s;obtain⟨n1,n2⟩:=h1.nest;have e1:St.eF th<=d:=by
   rcases n1 with rfl|n1
   ·exact xL _
   ·exact j8.dp n1
  have e2:St.eF el<=d:=by
   rcases n2 with rfl|n2
   ·exact xL _
   ·exact j8.dp n2
  simp only [St.dp];omega
theorem qI{α:Type}{l:List α}{a:α}(h:a∈l):∃i:Nat,l[i]? =some a:=List.mem_iff_getElem?.1 h
theorem sh.ok{ints tables flags own:Nat}{ar:rQ}{al:uo}{k:Nat}{h:Hn}(hk:k<3)(i3:ints<=3)(t1:tables<=1)(f2:flags<=2)(F8:ar.length<=3)(cS:∀l∈ar,1<=l.length/\l.length<=3/\∀n∈l,n<=2)(aQ:al∈ar)(ho:sh ints tables flags own ar al k h):C9 h:=by
 obtain⟨n,hn,hp,hb⟩:=ho.mm;have gf:=(cS al aQ).2.2 n (xu hn);have mY:h.params.length<=2/\∀p∈h.params,p∈GN:=by
  rw[hp];refine⟨by simp[aP];exact gf,fun p h=> ?_⟩;obtain⟨j,hj,rfl⟩:=xJ.1 h;exact an1 (by have:=List.mem_range.1 hj;omega)
 exact⟨by rw[ho.name];exact SY hk,mY,ho.n,hb.dp,xH (Go.Proofs.YthicpeihkkokmaaGreatDoor.nj _) ho.n,hb.all ⟨⟨i3,t1,f2,gf⟩,F8,fun l h=>(cS l h).2⟩ ho.n⟩
theorem jm.ok{nf i:Nat}{ar:rQ}{c:Cm}(f2:nf<=2)(F8:ar.length<=3)(cS:∀l∈ar,1<=l.length/\l.length<=3/\∀n∈l,n<=2)(ho:jm nf ar i c):Jm c:=by
 obtain⟨ints,tables,al,i1,i3,t1,aQ,hv,h1,h2,h3,h4⟩:=ho.rest;have hi:=iR aQ;have hm:=xu aQ;refine⟨by rw[ho.name];exact MB PT,⟨by rw[hv];simp;omega,fun v h=> ?_⟩,⟨h1,h2⟩,fun l hl=>⟨xH (h4 l hl).2.1 (cS al hm).2.1,fun h hh=> ?_⟩⟩
 ·rw[hv] at h;rcases xF.1 h with h|h
  ·obtain⟨j,hj,rfl⟩:=xJ.1 h;have:=List.mem_range.1 hj;exact⟨MA PT,.inl ⟨rfl,by show j<=2;omega⟩⟩
  ·rcases xG.1 h with rfl|h
   ·exact⟨SZ,.inr ⟨.inl rfl,rfl⟩⟩
   ·obtain⟨j,hj,rfl⟩:=xJ.1 h;have:=List.mem_range.1 hj;obtain rfl:j=0:=PT
    exact⟨EX,.inr ⟨.inr rfl,rfl⟩⟩
 ·obtain⟨k,hk⟩:=qI hh;have q:=(h4 l hl).2.1;have q2:=iR hk;have q3:=(cS al hm).2.1;exact((h4 l hl).2.2 k h hk).ok PT i3 t1 f2 F8 cS hm
theorem gZ.ok{ar:rQ}{f:dg}(h:gZ ar f):uj f:=by
 have hn:=h.n;obtain⟨ks,dW,hp,hk⟩:=h.links;have hk9:ar.length*ar.length<=9:=Nat.mul_le_mul hn.2.2 hn.2.2;refine⟨by rw[h.name];decide,⟨h.flags.1,fun x hx=> ?_⟩,⟨?_,fun x hx=> ?_⟩,⟨PT,PT,fun c hc=> ?_⟩⟩
 ·obtain⟨i,hi⟩:=qI hx;have:=iR hi;rw[h.flags.2 i x hi];exact an2 (by have:=h.flags.1;omega)
 ·rw[dW,xm];have hb:∀(l:List (Nat×Nat)) (m:Nat),l.Pairwise (fun p q=>p.1<q.1)->(∀p∈l,m<=p.1/\p.1<9)->l.length+m<=9\/l=[]:=by
   intro l
   induction l with
   |nil=>intro m _ _;exact .inr rfl
   |cons p l ih=>
    intro m hp hm;have h1:=hm p P6;cases hp with
    |cons h2 h3=>
     rcases ih (p.1+1) h3 (fun q hq=>⟨h2 q hq,(hm q (by simp[hq])).2⟩) with h|rfl
     ·left;rw[xi];omega
     ·left;simp;omega
  rcases hb ks 0 hp (fun p hp=>⟨xL _,by have:=hk p hp;omega⟩) with h|rfl
  ·omega
  ·exact xL _
 ·rw[dW] at hx;obtain⟨p,hp,rfl⟩:=xJ.1 hx;have h1:=hk p hp;have h2:p.1/ar.length<ar.length:=Nat.div_lt_of_lt_mul h1.1;have h3:p.1%ar.length<ar.length:=Nat.mod_lt _ hn.2.1;exact⟨MB PT,MB PT,h1.2⟩
 ·obtain⟨i,hi⟩:=qI hc;exact(h.comps i c hi).ok h.flags.1 hn.2.2 h.jC
end Go.Fl
namespace Go.Proofs.YthicpeihkkokmaaGreatDoor
open Go.Ex Go.RowKit Go.Fl
section
variable{X:fm}
theorem cA{α:Type}{f:α->kG}{l pre aa:List α}{a:α}(h:l=pre++a::aa):(l.map f)[pre.length]? =some (f a):=by subst h;exact Hj _ _ _ _
theorem bG{α:Type}{l pre aa:List α}{a:α}(h:l=pre++a::aa):l.length=pre.length+(aa.length+1):=by rw[h,xa];rfl
theorem Gy{α:Type}(f:α->kG)(l:List α)(a:α):l.map f++[f a]=(l++[a]).map f:=P6
theorem cq{α:Type}(f:α->kG)(l:List α):(l.map f).length=l.length:=xm _
theorem JG(l:Mm):∀row∈strs l,row.length=1/\row.all D.cell=true:=by
 intro row h;obtain⟨p,_,rfl⟩:=xJ.1 h;exact⟨rfl,rfl⟩
def pI(vs:NN):gj:=vs.map fun l=>[.sl (l.map Hn.r)]
def ca(vs:NN):gj:=vs.map fun l=>[.sl (l.map Hn.s)]
theorem aD9{cs:List Cm}{nm:aq}{A B:gj}(h3:cs.length<=3)(hc:∀c∈cs,Jm c):∀(aa pre:List Cm),cs=pre++aa->Rn F X 14 3 [.sl (cs.map Cm.r),jD cs.length,jD pre.length,.str nm,.sl A,.sl B,.sl (pre.map Cm.s)] (·=[.str nm,.sl A,.sl B,.sl (cs.map Cm.s)]):=by
 intro aa
 induction aa with
 |nil=>
  intro pre hp;rw[xj] at hp;subst hp;exact wr rfl<|wn rfl ai<|wt rfl rfl
 |cons c aa cX=>
  intro pre hp;have aD:=bG hp;have ao:=cA (f:=Cm.r) hp;have cJ:=hc c (by rw[hp];simp);have next:=cX (pre++[c]) (by rw[hp,bw]);rw[<-Gy,xa] at next;obtain⟨cn,vars,vs⟩:=c;have hvn:vars.length<=5:=cJ.vars.1;have bI:vs.length<=2:=cJ.vs.2;have lF:∀(bX bj:NN),vs=bj++bX->Rn F X 14 5 [.sl (cs.map Cm.r),jD cs.length,jD pre.length,.sl (pI vs),jD vs.length,jD bj.length,.str nm,.sl A,.sl B,.sl (pre.map Cm.s),.str cn,.sl (vars.map Vr.s),.sl (ca bj)] (·=[.str nm,.sl A,.sl B,.sl (cs.map Cm.s)]):=by
   intro bX
   induction bX with
   |nil=>
    intro bj aO;rw[xj] at aO;subst aO;exact wr rfl<|wn rfl ai<|wg 2 rfl<|wo rfl (gD rfl rfl (by rw[cq];omega) (by rw[cq];omega))<|wo rfl oA<|wj next
   |cons v bX dT=>
    intro bj aO;have s8:=bG aO;have ji:(pI vs)[bj.length]? =some [.sl (v.map Hn.r)]:=cA (f:=fun l:List Hn=>[D.sl (l.map Hn.r)]) aO;have jH:=dT (bj++[v]) (by rw[aO,bw]);have es:ca (bj++[v])=ca bj++[[.sl (v.map Hn.s)]]:=by simp[ca]
    rw[es,xa] at jH;have hv:=cJ.hs v (by show v∈vs;rw[aO];simp);have iZ:(ca bj).length=bj.length:=xm _;have mJ:∀(ee bt:List Hn),v=bt++ee->Rn F X 14 6 [.sl (cs.map Cm.r),jD cs.length,jD pre.length,.sl (pI vs),jD vs.length,jD bj.length,.sl (v.map Hn.r),jD v.length,jD bt.length,.str nm,.sl A,.sl B,.sl (pre.map Cm.s),.str cn,.sl (vars.map Vr.s),.sl (ca bj),.sl (bt.map Hn.s)] (·=[.str nm,.sl A,.sl B,.sl (cs.map Cm.s)]):=by
     intro ee
     induction ee with
     |nil=>
      intro bt bH;rw[xj] at bH;subst bH;exact wr rfl<|wn rfl ai<|wg 2 rfl<|wo rfl oP<|wo rfl oA<|wj jH
     |cons h ee mV=>
      intro bt bH;have ww:=bG bH;have gW:=cA (f:=Hn.r) bH;have fQ:=mV (bt++[h]) (by rw[bH,bw]);rw[<-Gy,xa] at fQ;have hh:=hv.2 h (by rw[bH];simp);have hb:=aS2 (X:=X) hh.len hh.body;have Uo:=hv.1;obtain⟨hn,mY,Aq⟩:=h;have cv9:mY.length<=2:=hh.params.1;have gd:(strs mY).length=mY.length:=xm _;exact wr rfl<|wy rfl ai<|wo rfl (aA gW rfl)<|wg 1 rfl<|jy<|wg 1 rfl<|wo rfl (Bb (rows:=[]) (JG _) Qo Qo)<|wl rfl hb rfl<|wg 2 rfl<|wo rfl (gD rfl rfl (by rw[cq];omega) (by rw[cq];omega))<|xQ<|wo rfl oA<|wj fQ
    exact wr rfl<|wy rfl ai<|wo rfl (aA ji rfl)<|wg 1 rfl<|wo rfl (az (cq _ _))<|wj (mJ v [] rfl)
  have Hl:∀(bX bj:List Vr),vars=bj++bX->Rn F X 14 4 [.sl (cs.map Cm.r),jD cs.length,jD pre.length,.sl (vars.map Vr.r),jD vars.length,jD bj.length,.str nm,.sl A,.sl B,.sl (pre.map Cm.s),.str cn,.sl (pI vs),.sl (bj.map Vr.s)] (·=[.str nm,.sl A,.sl B,.sl (cs.map Cm.s)]):=by
   intro bX
   induction bX with
   |nil=>
    intro bj aO;rw[xj] at aO;subst aO;exact wr rfl<|wn rfl ai<|wo rfl (az (xm _))<|wj (lF vs [] rfl)
   |cons v bX dT=>
    intro bj aO;have s8:=bG aO;have ji:=cA (f:=Vr.r) aO;have jH:=dT (bj++[v]) (by rw[aO,bw]);rw[<-Gy,xa] at jH;have hv:=(cJ.vars.2 v (by show v∈vars;rw[aO];simp)).type;obtain⟨vn,vt,vi⟩:=v;have hvt:vt<=3:=by simp at hv;omega
    exact wr rfl<|wy rfl ai<|wo rfl (aA ji rfl)<|wg 1 rfl<|hZ<|wo rfl (yZ PT)<|wg 2 rfl<|wo rfl (gD rfl rfl (by rw[cq];omega) (by rw[cq];omega))<|wo rfl oA<|jy<|wj jH
  exact wr rfl<|wy rfl ai<|wo rfl (aA ao rfl)<|wg 1 rfl<|dC<|wo rfl (az (cq _ _))<|wj (Hl vars [] rfl)
theorem aD8{f:dg}(hf:uj f):Rn F X 14 0 f.r (·=f.s):=by
 obtain⟨nm,fl,lk,cs⟩:=f;have CK:fl.length<=2:=hf.flags.1;have IT:lk.length<=9:=hf.links.1;have cJ:cs.length<=3:=hf.comps.2.1;have Bp:∀(aa pre:List Lk),lk=pre++aa->Rn F X 14 2 [.sl (lk.map Lk.d),jD lk.length,jD pre.length,.str nm,.sl (fl.map Fg.d),.sl (cs.map Cm.r),.sl (fl.map Fg.d),.sl (pre.map Lk.d)] (·=[.str nm,.sl (fl.map Fg.d),.sl (lk.map Lk.d),.sl (cs.map Cm.s)]):=by
  intro aa
  induction aa with
  |nil=>
   intro pre hp;rw[xj] at hp;subst hp;exact wr rfl<|wn rfl ai<|wo rfl (az (cq _ _))<|Wp.jump rfl (aD9 cJ hf.comps.2.2 cs [] rfl)
  |cons v aa ih=>
   intro pre hp;have aD:=bG hp;have ao:=cA (f:=Lk.d) hp;have next:=ih (pre++[v]) (by rw[hp,bw]);rw[<-Gy,xa] at next;obtain⟨a,b,c⟩:=v;exact wr rfl<|wy rfl ai<|wo rfl (aA ao rfl)<|wg 1 rfl<|mg<|wg 2 rfl<|wo rfl (gD rfl rfl (by rw[cq];omega) (by rw[cq];omega))<|wo rfl oA<|wj next
 have BC:∀(aa pre:List Fg),fl=pre++aa->Rn F X 14 1 [.sl (fl.map Fg.d),jD fl.length,jD pre.length,.str nm,.sl (lk.map Lk.d),.sl (cs.map Cm.r),.sl (pre.map Fg.d)] (·=[.str nm,.sl (fl.map Fg.d),.sl (lk.map Lk.d),.sl (cs.map Cm.s)]):=by
  intro aa
  induction aa with
  |nil=>
   intro pre hp;rw[xj] at hp;subst hp;exact wr rfl<|wn rfl ai<|wo rfl (az (cq _ _))<|wj (Bp lk [] rfl)
  |cons v aa ih=>
   intro pre hp;have aD:=bG hp;have ao:=cA (f:=Fg.d) hp;have next:=ih (pre++[v]) (by rw[hp,bw]);rw[<-Gy,xa] at next;obtain⟨a,b⟩:=v;cases b
   ·exact wr rfl<|wy rfl ai<|wo rfl (aA ao rfl)<|wg 2 rfl<|oq<|wg 2 rfl<|wo rfl (gD rfl rfl (by rw[cq];omega) (by rw[cq];omega))<|wo rfl oA<|wj next
   ·exact wr rfl<|wy rfl ai<|wo rfl (aA ao rfl)<|wg 1 rfl<|oq<|wg 2 rfl<|wo rfl (gD rfl rfl (by rw[cq];omega) (by rw[cq];omega))<|wo rfl oA<|wj next
 exact wr rfl<|wo rfl (az (cq _ _))<|wj (BC fl [] rfl)
end
end Go.Proofs.YthicpeihkkokmaaGreatDoor
namespace Go.Fl
open Go.Ex
theorem Ex.Kq:∀{l:List Ex} {a:Ex},a∈l->a.dp<=Ex.eF l
 |e::l,a,h=>by
  rcases xG.1 h with rfl|h
  ·simp only [Ex.eF];omega
  ·have:=Ex.Kq h;simp only [Ex.eF];omega
theorem Ex.XE:∀(l:List Ex) (a:Ex),Ex.eF (l++[a])=max (Ex.eF l) a.dp
 |[],a=>by simp[Ex.eF]
 |e::l,a=>by simp only [List.cons_append,Ex.eF,Ex.XE l a];omega
theorem Ex.QM{l:List Ex}{n:Nat}(h:Ex.eF l<=n):∀a∈l,a.dp<=n:=fun a ha=>xH (Ex.Kq ha) h
def St.mx:KP->Nat|[]=>0|s::l=>max (St.dp s) (St.mx l)
theorem St.Yt:∀(l:KP) (a:St),St.mx (l++[a])=max (St.mx l) a.dp
 |[],a=>by simp[St.mx]
 |e::l,a=>by simp only [List.cons_append,St.mx,St.Yt l a];omega
theorem St.ZR:∀(l:KP),l≠[]->St.eF l=St.mx l+1
 |[],h=>absurd rfl h
 |[s],_=>by simp[St.eF,St.mx]
 |s::t::l,_=>by
  have:=St.ZR (t::l) P6;rw[St.eF,St.mx,this];omega
def St.sb:KP->Nat|[]=>0|s::l=>St.sub s+St.sb l
theorem St.X9:∀(l:KP) (a:St),St.sb (l++[a])=St.sb l+a.sub
 |[],a=>by simp[St.sb]
 |e::l,a=>by simp only [List.cons_append,St.sb,St.X9 l a];omega
theorem St.Rq:∀(l:KP),St.ns l=l.length+St.sb l
 |[]=>rfl
 | .mk .. ::l=>by simp only [St.ns,St.n,St.sb,St.sub,St.Rq l,xi];omega
theorem St.wc:∀(l m:KP),St.ns (l++m)=St.ns l+St.ns m
 |[],m=>by simp[St.ns]
 |e::l,m=>by simp only [List.cons_append,St.ns,St.wc l m];omega
theorem St.Zw:∀{l:KP} {a:St},a∈l->a.dp<=St.mx l
 |e::l,a,h=>by
  rcases xG.1 h with rfl|h
  ·simp only [St.mx];omega
  ·have:=St.Zw h;simp only [St.mx];omega
end Go.Fl
namespace Go.Proofs.YthicpeihkkokmaaGreatDoor
open Go.Ex Go.RowKit Go.Fl
section
variable{X:fm}
theorem aX4{a b c:Nat}:aL .mx [iD a,iD b,iD c]=some (iD (max a (max b c))):=by rw[bh0];congr 2;omega
theorem aC3{e:Fl.Ex}(h:jK gV e):e.dp<=100->Rn F X 17 0 (Ex.s e) (·=[iD e.dp]):=by
 induction h with
 | @mk op name n args hn ha ih=>
  intro hd;have kK:Ex.eF args+1<=100:=hd;obtain⟨h1,h2,h3,h4,h5⟩:=hn.get;have ek:jM op<=2:=by unfold jM;split<;>(try split)<;>omega
  have loop:∀(aa pre:List Fl.Ex),args=pre++aa->Rn F X 17 1 [iD (Ex.eF pre),jD args.length,jD pre.length,bD op,.str name,iD n,.sl (Ex.ss args)] (·=[iD (Ex.eF args+1)]):=by
   intro aa
   induction aa with
   |nil=>
    intro pre hp;rw[xj] at hp;subst hp;exact wr rfl<|wn rfl ai<|wo rfl oA<|wt rfl rfl
   |cons a aa cX=>
    intro pre hp;have aD:=bG hp;have ao:(Ex.ss args)[pre.length]? =some (Ex.s a):=by rw[hp];exact qF _ _ _
    have hm:a∈args:=by rw[hp];simp
    have nS:=ih a hm (xH (Ex.Kq hm) PT);have:=cX (pre++[a]) (by rw[hp,bw]);rw[Ex.XE,xa] at this;obtain⟨o1,n1,i1,a1⟩:=a;exact wr rfl<|wy rfl ai<|wo rfl (aA ao rfl)<|wg 1 rfl<|mg<|wl rfl nS rfl<|wo rfl bh1<|wo rfl oA<|wj this
  exact wr rfl<|wo rfl (az (gF _))<|wj (loop args [] rfl)
theorem aK9:∀(m:Nat) (l:KP),St.ns l<=m->m<=12->Rn F X 15 0 [.sl (St.ss l)] (·=[iD (St.ns l)]):=by
 intro m
 induction m with
 |zero=>
  intro l hl _;have:=nj l;obtain rfl:l=[]:=xE.1 PT;exact wr rfl<|wo rfl bf<|wo rfl bf<|Wp.jump rfl<|wr rfl<|wg 1 rfl<|wt rfl rfl
 |succ m ih=>
  intro l hl hm;have gI:=St.Rq l;have loop:∀(aa pre:KP),l=pre++aa->Rn F X 15 1 [.sl (St.ss l),iD (l.length+St.sb pre),jD l.length,jD pre.length] (·=[iD (St.ns l)]):=by
   intro aa
   induction aa with
   |nil=>
    intro pre hp;rw[xj] at hp;subst hp;rw[<-gI];exact wr rfl<|wn rfl ai<|wt rfl rfl
   |cons a aa cX=>
    intro pre hp;have aD:=bG hp;have ao:(St.ss l)[pre.length]? =some (St.s a):=by rw[hp];exact vV _ _ _
    have lR:St.ns l=St.ns pre+(St.n a+St.ns aa):=by rw[hp,St.wc];rfl
    have Uv:=St.Rq pre;have:=cX (pre++[a]) (by rw[hp,bw]);rw[St.X9,xa] at this;obtain⟨kind,name,cf,bh,th,el⟩:=a;simp only [St.n] at lR;simp only [St.sub] at this;rw[<-Nat.add_assoc] at this;have i1:=ih th PT PT;have i2:=ih el PT PT;exact wr rfl<|wy rfl ai<|wo rfl (aA ao rfl)<|wg 2 rfl<|wo rfl (aA ao rfl)<|w8<|wg 2 rfl<|wl rfl i1 rfl<|wl rfl i2 rfl<|mg<|wo rfl (bm PT)<|wo rfl (bm PT)<|wo rfl oA<|wj this
  exact wr rfl<|wo rfl (az (mC _))<|wo rfl (az (mC _))<|wj (loop l [] rfl)
theorem aQ6:∀(m:Nat) (l:KP),St.ns l<=m->m<=12->St.eF l<=12->Rn F X 16 0 [.sl (St.ss l)] (·=[iD (St.eF l)]):=by
 intro m
 induction m with
 |zero=>
  intro l hl _ _;have:=nj l;obtain rfl:l=[]:=xE.1 PT;exact wr rfl<|wo rfl bf<|wg 1 rfl<|wt rfl rfl
 |succ m ih=>
  intro l hl hm hd;rcases xI l.length with h0|h0
  ·obtain rfl:l=[]:=xE.1 h0;exact wr rfl<|wo rfl bf<|wg 1 rfl<|wt rfl rfl
  have bq:l≠[]:=fun h=>by rw[h] at h0;cases h0
  have mr:=St.ZR l bq;have cw3:=nj l;have loop:∀(aa pre:KP),l=pre++aa->Rn F X 16 1 [.sl (St.ss l),iD (St.mx pre),jD l.length,jD pre.length] (·=[iD (St.eF l)]):=by
   intro aa
   induction aa with
   |nil=>
    intro pre hp;rw[xj] at hp;subst hp;rw[mr];exact wr rfl<|wn rfl ai<|wo rfl oA<|wt rfl rfl
   |cons a aa cX=>
    intro pre hp;have aD:=bG hp;have ao:(St.ss l)[pre.length]? =some (St.s a):=by rw[hp];exact vV _ _ _
    have lR:St.ns l=St.ns pre+(St.n a+St.ns aa):=by rw[hp,St.wc];rfl
    have hdm:=St.Zw (l:=l) (a:=a) (by rw[hp];simp);have:=cX (pre++[a]) (by rw[hp,bw]);rw[St.Yt,xa] at this;obtain⟨kind,name,cf,bh,th,el⟩:=a;simp only [St.n] at lR;simp only [St.dp] at this hdm;have i1:=ih th PT PT PT;have i2:=ih el PT PT PT;exact wr rfl<|wy rfl ai<|wo rfl (aA ao rfl)<|wg 2 rfl<|wo rfl (aA ao rfl)<|w8<|wg 2 rfl<|wl rfl i1 rfl<|wl rfl i2 rfl<|mg<|wo rfl aX4<|wo rfl oA<|wj this
  exact wr rfl<|wo rfl (az (mC _))<|wn rfl ay<|wo rfl (az (mC _))<|wj (loop l [] rfl)
theorem Y0{op:Nat}(h1:1<=op)(h2:op<=23){P:Nat->Prop}(h:P 1/\P 2/\P 3/\P 4/\P 5/\P 6/\P 7/\P 8/\P 9/\P 10/\P 11/\P 12/\P 13/\P 14/\P 15/\P 16/\P 17/\P 18/\P 19/\P 20/\P 21/\P 22/\P 23):P op:=by
 have:op=1\/op=2\/op=3\/op=4\/op=5\/op=6\/op=7\/op=8\/op=9\/op=10\/op=11\/op=12\/op=13\/op=14\/op=15\/op=16\/op=17\/op=18\/op=19\/op=20\/op=21\/op=22\/op=23:=PT
 obtain⟨a1,a2,a3,a4,a5,a6,a7,a8,a9,a10,a11,a12,a13,a14,a15,a16,a17,a18,a19,a20,a21,a22,a23⟩:=h;rcases this with rfl|rfl|rfl|rfl|rfl|rfl|rfl|rfl|rfl|rfl|rfl|rfl|rfl|rfl|rfl|rfl|rfl|rfl|rfl|rfl|rfl|rfl|rfl<;>assumption
def wF(op:Nat):Bool:=decide (5<=op/\op<=8)
def HX(op:Nat):Nat:=if op<=8 then 7 else if op<=10 then 6 else if op<=13 then 5 else if op<=15 then 4 else if op<=21 then 3 else if op=22 then 2 else 1
def pB(op:Nat):aq:=match op with
 |2=>[116,114,117,101]
 |3=>[102,97,108,115,101]
 |4=>[110,111,119]
 |7=>[104,97,115,32]
 |8=>[115,105,122,101,32]
 |9=>[45]
 |10=>[110,111,116,32]
 |11=>[32,42,32]
 |12=>[32,47,32]
 |13=>[32,37,32]
 |14=>[32,43,32]
 |15=>[32,45,32]
 |16=>[32,61,61,32]
 |17=>[32,33,61,32]
 |18=>[32,60,32]
 |19=>[32,60,61,32]
 |20=>[32,62,32]
 |21=>[32,62,61,32]
 |22=>[32,97,110,100,32]
 |23=>[32,111,114,32]
 |_=>[]
theorem yI{op:Nat}(h1:1<=op)(h2:op<=23):Rn F X 18 0 [bD op] (·=[iD (jM op),.bool (wF op),iD (HX op),.str (pB op),.bool true]):=by
 refine Y0 h1 h2 (P:=fun op=>Rn F X 18 0 [bD op] (·=[iD (jM op),.bool (wF op),iD (HX op),.str (pB op),.bool true])) ⟨?_,?_,?_,?_,?_,?_,?_,?_,?_,?_,?_,?_,?_,?_,?_,?_,?_,?_,?_,?_,?_,?_,?_⟩
 ·exact wr rfl<|wg 5 rfl<|w5<|wt rfl rfl
 ·exact wr rfl<|wg 5 rfl<|w5<|wt rfl rfl
 ·exact wr rfl<|wg 5 rfl<|w5<|wt rfl rfl
 ·exact wr rfl<|wg 5 rfl<|w5<|wt rfl rfl
 ·exact wr rfl<|wg 4 rfl<|w5<|wt rfl rfl
 ·exact wr rfl<|wg 4 rfl<|w5<|wt rfl rfl
 ·exact wr rfl<|wg 4 rfl<|w5<|wt rfl rfl
 ·exact wr rfl<|wg 4 rfl<|w5<|wt rfl rfl
 ·exact wr rfl<|wg 5 rfl<|w5<|wt rfl rfl
 ·exact wr rfl<|wg 5 rfl<|w5<|wt rfl rfl
 ·exact wr rfl<|wg 5 rfl<|w5<|wt rfl rfl
 ·exact wr rfl<|wg 5 rfl<|w5<|wt rfl rfl
 ·exact wr rfl<|wg 5 rfl<|w5<|wt rfl rfl
 ·exact wr rfl<|wg 5 rfl<|w5<|wt rfl rfl
 ·exact wr rfl<|wg 5 rfl<|w5<|wt rfl rfl
 ·exact wr rfl<|wg 5 rfl<|w5<|wt rfl rfl
 ·exact wr rfl<|wg 5 rfl<|w5<|wt rfl rfl
 ·exact wr rfl<|wg 5 rfl<|w5<|wt rfl rfl
 ·exact wr rfl<|wg 5 rfl<|w5<|wt rfl rfl
 ·exact wr rfl<|wg 5 rfl<|w5<|wt rfl rfl
 ·exact wr rfl<|wg 5 rfl<|w5<|wt rfl rfl
 ·exact wr rfl<|wg 5 rfl<|w5<|wt rfl rfl
 ·exact wr rfl<|wg 5 rfl<|w5<|wt rfl rfl
def fo(k:Nat):Bool×Bool×Nat×Nat×Bool×Bool:=match k with
 |1=>(true,false,1,1,false,false)
 |2=>(true,false,2,2,false,false)
 |3=>(true,false,1,1,false,false)
 |4=>(false,false,1,1,true,true)
 |5=>(false,false,1,1,true,false)
 |6=>(true,true,0,4,false,false)
 |7=>(false,true,1,5,false,false)
 |8=>(false,false,2,2,false,true)
 |9=>(true,false,1,1,false,true)
 |_=>(false,false,0,0,false,false)
theorem bc4{k:Nat}(h1:1<=k)(h2:k<=10){P:Nat->Prop}(h:P 1/\P 2/\P 3/\P 4/\P 5/\P 6/\P 7/\P 8/\P 9/\P 10):P k:=by
 have:k=1\/k=2\/k=3\/k=4\/k=5\/k=6\/k=7\/k=8\/k=9\/k=10:=PT
 obtain⟨a1,a2,a3,a4,a5,a6,a7,a8,a9,a10⟩:=h;rcases this with rfl|rfl|rfl|rfl|rfl|rfl|rfl|rfl|rfl|rfl<;>assumption
def foD(k:Nat):kG:=[.bool (fo k).1,.bool (fo k).2.1,iD (fo k).2.2.1,iD (fo k).2.2.2.1,.bool (fo k).2.2.2.2.1,.bool (fo k).2.2.2.2.2,.bool true]
theorem YN{k:Nat}(h1:1<=k)(h2:k<=10):Rn F X 19 0 [bD k] (·=foD k):=by
 refine bc4 h1 h2 (P:=fun k=>Rn F X 19 0 [bD k] (·=foD k)) ⟨?_,?_,?_,?_,?_,?_,?_,?_,?_,?_⟩
 ·exact wr rfl<|wg 11 rfl<|w7<|wt rfl rfl
 ·exact wr rfl<|wg 11 rfl<|w7<|wt rfl rfl
 ·exact wr rfl<|wg 11 rfl<|w7<|wt rfl rfl
 ·exact wr rfl<|wg 16 rfl<|w7<|wt rfl rfl
 ·exact wr rfl<|wg 17 rfl<|w7<|wt rfl rfl
 ·exact wr rfl<|wg 7 rfl<|w7<|wt rfl rfl
 ·exact wr rfl<|wg 15 rfl<|w7<|wt rfl rfl
 ·exact wr rfl<|wg 18 rfl<|w7<|wt rfl rfl
 ·exact wr rfl<|wg 10 rfl<|w7<|wt rfl rfl
 ·exact wr rfl<|wg 19 rfl<|w7<|wt rfl rfl
end
end Go.Proofs.YthicpeihkkokmaaGreatDoor
