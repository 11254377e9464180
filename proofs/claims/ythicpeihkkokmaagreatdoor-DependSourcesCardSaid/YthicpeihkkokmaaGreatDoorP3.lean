/- What these functions answer. -/
import Derived.Test.YthicpeihkkokmaaGreatDoorP2
set_option linter.unusedVariables false
set_option linter.unusedSimpArgs false
set_option maxHeartbeats 4000000
set_option maxRecDepth 100000
namespace Go.Fl
open Go.Ex
structure vc where
 flags:UInt8
 links:a0h
 parts:List Pt
def vc.d(p:vc):a0d:=[bD p.flags.toNat,.sl (bV p.links),.sl (p.parts.map Pt.d)]
structure jm (flags:Nat) (ar:a0f) (i:Nat) (c:Cm):Prop where
 name:c.name=[(97+i).toUInt8]
 rest:∃ints tables al,1<=ints/\ints<=3/\tables<=1/\ar[i]? =some al/\
  c.vars=(List.range ints).map (fun k=>(⟨nm 120 k,1,k⟩:Vr))++(⟨nm 98 0,2,0⟩:Vr)::(List.range tables).map (fun k=>(⟨nm 116 k,3,0⟩:Vr))/\
  1<=c.aT.length/\c.aT.length<=2/\(∃l∈c.aT,l.length=al.length)/\
  ∀l∈c.aT,1<=l.length/\l.length<=al.length/\∀k h,l[k]? =some h->sh ints tables flags i ar al k h
structure gZ (ar:a0f) (f:dg):Prop where
 name:f.name=[102,108,101,101,116,49]
 flags:f.flags.length<=2/\∀k x,f.flags[k]? =some x->x.name=nm 102 k
 links:∃ks:List (Nat×Nat),f.links=ks.map (fun p=>(⟨[(97+p.1/ar.length).toUInt8],[(97+p.1%ar.length).toUInt8],p.2⟩:Lk))/\ks.Pairwise (fun p q=>p.1<q.1)/\∀p∈ks,p.1<ar.length*ar.length/\1<=p.2/\p.2<=3
 n:f.comps.length=ar.length/\1<=ar.length/\ar.length<=3
 jC:∀l∈ar,1<=l.length/\l.length<=3/\∀n∈l,n<=2
 comps:∀i c,f.comps[i]? =some c->jm f.flags.length ar i c
end Go.Fl
namespace Go.Proofs.YthicpeihkkokmaaGreatDoor
open Go.Ex Go.RowKit Go.Fl
variable{k n ints tables fl:Nat}{ar:a0f}{al:a0g}{ks:List (Nat×Nat)}{L:a0h}{C:List Pt}
theorem bg8{a b c:Nat}:aL (.bin .shr c) [.int .u8 (a:Nat),jD b]=some (.int .u8 ((a/2^min b 8:Nat):Int)):=by
 show ofInt (bs (iI (b:Int) 0) none (some (.int .u8 (Int.fdiv a (.ofNat (Nat.pow 2 (Nat.min (Int.toNat (b:Int)) 8)))))))=_;rw[nZ,f_ a0B];show some (D.int .u8 (Int.fdiv (a:Int) ((2^min b 8:Nat):Int)))=_;rw[<-Int.ofNat_fdiv]
theorem Lx(h:k<n)(hn:n<=3):aL (.vk 1 0 1 false) [jD k,.str [97],.str [98],.str [99]]=some (.str [(97+k).toUInt8]):=H3 a0B
section
variable{X:a0a}{parts:List Pt}{flags:List Fg}{links:List Lk}{Q:a0d->Prop}{comps:List Cm}{i len:Nat}{p:Pt}
def sX(k:Nat):List Vr:=(List.range k).map (fun k=>(⟨nm 120 k,1,k⟩:Vr))
def bW(n k:Nat):List Vr:=sX n++(⟨nm 98 0,2,0⟩:Vr)::(List.range k).map (fun k=>(⟨nm 116 k,3,0⟩:Vr))
theorem XV(k:Nat):(sX k).map Vr.r++[[.str (nm 120 k),iD 1,iD k]]=(sX (k+1)).map Vr.r:=by simp[sX,List.range_succ,Vr.r]
theorem XX(n:Nat):(sX n).map Vr.r++[[.str (nm 98 0),iD 2,iD 0]]=(bW n 0).map Vr.r:=by simp[bW,Vr.r]
theorem XW(n k:Nat):(bW n k).map Vr.r++[[.str (nm 116 k),iD 3,iD 0]]=(bW n (k+1)).map Vr.r:=by simp[bW,List.range_succ,Vr.r]
theorem Wr(k:Nat):((sX k).map Vr.r).length=k:=by simp[sX]
theorem Ws(n k:Nat):((bW n k).map Vr.r).length=n+1+k:=by simp[bW,sX];omega
theorem F5(l:List Cd)(k:Nat):(l.map Cd.d).take k=(l.take k).map Cd.d:=by rw[List.map_take]
theorem Aw(comps:List Cm)(c:Cm):comps.map Cm.r++[Cm.r c]=(comps++[c]).map Cm.r:=a0C
abbrev cD(ar:a0f)(i:Nat)(parts:List Pt)(len:Nat)(Rr:a0b)(nl k:Nat)(flags:List Fg)(links:List Lk)(comps:List Cm)(p:Pt)(vars:List Vr):a0d:=
 [.sl (ey ar),jD i,.sl (parts.map Pt.d),jD len,.sl Rr,jD nl,jD k,.sl (flags.map Fg.d),.sl (links.map Lk.d),.sl (comps.map Cm.r),bD p.ints.toNat,bD p.tables.toNat,.sl (p.hs.map Cd.d),.sl (p.second.map Cd.d),.str [(97+i).toUInt8],.sl (vars.map Vr.r)]
abbrev eD(ar:a0f)(parts:List Pt)(len i:Nat)(flags:List Fg)(links:List Lk)(comps:List Cm):a0d:=
 [.sl (ey ar),.sl (parts.map Pt.d),jD len,jD i,.sl (flags.map Fg.d),.sl (links.map Lk.d),.sl (comps.map Cm.r)]
theorem JN{α:Type}{l:List α}{a:α}{i:Nat}{R:Nat->α->Prop}(hi:l.length=i)(h:∀i c,l[i]? =some c->R i c)(ha:R i a):∀i c,(l++[a])[i]? =some c->R i c:=by
 intro k c hk;rcases Nat.lt_or_ge k l.length with bk|iL
 ·rw[xw bk] at hk;exact h k c hk
 ·rw[xq iL] at hk;have h0:k - l.length=0:=by
   rcases xI (k - l.length) with h|h
   ·exact h
   ·rw[List.getElem?_eq_none a0F] at hk;cases hk
  rw[h0] at hk;cases hk;obtain rfl:k=i:=a0B
  exact ha
theorem jm.one{nf i:Nat}{df:List Hn}(i1:1<=ints)(i3:ints<=3)(t1:tables<=1)(aQ:ar[i]? =some al)(fk:∀k h,df[k]? =some h->sh ints tables nf i ar al k h)(h1:df.length=al.length)(h2:1<=df.length):
 jm nf ar i ⟨[(97+i).toUInt8],bW ints tables,[df]⟩:=
 ⟨rfl,ints,tables,al,i1,i3,t1,aQ,rfl,xk 1,by show 1<=2;omega,⟨df,List.mem_singleton_self _,h1⟩,fun l hl=>by rw[xy] at hl;subst hl;exact⟨h2,Nat.le_of_eq h1,fk⟩⟩
theorem jm.two{nf i:Nat}{df cL:List Hn}(i1:1<=ints)(i3:ints<=3)(t1:tables<=1)(aQ:ar[i]? =some al)(fk:∀k h,df[k]? =some h->sh ints tables nf i ar al k h)(gJ:∀k h,cL[k]? =some h->sh ints tables nf i ar al k h)
 (h1:df.length<=al.length) (h2:1<=df.length) (h3:cL.length<=al.length) (h4:1<=cL.length) (h5:df.length=al.length\/cL.length=al.length):jm nf ar i ⟨[(97+i).toUInt8],bW ints tables,[df,cL]⟩:=
 ⟨rfl,ints,tables,al,i1,i3,t1,aQ,rfl,by show 1<=2;omega,xk 2,by
  rcases h5 with h|h
  ·exact⟨df,a0C,h⟩
  ·exact⟨cL,a0C,h⟩,fun l hl=>by
  rcases xG.1 hl with rfl|hl
  ·exact⟨h2,h1,fk⟩
  ·rw[xy] at hl;subst hl;exact⟨h4,h3,gJ⟩⟩
theorem az{rows:a0b}(h:rows.length=n):aL .uT [.sl rows]=some (jD n):=by rw[<-h];rfl
theorem b9(bE:(flags.map Fg.d).length<=2)(hi:i<(ey ar).length)(gX:(ey ar).length<=3)(o7:comps.length=i)(cS:∀l∈ar,1<=l.length/\l.length<=3/\∀n∈l,n<=2)(aQ:ar[i]? =some al)(aD:al.length=min 3 (max 1 (max p.hs.length p.second.length)))
 (H:∀c:Cm,jm (flags.map Fg.d).length ar i c->Rn F X 11 7 (eD ar parts len (i+1) flags links (comps++[c])) Q):
 ∀(f k:Nat),k+f=p.tables.toNat%2->Rn F X 11 9 (cD ar i parts len (kH 116 (p.tables.toNat%2)) (p.tables.toNat%2) k flags links comps p (bW (1+p.ints.toNat%3) k)) Q:=by
 have o4:=Ws (1+p.ints.toNat%3);intro f
 induction f with
 |zero=>
  intro k hk;have vB:(comps.map Cm.r).length=comps.length:=xm _;have hA:(p.hs.map Cd.d).length=p.hs.length:=xm _;have hB:(p.second.map Cd.d).length=p.second.length:=xm _;obtain rfl:k=p.tables.toNat%2:=a0B
  have t1:p.tables.toNat%2<=1:=a0B
  have i1:1<=1+p.ints.toNat%3:=a0B
  have i3:1+p.ints.toNat%3<=3:=a0B
  refine wr Y<|wn Y ai<|wo Y (mG (b:=3) .u8 a0B)<|wo Y oC<|wo Y (bm (a:=1) a0B)<|wo Y (mG (b:=2) .u8 a0B)<|mf<|wo Y oC<|wo Y bf<|wo Y bf<|wl Y (yJ _ 3) rfl<|xR<|wo Y (nw a0B)<|wo Y bf ?_;rw[F5];rcases xI p.hs.length with h0|h0
  ·have e1:(p.hs.take (min (p.hs.map Cd.d).length 3))=[]:=by rw[xE.1 h0];rfl
   rw[e1];refine wg 3 Y<|wx Y (yu (cs:=[⟨1,[]⟩]) (bs:=[]) (params:=0) (left:=0) i1 i3 t1 bE hi gX cS aQ (by show 1<=_;omega)) fun|_,⟨df,params,bs,left,rfl,gg,fk⟩=>⟨Y,?_⟩
   refine kF<|wg 3 Y<|wo Y bf ?_;have l1:df.length=max 1 (min 3 p.hs.length):=by rw[gg];show 1=_;omega
   rcases xI p.second.length with g0|g0
   ·refine Wp.dF Y cg (by rw[hB];omega)<|wg 2 Y<|mR<|wo Y oP<|wo Y oA ?_
    (have:=H ⟨[(97+i).toUInt8],bW (1+p.ints.toNat%3) (p.tables.toNat%2),[df]⟩ (jm.one i1 i3 t1 aQ fk a0B a0B);unfold eD at this;rw[<-Aw] at this;exact b_ Y this)
   ·refine Wp.dO Y cg (by rw[hB];omega)<|wo Y bf<|mR<|wl Y (yJ _ 3) rfl<|wo Y (nw a0B)<|wg 1 Y ?_;rw[F5];refine wx Y (yu i1 i3 t1 bE hi gX cS aQ (by rw[xz];omega)) fun|_,⟨cL,PF,Vh,Eg,rfl,aW,gJ⟩=>⟨Y,?_⟩
    refine wg 2 Y<|vd<|wo Y (gD Y Y a0C a0C)<|wg 2 Y<|wo Y oP<|wo Y oA ?_;dsimp only [eA,Ex.r,St.r,c_,n_,lh,lg,k9,kZ,kY];refine b_ Y ?_;rw[xz] at aW;have:=H ⟨[(97+i).toUInt8],bW (1+p.ints.toNat%3) (p.tables.toNat%2),[df,cL]⟩ (jm.two i1 i3 t1 aQ fk gJ a0B a0B a0B a0B a0B);unfold eD at this;rw[<-Aw] at this;exact this
  ·refine Wp.dF Y ay (by rw[xm,xz];omega)<|wg 1 Y<|wx Y (yu (bs:=[]) (params:=0) (left:=0) i1 i3 t1 bE hi gX cS aQ (by rw[xz];omega)) fun|_,⟨df,params,bs,left,rfl,gg,fk⟩=>⟨Y,?_⟩
   refine wg 2 Y<|kF<|wg 1 Y<|wo Y bf ?_;rw[xz] at gg;have l1:df.length=max 1 (min 3 p.hs.length):=a0B
   rcases xI p.second.length with g0|g0
   ·refine Wp.dF Y cg (by rw[hB];omega)<|wg 2 Y<|wo Y oP<|mR<|wo Y oA ?_
    (have:=H ⟨[(97+i).toUInt8],bW (1+p.ints.toNat%3) (p.tables.toNat%2),[df]⟩ (jm.one i1 i3 t1 aQ fk a0B a0B);unfold eD at this;rw[<-Aw] at this;exact b_ Y this)
   ·refine Wp.dO Y cg (by rw[hB];omega)<|wo Y bf<|wl Y (yJ _ 3) rfl<|mR<|wo Y (nw a0B)<|wg 1 Y ?_;rw[F5];refine wx Y (yu i1 i3 t1 bE hi gX cS aQ (by rw[xz];omega)) fun|_,⟨cL,PF,Vh,Eg,rfl,aW,gJ⟩=>⟨Y,?_⟩
    refine wg 2 Y<|wo Y (gD Y Y a0C a0C)<|vd<|wg 2 Y<|wo Y oP<|wo Y oA<|b_ Y ?_;rw[xz] at aW;have:=H ⟨[(97+i).toUInt8],bW (1+p.ints.toNat%3) (p.tables.toNat%2),[df,cL]⟩ (jm.two i1 i3 t1 aQ fk gJ a0B a0B a0B a0B a0B);unfold eD at this;rw[<-Aw] at this;exact this
 |succ f ih=>
  intro k hk;refine wr Y<|wy Y ai<|wo Y (aA (nY a0B) rfl)<|wg 3 Y<|wo Y (gD Y Y (by rw[o4];omega) (by rw[o4];omega))<|mf<|wo Y oA ?_
  (have:=ih (k+1) a0B;unfold cD at this;rw[<-XW] at this;exact b_ Y this)
theorem b8(H:Rn F X 11 9 (cD ar i parts len (kH 116 (p.tables.toNat%2)) (p.tables.toNat%2) 0 flags links comps p (bW (1+p.ints.toNat%3) 0)) Q):
 ∀(f k:Nat),k+f=1+p.ints.toNat%3->Rn F X 11 8 (cD ar i parts len (kH 120 (1+p.ints.toNat%3)) (1+p.ints.toNat%3) k flags links comps p (sX k)) Q:=by
 have hx:=Wr;intro f
 induction f with
 |zero=>
  intro k hk;obtain rfl:k=1+p.ints.toNat%3:=a0B
  have:=H;unfold cD at this;rw[<-XX] at this;exact wr Y<|wn Y ai<|wg 2 Y<|wo Y (gD Y Y (by rw[hx];omega) (by rw[hx];omega))<|wo Y (mG (b:=2) .u8 a0B)<|wo Y oC<|mf<|wl Y (mA (c:=116) (n:=p.tables.toNat%2) a0B a0B) rfl<|wo Y (az (yP _ _))<|wj this
 |succ f ih=>
  intro k hk;refine wr Y<|wy Y ai<|wo Y (aA (nY a0B) rfl)<|wg 3 Y<|wo Y (gD Y Y (by rw[hx];omega) (by rw[hx];omega))<|mf<|wo Y oA ?_
  (have:=ih (k+1) a0B;unfold cD at this;rw[<-XV] at this;exact b_ Y this)
theorem b6(bE:(flags.map Fg.d).length<=2)(hi:i<(ey ar).length)(gX:(ey ar).length<=3)(o7:comps.length=i)(cS:∀l∈ar,1<=l.length/\l.length<=3/\∀n∈l,n<=2)(aQ:ar[i]? =some al)(aD:al.length=min 3 (max 1 (max p.hs.length p.second.length)))
 (H:∀c:Cm,jm (flags.map Fg.d).length ar i c->Rn F X 11 7 (eD ar parts len (i+1) flags links (comps++[c])) Q):
 ∀(f k:Nat),k+f=p.tables.toNat%2->Rn F X 11 6 (cD ar i parts len (kH 116 (p.tables.toNat%2)) (p.tables.toNat%2) k flags links comps p (bW (1+p.ints.toNat%3) k)) Q:=by
 have o4:=Ws (1+p.ints.toNat%3);intro f
 induction f with
 |zero=>
  intro k hk;have vB:(comps.map Cm.r).length=comps.length:=xm _;have hA:(p.hs.map Cd.d).length=p.hs.length:=xm _;have hB:(p.second.map Cd.d).length=p.second.length:=xm _;obtain rfl:k=p.tables.toNat%2:=a0B
  have t1:p.tables.toNat%2<=1:=a0B
  have i1:1<=1+p.ints.toNat%3:=a0B
  have i3:1+p.ints.toNat%3<=3:=a0B
  refine wr Y<|wn Y ai<|wo Y (mG (b:=3) .u8 a0B)<|wo Y oC<|wo Y (bm (a:=1) a0B)<|wo Y (mG (b:=2) .u8 a0B)<|mf<|wo Y oC<|wo Y bf<|wo Y bf<|wl Y (yJ _ 3) rfl<|xR<|wo Y (nw a0B)<|wo Y bf ?_;rw[F5];rcases xI p.hs.length with h0|h0
  ·have e1:(p.hs.take (min (p.hs.map Cd.d).length 3))=[]:=by rw[xE.1 h0];rfl
   rw[e1];refine wg 3 Y<|wx Y (yu (cs:=[⟨1,[]⟩]) (bs:=[]) (params:=0) (left:=0) i1 i3 t1 bE hi gX cS aQ (by show 1<=_;omega)) fun|_,⟨df,params,bs,left,rfl,gg,fk⟩=>⟨Y,?_⟩
   refine kF<|wg 3 Y<|wo Y bf ?_;have l1:df.length=max 1 (min 3 p.hs.length):=by rw[gg];show 1=_;omega
   rcases xI p.second.length with g0|g0
   ·refine Wp.dF Y cg (by rw[hB];omega)<|wg 2 Y<|mR<|wo Y oP<|wo Y oA ?_
    (have:=H ⟨[(97+i).toUInt8],bW (1+p.ints.toNat%3) (p.tables.toNat%2),[df]⟩ (jm.one i1 i3 t1 aQ fk a0B a0B);unfold eD at this;rw[<-Aw] at this;exact b_ Y this)
   ·refine Wp.dO Y cg (by rw[hB];omega)<|wo Y bf<|mR<|wl Y (yJ _ 3) rfl<|wo Y (nw a0B)<|wg 1 Y ?_;rw[F5];refine wx Y (yu i1 i3 t1 bE hi gX cS aQ (by rw[xz];omega)) fun|_,⟨cL,PF,Vh,Eg,rfl,aW,gJ⟩=>⟨Y,?_⟩
    refine wg 2 Y<|vd<|wo Y (gD Y Y a0C a0C)<|wg 2 Y<|wo Y oP<|wo Y oA ?_;dsimp only [eA,Ex.r,St.r,c_,n_,lh,lg,k9,kZ,kY];refine b_ Y ?_;rw[xz] at aW;have:=H ⟨[(97+i).toUInt8],bW (1+p.ints.toNat%3) (p.tables.toNat%2),[df,cL]⟩ (jm.two i1 i3 t1 aQ fk gJ a0B a0B a0B a0B a0B);unfold eD at this;rw[<-Aw] at this;exact this
  ·refine Wp.dF Y ay (by rw[xm,xz];omega)<|wg 1 Y<|wx Y (yu (bs:=[]) (params:=0) (left:=0) i1 i3 t1 bE hi gX cS aQ (by rw[xz];omega)) fun|_,⟨df,params,bs,left,rfl,gg,fk⟩=>⟨Y,?_⟩
   refine wg 2 Y<|kF<|wg 1 Y<|wo Y bf ?_;rw[xz] at gg;have l1:df.length=max 1 (min 3 p.hs.length):=a0B
   rcases xI p.second.length with g0|g0
   ·refine Wp.dF Y cg (by rw[hB];omega)<|wg 2 Y<|wo Y oP<|mR<|wo Y oA ?_
    (have:=H ⟨[(97+i).toUInt8],bW (1+p.ints.toNat%3) (p.tables.toNat%2),[df]⟩ (jm.one i1 i3 t1 aQ fk a0B a0B);unfold eD at this;rw[<-Aw] at this;exact b_ Y this)
   ·refine Wp.dO Y cg (by rw[hB];omega)<|wo Y bf<|wl Y (yJ _ 3) rfl<|mR<|wo Y (nw a0B)<|wg 1 Y ?_;rw[F5];refine wx Y (yu i1 i3 t1 bE hi gX cS aQ (by rw[xz];omega)) fun|_,⟨cL,PF,Vh,Eg,rfl,aW,gJ⟩=>⟨Y,?_⟩
    refine wg 2 Y<|wo Y (gD Y Y a0C a0C)<|vd<|wg 2 Y<|wo Y oP<|wo Y oA<|b_ Y ?_;rw[xz] at aW;have:=H ⟨[(97+i).toUInt8],bW (1+p.ints.toNat%3) (p.tables.toNat%2),[df,cL]⟩ (jm.two i1 i3 t1 aQ fk gJ a0B a0B a0B a0B a0B);unfold eD at this;rw[<-Aw] at this;exact this
 |succ f ih=>
  intro k hk;refine wr Y<|wy Y ai<|wo Y (aA (nY a0B) rfl)<|wg 3 Y<|wo Y (gD Y Y (by rw[o4];omega) (by rw[o4];omega))<|mf<|wo Y oA ?_
  (have:=ih (k+1) a0B;unfold cD at this;rw[<-XW] at this;exact b_ Y this)
theorem b5(H:Rn F X 11 6 (cD ar i parts len (kH 116 (p.tables.toNat%2)) (p.tables.toNat%2) 0 flags links comps p (bW (1+p.ints.toNat%3) 0)) Q):
 ∀(f k:Nat),k+f=1+p.ints.toNat%3->Rn F X 11 5 (cD ar i parts len (kH 120 (1+p.ints.toNat%3)) (1+p.ints.toNat%3) k flags links comps p (sX k)) Q:=by
 have hx:=Wr;intro f
 induction f with
 |zero=>
  intro k hk;obtain rfl:k=1+p.ints.toNat%3:=a0B
  have:=H;unfold cD at this;rw[<-XX] at this;exact wr Y<|wn Y ai<|wg 2 Y<|wo Y (gD Y Y (by rw[hx];omega) (by rw[hx];omega))<|wo Y (mG (b:=2) .u8 a0B)<|wo Y oC<|mf<|wl Y (mA (c:=116) (n:=p.tables.toNat%2) a0B a0B) rfl<|wo Y (az (yP _ _))<|wj this
 |succ f ih=>
  intro k hk;refine wr Y<|wy Y ai<|wo Y (aA (nY a0B) rfl)<|wg 3 Y<|wo Y (gD Y Y (by rw[hx];omega) (by rw[hx];omega))<|mf<|wo Y oA ?_
  (have:=ih (k+1) a0B;unfold cD at this;rw[<-XV] at this;exact b_ Y this)
theorem bd2(bE:(flags.map Fg.d).length<=2)(hn:(parts.map Pt.d).length=(ey ar).length)(gX:(ey ar).length<=3)(o7:comps.length=i)(cS:∀l∈ar,1<=l.length/\l.length<=3/\∀n∈l,n<=2)
 (aQ:∀(i:Nat) (p:Pt),parts[i]? =some p->∃al,ar[i]? =some al/\al.length=min 3 (max 1 (max p.hs.length p.second.length))) (hi:i<(parts.map Pt.d).length)
 (H:∀c:Cm,jm (flags.map Fg.d).length ar i c->Rn F X 11 7 (eD ar parts (parts.map Pt.d).length (i+1) flags links (comps++[c])) Q):Rn F X 11 7 (eD ar parts (parts.map Pt.d).length i flags links comps) Q:=by
 obtain⟨p,hp,IR⟩:=BL hi;obtain⟨al,ha,IV⟩:=aQ i p hp;have:=b8 (ar:=ar) (i:=i) (parts:=parts) (len:=(parts.map Pt.d).length) (flags:=flags) (links:=links) (comps:=comps) (p:=p) (Q:=Q) (b9 bE a0B gX o7 cS ha IV H (p.tables.toNat%2) 0 a0B) (1+p.ints.toNat%3) 0 a0B;exact wr Y<|wy Y ai<|wo Y (aA IR rfl)<|wg 1 Y<|mg<|wy Y (qL (n:=3))<|wo Y (Lx (n:=3) a0B a0B)<|wo Y (mG (b:=3) .u8 a0B)<|wo Y oC<|wo Y (bm (a:=1) a0B)<|oT<|wl Y (mA (c:=120) (n:=1+p.ints.toNat%3) a0B a0B) rfl<|wo Y (az (yP _ _))<|wj this
theorem bd3(bE:(flags.map Fg.d).length<=2)(hn:(parts.map Pt.d).length=(ey ar).length)(gX:(ey ar).length<=3)(o7:comps.length=i)(cS:∀l∈ar,1<=l.length/\l.length<=3/\∀n∈l,n<=2)
 (aQ:∀(i:Nat) (p:Pt),parts[i]? =some p->∃al,ar[i]? =some al/\al.length=min 3 (max 1 (max p.hs.length p.second.length))) (hi:i<(parts.map Pt.d).length)
 (H:∀c:Cm,jm (flags.map Fg.d).length ar i c->Rn F X 11 7 (eD ar parts (parts.map Pt.d).length (i+1) flags links (comps++[c])) Q):Rn F X 11 4 (eD ar parts (parts.map Pt.d).length i flags links comps) Q:=by
 obtain⟨p,hp,IR⟩:=BL hi;obtain⟨al,ha,IV⟩:=aQ i p hp;have:=b5 (ar:=ar) (i:=i) (parts:=parts) (len:=(parts.map Pt.d).length) (flags:=flags) (links:=links) (comps:=comps) (p:=p) (Q:=Q) (b6 bE a0B gX o7 cS ha IV H (p.tables.toNat%2) 0 a0B) (1+p.ints.toNat%3) 0 a0B;exact wr Y<|wy Y ai<|wo Y (aA IR rfl)<|wg 1 Y<|mg<|wy Y (qL (n:=3))<|wo Y (Lx (n:=3) a0B a0B)<|wo Y (mG (b:=3) .u8 a0B)<|wo Y oC<|wo Y (bm (a:=1) a0B)<|oT<|wl Y (mA (c:=120) (n:=1+p.ints.toNat%3) a0B a0B) rfl<|wo Y (az (yP _ _))<|wj this
def at7(flags:List Fg)(links:List Lk)(ar:a0f)(o:a0d):Prop:=∃cs:List Cm,o=[.str [102,108,101,101,116,49],.sl (flags.map Fg.d),.sl (links.map Lk.d),.sl (cs.map Cm.r)]/\cs.length=ar.length/\∀i c,cs[i]? =some c->jm flags.length ar i c
theorem b7(bE:(flags.map Fg.d).length<=2)(hn:(parts.map Pt.d).length=(ey ar).length)(gX:(ey ar).length<=3)(cS:∀l∈ar,1<=l.length/\l.length<=3/\∀n∈l,n<=2)
 (aQ:∀(i:Nat) (p:Pt),parts[i]? =some p->∃al,ar[i]? =some al/\al.length=min 3 (max 1 (max p.hs.length p.second.length))):
 ∀(f i:Nat),i+f=(parts.map Pt.d).length->∀(comps:List Cm),comps.length=i->(∀i c,comps[i]? =some c->jm flags.length ar i c)->Rn F X 11 7 (eD ar parts (parts.map Pt.d).length i flags links comps) (at7 flags links ar):=by
 intro f
 induction f with
 |zero=>
  intro i hi comps hc hk;exact wr Y<|wn Y ai<|wt Y ⟨comps,rfl,by rw[<-AZ];omega,hk⟩
 |succ f ih=>
  intro i hi comps hc hk;refine bd2 bE hn gX hc cS aQ a0B (fun c ho=>ih (i+1) a0B (comps++[c]) a0F (JN hc hk ?_));rw[xm] at ho;exact ho
theorem b4(bE:(flags.map Fg.d).length<=2)(hn:(parts.map Pt.d).length=(ey ar).length)(gX:(ey ar).length<=3)(cy0:1<=(ey ar).length)(cS:∀l∈ar,1<=l.length/\l.length<=3/\∀n∈l,n<=2)
 (aQ:∀(i:Nat) (p:Pt),parts[i]? =some p->∃al,ar[i]? =some al/\al.length=min 3 (max 1 (max p.hs.length p.second.length))):Rn F X 11 4 (eD ar parts (parts.map Pt.d).length 0 flags links []) (at7 flags links ar):=
 bd3 bE hn gX rfl cS aQ a0B (fun c ho=>b7 bE hn gX cS aQ ((parts.map Pt.d).length - 1) 1 a0B [c] rfl (JN (l:=[]) rfl (fun i c h=>by simp at h) (by rw[xm] at ho;exact ho)))
theorem aT0(ar:a0f)(l:a0g):ey ar++[[.sl (lO l)]]=ey (ar++[l]):=by simp[ey,lO]
def ag9(parts:List Pt)(ar:a0f)(n:Nat):Prop:=ar.length=n/\(∀l∈ar,1<=l.length/\l.length<=3/\∀n∈l,n<=2)/\∀(i:Nat) (p:Pt),i<n->parts[i]? =some p->∃al,ar[i]? =some al/\al.length=min 3 (max 1 (max p.hs.length p.second.length))
theorem b3(bH:parts.length<=3)(H:∀ar,ag9 parts ar parts.length->Rn F X 11 4 (eD ar parts (parts.map Pt.d).length 0 flags links []) Q):∀(f i:Nat),i+f=parts.length->∀ar,ag9 parts ar i->Rn F X 11 3 [.sl (parts.map Pt.d),.sl (ey ar),jD (parts.map Pt.d).length,jD i,.sl (flags.map Fg.d),.sl (links.map Lk.d)] Q:=by
 have iZ:(parts.map Pt.d).length=parts.length:=xm _;intro f
 induction f with
 |zero=>
  intro i hi ar ha;obtain rfl:i=parts.length:=a0B
  exact wr Y<|wn Y ai<|wo Y bf<|wj (H ar ha)
 |succ f ih=>
  intro i hi ar ha;obtain⟨p,hp,IR⟩:=BL (f:=Pt.d) (l:=parts) (i:=i) a0B;obtain⟨nS,CS,UR⟩:=ha;refine wr Y<|wy Y ai<|wo Y (aA IR rfl)<|wg 1 Y<|dC<|wg 1 Y<|wx Y (aS8 p) fun|_,⟨al,rfl,aQ,gf⟩=>⟨Y,?_⟩
  refine wg 2 Y<|wo Y (gD Y Y (by rw[AZ];omega) (by rw[AZ];omega))<|wo Y oA<|ei<|b_ Y ?_;have:=ih (i+1) a0B (ar++[al]) ⟨by rw[xa,nS];rfl,fun l h=>by
   rcases xF.1 h with h|h
   ·exact CS l h
   ·rw[xy] at h;subst h;exact⟨a0B,a0B,gf⟩,fun j q hj hq=>by
   rcases Nat.lt_or_ge j i with bk|iL
   ·obtain⟨NM,h1,h2⟩:=UR j q bk hq;exact⟨NM,by rw[xw a0B];exact h1,h2⟩
   ·obtain rfl:j=i:=a0B
    rw[hp] at hq;cases hq;exact⟨al,by rw[xq a0B,nS,Nat.sub_self];rfl,aQ⟩⟩
  rw[<-aT0] at this;exact this
theorem Np(a b:Nat)(h:1<=b):aL (.bin .rem 0) [.int .u8 (a:Nat),.int .u8 (b:Nat)]=some (.int .u8 ((a%b:Nat):Int)):=mG .u8 h
def z9(n:Nat)(ks:List (Nat×Nat)):List Lk:=ks.map (fun p=>(⟨[(97+p.1/n).toUInt8],[(97+p.1%n).toUInt8],p.2⟩:Lk))
theorem bC2(n k t:Nat)(ks:List (Nat×Nat)):(z9 n ks).map Lk.d++[[.str [(97+k/n).toUInt8],.str [(97+k%n).toUInt8],iD t]]=(z9 n (ks++[(k,t)])).map Lk.d:=by simp[z9,Lk.d]
def wA(n k:Nat)(ks:List (Nat×Nat)):Prop:=ks.length<=k/\ks.Pairwise (fun p q=>p.1<q.1)/\∀p∈ks,p.1<k/\p.1<n*n/\1<=p.2/\p.2<=3
theorem wA.mono(h:wA n k ks):wA n (k+1) ks:=⟨by have:=h.1;omega,h.2.1,fun p hp=>by have:=h.2.2 p hp;exact⟨a0B,this.2⟩⟩
theorem wA.snoc{t:Nat}(h:wA n k ks)(hk:k<n*n)(h1:1<=t)(h3:t<=3):wA n (k+1) (ks++[(k,t)]):=
 ⟨by have:=h.1;rw[xa];show ks.length+1<=_;omega,List.pairwise_append.2 ⟨h.2.1,List.pairwise_singleton _ _,fun a ha b hb=>by rw[xy] at hb;subst hb;exact(h.2.2 a ha).1⟩,fun p hp=>by
  rcases xF.1 hp with hp|hp
  ·have:=h.2.2 p hp;exact⟨a0B,this.2⟩
  ·rw[xy] at hp;subst hp;exact⟨by show k<k+1;omega,hk,h1,h3⟩⟩
theorem aS0(h:k<(bV L).length):∃b:UInt8,(bV L)[k]? =some [bD b.toNat]:=(BL h).imp fun _ h=>h.2
theorem b2(nQ:1<=n)(yc:n<=3)(hn:(parts.map Pt.d).length=n)
 (H:∀ks,wA n (n*n) ks->Rn F X 11 3 [.sl (parts.map Pt.d),.sl (ey []),jD (parts.map Pt.d).length,jD 0,.sl (flags.map Fg.d),.sl ((z9 n ks).map Lk.d)] Q):
 ∀(f k:Nat),k+f=n*n->∀ks,wA n k ks->Rn F X 11 2 [jD n,.sl (parts.map Pt.d),jD k,bD fl,.sl (bV L),.sl (C.map Pt.d),.sl (flags.map Fg.d),.sl ((z9 n ks).map Lk.d)] Q:=by
 have hn9:n*n<=9:=Nat.mul_le_mul yc yc;have IT:∀ks,((z9 n ks).map Lk.d).length=ks.length:=fun ks=>by simp[z9]
 intro f
 induction f with
 |zero=>
  intro k hk ks dW;obtain rfl:k=n*n:=a0B
  refine wr Y<|wo Y bf<|d_ Y ai ?_ ?_<;>intro h
  ·exact wo Y (uA a0B)<|wn Y ai<|wo Y bf<|wj (H ks dW)
  ·exact wo Y bf<|wj (H ks dW)
 |succ f ih=>
  intro k hk ks dW;have hd:k/n<n:=Nat.div_lt_of_lt_mul a0B;have hm:k%n<n:=Nat.mod_lt _ nQ;have FC:=dW.1;have up:wA n (n*n) ks:=⟨a0B,dW.2.1,fun p hp=>by have:=dW.2.2 p hp;exact⟨a0B,this.2⟩⟩;refine wr Y<|wo Y bf<|d_ Y ai ?_ ?_<;>intro h
  ·refine wo Y (uA a0B)<|wy Y ai ?_
   (obtain⟨b,Aq⟩:=aS0 (k:=k) (L:=L) a0B;refine e_ Y (aA Aq rfl) rfl ?_)
   refine wg 1 Y<|mg<|wo Y (mG (b:=4) .u8 a0B)<|d_ Y cg ?_ ?_<;>intro h
   ·refine wo Y (wb nQ a0B)<|wy Y (qL (n:=3))<|wo Y (Lx (n:=n) a0B a0B)<|wo Y (mG (b:=n) .i64 nQ)<|oT<|wy Y (qL (n:=3))<|wo Y (Lx (n:=n) a0B a0B)<|wo Y (aA Aq rfl)<|wg 1 Y<|wo Y (mG (b:=4) .u8 a0B)<|mf<|wo Y oC<|wg 2 Y<|wo Y (gD Y Y (by rw[IT];omega) (by rw[IT];omega))<|wo Y oA<|xR ?_
    (have:=ih (k+1) a0B (ks++[(k,b.toNat%4)]) (dW.snoc a0B a0B a0B);rw[<-bC2] at this;exact b_ Y this)
   ·exact wo Y oA<|b_ Y (ih (k+1) a0B ks dW.mono)
  ·exact wo Y bf<|wj (H ks up)
theorem an5(flags:List Fg)(n:aq)(b:Bool):flags.map Fg.d++[[.str n,.bool b]]=(flags++[(⟨n,b⟩:Fg)]).map Fg.d:=by simp[Fg.d]
theorem b1(CK:fl%3<=2)
 (H:∀flags:List Fg,flags.length=fl%3->(∀k x,flags[k]? =some x->x.name=nm 102 k)->Rn F X 11 2 [jD n,.sl (parts.map Pt.d),jD 0,bD fl,.sl (bV L),.sl (C.map Pt.d),.sl (flags.map Fg.d),.sl []] Q):
 ∀(f k:Nat),k+f=fl%3->∀flags:List Fg,flags.length=k->(∀k x,flags[k]? =some x->x.name=nm 102 k)->Rn F X 11 1 [jD n,.sl (parts.map Pt.d),.sl (kH 102 (fl%3)),jD (fl%3),jD k,bD fl,.sl (bV L),.sl (C.map Pt.d),.sl (flags.map Fg.d)] Q:=by
 intro f
 induction f with
 |zero=>
  intro k hk flags hl hx;exact wr Y<|wn Y ai<|b_ Y (H flags a0B hx)
 |succ f ih=>
  intro k hk flags hl hx;have UE:(flags.map Fg.d).length=flags.length:=xm _;refine wr Y<|wy Y ai<|wo Y (aA (nY a0B) rfl)<|wg 1 Y<|wo Y (bm (a:=4) a0B)<|wo Y bg8<|mS<|wo Y (mG (b:=2) .u8 a0B)<|d_ Y ay ?_ ?_<;>intro h
  ·refine wg 2 Y<|wo Y oP<|wo Y oA<|hZ ?_
   (have:=ih (k+1) a0B (flags++[⟨nm 102 k,true⟩]) a0F (JN hl hx rfl);rw[<-an5] at this;exact b_ Y this)
  ·refine wg 2 Y<|wo Y oP<|wo Y oA<|hZ ?_
   (have:=ih (k+1) a0B (flags++[⟨nm 102 k,false⟩]) a0F (JN hl hx rfl);rw[<-an5] at this;exact b_ Y this)
theorem ptT(l:List Pt)(k:Nat):(l.map Pt.d).take k=(l.take k).map Pt.d:=by rw[List.map_take]
def Z3(o:a0d):Prop:=∃f ar,o=dg.r f/\gZ ar f
theorem Wn(nQ:1<=n)(yc:n<=3)(hn:parts.length=n):Rn F X 11 1 [jD n,.sl (parts.map Pt.d),.sl (kH 102 (fl%3)),jD (fl%3),jD 0,bD fl,.sl (bV L),.sl (C.map Pt.d),.sl []] Z3:=by
 have iZ:(parts.map Pt.d).length=parts.length:=xm _;refine b1 a0B (fun flags hf hx=> ?_) (fl%3) 0 a0B [] rfl (fun k x h=>by simp at h);have UE:(flags.map Fg.d).length=flags.length:=xm _;refine b2 nQ yc a0B (fun ks dW=> ?_) (n*n) 0 a0B [] ⟨xL _,.nil,fun p h=>by cases h⟩;refine b3 a0B (fun ar ha=> ?_) parts.length 0 a0B [] ⟨rfl,fun l h=>(by cases h),fun i p h=>a0B⟩;have aQ:ar.length=n:=by rw[ha.1,hn]
 refine(b4 a0B (by rw[AZ,aQ];omega) (by rw[AZ];omega) (by rw[AZ];omega) ha.2.1 (fun i p h=>ha.2.2 i p (xe.1 h).1 h)).mono ?_;rintro _ ⟨cs,rfl,hl,hc⟩;refine⟨⟨[102,108,101,101,116,49],flags,z9 n ks,cs⟩,ar,rfl,rfl,⟨by show flags.length<=2;omega,hx⟩,⟨ks,by rw[aQ];rfl,dW.2.1,fun p hp=>by rw[aQ];have:=dW.2.2 p hp;exact⟨this.2.1,this.2.2⟩⟩,⟨hl,a0B,a0B⟩,ha.2.1,hc⟩
theorem Pn(p:vc):Rn F X 11 0 p.d Z3:=by
 obtain⟨fl,L,C⟩:=p;have hC:(C.map Pt.d).length=C.length:=xm _;refine wr Y<|wo Y bf<|wl Y (yJ _ 3) rfl<|wo Y (nw a0B)<|d_ Y ay ?_ ?_<;>intro h
 ·exact wo Y (mG (b:=3) .u8 a0B)<|w7<|wo Y oC<|wl Y (mA (c:=102) (n:=fl.toNat%3) a0B a0B) rfl<|wo Y (az (yP _ _))<|wg 1 Y<|dC<|b_ Y (Wn (parts:=[⟨0,0,[],[]⟩]) (n:=1) a0B a0B rfl)
 ·refine wo Y (mG (b:=3) .u8 a0B)<|w7<|wo Y oC<|wl Y (mA (c:=102) (n:=fl.toNat%3) a0B a0B) rfl<|wo Y (az (yP _ _)) ?_
  (dsimp only at h;have:=Wn (X:=X) (parts:=C.take (min (C.map Pt.d).length 3)) (n:=min (C.map Pt.d).length 3) (L:=L) (fl:=fl.toNat) (C:=C) a0B a0B (by rw[xz];omega);rw[<-ptT] at this;exact b_ Y this)
end
end Go.Proofs.YthicpeihkkokmaaGreatDoor
namespace Go.Fl
open Go.Ex
variable{k:Nat}
inductive jK (P:Ex->Prop):Ex->Prop
 |mk {op:Nat} {name:aq} {n:Nat} {args:List Ex} (h:P ⟨op,name,n,args⟩) (ha:∀a∈args,jK P a):jK P ⟨op,name,n,args⟩
def GN:a0s:=[[102,108,101,101,116,49],nm 102 0,nm 102 1,[97],[98],[99],nm 120 0,nm 120 1,nm 120 2,nm 98 0,nm 116 0,nm 104 0,nm 104 1,nm 104 2,nm 112 0,nm 112 1]
def jM(op:Nat):Nat:=if op=6\/op=7\/op=9\/op=10 then 1 else if 11<=op then 2 else 0
structure gV (e:Ex):Prop where
 op:∃op name n args,e=⟨op,name,n,args⟩/\1<=op/\op<=23/\args.length=jM op/\(op=1/\n<=8\/op≠1/\n=0)/\(5<=op/\op<=8/\name∈GN\/(op<5\/8<op)/\name=[])
theorem gV.of{op:Nat}{name:aq}{n:Nat}{args:List Ex}(h1:1<=op)(h2:op<=23)(h3:args.length=jM op)(h4:op=1/\n<=8\/op≠1/\n=0)(h5:5<=op/\op<=8/\name∈GN\/(op<5\/8<op)/\name=[]):gV ⟨op,name,n,args⟩:=⟨op,name,n,args,rfl,h1,h2,h3,h4,h5⟩
theorem gV.get{op:Nat}{name:aq}{n:Nat}{args:List Ex}(h:gV ⟨op,name,n,args⟩):1<=op/\op<=23/\args.length=jM op/\(op=1/\n<=8\/op≠1/\n=0)/\(5<=op/\op<=8/\name∈GN\/(op<5\/8<op)/\name=[]):=by
 obtain⟨_,_,_,_,e,h⟩:=h;cases e;exact h
theorem MA(h:k<3):nm 120 k∈GN:=by
 have:k=0\/k=1\/k=2:=a0B
 rcases this with rfl|rfl|rfl<;>decide
theorem SY(h:k<3):nm 104 k∈GN:=by
 have:k=0\/k=1\/k=2:=a0B
 rcases this with rfl|rfl|rfl<;>decide
theorem MB(h:k<3):[(97+k).toUInt8]∈GN:=by
 have:k=0\/k=1\/k=2:=a0B
 rcases this with rfl|rfl|rfl<;>decide
theorem an2(h:k<2):nm 102 k∈GN:=by
 have:k=0\/k=1:=a0B
 rcases this with rfl|rfl<;>decide
theorem an1(h:k<2):nm 112 k∈GN:=by
 have:k=0\/k=1:=a0B
 rcases this with rfl|rfl<;>decide
theorem EX:nm 116 0∈GN:=a0I
theorem SZ:nm 98 0∈GN:=a0I
structure Sc.Ok (c:Sc):Prop where
 i:c.ints<=3
 t:c.tables<=1
 f:c.flags<=2
 p:c.params<=2
theorem fS.all{c:Sc}(hc:c.Ok){d:Nat}{e:Ex}(h:fS c d e):jK gV e:=by
 have h1:=hc.i;have h2:=hc.p
 induction h with
 |num n h=>exact .mk (.of a0B a0B rfl (.inl ⟨rfl,h⟩) (.inr ⟨a0B,rfl⟩)) (fun a h=>by cases h)
 |var k h=>exact .mk (.of a0B a0B rfl (.inr ⟨a0B,rfl⟩) (.inl ⟨a0B,a0B,MA a0B⟩)) (fun a h=>by cases h)
 |mm k h=>exact .mk (.of a0B a0B rfl (.inr ⟨a0B,rfl⟩) (.inl ⟨a0B,a0B,an1 a0B⟩)) (fun a h=>by cases h)
 |now=>exact .mk (.of a0B a0B rfl (.inr ⟨a0B,rfl⟩) (.inr ⟨a0B,rfl⟩)) (fun a h=>by cases h)
 |get h _ ih=>exact .mk (.of a0B a0B rfl (.inr ⟨a0B,rfl⟩) (.inl ⟨a0B,a0B,EX⟩)) (fun a h=>by rw[xy] at h;subst h;exact ih)
 |size h=>exact .mk (.of a0B a0B rfl (.inr ⟨a0B,rfl⟩) (.inl ⟨a0B,a0B,EX⟩)) (fun a h=>by cases h)
 |neg _ ih=>exact .mk (.of a0B a0B rfl (.inr ⟨a0B,rfl⟩) (.inr ⟨a0B,rfl⟩)) (fun a h=>by rw[xy] at h;subst h;exact ih)
 |bin op a b _ _ kI dT=>exact .mk (.of a0B a0B (by unfold jM;rw[j_ a0B,i_ a0B];rfl) (.inr ⟨a0B,rfl⟩) (.inr ⟨a0B,rfl⟩)) (fun a h=>by
  rcases xG.1 h with rfl|h
  ·exact kI
  ·rw[xy] at h;subst h;exact dT)
theorem ka.all{c:Sc}(hc:c.Ok){d:Nat}{e:Ex}(h:ka c d e):jK gV e:=by
 have h1:=hc.f
 induction h with
 |lit op a b=>exact .mk (.of a0B a0B (by unfold jM;rw[j_ a0B,j_ a0B];rfl) (.inr ⟨a0B,rfl⟩) (.inr ⟨a0B,rfl⟩)) (fun a h=>by cases h)
 |b0=>exact .mk (.of a0B a0B rfl (.inr ⟨a0B,rfl⟩) (.inl ⟨a0B,a0B,SZ⟩)) (fun a h=>by cases h)
 |flag k h=>exact .mk (.of a0B a0B rfl (.inr ⟨a0B,rfl⟩) (.inl ⟨a0B,a0B,an2 a0B⟩)) (fun a h=>by cases h)
 |has h he=>exact .mk (.of a0B a0B rfl (.inr ⟨a0B,rfl⟩) (.inl ⟨a0B,a0B,EX⟩)) (fun a h=>by rw[xy] at h;subst h;exact he.all hc)
 |not _ ih=>exact .mk (.of a0B a0B rfl (.inr ⟨a0B,rfl⟩) (.inr ⟨a0B,rfl⟩)) (fun a h=>by rw[xy] at h;subst h;exact ih)
 |C4 op a b _ _ kI dT=>exact .mk (.of a0B a0B (by unfold jM;rw[j_ a0B,i_ a0B];rfl) (.inr ⟨a0B,rfl⟩) (.inr ⟨a0B,rfl⟩)) (fun a h=>by
  rcases xG.1 h with rfl|h
  ·exact kI
  ·rw[xy] at h;subst h;exact dT)
 |cmp op a b ha hb=>exact .mk (.of a0B a0B (by unfold jM;rw[j_ a0B,i_ a0B];rfl) (.inr ⟨a0B,rfl⟩) (.inr ⟨a0B,rfl⟩)) (fun a h=>by
  rcases xG.1 h with rfl|h
  ·exact ha.all hc
  ·rw[xy] at h;subst h;exact hb.all hc)
theorem Hj{α β:Type}(f:α->β)(V:List α)(a:α)(aa:List α):((V++a::aa).map f)[V.length]? =some (f a):=by
 rw[List.map_append,xq a0C];simp
end Go.Fl
namespace Go.Proofs.YthicpeihkkokmaaGreatDoor
open Go.Ex Go.RowKit Go.Fl
section
variable{X:a0a}
theorem Zg:∀(l:List Fl.Ex),Ex.rs l=l.map Ex.r
 |[]=>rfl
 |e::l=>by show Ex.r e::Ex.rs l=_;rw[Zg l];rfl
theorem DS:∀(l:List Fl.Ex),Ex.ss l=l.map Ex.s
 |[]=>rfl
 |e::l=>by show Ex.s e::Ex.ss l=_;rw[DS l];rfl
theorem X5:∀(l:a0p),St.rs l=l.map St.r
 |[]=>rfl
 |e::l=>by show St.r e::St.rs l=_;rw[X5 l];rfl
theorem Gu:∀(l:a0p),St.ss l=l.map St.s
 |[]=>rfl
 |e::l=>by show St.s e::St.ss l=_;rw[Gu l];rfl
theorem KH(V:List Fl.Ex)(a:Fl.Ex)(aa:List Fl.Ex):(Ex.rs (V++a::aa))[V.length]? =some (Ex.r a):=by rw[Zg];exact Hj _ _ _ _
theorem qF(V:List Fl.Ex)(a:Fl.Ex)(aa:List Fl.Ex):(Ex.ss (V++a::aa))[V.length]? =some (Ex.s a):=by rw[DS];exact Hj _ _ _ _
theorem J7(V:a0p)(a:St)(aa:a0p):(St.rs (V++a::aa))[V.length]? =some (St.r a):=by rw[X5];exact Hj _ _ _ _
theorem vV(V:a0p)(a:St)(aa:a0p):(St.ss (V++a::aa))[V.length]? =some (St.s a):=by rw[Gu];exact Hj _ _ _ _
theorem X4(l:List Fl.Ex)(e:Fl.Ex):Ex.ss l++[Ex.s e]=Ex.ss (l++[e]):=by simp[DS]
theorem aL4(l:a0p)(e:St):St.ss l++[St.s e]=St.ss (l++[e]):=by simp[Gu]
theorem gF(l:List Fl.Ex):(Ex.ss l).length=l.length:=by simp[DS]
theorem mC(l:a0p):(St.ss l).length=l.length:=by simp[Gu]
theorem bw{α:Type}(V:List α)(a:α)(aa:List α):V++a::aa=(V++[a])++aa:=a0C
theorem bb2{e:Fl.Ex}(h:jK gV e):Rn F X 12 0 (Ex.r e) (·=Ex.s e):=by
 induction h with
 | @mk op name n args hn ha ih=>
  obtain⟨h1,h2,h3,h4,h5⟩:=hn.get;have ek:jM op<=2:=by unfold jM;split<;>(try split)<;>omega
  have loop:∀(aa V:List Fl.Ex),args=V++aa->Rn F X 12 1 [.sl (Ex.rs args),jD args.length,jD V.length,bD op,.str name,iD n,.sl (Ex.ss V)] (·=Ex.s ⟨op,name,n,args⟩):=by
   intro aa
   induction aa with
   |nil=>
    intro V hp;rw[xj] at hp;subst hp;exact wr Y<|wn Y ai<|wt Y Y
   |cons a aa cX=>
    intro V hp;have aD:args.length=V.length+(aa.length+1):=by rw[hp,xa];rfl
    have ao:(Ex.rs args)[V.length]? =some (Ex.r a):=by rw[hp];exact KH _ _ _
    have nS:=ih a (by rw[hp];simp);have:=cX (V++[a]) (by rw[hp,bw]);rw[<-X4,xa] at this;obtain⟨o1,n1,i1,a1⟩:=a;exact wr Y<|wy Y ai<|wo Y (aA ao Y)<|wg 1 Y<|mg<|wl Y nS rfl<|oT<|wg 2 Y<|wo Y (gD Y Y (by rw[gF];omega) (by rw[gF];omega))<|wo Y oA<|wj this
  exact wr Y<|wo Y (yZ a0B)<|wo Y (az (rR _))<|wj (loop args [] rfl)
end
end Go.Proofs.YthicpeihkkokmaaGreatDoor
namespace Go.Fl
open Go.Ex
mutual
def Ex.dp:Ex->Nat| .mk _ _ _ args=>Ex.eF args+1
def Ex.eF:List Ex->Nat|[]=>0|e::l=>max (Ex.dp e) (Ex.eF l)
end
theorem fS.dp{c:Sc}{d:Nat}{e:Ex}(h:fS c d e):e.dp<=d+1:=by
 induction h with
 |num n h=>simp[Ex.dp,Ex.eF]
 |var k h=>simp[Ex.dp,Ex.eF]
 |mm k h=>simp[Ex.dp,Ex.eF]
 |now=>simp[Ex.dp,Ex.eF]
 |get h _ ih=>simp[Ex.dp,Ex.eF];omega
 |size h=>simp[Ex.dp,Ex.eF]
 |neg _ ih=>simp[Ex.dp,Ex.eF];omega
 |bin op a b _ _ kI dT=>simp[Ex.dp,Ex.eF];omega
theorem ka.dp{c:Sc}{d:Nat}{e:Ex}(h:ka c d e):e.dp<=d+1:=by
 induction h with
 |lit op a b=>simp[Ex.dp,Ex.eF]
 |b0=>simp[Ex.dp,Ex.eF]
 |flag k h=>simp[Ex.dp,Ex.eF]
 |has h he=>have:=he.dp;simp[Ex.dp,Ex.eF];omega
 |not _ ih=>simp[Ex.dp,Ex.eF];omega
 |C4 op a b _ _ kI dT=>simp[Ex.dp,Ex.eF];omega
 |cmp op a b ha hb=>have:=ha.dp;have:=hb.dp;simp[Ex.dp,Ex.eF];omega
inductive dM (P:St->Prop):St->Prop
 |mk {kind:Nat} {name cf:aq} {bh:List Ex} {th el:a0p} (h:P ⟨kind,name,cf,bh,th,el⟩) (h1:∀s∈th,dM P s) (h2:∀s∈el,dM P s):dM P ⟨kind,name,cf,bh,th,el⟩
theorem dM.head{P:St->Prop}{s:St}(h:dM P s):P s:=by cases h;assumption
structure Ey (kind:Nat) (name cf:aq) (bh:List Ex) (th el:a0p):Prop where
 k1:1<=kind
 vl:kind<=10
 ex:∀e∈bh,jK gV e/\e.dp<=6
 nm:(kind=1\/kind=2\/kind=3\/kind=6\/kind=9)/\name∈GN\/(kind=4\/kind=5\/kind=7\/kind=8\/kind=10)/\name=[]
 hn:(kind=6\/kind=7)/\cf∈GN\/(kind≠6/\kind≠7)/\cf=[]
 ln:(kind=1\/kind=3\/kind=4\/kind=5\/kind=9)/\bh.length=1\/(kind=2\/kind=8)/\bh.length=2\/kind=6/\bh.length<=2\/kind=7/\1<=bh.length/\bh.length<=3\/kind=10/\bh.length=0
 thn:kind=4\/kind=5\/th=[]
 eln:kind=4\/kind=8\/kind=9\/el=[]
 tl:th.length<=12
 ll:el.length<=12
def jR:St->Prop| .mk kind name cf bh th el=>Ey kind name cf bh th el
structure Wd.Ok (w:Wd):Prop where
 sc:w.sc.Ok
 F8:w.ar.length<=3
 jC:∀l∈w.ar,l.length<=3/\∀n∈l,n<=2
theorem iR{α:Type}{l:List α}{i:Nat}{a:α}(h:l[i]? =some a):i<l.length:=(xe.1 h).1
theorem uS{α:Type}{P:α->Prop}{a:α}(h:P a):∀x∈[a],P x:=fun x hx=>by rw[xy] at hx;subst hx;exact h
theorem Md{α:Type}{P:α->Prop}{a b:α}(h:P a)(k:P b):∀x∈[a,b],P x:=fun x hx=>by
 rcases xG.1 hx with rfl|hx
 ·exact h
 ·exact uS k x hx
theorem ma.node{w:Wd}(hw:w.Ok){B:a0p->Prop}{s:St}(h:ma w B s)(hn:s.n<=12):jR s:=by
 have ie:∀{e:Ex},fS w.sc 3 e->jK gV e/\e.dp<=6:=fun h=>⟨h.all hw.sc,by have:=h.dp;omega⟩
 have be:∀{e:Ex},ka w.sc 5 e->jK gV e/\e.dp<=6:=fun h=>⟨h.all hw.sc,by have:=h.dp;omega⟩
 have hi:=hw.sc.i;have aD:∀l:a0p,St.ns l<=12->l.length<=12:=fun l h=>xH (Go.Proofs.YthicpeihkkokmaaGreatDoor.nj l) h
 have hz:([]:a0p).length<=12:=xL _;cases h with
 |nz k hk he=>exact⟨a0B,a0B,uS (ie he),.inl ⟨a0B,MA a0B⟩,.inr ⟨a0B,rfl⟩,.inl ⟨a0B,rfl⟩,.inr (.inr Y),.inr (.inr (.inr Y)),hz,hz⟩
 |BS he=>exact⟨a0B,a0B,uS (be he),.inl ⟨a0B,SZ⟩,.inr ⟨a0B,rfl⟩,.inl ⟨a0B,rfl⟩,.inr (.inr Y),.inr (.inr (.inr Y)),hz,hz⟩
 |put h ha hb=>exact⟨a0B,a0B,Md (ie ha) (ie hb),.inl ⟨a0B,EX⟩,.inr ⟨a0B,rfl⟩,.inr (.inl ⟨a0B,rfl⟩),.inr (.inr Y),.inr (.inr (.inr Y)),hz,hz⟩
 |del h ha=>exact⟨a0B,a0B,uS (ie ha),.inl ⟨a0B,EX⟩,.inr ⟨a0B,rfl⟩,.inl ⟨a0B,rfl⟩,.inr (.inr Y),.inr (.inr (.inr Y)),hz,hz⟩
 | @cond e he th el h1 h2=>have fy:=hn;simp[St.n] at fy;exact⟨a0B,a0B,uS (be he),.inr ⟨a0B,rfl⟩,.inr ⟨a0B,rfl⟩,.inl ⟨a0B,rfl⟩,.inl Y,.inl Y,aD _ (by simp[St.ns] at*;omega),aD _ (by simp[St.ns] at*;omega)⟩
 |EB he h1=>have fy:=hn;simp[St.n] at fy;exact⟨a0B,a0B,uS (be he),.inr ⟨a0B,rfl⟩,.inr ⟨a0B,rfl⟩,.inl ⟨a0B,rfl⟩,.inr (.inl Y),.inr (.inr (.inr Y)),aD _ (by simp[St.ns] at*;omega),hz⟩
 |send i h n gx hh he hn=>
  have q1:=iR gx;have q2:=iR hh
  have q3:=hw.jC _ (xu gx);have q4:=q3.2 _ (xu hh);have q5:=hw.F8;exact⟨a0B,a0B,fun e h=>ie (he e h),.inl ⟨a0B,MB a0B⟩,.inl ⟨a0B,SY a0B⟩,.inr (.inr (.inl ⟨rfl,a0B⟩)),.inr (.inr Y),.inr (.inr (.inr Y)),hz,hz⟩
 |Ci h n gx hh he hn=>
  have q1:=iR gx;have q2:=iR hh
  have q3:=hw.jC _ (xu gx);have q4:=q3.2 _ (xu hh);exact⟨a0B,a0B,fun e h=>ie (he e h),.inr ⟨a0B,rfl⟩,.inl ⟨a0B,SY a0B⟩,.inr (.inr (.inr (.inl ⟨rfl,a0B,a0B⟩))),.inr (.inr Y),.inr (.inr (.inr Y)),hz,hz⟩
 |store ha hb h2=>have fy:=hn;simp[St.n] at fy;exact⟨a0B,a0B,Md (ie ha) (ie hb),.inr ⟨a0B,rfl⟩,.inr ⟨a0B,rfl⟩,.inr (.inl ⟨a0B,rfl⟩),.inr (.inr Y),.inr (.inl Y),hz,aD _ (by simp[St.ns] at*;omega)⟩
 |Eo k hk ha h2=>have fy:=hn;simp[St.n] at fy;exact⟨a0B,a0B,uS (ie ha),.inl ⟨a0B,MA a0B⟩,.inr ⟨a0B,rfl⟩,.inl ⟨a0B,rfl⟩,.inr (.inr Y),.inr (.inr (.inl Y)),hz,aD _ (by simp[St.ns] at*;omega)⟩
 |stop=>exact⟨a0B,a0B,fun e h=>(by cases h),.inr ⟨a0B,rfl⟩,.inr ⟨a0B,rfl⟩,.inr (.inr (.inr (.inr ⟨rfl,rfl⟩))),.inr (.inr Y),.inr (.inr (.inr Y)),hz,hz⟩
theorem Zv:∀{l:a0p} {s:St},s∈l->s.n<=St.ns l
 |t::l,s,h=>by
  rcases xG.1 h with rfl|h
  ·simp[St.ns]
  ·have:=Zv h;simp[St.ns];omega
theorem ma.nest{w:Wd}{B:a0p->Prop}{kind:Nat}{name cf:aq}{bh:List Ex}{th el:a0p}(h:ma w B ⟨kind,name,cf,bh,th,el⟩):(th=[]\/B th)/\(el=[]\/B el):=by
 cases h with
 |cond he h1 h2=>exact⟨.inr h1,.inr h2⟩
 |EB he h1=>exact⟨.inr h1,.inl Y⟩
 |store ha hb h2=>exact⟨.inl Y,.inr h2⟩
 |Eo k hk ha h2=>exact⟨.inl Y,.inr h2⟩
 |nz|BS|put|del|send|Ci|stop=>exact⟨.inl Y,.inl Y⟩
theorem j8.all{w:Wd}(hw:w.Ok):∀{d:Nat} {l:a0p},j8 w d l->St.ns l<=12->∀s∈l,dM jR s
 |0,l,h,_,s,hs=>by rw[show l=[] from h] at hs;cases hs
 |d+1,l,h,hn,s,hs=>by
  have h1:=h s hs;have h2:=Zv hs;have h3:=h1.node hw a0B;obtain⟨kind,name,cf,bh,th,el⟩:=s;simp only [St.n] at h2;obtain⟨n1,n2⟩:=h1.nest;refine .mk h3 (fun s hs=> ?_) (fun s hs=> ?_)
  ·rcases n1 with rfl|n1
   ·cases hs
   ·exact j8.all hw n1 a0B s hs
  ·rcases n2 with rfl|n2
   ·cases hs
   ·exact j8.all hw n2 a0B s hs
end Go.Fl
namespace Go.Proofs.YthicpeihkkokmaaGreatDoor
open Go.Ex Go.RowKit Go.Fl
variable{P:a0p->Prop}
section
section
variable{X:a0a}
def Sub(P:a0p->Prop):St->Prop| .mk _ _ _ _ th el=>P th/\P el
theorem dM.sub(H:∀l:a0p,l.length<=12->(∀s∈l,jR s/\Sub P s)->P l){s:St}(h:dM jR s):Sub P s:=by
 induction h with
 | @mk kind name cf bh th el h h1 h2 kI dT=>exact⟨H th h.tl (fun s hs=>⟨(h1 s hs).head,kI s hs⟩),H el h.ll (fun s hs=>⟨(h2 s hs).head,dT s hs⟩)⟩
theorem dM.list(H:∀l:a0p,l.length<=12->(∀s∈l,jR s/\Sub P s)->P l){l:a0p}(hl:l.length<=12)(h:∀s∈l,dM jR s):P l:=H l hl (fun s hs=>⟨(h s hs).head,dM.sub H (h s hs)⟩)
theorem aS2{l:a0p}(hl:l.length<=12)(h:∀s∈l,dM jR s):Rn F X 13 0 [.sl (St.rs l)] (·=[.sl (St.ss l)]):=by
 refine dM.list (P:=fun l=>Rn F X 13 0 [.sl (St.rs l)] (·=[.sl (St.ss l)])) ?_ hl h;clear hl h l;intro l hl h;have loop:∀(aa V:a0p),l=V++aa->Rn F X 13 1 [.sl (St.ss V),.sl (St.rs l),jD l.length,jD V.length] (·=[.sl (St.ss l)]):=by
  intro aa
  induction aa with
  |nil=>
   intro V hp;rw[xj] at hp;subst hp;exact wr Y<|wn Y ai<|wt Y Y
  |cons a aa cX=>
   intro V hp;have aD:l.length=V.length+(aa.length+1):=by rw[hp,xa];rfl
   have ao:(St.rs l)[V.length]? =some (St.r a):=by rw[hp];exact J7 _ _ _
   obtain⟨ha,hs⟩:=h a (by rw[hp];simp);have:=cX (V++[a]) (by rw[hp,bw]);rw[<-aL4,xa] at this;obtain⟨kind,name,cf,bh,th,el⟩:=a;obtain⟨df,cL⟩:=hs;have cw9:=ha.vl;have fX:bh.length<=3:=by have:=ha.ln;omega
   have Bt:∀(bX bj:List Fl.Ex),bh=bj++bX->Rn F X 13 2 [.sl (St.ss V),.sl (St.rs l),jD l.length,jD V.length,.sl (Ex.rs bh),jD bh.length,jD bj.length,bD kind,.str name,.str cf,.sl (Ex.ss bj),.sl (St.ss th),.sl (St.ss el)] (·=[.sl (St.ss l)]):=by
    intro bX
    induction bX with
    |nil=>
     intro bj aO;rw[xj] at aO;subst aO;exact wr Y<|wn Y ai<|wg 2 Y<|wo Y (gD Y Y (by rw[mC];omega) (by rw[mC];omega))<|wo Y oA<|wj this
    |cons e bX dT=>
     intro bj aO;have s8:bh.length=bj.length+(bX.length+1):=by rw[aO,xa];rfl
     have ji:(Ex.rs bh)[bj.length]? =some (Ex.r e):=by rw[aO];exact KH _ _ _
     have he:=(ha.ex e (by rw[aO];simp)).1;have ze:=dT (bj++[e]) (by rw[aO,bw]);rw[<-X4,xa] at ze;have ij:=bb2 (X:=X) he;obtain⟨o1,n1,i1,a1⟩:=e;exact wr Y<|wy Y ai<|wo Y (aA ji rfl)<|wg 1 Y<|Fe<|wl Y ij rfl<|kj<|wg 2 Y<|wo Y (gD Y Y (by rw[gF];omega) (by rw[gF];omega))<|wo Y oA<|wj ze
   exact wr Y<|wy Y ai<|wo Y (aA ao Y)<|wg 1 Y<|dC<|wo Y (yZ a0B)<|wl Y df rfl<|wl Y cL rfl<|wo Y (az (rR _))<|ei<|wj (Bt bh [] rfl)
 exact wr Y<|wo Y (az (nX _))<|wj (loop l [] rfl)
end
end
end Go.Proofs.YthicpeihkkokmaaGreatDoor
namespace Go.Fl
open Go.Ex
mutual
def St.dp:St->Nat| .mk _ _ _ _ th el=>max (St.eF th) (St.eF el)
def St.eF:a0p->Nat|[]=>0|s::l=>max (St.dp s+1) (St.eF l)
end
structure C9 (h:Hn):Prop where
 name:h.name∈GN
 params:h.params.length<=2/\∀p∈h.params,p∈GN
 n:St.ns h.body<=12
 dp:St.eF h.body<=4
 len:h.body.length<=12
 body:∀s∈h.body,dM jR s
structure VrS (v:Vr):Prop where
 name:v.name∈GN
 type:v.type=1/\v.init<=2\/(v.type=2\/v.type=3)/\v.init=0
structure Jm (c:Cm):Prop where
 name:c.name∈GN
 vars:c.vars.length<=5/\∀v∈c.vars,VrS v
 vs:1<=c.aT.length/\c.aT.length<=2
 hs:∀l∈c.aT,l.length<=3/\∀h∈l,C9 h
structure LkS (l:Lk):Prop where
 src:l.src∈GN
 dst:l.dst∈GN
 Aa:1<=l.Aa/\l.Aa<=3
structure uj (f:dg):Prop where
 name:f.name∈GN
 flags:f.flags.length<=2/\∀x∈f.flags,x.name∈GN
 links:f.links.length<=9/\∀x∈f.links,LkS x
 comps:1<=f.comps.length/\f.comps.length<=3/\∀x∈f.comps,Jm x
theorem QM:∀{l:a0p} {n:Nat},(∀s∈l,s.dp+1<=n)->St.eF l<=n
 |[],n,h=>xL _
 |s::l,n,h=>by
  have h1:=h s a0C;have h2:=QM (l:=l) (fun t ht=>h t (by simp[ht]));simp only [St.eF];omega
theorem j8.dp{w:Wd}:∀{d:Nat} {l:a0p},j8 w d l->St.eF l<=d
 |0,l,h=>by rw[show l=[] from h];exact xk _
 |d+1,l,h=>QM fun s hs=>by
  have h1:=h s hs;obtain⟨kind,name,cf,bh,th,el⟩:=s;obtain⟨n1,n2⟩:=h1.nest;have e1:St.eF th<=d:=by
   rcases n1 with rfl|n1
   ·exact xL _
   ·exact j8.dp n1
  have e2:St.eF el<=d:=by
   rcases n2 with rfl|n2
   ·exact xL _
   ·exact j8.dp n2
  simp only [St.dp];omega
theorem qI{α:Type}{l:List α}{a:α}(h:a∈l):∃i:Nat,l[i]? =some a:=List.mem_iff_getElem?.1 h
theorem sh.ok{ints tables flags own:Nat}{ar:a0f}{al:a0g}{k:Nat}{h:Hn}(hk:k<3)(i3:ints<=3)(t1:tables<=1)(f2:flags<=2)(F8:ar.length<=3)(cS:∀l∈ar,1<=l.length/\l.length<=3/\∀n∈l,n<=2)(aQ:al∈ar)(ho:sh ints tables flags own ar al k h):C9 h:=by
 obtain⟨n,hn,hp,hb⟩:=ho.mm;have gf:=(cS al aQ).2.2 n (xu hn);have mY:h.params.length<=2/\∀p∈h.params,p∈GN:=by
  rw[hp];refine⟨by simp[aP];exact gf,fun p h=> ?_⟩;obtain⟨j,hj,rfl⟩:=xJ.1 h;exact an1 (by have:=List.mem_range.1 hj;omega)
 exact⟨by rw[ho.name];exact SY hk,mY,ho.n,hb.dp,xH (Go.Proofs.YthicpeihkkokmaaGreatDoor.nj _) ho.n,hb.all ⟨⟨i3,t1,f2,gf⟩,F8,fun l h=>(cS l h).2⟩ ho.n⟩
theorem jm.ok{nf i:Nat}{ar:a0f}{c:Cm}(f2:nf<=2)(F8:ar.length<=3)(cS:∀l∈ar,1<=l.length/\l.length<=3/\∀n∈l,n<=2)(ho:jm nf ar i c):Jm c:=by
 obtain⟨ints,tables,al,i1,i3,t1,aQ,hv,h1,h2,h3,h4⟩:=ho.rest;have hi:=iR aQ;have hm:=xu aQ;refine⟨by rw[ho.name];exact MB a0B,⟨by rw[hv];simp;omega,fun v h=> ?_⟩,⟨h1,h2⟩,fun l hl=>⟨xH (h4 l hl).2.1 (cS al hm).2.1,fun h hh=> ?_⟩⟩
 ·rw[hv] at h;rcases xF.1 h with h|h
  ·obtain⟨j,hj,rfl⟩:=xJ.1 h;have:=List.mem_range.1 hj;exact⟨MA a0B,.inl ⟨rfl,by show j<=2;omega⟩⟩
  ·rcases xG.1 h with rfl|h
   ·exact⟨SZ,.inr ⟨.inl Y,rfl⟩⟩
   ·obtain⟨j,hj,rfl⟩:=xJ.1 h;have:=List.mem_range.1 hj;obtain rfl:j=0:=a0B
    exact⟨EX,.inr ⟨.inr Y,rfl⟩⟩
 ·obtain⟨k,hk⟩:=qI hh;have q:=(h4 l hl).2.1;have q2:=iR hk;have q3:=(cS al hm).2.1;exact((h4 l hl).2.2 k h hk).ok a0B i3 t1 f2 F8 cS hm
theorem gZ.ok{ar:a0f}{f:dg}(h:gZ ar f):uj f:=by
 have hn:=h.n;obtain⟨ks,dW,hp,hk⟩:=h.links;have hk9:ar.length*ar.length<=9:=Nat.mul_le_mul hn.2.2 hn.2.2;refine⟨by rw[h.name];decide,⟨h.flags.1,fun x hx=> ?_⟩,⟨?_,fun x hx=> ?_⟩,⟨a0B,a0B,fun c hc=> ?_⟩⟩
 ·obtain⟨i,hi⟩:=qI hx;have:=iR hi;rw[h.flags.2 i x hi];exact an2 (by have:=h.flags.1;omega)
 ·rw[dW,xm];have hb:∀(l:List (Nat×Nat)) (m:Nat),l.Pairwise (fun p q=>p.1<q.1)->(∀p∈l,m<=p.1/\p.1<9)->l.length+m<=9\/l=[]:=by
   intro l
   induction l with
   |nil=>intro m _ _;exact .inr Y
   |cons p l ih=>
    intro m hp hm;have h1:=hm p a0C;cases hp with
    |cons h2 h3=>
     rcases ih (p.1+1) h3 (fun q hq=>⟨h2 q hq,(hm q (by simp[hq])).2⟩) with h|rfl
     ·left;rw[xi];omega
     ·left;simp;omega
  rcases hb ks 0 hp (fun p hp=>⟨xL _,by have:=hk p hp;omega⟩) with h|rfl
  ·omega
  ·exact xL _
 ·rw[dW] at hx;obtain⟨p,hp,rfl⟩:=xJ.1 hx;have h1:=hk p hp;have h2:p.1/ar.length<ar.length:=Nat.div_lt_of_lt_mul h1.1;have h3:p.1%ar.length<ar.length:=Nat.mod_lt _ hn.2.1;exact⟨MB a0B,MB a0B,h1.2⟩
 ·obtain⟨i,hi⟩:=qI hc;exact(h.comps i c hi).ok h.flags.1 hn.2.2 h.jC
end Go.Fl
namespace Go.Proofs.YthicpeihkkokmaaGreatDoor
open Go.Ex Go.RowKit Go.Fl
variable{α:Type}
section
section
variable{X:a0a}
theorem cA{f:α->a0d}{l V aa:List α}{a:α}(h:l=V++a::aa):(l.map f)[V.length]? =some (f a):=by subst h;exact Hj _ _ _ _
theorem bG{l V aa:List α}{a:α}(h:l=V++a::aa):l.length=V.length+(aa.length+1):=by rw[h,xa];rfl
theorem Gy(f:α->a0d)(l:List α)(a:α):l.map f++[f a]=(l++[a]).map f:=a0C
theorem cq(f:α->a0d)(l:List α):(l.map f).length=l.length:=xm _
theorem JG(l:a0s):∀row∈strs l,row.length=1/\row.all D.cell=true:=by
 intro row h;obtain⟨p,_,rfl⟩:=xJ.1 h;exact⟨rfl,rfl⟩
def pI(vs:a0y):a0b:=vs.map fun l=>[.sl (l.map Hn.r)]
def ca(vs:a0y):a0b:=vs.map fun l=>[.sl (l.map Hn.s)]
theorem aD9{cs:List Cm}{nm:aq}{A B:a0b}(h3:cs.length<=3)(hc:∀c∈cs,Jm c):∀(aa V:List Cm),cs=V++aa->Rn F X 14 3 [.sl (cs.map Cm.r),jD cs.length,jD V.length,.str nm,.sl A,.sl B,.sl (V.map Cm.s)] (·=[.str nm,.sl A,.sl B,.sl (cs.map Cm.s)]):=by
 intro aa
 induction aa with
 |nil=>
  intro V hp;rw[xj] at hp;subst hp;exact wr Y<|wn Y ai<|wt Y Y
 |cons c aa cX=>
  intro V hp;have aD:=bG hp;have ao:=cA (f:=Cm.r) hp;have cJ:=hc c (by rw[hp];simp);have next:=cX (V++[c]) (by rw[hp,bw]);rw[<-Gy,xa] at next;obtain⟨cn,vars,vs⟩:=c;have hvn:vars.length<=5:=cJ.vars.1;have bI:vs.length<=2:=cJ.vs.2;have lF:∀(bX bj:a0y),vs=bj++bX->Rn F X 14 5 [.sl (cs.map Cm.r),jD cs.length,jD V.length,.sl (pI vs),jD vs.length,jD bj.length,.str nm,.sl A,.sl B,.sl (V.map Cm.s),.str cn,.sl (vars.map Vr.s),.sl (ca bj)] (·=[.str nm,.sl A,.sl B,.sl (cs.map Cm.s)]):=by
   intro bX
   induction bX with
   |nil=>
    intro bj aO;rw[xj] at aO;subst aO;exact wr Y<|wn Y ai<|wg 2 Y<|wo Y (gD Y Y (by rw[cq];omega) (by rw[cq];omega))<|wo Y oA<|wj next
   |cons v bX dT=>
    intro bj aO;have s8:=bG aO;have ji:(pI vs)[bj.length]? =some [.sl (v.map Hn.r)]:=cA (f:=fun l:List Hn=>[D.sl (l.map Hn.r)]) aO;have jH:=dT (bj++[v]) (by rw[aO,bw]);have es:ca (bj++[v])=ca bj++[[.sl (v.map Hn.s)]]:=by simp[ca]
    rw[es,xa] at jH;have hv:=cJ.hs v (by show v∈vs;rw[aO];simp);have iZ:(ca bj).length=bj.length:=xm _;have mJ:∀(ee bt:List Hn),v=bt++ee->Rn F X 14 6 [.sl (cs.map Cm.r),jD cs.length,jD V.length,.sl (pI vs),jD vs.length,jD bj.length,.sl (v.map Hn.r),jD v.length,jD bt.length,.str nm,.sl A,.sl B,.sl (V.map Cm.s),.str cn,.sl (vars.map Vr.s),.sl (ca bj),.sl (bt.map Hn.s)] (·=[.str nm,.sl A,.sl B,.sl (cs.map Cm.s)]):=by
     intro ee
     induction ee with
     |nil=>
      intro bt bH;rw[xj] at bH;subst bH;exact wr Y<|wn Y ai<|wg 2 Y<|wo Y oP<|wo Y oA<|wj jH
     |cons h ee mV=>
      intro bt bH;have ww:=bG bH;have gW:=cA (f:=Hn.r) bH;have fQ:=mV (bt++[h]) (by rw[bH,bw]);rw[<-Gy,xa] at fQ;have hh:=hv.2 h (by rw[bH];simp);have hb:=aS2 (X:=X) hh.len hh.body;have Uo:=hv.1;obtain⟨hn,mY,Aq⟩:=h;have cv9:mY.length<=2:=hh.params.1;have gd:(strs mY).length=mY.length:=xm _;exact wr Y<|wy Y ai<|wo Y (aA gW Y)<|wg 1 Y<|jy<|wg 1 Y<|wo Y (Bb (rows:=[]) (JG _) a0F a0F)<|wl Y hb rfl<|wg 2 Y<|wo Y (gD Y Y (by rw[cq];omega) (by rw[cq];omega))<|xQ<|wo Y oA<|wj fQ
    exact wr Y<|wy Y ai<|wo Y (aA ji rfl)<|wg 1 Y<|wo Y (az (cq _ _))<|wj (mJ v [] rfl)
  have Hl:∀(bX bj:List Vr),vars=bj++bX->Rn F X 14 4 [.sl (cs.map Cm.r),jD cs.length,jD V.length,.sl (vars.map Vr.r),jD vars.length,jD bj.length,.str nm,.sl A,.sl B,.sl (V.map Cm.s),.str cn,.sl (pI vs),.sl (bj.map Vr.s)] (·=[.str nm,.sl A,.sl B,.sl (cs.map Cm.s)]):=by
   intro bX
   induction bX with
   |nil=>
    intro bj aO;rw[xj] at aO;subst aO;exact wr Y<|wn Y ai<|wo Y (az (xm _))<|wj (lF vs [] rfl)
   |cons v bX dT=>
    intro bj aO;have s8:=bG aO;have ji:=cA (f:=Vr.r) aO;have jH:=dT (bj++[v]) (by rw[aO,bw]);rw[<-Gy,xa] at jH;have hv:=(cJ.vars.2 v (by show v∈vars;rw[aO];simp)).type;obtain⟨vn,vt,vi⟩:=v;have hvt:vt<=3:=by simp at hv;omega
    exact wr Y<|wy Y ai<|wo Y (aA ji rfl)<|wg 1 Y<|hZ<|wo Y (yZ a0B)<|wg 2 Y<|wo Y (gD Y Y (by rw[cq];omega) (by rw[cq];omega))<|wo Y oA<|jy<|wj jH
  exact wr Y<|wy Y ai<|wo Y (aA ao Y)<|wg 1 Y<|dC<|wo Y (az (cq _ _))<|wj (Hl vars [] rfl)
theorem aD8{f:dg}(hf:uj f):Rn F X 14 0 f.r (·=f.s):=by
 obtain⟨nm,fl,lk,cs⟩:=f;have CK:fl.length<=2:=hf.flags.1;have IT:lk.length<=9:=hf.links.1;have cJ:cs.length<=3:=hf.comps.2.1;have Bp:∀(aa V:List Lk),lk=V++aa->Rn F X 14 2 [.sl (lk.map Lk.d),jD lk.length,jD V.length,.str nm,.sl (fl.map Fg.d),.sl (cs.map Cm.r),.sl (fl.map Fg.d),.sl (V.map Lk.d)] (·=[.str nm,.sl (fl.map Fg.d),.sl (lk.map Lk.d),.sl (cs.map Cm.s)]):=by
  intro aa
  induction aa with
  |nil=>
   intro V hp;rw[xj] at hp;subst hp;exact wr Y<|wn Y ai<|wo Y (az (cq _ _))<|b_ Y (aD9 cJ hf.comps.2.2 cs [] rfl)
  |cons v aa ih=>
   intro V hp;have aD:=bG hp;have ao:=cA (f:=Lk.d) hp;have next:=ih (V++[v]) (by rw[hp,bw]);rw[<-Gy,xa] at next;obtain⟨a,b,c⟩:=v;exact wr Y<|wy Y ai<|wo Y (aA ao Y)<|wg 1 Y<|mg<|wg 2 Y<|wo Y (gD Y Y (by rw[cq];omega) (by rw[cq];omega))<|wo Y oA<|wj next
 have BC:∀(aa V:List Fg),fl=V++aa->Rn F X 14 1 [.sl (fl.map Fg.d),jD fl.length,jD V.length,.str nm,.sl (lk.map Lk.d),.sl (cs.map Cm.r),.sl (V.map Fg.d)] (·=[.str nm,.sl (fl.map Fg.d),.sl (lk.map Lk.d),.sl (cs.map Cm.s)]):=by
  intro aa
  induction aa with
  |nil=>
   intro V hp;rw[xj] at hp;subst hp;exact wr Y<|wn Y ai<|wo Y (az (cq _ _))<|wj (Bp lk [] rfl)
  |cons v aa ih=>
   intro V hp;have aD:=bG hp;have ao:=cA (f:=Fg.d) hp;have next:=ih (V++[v]) (by rw[hp,bw]);rw[<-Gy,xa] at next;obtain⟨a,b⟩:=v;cases b
   ·exact wr Y<|wy Y ai<|wo Y (aA ao Y)<|wg 2 Y<|oq<|wg 2 Y<|wo Y (gD Y Y (by rw[cq];omega) (by rw[cq];omega))<|wo Y oA<|wj next
   ·exact wr Y<|wy Y ai<|wo Y (aA ao Y)<|wg 1 Y<|oq<|wg 2 Y<|wo Y (gD Y Y (by rw[cq];omega) (by rw[cq];omega))<|wo Y oA<|wj next
 exact wr Y<|wo Y (az (cq _ _))<|wj (BC fl [] rfl)
end
end
end Go.Proofs.YthicpeihkkokmaaGreatDoor
namespace Go.Fl
open Go.Ex
theorem Ex.Kq:∀{l:List Ex} {a:Ex},a∈l->a.dp<=Ex.eF l
 |e::l,a,h=>by
  rcases xG.1 h with rfl|h
  ·simp only [Ex.eF];omega
  ·have:=Ex.Kq h;simp only [Ex.eF];omega
theorem Ex.XE:∀(l:List Ex) (a:Ex),Ex.eF (l++[a])=max (Ex.eF l) a.dp
 |[],a=>by simp[Ex.eF]
 |e::l,a=>by simp only [c_,Ex.eF,Ex.XE l a];omega
theorem Ex.QM{l:List Ex}{n:Nat}(h:Ex.eF l<=n):∀a∈l,a.dp<=n:=fun a ha=>xH (Ex.Kq ha) h
def St.mx:a0p->Nat|[]=>0|s::l=>max (St.dp s) (St.mx l)
theorem St.Yt:∀(l:a0p) (a:St),St.mx (l++[a])=max (St.mx l) a.dp
 |[],a=>by simp[St.mx]
 |e::l,a=>by simp only [c_,St.mx,St.Yt l a];omega
theorem St.ZR:∀(l:a0p),l≠[]->St.eF l=St.mx l+1
 |[],h=>absurd rfl h
 |[s],_=>by simp[St.eF,St.mx]
 |s::t::l,_=>by
  have:=St.ZR (t::l) a0C;rw[St.eF,St.mx,this];omega
def St.sb:a0p->Nat|[]=>0|s::l=>St.sub s+St.sb l
theorem St.X9:∀(l:a0p) (a:St),St.sb (l++[a])=St.sb l+a.sub
 |[],a=>by simp[St.sb]
 |e::l,a=>by simp only [c_,St.sb,St.X9 l a];omega
theorem St.Rq:∀(l:a0p),St.ns l=l.length+St.sb l
 |[]=>rfl
 | .mk .. ::l=>by simp only [St.ns,St.n,St.sb,St.sub,St.Rq l,xi];omega
theorem St.wc:∀(l m:a0p),St.ns (l++m)=St.ns l+St.ns m
 |[],m=>by simp[St.ns]
 |e::l,m=>by simp only [c_,St.ns,St.wc l m];omega
theorem St.Zw:∀{l:a0p} {a:St},a∈l->a.dp<=St.mx l
 |e::l,a,h=>by
  rcases xG.1 h with rfl|h
  ·simp only [St.mx];omega
  ·have:=St.Zw h;simp only [St.mx];omega
end Go.Fl
namespace Go.Proofs.YthicpeihkkokmaaGreatDoor
open Go.Ex Go.RowKit Go.Fl
variable{P:Nat->Prop}
section
variable{X:a0a}
theorem aX4{a b c:Nat}:aL .mx [iD a,iD b,iD c]=some (iD (max a (max b c))):=by rw[bh0];congr 2;omega
theorem aC3{e:Fl.Ex}(h:jK gV e):e.dp<=100->Rn F X 17 0 (Ex.s e) (·=[iD e.dp]):=by
 induction h with
 | @mk op name n args hn ha ih=>
  intro hd;have kK:Ex.eF args+1<=100:=hd;obtain⟨h1,h2,h3,h4,h5⟩:=hn.get;have ek:jM op<=2:=by unfold jM;split<;>(try split)<;>omega
  have loop:∀(aa V:List Fl.Ex),args=V++aa->Rn F X 17 1 [iD (Ex.eF V),jD args.length,jD V.length,bD op,.str name,iD n,.sl (Ex.ss args)] (·=[iD (Ex.eF args+1)]):=by
   intro aa
   induction aa with
   |nil=>
    intro V hp;rw[xj] at hp;subst hp;exact wr Y<|wn Y ai<|wo Y oA<|wt Y Y
   |cons a aa cX=>
    intro V hp;have aD:=bG hp;have ao:(Ex.ss args)[V.length]? =some (Ex.s a):=by rw[hp];exact qF _ _ _
    have hm:a∈args:=by rw[hp];simp
    have nS:=ih a hm (xH (Ex.Kq hm) a0B);have:=cX (V++[a]) (by rw[hp,bw]);rw[Ex.XE,xa] at this;obtain⟨o1,n1,i1,a1⟩:=a;exact wr Y<|wy Y ai<|wo Y (aA ao Y)<|wg 1 Y<|mg<|wl Y nS rfl<|wo Y bh1<|wo Y oA<|wj this
  exact wr Y<|wo Y (az (gF _))<|wj (loop args [] rfl)
theorem aK9:∀(m:Nat) (l:a0p),St.ns l<=m->m<=12->Rn F X 15 0 [.sl (St.ss l)] (·=[iD (St.ns l)]):=by
 intro m
 induction m with
 |zero=>
  intro l hl _;have:=nj l;obtain rfl:l=[]:=xE.1 a0B;exact wr Y<|wo Y bf<|wo Y bf<|b_ Y<|wr Y<|wg 1 Y<|wt Y Y
 |succ m ih=>
  intro l hl hm;have gI:=St.Rq l;have loop:∀(aa V:a0p),l=V++aa->Rn F X 15 1 [.sl (St.ss l),iD (l.length+St.sb V),jD l.length,jD V.length] (·=[iD (St.ns l)]):=by
   intro aa
   induction aa with
   |nil=>
    intro V hp;rw[xj] at hp;subst hp;rw[<-gI];exact wr Y<|wn Y ai<|wt Y Y
   |cons a aa cX=>
    intro V hp;have aD:=bG hp;have ao:(St.ss l)[V.length]? =some (St.s a):=by rw[hp];exact vV _ _ _
    have lR:St.ns l=St.ns V+(St.n a+St.ns aa):=by rw[hp,St.wc];rfl
    have Uv:=St.Rq V;have:=cX (V++[a]) (by rw[hp,bw]);rw[St.X9,xa] at this;obtain⟨kind,name,cf,bh,th,el⟩:=a;simp only [St.n] at lR;simp only [St.sub] at this;rw[<-Nat.add_assoc] at this;have i1:=ih th a0B a0B;have i2:=ih el a0B a0B;exact wr Y<|wy Y ai<|wo Y (aA ao Y)<|wg 2 Y<|wo Y (aA ao Y)<|w8<|wg 2 Y<|wl Y i1 rfl<|wl Y i2 rfl<|mg<|wo Y (bm a0B)<|wo Y (bm a0B)<|wo Y oA<|wj this
  exact wr Y<|wo Y (az (mC _))<|wo Y (az (mC _))<|wj (loop l [] rfl)
theorem aQ6:∀(m:Nat) (l:a0p),St.ns l<=m->m<=12->St.eF l<=12->Rn F X 16 0 [.sl (St.ss l)] (·=[iD (St.eF l)]):=by
 intro m
 induction m with
 |zero=>
  intro l hl _ _;have:=nj l;obtain rfl:l=[]:=xE.1 a0B;exact wr Y<|wo Y bf<|wg 1 Y<|wt Y Y
 |succ m ih=>
  intro l hl hm hd;rcases xI l.length with h0|h0
  ·obtain rfl:l=[]:=xE.1 h0;exact wr Y<|wo Y bf<|wg 1 Y<|wt Y Y
  have bq:l≠[]:=fun h=>by rw[h] at h0;cases h0
  have mr:=St.ZR l bq;have cw3:=nj l;have loop:∀(aa V:a0p),l=V++aa->Rn F X 16 1 [.sl (St.ss l),iD (St.mx V),jD l.length,jD V.length] (·=[iD (St.eF l)]):=by
   intro aa
   induction aa with
   |nil=>
    intro V hp;rw[xj] at hp;subst hp;rw[mr];exact wr Y<|wn Y ai<|wo Y oA<|wt Y Y
   |cons a aa cX=>
    intro V hp;have aD:=bG hp;have ao:(St.ss l)[V.length]? =some (St.s a):=by rw[hp];exact vV _ _ _
    have lR:St.ns l=St.ns V+(St.n a+St.ns aa):=by rw[hp,St.wc];rfl
    have hdm:=St.Zw (l:=l) (a:=a) (by rw[hp];simp);have:=cX (V++[a]) (by rw[hp,bw]);rw[St.Yt,xa] at this;obtain⟨kind,name,cf,bh,th,el⟩:=a;simp only [St.n] at lR;simp only [St.dp] at this hdm;have i1:=ih th a0B a0B a0B;have i2:=ih el a0B a0B a0B;exact wr Y<|wy Y ai<|wo Y (aA ao Y)<|wg 2 Y<|wo Y (aA ao Y)<|w8<|wg 2 Y<|wl Y i1 rfl<|wl Y i2 rfl<|mg<|wo Y aX4<|wo Y oA<|wj this
  exact wr Y<|wo Y (az (mC _))<|wn Y ay<|wo Y (az (mC _))<|wj (loop l [] rfl)
theorem Y0{op:Nat}(h1:1<=op)(h2:op<=23)(h:P 1/\P 2/\P 3/\P 4/\P 5/\P 6/\P 7/\P 8/\P 9/\P 10/\P 11/\P 12/\P 13/\P 14/\P 15/\P 16/\P 17/\P 18/\P 19/\P 20/\P 21/\P 22/\P 23):P op:=by
 have:op=1\/op=2\/op=3\/op=4\/op=5\/op=6\/op=7\/op=8\/op=9\/op=10\/op=11\/op=12\/op=13\/op=14\/op=15\/op=16\/op=17\/op=18\/op=19\/op=20\/op=21\/op=22\/op=23:=a0B
 obtain⟨a1,a2,a3,a4,a5,a6,a7,a8,a9,a10,a11,a12,a13,a14,a15,a16,a17,a18,a19,a20,a21,a22,a23⟩:=h;rcases this with rfl|rfl|rfl|rfl|rfl|rfl|rfl|rfl|rfl|rfl|rfl|rfl|rfl|rfl|rfl|rfl|rfl|rfl|rfl|rfl|rfl|rfl|rfl<;>assumption
def wF(op:Nat):Bool:=decide (5<=op/\op<=8)
def HX(op:Nat):Nat:=if op<=8 then 7 else if op<=10 then 6 else if op<=13 then 5 else if op<=15 then 4 else if op<=21 then 3 else if op=22 then 2 else 1
def pB(op:Nat):aq:=match op with
 |2=>[116,114,117,101]
 |3=>[102,97,108,115,101]
 |4=>[110,111,119]
 |7=>[104,97,115,32]
 |8=>[115,105,122,101,32]
 |9=>[45]
 |10=>[110,111,116,32]
 |11=>[32,42,32]
 |12=>[32,47,32]
 |13=>[32,37,32]
 |14=>[32,43,32]
 |15=>[32,45,32]
 |16=>[32,61,61,32]
 |17=>[32,33,61,32]
 |18=>[32,60,32]
 |19=>[32,60,61,32]
 |20=>[32,62,32]
 |21=>[32,62,61,32]
 |22=>[32,97,110,100,32]
 |23=>[32,111,114,32]
 |_=>[]
theorem yI{op:Nat}(h1:1<=op)(h2:op<=23):Rn F X 18 0 [bD op] (·=[iD (jM op),.bool (wF op),iD (HX op),.str (pB op),.bool true]):=by
 refine Y0 h1 h2 (P:=fun op=>Rn F X 18 0 [bD op] (·=[iD (jM op),.bool (wF op),iD (HX op),.str (pB op),.bool true])) ⟨?_,?_,?_,?_,?_,?_,?_,?_,?_,?_,?_,?_,?_,?_,?_,?_,?_,?_,?_,?_,?_,?_,?_⟩
 ·exact wr Y<|wg 5 Y<|w5<|wt Y Y
 ·exact wr Y<|wg 5 Y<|w5<|wt Y Y
 ·exact wr Y<|wg 5 Y<|w5<|wt Y Y
 ·exact wr Y<|wg 5 Y<|w5<|wt Y Y
 ·exact wr Y<|wg 4 Y<|w5<|wt Y Y
 ·exact wr Y<|wg 4 Y<|w5<|wt Y Y
 ·exact wr Y<|wg 4 Y<|w5<|wt Y Y
 ·exact wr Y<|wg 4 Y<|w5<|wt Y Y
 ·exact wr Y<|wg 5 Y<|w5<|wt Y Y
 ·exact wr Y<|wg 5 Y<|w5<|wt Y Y
 ·exact wr Y<|wg 5 Y<|w5<|wt Y Y
 ·exact wr Y<|wg 5 Y<|w5<|wt Y Y
 ·exact wr Y<|wg 5 Y<|w5<|wt Y Y
 ·exact wr Y<|wg 5 Y<|w5<|wt Y Y
 ·exact wr Y<|wg 5 Y<|w5<|wt Y Y
 ·exact wr Y<|wg 5 Y<|w5<|wt Y Y
 ·exact wr Y<|wg 5 Y<|w5<|wt Y Y
 ·exact wr Y<|wg 5 Y<|w5<|wt Y Y
 ·exact wr Y<|wg 5 Y<|w5<|wt Y Y
 ·exact wr Y<|wg 5 Y<|w5<|wt Y Y
 ·exact wr Y<|wg 5 Y<|w5<|wt Y Y
 ·exact wr Y<|wg 5 Y<|w5<|wt Y Y
 ·exact wr Y<|wg 5 Y<|w5<|wt Y Y
def fo(k:Nat):Bool×Bool×Nat×Nat×Bool×Bool:=match k with
 |1=>(true,false,1,1,false,false)
 |2=>(true,false,2,2,false,false)
 |3=>(true,false,1,1,false,false)
 |4=>(false,false,1,1,true,true)
 |5=>(false,false,1,1,true,false)
 |6=>(true,true,0,4,false,false)
 |7=>(false,true,1,5,false,false)
 |8=>(false,false,2,2,false,true)
 |9=>(true,false,1,1,false,true)
 |_=>(false,false,0,0,false,false)
theorem bc4{k:Nat}(h1:1<=k)(h2:k<=10)(h:P 1/\P 2/\P 3/\P 4/\P 5/\P 6/\P 7/\P 8/\P 9/\P 10):P k:=by
 have:k=1\/k=2\/k=3\/k=4\/k=5\/k=6\/k=7\/k=8\/k=9\/k=10:=a0B
 obtain⟨a1,a2,a3,a4,a5,a6,a7,a8,a9,a10⟩:=h;rcases this with rfl|rfl|rfl|rfl|rfl|rfl|rfl|rfl|rfl|rfl<;>assumption
def foD(k:Nat):a0d:=[.bool (fo k).1,.bool (fo k).2.1,iD (fo k).2.2.1,iD (fo k).2.2.2.1,.bool (fo k).2.2.2.2.1,.bool (fo k).2.2.2.2.2,.bool true]
theorem YN{k:Nat}(h1:1<=k)(h2:k<=10):Rn F X 19 0 [bD k] (·=foD k):=by
 refine bc4 h1 h2 (P:=fun k=>Rn F X 19 0 [bD k] (·=foD k)) ⟨?_,?_,?_,?_,?_,?_,?_,?_,?_,?_⟩
 ·exact wr Y<|wg 11 Y<|w7<|wt Y Y
 ·exact wr Y<|wg 11 Y<|w7<|wt Y Y
 ·exact wr Y<|wg 11 Y<|w7<|wt Y Y
 ·exact wr Y<|wg 16 Y<|w7<|wt Y Y
 ·exact wr Y<|wg 17 Y<|w7<|wt Y Y
 ·exact wr Y<|wg 7 Y<|w7<|wt Y Y
 ·exact wr Y<|wg 15 Y<|w7<|wt Y Y
 ·exact wr Y<|wg 18 Y<|w7<|wt Y Y
 ·exact wr Y<|wg 10 Y<|w7<|wt Y Y
 ·exact wr Y<|wg 19 Y<|w7<|wt Y Y
end
end Go.Proofs.YthicpeihkkokmaaGreatDoor
