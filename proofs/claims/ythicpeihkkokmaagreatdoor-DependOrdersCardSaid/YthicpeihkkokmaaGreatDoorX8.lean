/- A verified evaluator of Go functions. -/
import Derived.Test.YthicpeihkkokmaaGreatDoorX7
import Derived.DeepKeys3
set_option linter.unusedVariables false
set_option linter.unusedSimpArgs false
namespace Go.Ex
variable{ops:HF}{tr:List Tr}{β β0:ai}{n:Nat}{g g' g0:Gt}{a:Act}{o:Oper}{E:az}{P:Program}{w0 w:World}{A0 A A':AW}{ds:List Deferred}{ro:Ji}{bl:List iy}{listed:Array Bool}{t:xN}{b:Option aG}
open Go.RowKit
noncomputable section
theorem ba6(hs:Dq ops)(hw:nO ops tr){x0:Tr}(hx:x0∈tr){D:Nat->Prop}(hD: ¬D x0.i)(g0:Gt)(t:Nat):
 gv (fun j=>D j\/j=x0.i) tr g0 t=iQ (gv D tr g0) x0.dst x0.v t:=by
 rw[Cj];obtain⟨o0,Em,uI⟩:=hw.op x0 hx;have Dy:∀x∈tr,∀y∈tr,x.dst=some t->y.dst=some t->x=y:=fun x hx y hy h1 h2=>by
  obtain⟨ox,Mh,zd⟩:=hw.op x hx;obtain⟨oy,Tk,qL⟩:=hw.op y hy;exact hw.GK x hx y hy (hs.2 _ _ _ _ t Mh Tk (zd▸h1) (qL▸h2))
 by_cases hd:x0.dst=some t
 ·rw[if_pos hd];rcases u9 (fun j=>D j\/j=x0.i) g0 t tr with⟨x,qE,_,L9,hv⟩|⟨jh,_⟩
  ·grind
  grind
 ·rw[if_neg hd];rcases u9 (fun j=>D j\/j=x0.i) g0 t tr with⟨x,qE,TN,L9,hv⟩|⟨jh,hv⟩
  ·have cr1:D x.i:=TN.resolve_right (fun e=>hd (by grind [hw.GK]))
   grind [u9,absurd]
  grind [u9,absurd]
theorem bU.iQ(h:bU β n g a.tmps){dst:Option Tmp}(hd:∀d,dst=some d->d<n){v v':xM}(hv:aj β v v'):bU β n (Go.Ex.iQ g dst v) (a.put dst v').tmps:=by
 cases dst with
 |none=>exact h
 |some d=>
  have ly:=hd d rfl;refine⟨by simp[Act.put,h.1],fun t=> ?_⟩;rw[Cj];show aj β _ ((a.tmps.setIfInBounds d v').getD t undef);by_cases uG:d=t
  ·subst uG;have hs:d<a.tmps.size:=by rw[h.1];exact ly
   simp_all
  ·rw[if_neg (fun e=>uG (xC e))];have:(a.tmps.setIfInBounds d v').getD t undef=a.tmps.getD t undef:=by simp[Array.getElem?_setIfInBounds_ne uG]
   rw[this];exact h.2 t
theorem bU.ext{tmps:KB}(h:bU β n g tmps)(e:∀t,g' t=g t):bU β n g' tmps:=⟨h.1,fun t=>by rw[e t];exact h.2 t⟩
theorem UL(h:∀t∈o.looksAt ⟨ops⟩,g t=g' t):pB ops g o=pB ops g' o:=by
 unfold pB;split
 ·rfl
 grind [gg,Oper.looksAt,List.mem_append_right]
theorem MR(h:∀t∈o.looksAt ⟨ops⟩,g t=g' t):∀x∈o.op.operands,ev E g x=ev E g' x:=fun x hx=>aH8 fun t ht=>h t (by
 unfold Oper.looksAt;refine List.mem_append_left _ (List.mem_filterMap.2 ⟨x,Ns,by rw[ht]⟩))
structure PE (E:az) (sq:Cf) (δ:FM) (ops:HF) (g0:Gt) (tr:List Tr) (e:iy):Prop where
 ex:∃pre x0 tl,tr=pre++x0::tl/\x0.i=e.i/\x0.v=e.v/\nO ops (x0::tl)/\e.g=gv (fun _=>True) tl g0
 op:ops[e.i]? =some e.o
 kind:gM E e.o.op<=1
 want:pB ops e.g e.o=some e.wanted
 gN:e.wanted=false->e.v=undef
 qt:e.wanted=true->e.nb=none->e.sy=none->gM E e.o.op=0/\∃A1,aQ E sq A1 e.g e.o.op= .val e.v A1
 fr:e.wanted=true->e.sy=none->∀N blk,e.nb=some (N,blk)->gM E e.o.op=1/\∃A1 A2,A1.next=N/\A1.get N=none/\aQ E sq A1 e.g e.o.op= .val e.v A2/\A2.get N=some blk
 sy:∀nd,e.sy=some nd->e.wanted=true/\bY δ nd/\e.nb=none
theorem PE.cons{sq:Cf}{δ:FM}{e:iy}(h:PE E sq δ ops g0 tr e)(x:Tr):PE E sq δ ops g0 (x::tr) e:=by
 obtain⟨pre,x0,tl,h1,h2⟩:=h.ex;exact⟨⟨x::pre,x0,tl,by rw[h1];rfl,h2⟩,h.op,h.kind,h.want,h.gN,h.qt,h.fr,h.sy⟩
structure PJ (w0:World) (E:az) (n:Nat) (ops:HF) (g0:Gt) (β0:ai) (A0:AW) (ds:List Deferred) (D:Nat->Prop) (β:ai) (A:AW) (bl:List iy) (tr:List Tr) (a:Act) (w:World):Prop where
 rC:zz ops D
 Sz:∀x∈tr,∀o,ops[x.i]? =some o->2<=gM E o.op->D x.i
 un:∀x∈tr,¬D x.i->∃e∈bl,e.i=x.i
 only:∀j,D j->∃x∈tr,x.i=j
 frame:bU β n (gv D tr g0) a.tmps
 inv:Inv w0 E.G β A w
 fresh:∀e∈bl,¬D e.i->∀N blk,e.nb=some (N,blk)->β N=none/\N<A.next/\A0.next<=N/\β.o N=none
 grow:β0.grow β A0.next
 du:A0.next<=A.next
 defers:a.defers=ds
section
variable(ok:E.Ok P){sq:Cf}(aU:E.Seq P sq)(hs:Dq ops)(mr:∀o∈ops,∀d,o.dst=some d->d<n)
include ok aU hs mr
theorem VF{D:Nat->Prop}(hw:nO ops tr)(j:PJ w0 E n ops g0 β0 A0 ds D β A bl tr a w)(lY:∀e∈bl,PE E sq β0.d ops g0 tr e)(y8:∀e∈bl,∀e'∈bl,∀N b b',e.nb=some (N,b)->e'.nb=some (N,b')->e.i=e'.i)(hun:∀e∈bl,∀e'∈bl,e.i=e'.i->e=e')
 {e:iy} (he:e∈bl) (bk:vF E sq A e=true) (hn: ¬D e.i) (hr:∀ed∈e.o.after.toList,Region.binds .any ed=true->D ed.on) {Q:Exit->Act->World->Prop} {K:Act->World->Prop}
 (hK:∀β' a' w',PJ w0 E n ops g0 β0 A0 ds (fun x=>D x\/x=e.i) β' A bl tr a' w'->K a' w'):wpOpIn (kg ro) 0 P ⟨ops⟩ Q e.i K a w:=by
 have pe:=lY e he;obtain⟨pre,x0,tl,Mb,Bx,hxv,hw0,hg⟩:=pe.ex;have ac6:x0∈tr:=by rw[Mb];exact List.mem_append_right _ xn
 have cn6:x0.dst=e.o.dst:=by
  obtain⟨o1,sU,np⟩:=hw.op x0 ac6;rw[Bx,pe.op] at sU;cases sU;exact np
 have ag:∀t∈e.o.looksAt ⟨ops⟩,gv D tr g0 t=e.g t:=fun t ht=>by rw[hg];grind [Z',j.rC,pe.op]
 have hom:e.o∈ops:=xu pe.op;have bA9:zz ops (fun x=>D x\/x=e.i):=fun i oi hi hd ed Ty hb=>by
  rcases hd with hd|hd
  ·exact .inl (j.rC i oi hi hd ed Ty hb)
  grind [pe.op]
 have mk:∀β' v' w',aj β' e.v v'->Inv w0 E.G β' A w'->β.le β'->(∀B,B<A.next->(∀N b,e.nb=some (N,b)->B≠N)->β' B=β B/\β'.o B=β.o B)->β0.grow β' A0.next->PJ w0 E n ops g0 β0 A0 ds (fun x=>D x\/x=e.i) β' A bl tr (a.put e.o.dst v') w':=fun β' v' w' hv cM aN Ay hg0=>by
  refine⟨bA9,fun x hx o ho hk=> .inl (j.Sz x hx o ho hk),fun x hx kP=>j.un x hx (fun h=>kP (.inl h)),fun i hi=> ?_,?_,cM,fun e' cw cp3 N blk Rw=> ?_,hg0,j.du,?_⟩
  ·rcases hi with hi|hi
   ·exact j.only i hi
   grind
  ·have h1:=(j.frame.mono aN).iQ (dst:=e.o.dst) (fun d hd=>mr e.o hom d hd) hv;refine h1.ext (fun t=> ?_);have h2:=ba6 hs hw ac6 (D:=D) Ns g0 t
   simp_all
  ·grind [j.fresh]
  ·cases e.o.dst<;>exact j.defers
 unfold wpOpIn;have dY:(⟨ops⟩:Array Oper)[e.i]? =some e.o:=by simpa using pe.op
 simp only [dY];have Ar:=Ft (a:=a) (by rw[UL ag];exact pe.want) j.frame;rw[Ar];cases Ek:e.wanted with
 |false=>
  rw[if_neg NS];refine⟨fun _ _=>trivial,hK β _ w (mk β undef w ?_ j.inv (ai.le_refl _) (fun _ _ _=>⟨rfl,rfl⟩) j.grow)⟩;rw[pe.gN Ek];exact aj.undef
 |true=>
  rw[if_pos rfl];unfold Oper.wpIn;refine⟨fun _ _=>trivial,?_⟩;have oc:∀A1,aQ E sq A1 (gv D tr g0) e.o.op=aQ E sq A1 e.g e.o.op:=fun A1=>Vh (MR ag)
  cases BA:e.sy with
  |some nd=>
   obtain⟨_,h3,A7⟩:=pe.sy nd BA;have h2:n9 E sq A e.g e.o.op nd=some e.v:=by
    unfold vF at bk;rw[Ek,fK,A7,BA] at bk;simp only at bk;split at bk
    ·grind [FO]
    ·cases bk
   have h5:=(U0 (MR ag) nd).trans h2;obtain⟨v',aW,hv⟩:=X5 ok aU j.inv j.frame h5 (by rw[j.grow.d];exact h3);rw[aw4 h5,aW];exact hK β _ w (mk β v' w hv j.inv (ai.le_refl _) (fun _ _ _=>⟨rfl,rfl⟩) j.grow)
  |none=>
  cases A7:e.nb with
  |none=>
   obtain⟨lq,A1,BP⟩:=pe.qt Ek A7 BA;have ae4:aQ E sq A (gv D tr g0) e.o.op= .val e.v A:=by
    rw[oc];unfold vF at bk;rw[Ek,fK,A7,BA] at bk;simp only [JK] at bk;cases hp:vg e.o.op with
    |true=>grind [VZ]
    |false=>
     grind [kz,M0,FO]
   obtain⟨β',v',w',aW,hv,cM,lZ,_⟩:=Qf ok aU j.inv j.frame ae4;have res:=hK β' _ w' (mk β' v' w' hv cM (j.inv.gy lZ) (fun B hB _=>⟨lZ.f B hB,lZ.o B hB⟩) (ai.iz j.grow lZ j.du));rw[Nm ae4 NS];rcases aW with ey|⟨ey,rfl⟩
   ·rw[ey];exact res
   ·rw[ey];exact res
  |some nb=>
   obtain⟨N,blk⟩:=nb;obtain⟨eW,A1,A2,H7,hN0,BP,TQ⟩:=pe.fr Ek BA N blk A7;obtain⟨cs,es,bB,ty,v',iT,aW,df,hv⟩:=aH4 (A:=A1) ok j.inv j.frame eW ((oc A1).trans BP);have vO:blk=⟨.cells cs,es,true,false,ty⟩:=by
    rw[iT] at TQ;rcases A1.mR ⟨.cells cs,es,true,false,ty⟩ Ns N with⟨e1,_⟩|e1
    ·grind
    ·grind
   obtain⟨hbN,bB8,cr0,_⟩:=j.fresh e he hn N blk A7;have aN:β.le (β.put N ⟨w.heap.size,0,es,bB.length⟩):=⟨fun B lb eb=>by
    rw[ai.tL]
    grind,fun _ _ h=>h,fun _ _ h=>h,rfl,rfl⟩
   have cM:=j.inv.map N bB8 hbN (.cells ⟨bB⟩ ty) ⟨w.heap.size,0,es,bB.length⟩ rfl (fun b hb=>by
    unfold vF at bk;rw[Ek,fK,A7] at bk;simp only [hb] at bk;have:=Wv bk;subst this;rw[vO];have DR:=df.mono aN;refine⟨⟨bB⟩,ty,(0,0),rfl,rfl,by simp[DR.1],fun i v hv=> ?_,fun _=>rfl,fun _=>by simp[DR.1],rfl,fun _=>rfl⟩
    grind [DR.get])
   rw[Nm BP NS,aW];refine hK _ _ _ (mk _ v' _ (hv _ (by grind [j9])) cM aN (fun B hB bo=>⟨?_,rfl⟩) ⟨fun B hB=> ?_,j.grow.z,j.grow.o,j.grow.d,j.grow.x⟩)
   ·rw[ai.tL]
    grind
   ·rw[ai.tL];by_cases hBN:B=N
    ·omega
    ·rw[if_neg hBN];exact j.grow.f B hB
end
theorem JW{D D':Nat->Prop}{g0:Gt}:∀{tr:List Tr},(∀x∈tr,D x.i↔D' x.i)->gv D tr g0=gv D' tr g0
 |[],_=>rfl
 |x::tr,h=>by
  have ih:=JW (g0:=g0) (tr:=tr) (fun y hy=>h y (xo _ hy));rw[gv,gv,ih]
  grind
theorem at7{D:Nat->Prop}{x:Tr}(h:D x.i):gv D (x::tr) g0=iQ (gv D tr g0) x.dst x.v:=by rw[gv,if_pos h]
theorem UR{D:Nat->Prop}{x:Tr}(h: ¬D x.i):gv D (x::tr) g0=gv D tr g0:=by rw[gv,if_neg h]
def PN(A:AW)(bl:List iy):Prop:=(∀e∈bl,∀N b,e.nb=some (N,b)->N<A.next)/\(∀e∈bl,∀e'∈bl,∀N b b',e.nb=some (N,b)->e'.nb=some (N,b')->e.i=e'.i)/\∀e∈bl,∀e'∈bl,e.i=e'.i->e=e'
theorem M6{ops:HF}{D:Nat->Prop}:∀{tr:List Tr},nO ops tr->(∃x∈tr,¬D x.i)->∃x∈tr,¬D x.i/\∃o,ops[x.i]? =some o/\∀e∈o.after.toList,Region.binds .any e=true->D e.on
 |[],_,⟨x,hx,_⟩=>by cases hx
 |y::tr,⟨h1,h2,o,ho,hd,he⟩,⟨x,hx,hn⟩=>by
  by_cases HZ:∃z∈tr,¬D z.i
  ·obtain⟨z,hz,h⟩:=M6 h1 HZ
   grind
  grind
theorem Ob{E:az}{ops:HF}:∀(L:Es) (bL e0:Nat),vR E ops L bL (some e0)=true->bit bL e0=true->∀i∈L,∃e,(e=e0\/e∈L)/\e≠i/\bit (j8 ops i) e=true
 |[],_,_,_,_,i,hi=>by cases hi
 |k::L,bL,e0,h,he0,i,hi=>by
  have h':Bg E ops (vR E ops L) k bL (some e0)=true:=h;clear h;unfold Bg at h';split at h'
  ·cases h'
  ·rename_i o ho;simp only [xf,Bool.not_eq_true'] at h';obtain⟨⟨⟨hk,gF⟩,hb⟩,n4⟩:=h';have bo:e0≠k:=fun e=>Ns
   cases hi with
   |head=>grind
   |tail _ hi=>
    have af7:∀q,bit (Nat.lor bL (Nat.pow 2 k)) q=(bit bL q||decide (k=q)):=fun q=>by
     rw[tJ,tJ];show(bL|||2^k).testBit q=_
     grind
    cases gY:Nat.ble 2 (gM E o.op) with
    |true=>
     rw[gY,fK] at n4;obtain⟨e,h1,h2,h3⟩:=Ob L _ k n4 Ns i hi
     grind
    |false=>
     rw[gY,kz] at n4;obtain⟨e,h1,h2,h3⟩:=Ob L _ e0 n4 Ns i hi
     grind
section
variable(ok:E.Ok P){sq:Cf}(aU:E.Seq P sq)(hs:Dq ops)(mr:∀o∈ops,∀d,o.dst=some d->d<n)
 {call:eL->C3->AW->bp xM} (hc:mc P E call)
theorem aP3{D:Nat->Prop}{β':ai}{w':World}(mr:∀o∈ops,∀d,o.dst=some d->d<n)(j:PJ w0 E n ops g0 β0 A0 ds D β A bl tr a w)
 {i:Nat} {o:Oper} (ho:ops[i]? =some o) (wv:∀x∈tr,x.i≠i) (hpi:∀e∈bl,e.i≠i) (hr:∀ed∈o.after.toList,Region.binds .any ed=true->D ed.on) {v v':xM} (hv:aj β' v v') (cM:Inv w0 E.G β' A' w') (lZ:β.grow β' A.next) (hn:A.next<=A'.next):
 PJ w0 E n ops g0 β0 A0 ds (fun x=>D x\/x=i) β' A' (nY (fun e=>not (bit (j8 ops i) e.i)) bl) (⟨i,o.dst,v⟩::tr) (a.put o.dst v') w':=by
 have hnD: ¬D i:=fun h=>by grind [j.only]
 have aN:=j.inv.gy lZ;refine⟨fun k ok hk hd ed Ty hb=> ?_,fun x hx o' iY hk=> ?_,fun x hx kP=> ?_,fun k hk=> ?_,?_,cM,fun e he bo N blk y8=> ?_,ai.iz j.grow lZ j.du,xH j.du hn,?_⟩
 ·rcases hd with hd|hd
  ·exact .inl (j.rC k ok hk hd ed Ty hb)
  grind
 ·cases hx with
  |head=>grind
  |tail _ hx=>exact .inl (j.Sz x hx o' iY hk)
 ·cases hx with
  |head=>grind
  |tail _ hx=>
   obtain⟨e,he,BJ⟩:=j.un x hx (fun h=>kP (.inl h));refine⟨e,?_,BJ⟩;rw[zC,List.mem_filter];refine⟨he,?_⟩;cases hb:bit (j8 ops i) e.i with
   |false=>rfl
   |true=>
    rcases Ff j.rC ho hr hb with h1|h1
    ·grind
    grind
 ·grind [hk,xo,xn,j.only,hk.symm]
 ·rw[at7 (x:=⟨i,o.dst,v⟩) (.inr rfl),JW (D':=D) (fun x hx=>⟨fun h=>h.resolve_right (wv x hx),.inl⟩)];exact(j.frame.mono aN).iQ (fun d hd=>mr o (xu ho) d hd) hv
 ·grind [zC,xK,j.fresh,lZ.f,lZ.o]
 ·cases o.dst<;>exact j.defers
theorem aT3{D:Nat->Prop}(j:PJ w0 E n ops g0 β0 A0 ds D β A bl tr a w)
 {i:Nat} {o:Oper} (hk:gM E o.op<=1) (ho:ops[i]? =some o) (wv:∀x∈tr,x.i≠i) {e:iy} (BJ:e.i=i) {v:xM} (hA:A'=A\/(∃blk,vB blk/\A'=A.add blk)\/∃r,(∀nd∈r,nd∈A.tape)/\A'=A.pop r) (y8:∀N b,e.nb=some (N,b)->N=A.next/\A.next<A'.next):
 PJ w0 E n ops g0 β0 A0 ds D β A' (e::bl) (⟨i,o.dst,v⟩::tr) a w:=by
 have hnD: ¬D i:=fun h=>by grind [j.only]
 have hn:A.next<=A'.next:=by
  rcases hA with rfl|⟨blk,_,rfl⟩|⟨r,_,rfl⟩
  ·grind
  ·exact Nat.le_succ _
  ·exact xk _
 have hon:β.o A.next=none:=by
  cases hc:β.o A.next with
  |none=>rfl
  |some l=>exact absurd (j.inv.iG _ l hc) (Nat.lt_irrefl _)
 have ze:β A.next=none:=by
  cases hc:β A.next with
  |none=>rfl
  |some l=>exact absurd (j.inv.ft _ l hc) (Nat.lt_irrefl _)
 refine⟨j.rC,fun x hx o' iY fq=> ?_,fun x hx kP=> ?_,fun k fq=> ?_,?_,?_,fun e' cw bo N blk Rw=> ?_,j.grow,xH j.du hn,j.defers⟩
 ·grind [j.Sz]
 ·grind [xn,xo,j.un]
 ·grind [xo,j.only]
 ·rw[UR (x:=⟨i,o.dst,v⟩) hnD];exact j.frame
 ·rcases hA with rfl|⟨blk,hp,rfl⟩|⟨r,hr,rfl⟩
  ·exact j.inv
  ·exact j.inv.Ot blk hp
  ·exact j.inv.pop hr
 ·cases cw with
  |head=>
   obtain⟨rfl,h2⟩:=y8 N blk Rw
   grind [j.du]
  |tail _ cw=>
   obtain⟨h1,h2,h3⟩:=j.fresh e' cw bo N blk Rw
   grind
def rZ(N:Nat)(listed:Array Bool):Nat:=((List.range N).filter fun k=> !listed.getD k false).length
theorem zK{N:Nat}{i:Nat}(hi:i<N)(aV:listed.size=N)(hl:listed.getD i false=false):rZ N (listed.setIfInBounds i true)<rZ N listed:=by
 unfold rZ;have:(List.range N).filter (fun k=> !(listed.setIfInBounds i true).getD k false)=((List.range N).filter fun k=> !listed.getD k false).filter (fun k=>decide (k≠i)):=by
  rw[List.filter_filter];apply List.filter_congr;intro k _;by_cases hk:k=i
  ·simp_all
  ·rw[getD_set_ne false (Ne.symm hk)];simp[hk]
 rw[this,List.length_filter_lt_length_iff_exists]
 grind
theorem J9{i:Nat}(hi:i<listed.size):(fun k=>(listed.setIfInBounds i true).getD k false=true)=(fun k=>listed.getD k false=true\/k=i):=by
 funext k
 apply propext;by_cases hk:k=i
 ·simp_all
 ·rw[getD_set_ne false (Ne.symm hk)];simp[hk]
end
section
variable(ok:E.Ok P){sq:Cf}(aU:E.Seq P sq)(hs:Dq ops)(mr:∀o∈ops,∀d,o.dst=some d->d<n)
 {call:eL->C3->AW->bp xM} (hc:mc P E call)
theorem IP{i:Nat}(ho:ops[i]? =some o)(aV:listed.size=ops.length)(hn: ¬listed.getD i false=true)(hr:∀e∈o.after.toList,Region.binds .any e=true->listed.getD e.on false=true):i∈Region.ready .any ⟨ops⟩ listed:=by
 rw[mem_ready]
 grind
theorem Cb{i:Nat}(aV:listed.size=ops.length)(h:i∈Region.ready .any ⟨ops⟩ listed):∃o,ops[i]? =some o/\ ¬listed.getD i false=true/\∀e∈o.after.toList,Region.binds .any e=true->listed.getD e.on false=true:=by
 rw[mem_ready] at h
 grind
theorem ay3{op:Op}{v:xM}(hk:gM E op=1)(h:aQ E sq A g op= .val v A'):∃blk,vB blk/\A'=A.add blk:=by
 cases hp:vg op with
 |true=>cases op<;>simp only [gM,vg] at hk hp<;>first|(cases hp;done)|(cases hk;done)
 |false=>
  cases op<;>simp only [gM,hp] at hk<;>try(cases hk;done)
  case convert s d x=>grind
  case alloc t=>
   simp only [aQ] at h;have h:=ma h;unfold ym at h;split at h
   ·replace h:=aC h;rcases h with⟨_,h⟩|⟨_,h⟩<;>cases h
    exact⟨_,(fun c h=>by cases h),rfl⟩
   ·cases h
  case box t x=>
   simp only [aQ] at h;have h:=ma h;unfold yR at h;split at h<;>cases h
   exact⟨_,(fun c h=>by cases h),rfl⟩
  case buildSlice t len ps=>
   obtain⟨ps⟩:=ps;simp only [aQ] at h;have h:=ma h;unfold wX at h;split at h
   ·split at h
    ·replace h:=aC h;rcases h with⟨_,h⟩|⟨_,h⟩
     ·split at h<;>cases h
      exact⟨_,(fun c h=>by cases h),rfl⟩
     ·cases h
    ·cases h
   ·cases h
  case makeSlice t x y=>
   simp only [aQ] at h;have h:=ma h;unfold wY at h;split at h
   ·split at h
    ·replace h:=aC h;rcases h with⟨_,h⟩|⟨_,h⟩<;>cases h
     exact⟨_,(fun c h=>by cases h),rfl⟩
    ·cases h
   ·cases h
  grind
theorem NC{ops:HF}:∀(L:Es) (bL:Nat) (sk:Ji),vR E ops L bL sk=true->∀i∈L,bit bL i=false
 |[],_,_,_,i,hi=>by cases hi
 |k::L,bL,sk,h,i,hi=>by
  have h':Bg E ops (vR E ops L) k bL sk=true:=h;clear h;unfold Bg at h';split at h'
  ·cases h'
  ·rename_i o ho;simp only [xf,Bool.not_eq_true'] at h';obtain⟨⟨⟨hk,_⟩,_⟩,n4⟩:=h';cases hi with
   |head=>exact hk
   |tail _ hi=>
    have:=NC L _ _ n4 i hi;rw[tJ] at this⊢
    simp_all
theorem W8(lY:∀e∈bl,PE E sq β0.d ops g0 tr e):∀e∈bl,∃x∈tr,x.i=e.i:=fun e he=>by
 obtain⟨pre,x0,tl,Mb,Bx,_⟩:=(lY e he).ex
 grind
include ok aU hs mr in
theorem ay6{res:List Tr×AW}(h:PC E sq bl g A tr=some res)(hw:nO ops tr)(lY:∀e∈bl,PE E sq β0.d ops g0 tr e)(eC:PN A bl)(fS:∀k o,ops[k]? =some o->∃x∈tr,x.i=k)
 (Q:Exit->Act->World->Prop) (hQ:∀β a w,bU β n (gv (fun _=>True) res.1 g0) a.tmps->Inv w0 E.G β res.2 w->β0.grow β A0.next->A0.next<=res.2.next->a.defers=ds->Q .normal a w) (aT:Nat):
 ∀(listed:Array Bool) (β:ai) (a:Act) (w:World),listed.size=ops.length->rZ ops.length listed<=aT->PJ w0 E n ops g0 β0 A0 ds (fun k=>listed.getD k false=true) β A bl tr a w->wpAnyIn (kg ro) 0 P .any ⟨ops⟩ Q aT listed a w:=by
 have h':bs (fb (vF E sq A) bl) (some (tr,A)) none=some res:=h;clear h;replace h':=aC h';rcases h' with⟨Qo,h'⟩|⟨_,h'⟩
 ·cases h';have bk:=oR _ _ Qo;have fin:∀(listed:Array Bool) (β:ai) (a:Act) (w:World),listed.size=ops.length->PJ w0 E n ops g0 β0 A0 ds (fun k=>listed.getD k false=true) β A bl tr a w->Region.ready .any ⟨ops⟩ listed=[]->Q .normal a w:=fun listed β a w aV j gF=>by
   have all:∀x∈tr,listed.getD x.i false=true:=fun x hx=>Classical.byContradiction fun hn=>by
    obtain⟨y,hy,Tm,o,ho,hr⟩:=M6 (D:=fun k=>listed.getD k false=true) hw ⟨x,hx,hn⟩;have:=IP ho aV Tm hr
    grind
   refine hQ β a w ?_ j.inv j.grow j.du j.defers;have:=j.frame;rw[JW (D':=fun _=>True) (fun x hx=>⟨fun _=>trivial,fun _=>all x hx⟩)] at this;exact this
  induction aT with
  |zero=>
   intro listed β a w aV As j;have gF:Region.ready .any ⟨ops⟩ listed=[]:=by
    cases hq:Region.ready .any ⟨ops⟩ listed with
    |nil=>rfl
    |cons i r=>
     obtain⟨o,ho,hn,_⟩:=Cb (ops:=ops) (i:=i) aV Ns;have hi:=(xe.1 ho).1;have:=zK hi aV Ns;omega
   exact⟨gF,fin listed β a w aV j gF⟩
  |succ aT ih=>
   intro listed β a w aV As j;refine⟨fun gF=>fin listed β a w aV j gF,fun i hi=> ?_⟩;obtain⟨o,ho,hn,hr⟩:=Cb aV hi;have bm:=(xe.1 ho).1;obtain⟨x,hx,sR⟩:=fS i o ho;obtain⟨e,he,BJ⟩:=j.un x hx Ns;have RG:e.i=i:=BJ.trans sR;subst RG;have Tx:e.o=o:=by have:=(lY e he).op;rw[ho] at this;cases this;rfl
   subst Tx;refine VF ok aU hs mr hw j lY eC.2.1 eC.2.2 he (bk e he) hn hr (fun β' a' w' j'=> ?_);rw[<-J9 Ns] at j';refine ih _ β' a' w' (by simp[aV]) ?_ j';have:=zK bm aV Ns;omega
 ·cases h'
include ok aU hs mr hc in
theorem V7{ρ:Type}{fin:List iy->Gt->AW->List Tr->Option ρ}{es:Nat}(Q:Exit->Act->World->Prop)(res:ρ)(ah:Nat->Prop)(Rv:∀k,ah k->k≠es/\bit (j8 ops k) es=true)
 (G8:∀bl g A tr,fin bl g A tr=some res->nO ops tr->g=gv (fun _=>True) tr g0->(∀e∈bl,PE E sq β0.d ops g0 tr e)->PN A bl->(∀k o,ops[k]? =some o->(∃x∈tr,x.i=k)\/ah k)->
  ∀(aT:Nat) (listed:Array Bool) (β:ai) (a:Act) (w:World),listed.size=ops.length->rZ ops.length listed<=aT->PJ w0 E n ops g0 β0 A0 ds (fun k=>listed.getD k false=true) β A bl tr a w->wpAnyIn (kg ro) 0 P .any ⟨ops⟩ Q aT listed a w):
 ∀(L:Es) (bl:List iy) (g:Gt) (A:AW) (tr:List Tr) (bL:Nat) (sk:Ji),z6 E sq call ops fin L bl g A tr=some res->vR E ops L bL sk=true->
 (∀k,bit bL k=true↔∃x∈tr,x.i=k)->nO ops tr->g=gv (fun _=>True) tr g0->(∀e∈bl,PE E sq β0.d ops g0 tr e)->PN A bl->(∀k o,ops[k]? =some o->(∃x∈tr,x.i=k)\/k∈L\/ah k)->((∃k,ah k)->L=[]\/L.getLast?=some es)->
 ∀(aT:Nat) (listed:Array Bool) (β:ai) (a:Act) (w:World),listed.size=ops.length->rZ ops.length listed<=aT->PJ w0 E n ops g0 β0 A0 ds (fun k=>listed.getD k false=true) β A bl tr a w->wpAnyIn (kg ro) 0 P .any ⟨ops⟩ Q aT listed a w:=by
 intro L
 induction L with
 |nil=>
  intro bl g A tr bL sk h Be Zt hw hg lY eC fS dU aT;exact G8 bl g A tr h hw hg lY eC (fun k o hk=>(fS k o hk).imp id (fun h=>h.resolve_left NS)) aT
 |cons i0 L IH=>
  intro bl g A tr bL sk h Be Zt hw hg lY eC fS dU aT;have h':FW E sq call ops (z6 E sq call ops fin L) i0 bl g A tr=some res:=h;have mL:Bg E ops (vR E ops L) i0 bL sk=true:=Be;clear h Be;unfold Bg at mL;unfold FW at h';simp only [JK] at h';rw[gg] at mL h';cases ho:ops[i0]? with
  |none=>grind
  |some o=>
   rw[ho] at mL h';simp only [xf,Bool.not_eq_true'] at mL h';obtain⟨⟨⟨lq,bw8⟩,Ax⟩,n4⟩:=mL;have wv:∀x∈tr,x.i≠i0:=fun x hx e=>Ns
   have DI:∀e∈o.after.toList,Region.binds .any e=true->∃y∈tr,y.i=e.on:=fun e he hb=>by
    have:=oR _ _ bw8 e he;rw[hb,fK] at this
    grind
   have af7:∀q,bit (Nat.lor bL (Nat.pow 2 i0)) q=(bit bL q||decide (i0=q)):=fun q=>by
    rw[tJ,tJ];show(bL|||2^i0).testBit q=_
    grind
   have JU:∀v k,bit (Nat.lor bL (Nat.pow 2 i0)) k=true↔∃x∈((⟨i0,o.dst,v⟩:Tr)::tr),x.i=k:=fun v k=>by
    rw[af7,Bool.or_eq_true,Zt k];constructor
    ·rintro(⟨x,hx,sR⟩|h)
     ·grind
     ·exact⟨_,xn,of_decide_eq_true h⟩
    grind
   have HE:∀v,nO ops ((⟨i0,o.dst,v⟩:Tr)::tr):=fun v=>⟨hw,wv,o,ho,rfl,DI⟩
   have Eu:∀v,iQ g o.dst v=gv (fun _=>True) ((⟨i0,o.dst,v⟩:Tr)::tr) g0:=fun v=>by rw[MU,hg]
   have Qv:∀v k o',ops[k]? =some o'->(∃x∈((⟨i0,o.dst,v⟩:Tr)::tr),x.i=k)\/k∈L\/ah k:=fun v k o' hk=>by
    rcases fS k o' hk with⟨x,hx,sR⟩|hk|hk
    ·grind
    ·cases hk with
     |head=>exact .inl ⟨_,xn,rfl⟩
     |tail _ hk=>exact .inr (.inl hk)
    grind
   have yM:(∃k,ah k)->L=[]\/L.getLast?=some es:=fun hk=>by
    grind
   have bz8:∀k,ah k->es∈i0::L:=fun k hk=>List.mem_of_getLast? ((dU ⟨k,hk⟩).resolve_left NS)
   split at h'
   ·cases h'
   rename_i wd Ar;replace h':=aC h';rcases h' with⟨Ku,h'⟩|⟨Ku,h'⟩
   ·
    have fO:2<=gM E o.op:=xh Ku;rw[Ku,fK] at n4;replace h':=aC h';rcases h' with⟨Qo,h'⟩|⟨_,h'⟩;rotate_left
    ·cases h'
    have bk:=oR _ _ Qo;have hpi:∀e∈bl,e.i≠i0:=fun e he BJ=>by
     obtain⟨x,hx,sR⟩:=W8 lY e he
     grind
    have bx3:∀v,∀e∈nY (fun e=>not (bit (j8 ops i0) e.i)) bl,PE E sq β0.d ops g0 ((⟨i0,o.dst,v⟩:Tr)::tr) e:=fun v e he=>by
     rw[zC,List.mem_filter] at he;exact(lY e he.1).cons _
    have bx2:∀A':AW,A.next<=A'.next->PN A' (nY (fun e=>not (bit (j8 ops i0) e.i)) bl):=fun A' hA=>by
     refine⟨fun e he N b hb=> ?_,fun e he e' cw N b b' hb kQ=> ?_,fun e he e' cw Ev=> ?_⟩
     ·rw[zC,List.mem_filter] at he;exact xK (eC.1 e he.1 N b hb) hA
     ·rw[zC,List.mem_filter] at he cw;exact eC.2.1 e he.1 e' cw.1 N b b' hb kQ
     ·rw[zC,List.mem_filter] at he cw;exact eC.2.2 e he.1 e' cw.1 Ev
    have eff:∀(aT:Nat) (listed:Array Bool) (β:ai) (a:Act) (w:World),listed.size=ops.length->rZ ops.length listed<=aT+1->PJ w0 E n ops g0 β0 A0 ds (fun k=>listed.getD k false=true) β A bl tr a w->
     ¬listed.getD i0 false=true->(∀e∈o.after.toList,Region.binds .any e=true->listed.getD e.on false=true)->wpOpIn (kg ro) 0 P ⟨ops⟩ Q i0 (wpAnyIn (kg ro) 0 P .any ⟨ops⟩ Q aT (listed.setIfInBounds i0 true)) a w:=fun aT listed β a w aV As j hn hr=>by
     have bm:=(xe.1 ho).1;have dY:=zK bm aV Ns;have G5:(listed.setIfInBounds i0 true).size=ops.length:=by simp[aV]
     have ag:∀t∈o.looksAt ⟨ops⟩,gv (fun k=>listed.getD k false=true) tr g0 t=g t:=fun t ht=>by
      have:=Z' hs j.rC ho hr hn (tr:=(⟨i0,o.dst,undef⟩:Tr)::tr) (tl:=tr) (pre:=[]) (x0:=⟨i0,o.dst,undef⟩) rfl rfl (HE undef) (HE undef) g0 ht;rw[UR (x:=⟨i0,o.dst,undef⟩) hn] at this;rw[hg];exact this
     have aZ4:=Ft (a:=a) (by rw[UL ag];exact Ar) j.frame;have Ll:∀β' v v' A' w',aj β' v v'->Inv w0 E.G β' A' w'->β.grow β' A.next->A.next<=A'.next->z6 E sq call ops fin L (nY (fun e=>not (bit (j8 ops i0) e.i)) bl) (iQ g o.dst v) A' (⟨i0,o.dst,v⟩::tr)=some res->
      wpAnyIn (kg ro) 0 P .any ⟨ops⟩ Q aT (listed.setIfInBounds i0 true) (a.put o.dst v') w':=fun β' v v' A' w' hv cM lZ fL uA=>by
      have j':=aP3 mr j ho wv hpi hr hv cM lZ fL;rw[<-J9 Ns] at j';exact IH _ _ _ _ _ _ uA n4 (JU v) (HE v) (Eu v) (bx3 v) (bx2 A' Ns) (Qv v) yM aT _ β' _ w' G5 MK j'
     unfold wpOpIn;have tZ:(⟨ops⟩:Array Oper)[i0]? =some o:=by simpa using ho
     simp only [tZ];rw[aZ4];cases wd with
     |false=>
      rw[if_neg NS];rw[kz] at h';exact⟨fun _ _=>trivial,Ll β undef undef _ w aj.undef j.inv (ai.dg _ _) (xk _) h'⟩
     |true=>
      rw[if_pos rfl];rw[fK] at h';have oc:iL E sq A (gv (fun k=>listed.getD k false=true) tr g0) o.op=iL E sq A g o.op:=ax0 (MR ag);cases qw:iL E sq A g o.op with
      |fail=>grind
      |nd q=>grind
      |val v A'=>
       rw[qw] at h';simp only [Fc,Fe] at h';exact O1 ok aU j.inv j.frame (oc.trans qw) (fun β' v' w' hv cM lZ fL=>Ll β' v v' A' w' hv cM lZ fL h')
      |call f args=>
       rw[qw] at h';simp only at h';split at h'
       ·rename_i v A' nH;refine WE ok j.inv j.frame hc (oc.trans qw) nH (fun p hp β' v' w' hv cM lZ fL=> ?_)
        grind
       ·cases h'
    have Xx:∀(listed:Array Bool) (β:ai) (a:Act) (w:World),listed.size=ops.length->PJ w0 E n ops g0 β0 A0 ds (fun k=>listed.getD k false=true) β A bl tr a w->Region.ready .any ⟨ops⟩ listed≠[]:=fun listed β a w aV j gF=>by
     have sV: ¬listed.getD i0 false=true:=fun h=>by grind [j.only]
     have all:∀x∈tr,listed.getD x.i false=true:=fun x hx=>Classical.byContradiction fun hn=>by
      obtain⟨y,hy,Tm,o',iY,hr⟩:=M6 (D:=fun k=>listed.getD k false=true) hw ⟨x,hx,hn⟩;have:=IP iY aV Tm hr
      grind
     have:=IP ho aV sV (fun e he hb=>by obtain⟨y,hy,HC⟩:=DI e he hb;exact HC▸all y hy)
     grind
    induction aT with
    |zero=>
     intro listed β a w aV As j;exfalso;have bo:=Xx listed β a w aV j;cases hq:Region.ready .any ⟨ops⟩ listed with
     |nil=>exact bo hq
     |cons i r=>
      obtain⟨o',iY,hn,_⟩:=Cb (ops:=ops) (i:=i) aV Ns;have:=zK (xe.1 iY).1 aV Ns;omega
    |succ aT ih=>
     intro listed β a w aV As j;refine⟨fun gF=>absurd gF (Xx listed β a w aV j),fun i hi=> ?_⟩;obtain⟨o',iY,hn,hr⟩:=Cb aV hi;have bm:=(xe.1 iY).1;rcases fS i o' iY with⟨x,hx,sR⟩|o9|o9
     ·obtain⟨e,he,BJ⟩:=j.un x hx Ns;have RG:e.i=i:=BJ.trans sR;subst RG;have Tx:e.o=o':=by have:=(lY e he).op;rw[iY] at this;cases this;rfl
      subst Tx;refine VF ok aU hs mr hw j lY eC.2.1 eC.2.2 he (bk e he) hn hr (fun β' a' w' j'=> ?_);rw[<-J9 Ns] at j';refine ih _ β' a' w' (by simp[aV]) ?_ j';have:=zK bm aV Ns;omega
     ·cases o9 with
      |head=>
       rw[ho] at iY;cases iY;exact eff aT listed β a w aV As j hn hr
      |tail _ o9=>
       exfalso;obtain⟨e,ba,gZ,he3⟩:=Ob L _ i0 n4 Ns i o9;have TO:=(Ff j.rC iY hr he3).resolve_right gZ;obtain⟨x,hx,Ma⟩:=j.only e TO;rcases ba with rfl|ba
       ·grind
       ·have h1:=NC L _ _ n4 e ba;rw[(JU undef e).2 ⟨x,xo _ hx,Ma⟩] at h1;cases h1
     ·exfalso;obtain⟨bo,hbt⟩:=Rv i o9;have TO:=(Ff j.rC iY hr hbt).resolve_right bo.symm;obtain⟨x,hx,Ma⟩:=j.only es TO;cases bz8 i o9 with
      |head=>grind
      |tail _ ba=>
       have h1:=NC L _ _ n4 es ba;rw[(JU undef es).2 ⟨x,xo _ hx,Ma⟩] at h1;cases h1
   ·
    have eW:gM E o.op<=1:=by
     have: ¬2<=gM E o.op:=fun e=>by grind [Nat.ble_eq_true_of_le]
     omega
    rw[Ku,kz] at n4;intro listed β a w aV As j;have Jw:∀(v:xM) (A':AW) (yT:Bool) (nb:Option (Nat×aG)) (sy:Option Node),z6 E sq call ops fin L (⟨i0,o,g,v,yT,nb,sy⟩::bl) (iQ g o.dst v) A' (⟨i0,o.dst,v⟩::tr)=some res->(A'=A\/(∃blk,vB blk/\A'=A.add blk)\/∃r,(∀nd∈r,nd∈A.tape)/\A'=A.pop r)->
     (∀N b,nb=some (N,b)->N=A.next/\A.next<A'.next)->pB ops g o=some yT->(yT=false->v=undef)->(yT=true->nb=none->sy=none->gM E o.op=0/\∃A1,aQ E sq A1 g o.op= .val v A1)->
     (yT=true->sy=none->∀N blk,nb=some (N,blk)->gM E o.op=1/\∃A1 A2,A1.next=N/\A1.get N=none/\aQ E sq A1 g o.op= .val v A2/\A2.get N=some blk)->(∀nd,sy=some nd->yT=true/\bY β0.d nd/\nb=none)->wpAnyIn (kg ro) 0 P .any ⟨ops⟩ Q aT listed a w:=fun v A' yT nb sy uA hA y8 Ej bw1 hqt HV BA=>by
     have fL:A.next<=A'.next:=by
      rcases hA with rfl|⟨blk,_,rfl⟩|⟨r,_,rfl⟩
      ·grind
      ·exact Nat.le_succ _
      ·exact xk _
     have j':=aT3 (e:=⟨i0,o,g,v,yT,nb,sy⟩) (v:=v) j eW ho wv rfl hA y8;refine IH _ _ _ _ _ _ uA n4 (JU v) (HE v) (Eu v) (fun e he=> ?_) ⟨fun e he N b hb=> ?_,fun e he e' cw N b b' hb kQ=> ?_,fun e he e' cw Ev=> ?_⟩ (Qv v) yM aT listed β a w aV As j'
     ·cases he with
      |head=>exact⟨⟨[],⟨i0,o.dst,v⟩,tr,rfl,rfl,rfl,HE v,hg⟩,ho,eW,Ej,bw1,hqt,HV,BA⟩
      |tail _ he=>exact(lY e he).cons _
     ·cases he with
      |head=>grind
      |tail _ he=>exact xK (eC.1 e he N b hb) fL
     ·cases he with
      |head=>cases cw with
       |head=>rfl
       |tail _ cw=>
        have h1:=(y8 N b hb).1;have h2:=eC.1 e' cw N b' kQ;omega
      |tail _ he=>cases cw with
       |head=>
        have h1:=(y8 N b' kQ).1;have h2:=eC.1 e he N b hb;omega
       |tail _ cw=>exact eC.2.1 e he e' cw N b b' hb kQ
     ·have Mg:=W8 lY;cases he with
      |head=>cases cw with
       |head=>rfl
       |tail _ cw=>obtain⟨x,hx,sR⟩:=Mg e' cw;exact absurd (sR.trans Ev.symm) (wv x hx)
      |tail _ he=>cases cw with
       |head=>obtain⟨x,hx,sR⟩:=Mg e he;grind
       |tail _ cw=>exact eC.2.2 e he e' cw Ev
    cases wd with
    |false=>
     rw[kz] at h';exact Jw undef A false none none h' (.inl rfl) (fun N b hb=>by cases hb) Ar (fun _=>rfl) (fun e=>by cases e) (fun e=>by cases e) (fun nd e=>by cases e)
    |true=>
     rw[fK] at h';cases qw:aQ E sq A g o.op with
     |fail=>
      rw[qw] at h';simp only at h';split at h'
      ·cases h'
      ·rename_i nd r ht;split at h'
       ·rename_i v hv;have o9:∀x∈r,x∈A.tape:=fun x hx=>Ns
        refine Jw v (A.pop r) true none (some nd) h' (.inr (.inr ⟨r,o9,rfl⟩)) (fun N b hb=>by cases hb) Ar (fun e=>by cases e) (fun _ _ e=>by cases e) (fun _ _ N b hb=>by cases hb) (fun nd' e=> ?_);cases e;exact⟨rfl,by rw[<-j.grow.d];exact ok.q _ _ (j.inv.dX nd (by rw[ht];exact xn)),rfl⟩
       ·cases h'
     |nd q=>rw[qw] at h';cases h'
     |call f args=>rw[qw] at h';cases h'
     |val v A'=>
      rw[qw] at h';simp only [Fc,Fe] at h';replace h':=aC h';rcases h' with⟨gY,h'⟩|⟨gY,h'⟩
      ·have jE:=xb gY;split at h'
       ·rename_i b hb;obtain⟨blk,jf,iT⟩:=ay3 jE qw;have kP:A.next<A'.next:=by rw[iT];exact Nat.lt_succ_self _
        refine Jw v A' true (some (A.next,b)) none h' (.inr (.inl ⟨blk,jf,iT⟩)) (fun N b' kQ=>by cases kQ;exact⟨rfl,kP⟩) Ar (fun e=>by cases e) (fun _ e=>by cases e) (fun _ _ N b' kQ=> ?_) (fun nd e=>by cases e);cases kQ;exact⟨jE,A,A',rfl,j.inv.du _ (xk _),qw,hb⟩
       ·cases h'
      ·have af2:gM E o.op=0:=by
        have: ¬gM E o.op=1:=fun e=>by rw[e] at gY;cases gY
        omega
       have Qq:=M0 af2 qw;subst Qq;exact Jw v A' true none none h' (.inl rfl) (fun N b hb=>by cases hb) Ar (fun e=>by cases e) (fun _ _ _=>⟨af2,A',qw⟩) (fun _ _ N b hb=>by cases hb) (fun nd e=>by cases e)
end
def GZ(v:xM):Bool:=match v with| .agg ⟨l⟩=>fb lI l|v=>lI v
def Ah(E:az)(sq:Cf)(ops:HF)(A:AW)(g:Gt)(o:Oper):Option (xM×AW×List Nat):=
 match pB ops g o with
 |none=>none
 |some false=>some (undef,A,[])
 |some true=>match aQ E sq A g o.op with
  | .val v A'=>bs (Nat.beq (gM E o.op) 0) (some (v,A',[])) (match o.op with
   | .store _ a _=>(match ev E g a with| .pointer (some ⟨B,_,_⟩)=>some (v,A',[B])|_=>none)
   |_=>none)
  | .fail=>(match o.op with
   | .indexAddr _ _ _=>(match iL E sq A g o.op with| .val v A'=>some (v,A',[])|_=>none)
   | .store _ a x=>(match ev E g a with
    | .iface B _=>bs (GZ (ev E g x)) (match iL E sq A g o.op with| .val v A'=>some (v,A',[B])|_=>none) none
    |_=>none)
   |_=>none)
  |_=>none
def vf(ops:HF)(bL:Nat):Es:=
 nY (fun i=>match dM ops i with|some o=>not (bit bL i)&&FT bL o|none=>false) (vL (fun i=>i) (bT ops) [])
def QQ(E:az)(sq:Cf)(ops:HF)(DF:Gt->AW->Es->Bool)(aT:Nat):Nat->Gt->AW->Es->Bool:=
 Nat.rec (motive:=fun _=>Nat->Gt->AW->Es->Bool) (fun _ _ _ _=>false)
  (fun _ ih bL g A tb=>match vf ops bL with
   |[]=>DF g A tb
   |r::rs=>fb (fun i=>match dM ops i with
    |none=>false
    |some o=>match Ah E sq ops A g o with
     |none=>false
     |some (v,A',t)=>ih (Nat.lor bL (Nat.pow 2 i)) (iQ g o.dst v) A' (iR t tb)) (r::rs)) aT
def Q6(E:az)(sq:Cf)(ops:HF)(aT:Nat):Nat->Gt->AW->List Tr->List Nat->Option (Gt×AW×List Tr×List Nat):=
 Nat.rec (motive:=fun _=>Nat->Gt->AW->List Tr->List Nat->Option (Gt×AW×List Tr×List Nat)) (fun _ _ _ _ _=>none)
  (fun _ ih bL g A tr tb=>match vf ops bL with
   |[]=>some (g,A,tr,tb)
   |i::_=>match dM ops i with
    |none=>none
    |some o=>match Ah E sq ops A g o with
     |none=>none
     |some (v,A',t)=>ih (Nat.lor bL (Nat.pow 2 i)) (iQ g o.dst v) A' (⟨i,o.dst,v⟩::tr) (iR t tb)) aT
def Rj(a b:Option aG):Bool:=match a,b with|some x,some y=>KO x y|none,none=>true|_,_=>false
def Zj(ops:HF)(mask0:Nat)(gc:Gt)(Ac:AW)(qA:Es)(g:Gt)(A:AW)(tb:Es):Bool:=
 fb (fun B=>Rj (A.get B) (Ac.get B)) (iR tb qA)&&r7 (fun i o=>bs (bit mask0 i) true (match o.dst with|none=>true|some d=>v5 (g d) (gc d))) ops 0
def qZ(tr:List Tr):Nat:=List.rec (motive:=fun _=>Nat) 0 (fun x _ m=>Nat.lor m (Nat.pow 2 x.i)) tr
def Jn(E:az)(sq:Cf)(ops:HF)(bl:List iy)(g:Gt)(A:AW)(tr:List Tr):Option (List Tr×AW):=
 match bl with
 |[]=>match Q6 E sq ops (Nat.add (bT ops) 1) (qZ tr) g A tr [] with
  |some (gc,Ac,sK,qA)=>bs (QQ E sq ops (Zj ops (qZ tr) gc Ac qA) (Nat.add (bT ops) 1) (qZ tr) g A []) (some (sK,Ac)) none
  |none=>none
 |_=>none
theorem ap8{a x:xM}(h:x9 E A t a x=some A'):∃B o blk,a= .pointer (some ⟨B,o,none⟩)/\A'=A.put B (some blk):=by
 unfold x9 at h;split at h
 ·split at h
  ·replace h:=aC h
   grind
  ·cases h
 ·cases h
theorem aW6(A:AW)(B:Nat)(b:Option aG)(C:Nat)(hC:C≠B):(A.put B b).get C=A.get C:=by
 grind [absurd,A.gd]
theorem XD{ih:xM->AW->Im}(hi:∀v A,lI v=true->ih v A=some (v,A)):∀(l:C3) (A:AW),fb lI l=true->nL ih l A=some (l,A)
 |[],_,_=>rfl
 |v::l,A,h=>by
  have h':bs (lI v) (fb lI l) false=true:=h;have h1:lI v=true/\fb lI l=true:=by
   rcases aC h' with h|⟨_,h⟩
   ·exact h
   ·cases h
  show(match ih v A with|some (u,A1)=>(match nL ih l A1 with|some (us,A2)=>some (u::us,A2)|none=>none)|none=>none)=_;rw[hi v A h1.1];simp only;rw[XD hi l A h1.2]
theorem aR5{G:Nat}{x:xM}(h:GZ x=true):lL G 4 x A=some (x,A):=by
 have h1:∀n v A,lI v=true->lL G n v A=some (v,A):=fun n v A hv=>by
  cases n with
  |zero=>show bs (lI v) (some (v,A)) none=_;rw[hv,fK]
  |succ n=>show bs (lI v) (some (v,A)) _=_;rw[hv,fK]
 unfold GZ at h;split at h
 ·rename_i l;show DU G (lL G 3) (.agg ⟨l⟩) A=_
  grind [DU,XD]
 grind
theorem UC{B:Nat}{p x:xM}(hx:GZ x=true)(h:z5 E A t (.iface B p) x=some A'):A'.next=A.next/\(∀C,C≠B->A'.get C=A.get C)/\∀nd∈A'.tape,nd∈A.tape:=by
 have hf:lL E.G.n 4 x A=some (x,A):=aR5 hx;unfold z5 at h;split at h
 ·rename_i B2 iv es off r hc hr;cases hc;rw[hf] at h;simp only at h;split at h
  ·replace h:=aC h;rcases h with⟨_,h⟩|⟨_,h⟩
   ·split at h
    ·rename_i y A2 hp;cases h;obtain⟨nd,rt,c,ht,_,_,_,_,rfl⟩:=nW hp;exact⟨rfl,fun C hC=>aW6 (A.pop rt) B _ C hC,fun x hx=>by rw[ht];exact xo _ hx⟩
    ·cases h
   ·cases h
  ·cases h
 ·cases h
theorem U1{sq:Cf}{op:Op}{v:xM}(h:tT E sq A g op= .val v A'):A'.next=A.next/\(∀C,A'.get C=A.get C)/\∀nd∈A'.tape,nd∈A.tape:=by
 obtain⟨nd,l,v2,ht,_,hr⟩:=IL h NS;cases hr;exact⟨rfl,fun _=>rfl,fun x hx=>by rw[ht];exact xo _ hx⟩
theorem ao1{sq:Cf}{x i:Operand}{v:xM}(hA:aQ E sq A g (.indexAddr t x i)= .fail)(h:iL E sq A g (.indexAddr t x i)= .val v A'):A'.next=A.next/\(∀C,A'.get C=A.get C)/\∀nd∈A'.tape,nd∈A.tape:=by
 rcases Fa E sq A g (.indexAddr t x i) with⟨_,h2⟩|h1|h1|⟨nd,r,ht,h1⟩
 ·grind
 ·exact U1 (h1.symm.trans h)
 ·have:pL E sq A g (.indexAddr t x i)= .val v A':=h1.symm.trans h;cases this
 ·have:pL E sq (A.pop r) g (.indexAddr t x i)= .val v A':=h1.symm.trans h;cases this
theorem ao0{sq:Cf}{x y:Operand}{v:xM}{B:Nat}{p:xM}(hA:aQ E sq A g (.store t x y)= .fail)(hx:ev E g x= .iface B p)(hy:GZ (ev E g y)=true)(h:iL E sq A g (.store t x y)= .val v A'):A'.next=A.next/\(∀C,C≠B->A'.get C=A.get C)/\∀nd∈A'.tape,nd∈A.tape:=by
 rcases Fa E sq A g (.store t x y) with⟨_,h2⟩|h1|h1|⟨nd,r,ht,h1⟩
 ·grind
 ·obtain⟨a,b,c⟩:=U1 (h1.symm.trans h)
  grind
 ·have h3:pT (z5 E A t (ev E g x) (ev E g y))= .val v A':=h1.symm.trans h
  grind [zT,UC]
 ·have h3:pT (z5 E (A.pop r) t (ev E g x) (ev E g y))= .val v A':=h1.symm.trans h;obtain⟨h4,_⟩:=zT h3;rw[hx] at h4;obtain⟨a,b,c⟩:=UC hy h4;exact⟨a,b,fun x hx=>by rw[ht];exact xo _ (c x hx)⟩
theorem UZ{sq:Cf}{v:xM}{t:Es}(h:Ah E sq ops A g o=some (v,A',t)):
 (∃wd,pB ops g o=some wd/\(wd=false->v=undef/\A'=A)/\(wd=true->aQ E sq A g o.op= .val v A'\/iL E sq A g o.op= .val v A'))/\A'.next=A.next/\(∀C,C∉t->A'.get C=A.get C)/\∀nd∈A'.tape,nd∈A.tape:=by
 unfold Ah at h;split at h
 ·cases h
 ·grind
 ·rename_i hw;split at h
  ·rename_i v1 A1 dY;replace h:=aC h;rcases h with⟨hk,h⟩|⟨_,h⟩
   ·cases h;have:=M0 (xb hk) dY
    grind
   ·split at h
    ·rename_i ty ad x ho;split at h
     ·rename_i B of md zb;cases h;have tZ:=dY;rw[ho] at tZ;simp only [aQ] at tZ;obtain⟨bk,_⟩:=zT tZ;obtain⟨B2,o2,blk,ha,rfl⟩:=ap8 bk;rw[zb] at ha;cases ha;refine⟨⟨true,hw,(fun e=>by cases e),fun _=> .inl dY⟩,rfl,fun C hC=> ?_,fun _ h=>h⟩
      grind [absurd,A.gd]
     ·cases h
    ·cases h
  ·rename_i dY;split at h
   ·grind [ao1]
   ·rename_i ts xs ys ho;split at h
    ·rename_i B p zb;replace h:=aC h
     grind [ao0]
    ·cases h
   ·cases h
  ·cases h
theorem Inv.ext{G:GP}(h:Inv w0 G β A w)(hg:∀C,A'.get C=A.get C)(hn:A'.next=A.next)(ht:∀nd∈A'.tape,G.Q β.d nd):Inv w0 G β A' w:=
 ⟨h.below,fun B l e=>by rw[hn];exact h.ft B l e,fun B hB=>by grind [h.du],h.loc,fun B B' l l' e e' eG ha kR=>h.inj B B' l l' e e' eG Ns Ns,
  fun B blk l hb e=>h.cont B blk l Ns e,h.jn,h.dB,fun B l kb hG e ha hs=>h.sep B l kb hG e Ns hs,ht,fun B k hk=>h.own B k Ns,fun B v e=>(by rw[hn];exact h.iG B v e),h.lay,h.xg,h.jM,h.zo,fun b hh hy=>⟨(h.dP b hh hy).1,(h.dP b hh hy).2.1,(h.dP b hh hy).2.2.1,fun C lc e ha=>(h.dP b hh hy).2.2.2 C lc e Ns⟩⟩
theorem aP1{a:Option aG}(h:Rj a b=true):a=b:=by
 unfold Rj at h
 grind [Wv]
theorem J2(bL i q:Nat):bit (Nat.lor bL (Nat.pow 2 i)) q=(bit bL q||decide (i=q)):=by
 rw[tJ,tJ];show(bL|||2^i).testBit q=_
 grind
theorem Vn:∀(tr:List Tr) (k:Nat),bit (qZ tr) k=true↔∃x∈tr,x.i=k
 |[],k=>by
  rw[show qZ []=0 from rfl,tJ,Nat.zero_testBit]
  grind
 |x::tr,k=>by
  rw[show qZ (x::tr)=Nat.lor (qZ tr) (Nat.pow 2 x.i) from rfl,J2,Bool.or_eq_true,Vn tr k]
  grind
theorem M1{bL i:Nat}:i∈vf ops bL↔∃o,ops[i]? =some o/\bit bL i=false/\∀e∈o.after.toList,Region.binds .any e=true->bit bL e.on=true:=by
 unfold vf;rw[zC,List.mem_filter,FB,eH];simp only [List.map_id',xj,List.mem_range,gg];have gF:∀o:Oper,FT bL o=true↔∀e∈o.after.toList,Region.binds .any e=true->bit bL e.on=true:=fun o=>by
  unfold FT;generalize o.after.toList=l
  induction l with
  |nil=>simp[fb]
  |cons e l ih=>
   have hl:fb (fun e=>bs (Region.binds .any e) (bit bL e.on) true) (e::l)=bs (bs (Region.binds .any e) (bit bL e.on) true) (fb (fun e=>bs (Region.binds .any e) (bit bL e.on) true) l) false:=rfl;rw[hl];simp only [xG,forall_eq_or_imp];rw[<-ih];cases Region.binds .any e<;>cases bit bL e.on<;>simp only [fK,kz]<;>simp
 grind
section
variable(ok:E.Ok P){sq:Cf}(aU:E.Seq P sq)(mr:∀o∈ops,∀d,o.dst=some d->d<n)
def yC(ops:HF)(mask0:Nat)(g1:Gt)(A1:AW)(g:Gt)(A:AW)(tb:Es):Prop:=
 (∀C,C∉tb->A.get C=A1.get C)/\A.next=A1.next/\(∀t,(∀(i:Nat) (o:Oper),ops[i]? =some o->bit mask0 i=false->o.dst≠some t)->g t=g1 t)/\∀nd∈A.tape,nd∈A1.tape
theorem yC.step{mask0:Nat}{g1:Gt}{A1:AW}{tb t:Es}{i:Nat}{v:xM}(h:yC ops mask0 g1 A1 g A tb)(ho:ops[i]? =some o)(hi:bit mask0 i=false)(h1:Ah E sq ops A g o=some (v,A',t)):yC ops mask0 g1 A1 (iQ g o.dst v) A' (iR t tb):=by
 obtain⟨_,hn,hg,Tg⟩:=UZ h1;refine⟨fun C hC=> ?_,hn.trans h.2.1,fun s hs=> ?_,fun nd dw=>h.2.2.2 nd (Tg nd dw)⟩
 ·rw[mQ,xF] at hC;rw[hg C (fun e=>hC (.inl e))];exact h.1 C (fun e=>hC (.inr e))
 ·rw[Cj,if_neg (hs i o ho hi)];exact h.2.2.1 s hs
include ok aU mr in
theorem XI{DF:Gt->AW->Es->Bool}{mask0:Nat}{g1:Gt}{A1:AW}(Q:Exit->Act->World->Prop)
 (Zv:∀g A tb β a w,DF g A tb=true->yC ops mask0 g1 A1 g A tb->bU β n g a.tmps->Inv w0 E.G β A w->β0.grow β A0.next->A0.next<=A.next->a.defers=ds->Q .normal a w):
 ∀(Gw bL:Nat) (g:Gt) (A:AW) (tb:Es) (listed:Array Bool) (β:ai) (a:Act) (w:World) (aT:Nat),QQ E sq ops DF Gw bL g A tb=true->(∀k,bit bL k=true↔listed.getD k false=true)->(∀k,bit mask0 k=true->bit bL k=true)->
  listed.size=ops.length->rZ ops.length listed<=aT->yC ops mask0 g1 A1 g A tb->bU β n g a.tmps->Inv w0 E.G β A w->β0.grow β A0.next->A0.next<=A.next->a.defers=ds->wpAnyIn (kg ro) 0 P .any ⟨ops⟩ Q aT listed a w
 |0,bL,g,A,tb,listed,β,a,w,aT,h,hm,ng,aV,dY,hk,hf,inv,lZ,kP,hd=>by cases h
 |Gw+1,bL,g,A,tb,listed,β,a,w,aT,h,hm,ng,aV,dY,hk,hf,inv,lZ,kP,hd=>by
  have h':(match vf ops bL with
   |[]=>DF g A tb
   |r::rs=>fb (fun i=>match dM ops i with
    |none=>false
    |some o=>match Ah E sq ops A g o with
     |none=>false
     |some (v,A',t)=>QQ E sq ops DF Gw (Nat.lor bL (Nat.pow 2 i)) (iQ g o.dst v) A' (iR t tb)) (r::rs))=true:=h
  clear h;have BD:∀i,i∈Region.ready .any ⟨ops⟩ listed->i∈vf ops bL:=fun i hi=>by
   grind [Cb,M1,bit,absurd]
  split at h'
  ·rename_i cp2;have gF:Region.ready .any ⟨ops⟩ listed=[]:=List.eq_nil_iff_forall_not_mem.2 fun i hi=>Ns
   have hq:=Zv g A tb β a w h' hk hf inv lZ kP hd;cases aT with
   |zero=>exact⟨gF,hq⟩
   |succ aT=>exact⟨fun _=>hq,fun i hi=>Ns⟩
  ·rename_i r rs Gu;obtain⟨o0,Em,EA,gp⟩:=M1.1 (show r∈vf ops bL by grind);have sV: ¬listed.getD r false=true:=fun e=>Ns
   have by4:=(xe.1 Em).1;have hos:=zK by4 aV Ns;cases aT with
   |zero=>omega
   |succ aT=>
    refine⟨fun gF=> ?_,fun i hi=> ?_⟩
    ·have:=IP Em aV sV (fun e he hb=>(hm e.on).1 (gp e he hb))
     grind
    ·obtain⟨o,ho,hn,hr⟩:=Cb aV hi;have bm:=(xe.1 ho).1;have fS:=oR _ _ h' i Ns;simp only [gg,ho] at fS;split at fS
     ·cases fS
     ·rename_i v A' t h1;have hbi:bit bL i=false:=by cases hb:bit bL i with|false=>rfl|true=>grind
      have RK:bit mask0 i=false:=by cases hb:bit mask0 i with|false=>rfl|true=>grind
      have fq:=hk.step ho RK h1;obtain⟨⟨wd,hw,hwf,Ej⟩,fL,_⟩:=UZ h1;have co8:=zK bm aV Ns;have Ll:∀β' v' w',aj β' v v'->Inv w0 E.G β' A' w'->β.grow β' A.next->wpAnyIn (kg ro) 0 P .any ⟨ops⟩ Q aT (listed.setIfInBounds i true) (a.put o.dst v') w':=fun β' v' w' hv cM af4=>by
       have aN:=inv.gy af4;refine XI Q Zv Gw _ _ _ _ _ β' _ w' aT fS (fun k=> ?_) (fun k lq=> ?_) (by simp[aV]) MK fq ((hf.mono aN).iQ (fun d hd=>mr o (xu ho) d hd) hv) cM (ai.iz lZ af4 kP) Ns ?_
       ·have:=congrFun (J9 (listed:=listed) (i:=i) Ns) k;rw[J2,Bool.or_eq_true,hm k,decide_eq_true_iff]
        grind
       ·grind [J2]
       ·cases o.dst<;>exact hd
      unfold wpOpIn;have tZ:(⟨ops⟩:Array Oper)[i]? =some o:=by simpa using ho
      simp only [tZ];rw[Ft hw hf];cases wd with
      |false=>
       rw[if_neg NS];obtain⟨rfl,rfl⟩:=hwf rfl;exact⟨fun _ _=>trivial,Ll β undef w aj.undef inv (ai.dg _ _)⟩
      |true=>
       rw[if_pos rfl];rcases Ej rfl with bx5|bx5
       ·grind [aK6]
       grind [O1]
theorem Vd{mask0:Nat}{g0 g1:Gt}{A1:AW}:∀(aT bL:Nat) (g:Gt) (A:AW) (tr:List Tr) (tb:Es) (gc:Gt) (Ac:AW) (sK:List Tr) (qA:Es),Q6 E sq ops aT bL g A tr tb=some (gc,Ac,sK,qA)->(∀k,bit mask0 k=true->bit bL k=true)->
 g=gv (fun _=>True) tr g0->yC ops mask0 g1 A1 g A tb->gc=gv (fun _=>True) sK g0/\yC ops mask0 g1 A1 gc Ac qA
 |0,bL,g,A,tr,tb,gc,Ac,sK,qA,h,ng,hg,hk=>by cases h
 |aT+1,bL,g,A,tr,tb,gc,Ac,sK,qA,h,ng,hg,hk=>by
  have h':(match vf ops bL with
   |[]=>some (g,A,tr,tb)
   |i::_=>match dM ops i with
    |none=>none
    |some o=>match Ah E sq ops A g o with
     |none=>none
     |some (v,A',t)=>Q6 E sq ops aT (Nat.lor bL (Nat.pow 2 i)) (iQ g o.dst v) A' (⟨i,o.dst,v⟩::tr) (iR t tb))=some (gc,Ac,sK,qA):=h
  clear h;split at h'
  ·grind
  ·rename_i i rs Gu;obtain⟨o0,Em,EA,gp⟩:=M1.1 (show i∈vf ops bL by grind);simp only [gg,Em] at h';split at h'
   ·cases h'
   ·rename_i v A' t h1;have RK:bit mask0 i=false:=by cases hb:bit mask0 i with|false=>rfl|true=>rw[ng i hb] at EA;cases EA
    refine Vd aT _ _ _ _ _ gc Ac sK qA h' (fun k lq=>by rw[J2,ng k lq];rfl) ?_ (hk.step Em RK h1);rw[MU,hg]
include ok aU mr in
theorem au2{res:List Tr×AW}(h:Jn E sq ops bl g A tr=some res)(hg:g=gv (fun _=>True) tr g0)
 (Q:Exit->Act->World->Prop) (hQ:∀β a w,bU β n (gv (fun _=>True) res.1 g0) a.tmps->Inv w0 E.G β res.2 w->β0.grow β A0.next->A0.next<=res.2.next->a.defers=ds->Q .normal a w) (aT:Nat)
 (listed:Array Bool) (β:ai) (a:Act) (w:World) (aV:listed.size=ops.length) (dY:rZ ops.length listed<=aT) (j:PJ w0 E n ops g0 β0 A0 ds (fun k=>listed.getD k false=true) β A bl tr a w):wpAnyIn (kg ro) 0 P .any ⟨ops⟩ Q aT listed a w:=by
 unfold Jn at h;split at h;rotate_left
 ·cases h
 split at h;rotate_left
 ·cases h
 rename_i gc Ac sK qA bw4;replace h:=aC h;rcases h with⟨hen,h⟩|⟨_,h⟩;rotate_left
 ·cases h
 cases h;have all:∀x∈tr,listed.getD x.i false=true:=fun x hx=>Classical.byContradiction fun hn=>by
  grind [j.un]
 have HV:bU β n g a.tmps:=by
  have:=j.frame;rw[JW (D':=fun _=>True) (fun x hx=>⟨fun _=>trivial,fun _=>all x hx⟩),<-hg] at this;exact this
 have lq:yC ops (qZ tr) g A g A []:=⟨fun _ _=>rfl,rfl,fun _ _=>rfl,fun _ h=>h⟩;obtain⟨hgc,Ep⟩:=Vd (mask0:=qZ tr) (g0:=g0) (g1:=g) (A1:=A) _ _ _ _ _ _ gc Ac sK qA bw4 (fun _ h=>h) hg lq;refine XI ok aU mr (mask0:=qZ tr) (g1:=g) (A1:=A) Q (fun g2 A2 tb2 cY a2 w2 hl fO bK G1 Lg co9 fJ=> ?_) _ _ g A [] listed β a w aT hen (fun k=> ?_) (fun _ h=>h) aV dY lq HV j.inv j.grow j.du j.defers
 ·unfold Zj at hl;rw[xf] at hl;have kZ:∀C,Ac.get C=A2.get C:=fun C=>by
   by_cases hC:C∈iR tb2 qA
   ·grind [aP1,oR]
   ·rw[mQ,xF] at hC;exact(Ep.1 C (fun e=>hC (.inr e))).trans (fO.1 C (fun e=>hC (.inl e))).symm
  have kP:Ac.next=A2.next:=Ep.2.1.trans fO.2.1.symm;refine hQ cY a2 w2 (bK.ext fun t=> ?_) (G1.ext kZ kP (fun nd dw=>by rw[Lg.d,<-j.grow.d];exact j.inv.dX nd (Ep.2.2.2 nd dw))) Lg Ns fJ;show gv (fun _=>True) sK g0 t=g2 t;rw[<-hgc];by_cases ht:∃(i:Nat) (o:Oper),ops[i]? =some o/\bit (qZ tr) i=false/\o.dst=some t
  ·obtain⟨i,o,ho,hb,hd⟩:=ht;have:=Cn _ ops 0 hl.2 i o ho;rw[Nat.zero_add,hb,kz,hd] at this
   grind [FO]
  ·have jh:∀(i:Nat) (o:Oper),ops[i]? =some o->bit (qZ tr) i=false->o.dst≠some t:=fun i o ho hb hd=>ht ⟨i,o,ho,hb,hd⟩
   rw[Ep.2.2.1 t jh,fO.2.2.1 t jh]
 ·rw[Vn];constructor
  ·grind
  ·exact j.only k
end
def bD3(E:az)(ops:HF)(L:Es):List Nat->Option (List Nat×Nat)->Option (List Nat×Nat):=
 List.rec (motive:=fun _=>List Nat->Option (List Nat×Nat)->Option (List Nat×Nat)) (fun _ SG=>SG)
  (fun i r ih bI SG=>ih (iR bI [i]) (bs (match dM ops i with|some o=>Nat.ble 2 (gM E o.op)&&fb (fun k=>bit (j8 ops k) i) r&&vR E ops (iR bI [i]) 0 none|none=>false) (some (iR bI [i],i)) SG)) L
def Zi(L:Es):Ji:=List.rec (motive:=fun _=>Ji) none (fun a r ih=>match r with|[]=>some a|_::_=>ih) L
theorem Wg:∀L:Es,Zi L=L.getLast?
 |[]=>rfl
 |[a]=>rfl
 |a::b::L=>by
  have:=Wg (b::L);rw[List.getLast?_cons_cons,<-this];rfl
def Y8(E:az)(n:Nat)(ops:HF)(L:Es)(es:Nat):Bool:=
 vR E ops L 0 none&&r7 (fun i _=>Hy i L||(not (Nat.beq i es)&&bit (j8 ops i) es)) ops 0&&r7 (fun i oi=>r7 (fun j oj=>C4 ops i oi j oj) ops 0) ops 0&&fb (fun o=>match o.dst with|some d=>Nat.blt d n|none=>true) ops&&
  (match Zi L with|some e=>Nat.beq e es|none=>false)
def GR(n:Nat)(fr:Fr)(x:Option (List Tr×AW)):bp Fr:=
 match x with
 |some (tr,A')=>match O3 n fr tr with|some cK=>some [(cK,A')]|none=>none
 |none=>none
def GB(E:az)(sq:Cf)(call:eL->C3->AW->bp xM)(n:Nat)(ops:HF)(fr:Fr)(A:AW):bp Fr:=
 bs (Y9 E n ops (Jg E ops)) (GR n fr (FV E sq call ops (PC E sq) (Jg E ops) [] fr A []))
  (match bD3 E ops (Jg E ops) [] none with
  |some (L1,es)=>bs (Y8 E n ops L1 es) (GR n fr (FV E sq call ops (Jn E sq ops) L1 [] fr A [])) none
  |none=>none)
def OL(E:az)(d:HF->Fr->AW->bp Fr)(ops:HF)(fr:Fr)(A:AW):bp Fr:=
 match A.tape with
 |[]=>d ops fr A
 |nd::r=>match nd.k,nd.args with
  | .own 2,[.int _ (.ofNat t)]=>(match lL E.G.n 4 (fr.get J t) (A.pop r) with
   |some (u,A1)=>d ops (fr.set t u) A1
   |none=>none)
  |_,_=>d ops fr A
section
variable(ok:E.Ok P){sq:Cf}(aU:E.Seq P sq)
include ok aU
theorem XK{call:eL->C3->AW->bp xM}(hc:mc P E call)(n:Nat):tK P E n (GB E sq call n):=by
 intro ro w0 ops fr A bt β a w id h hf inv;have jh:∀k,¬(Array.replicate ops.length false).getD k false=true:=fun k=>by
  by_cases hk:k<ops.length
  ·simp[hk]
  ·simp[hk]
 have aV:(⟨ops⟩:Array Oper).size=ops.length:=rfl;have YD:∀k,bit 0 k=true↔∃x∈([]:List Tr),x.i=k:=fun k=>by
  grind [tJ]
 have ae2:rZ ops.length (Array.replicate ops.length false)<=ops.length:=by
  unfold rZ;exact xH (List.length_filter_le _ _) NS
 have hpj:PJ w0 E n ops (fr.get J) β A a.defers (fun k=>(Array.replicate ops.length false).getD k false=true) β A [] [] a {w with drawn:=w.drawn+1}:=
  ⟨fun j oj _ hj=>absurd hj (jh j),(fun x hx=>by cases hx),(fun x hx=>by cases hx),fun j hj=>absurd hj (jh j),hf,inv.drew _,(fun e he=>by cases he),ai.dg _ _,xk _,rfl⟩
 have mr:∀(Ew:fb (fun o:Oper=>match o.dst with|some d=>Nat.blt d n|none=>true) ops=true),∀o∈ops,∀d,o.dst=some d->d<n:=fun Ew o ho d hd=>by
  have:=oR _ _ Ew o ho
  simp_all
 have fin:∀(res:List Tr×AW),GR n fr (some res)=some bt->∀β' a' w',bU β' n (gv (fun _=>True) res.1 (fr.get J)) a'.tmps->Inv w0 E.G β' res.2 w'->β.grow β' A.next->A.next<=res.2.next->a'.defers=a.defers->(Exit.normal= .normal/\oZ w0 E.G n β A a.defers bt a' w'):=fun res ho β' a' w' g1 g2 g3 g4 g5=>by
  unfold GR at ho;simp only at ho;split at ho
  ·rename_i cK bm1;cases ho;refine⟨rfl,(cK,res.2),xn,β',⟨g1.1,fun t=> ?_⟩,g2,g3,g4,g5⟩;rcases UX res.1 cK bm1 t with e|e
   ·show aj β' (cK.get J t) _;rw[e];exact g1.2 t
   ·show aj β' (cK.get J t) _;rw[e];exact .jT _
  ·cases ho
 have p9:∀x,GR n fr x=some bt->∃res,x=some res:=fun x hx=>by
  cases x with
  |none=>cases hx
  |some res=>grind
 unfold GB at h;replace h:=aC h;rcases h with⟨hp,h⟩|⟨_,h⟩
 ·unfold Y9 at hp;simp only [xf] at hp;obtain⟨⟨⟨⟨Be,RH⟩,Qp⟩,Ew⟩,_⟩:=hp;have hs:=VU Qp;obtain⟨res,G6⟩:=p9 _ h;rw[G6] at h;have uA:=No _ _ _ _ _ G6;refine wpIn_region_any ok.mixed ?_;rw[aV];refine V7 (w0:=w0) (g0:=fr.get J) (β0:=β) (A0:=A) (ds:=a.defers) (fin:=PC E sq) (es:=0) ok aU hs (mr Ew) hc _ res (fun _=>False) (fun _ h=>h.elim) (fun bl g A2 tr G8 hw hg lY eC fS=> ?_) (Jg E ops) [] (fr.get J) A [] 0 none uA Be YD trivial rfl (fun e he=>by cases he) ⟨(fun e he=>by cases he),(fun e he=>by cases he),(fun e he=>by cases he)⟩ (fun k o hk=> .inr (.inl ?_)) (fun⟨_,h⟩=>h.elim) ops.length (Array.replicate ops.length false) β a _ NS ae2 hpj
  ·grind [ay6,hk,res]
  ·have:=Cn _ ops 0 RH k o hk;rw[Nat.zero_add] at this;exact Jl this
 ·split at h
  ·rename_i L1 es cq3;replace h:=aC h;rcases h with⟨hp,h⟩|⟨_,h⟩
   ·unfold Y8 at hp;simp only [xf] at hp;obtain⟨⟨⟨⟨Be,RH⟩,Qp⟩,Ew⟩,Ax⟩:=hp;have hs:=VU Qp;have hl:L1.getLast?=some es:=by
     split at Ax
     ·grind [Wg,xb]
     ·cases Ax
    obtain⟨res,G6⟩:=p9 _ h;rw[G6] at h;have uA:=No _ _ _ _ _ G6;refine wpIn_region_any ok.mixed ?_;rw[aV];refine V7 (w0:=w0) (g0:=fr.get J) (β0:=β) (A0:=A) (ds:=a.defers) (fin:=Jn E sq ops) (es:=es) ok aU hs (mr Ew) hc _ res (fun k=>k≠es/\bit (j8 ops k) es=true) (fun _ h=>h) (fun bl g A2 tr G8 hw hg lY eC fS Gw listed cY a2 w2 q1 q2 q3=> ?_) L1 [] (fr.get J) A [] 0 none uA Be YD trivial rfl (fun e he=>by cases he) ⟨(fun e he=>by cases he),(fun e he=>by cases he),(fun e he=>by cases he)⟩ (fun k o hk=> .inr ?_) (fun _=> .inr hl) ops.length (Array.replicate ops.length false) β a _ NS ae2 hpj
    ·grind [au2,res]
    ·have:=Cn _ ops 0 RH k o hk;rw[Nat.zero_add,Bool.or_eq_true,xf,Bool.not_eq_true'] at this
     grind [Jl,pM]
   ·cases h
  ·cases h
omit aU in
theorem au0{d:HF->Fr->AW->bp Fr}(hd:tK P E n d):tK P E n (OL E d):=by
 intro ro w0 ops fr A bt β a w id h hf inv;unfold OL at h;split at h
 ·exact hd _ _ _ _ _ _ _ _ _ _ h hf inv
 ·rename_i nd r ht;split at h
  ·rename_i k t hk ha;split at h
   ·rename_i u A1 nj;have i1:=inv.pop (r:=r) (fun x hx=>Ns);obtain⟨aK,i2,g1,n1,f1⟩:=yi ok (w0:=w0) (w:=w) 4 _ _ u A1 β nj i1;have aN:=i1.gy g1;have bK:bU aK n ((fr.set t u).get J) a.tmps:=⟨hf.1,fun i=>by
     by_cases Mc:t=i
     ·subst Mc;rcases T.tz J fr t u with e|⟨e,_⟩
      ·rw[e];exact f1 aK (ai.dg _ _) _ ((hf.2 t).mono aN)
      ·rw[e];exact .jT _
     ·rw[T.tA J fr t i u Mc];exact(hf.2 i).mono aN⟩
    have hn:A.next<=A1.next:=Nat.le_of_eq n1.symm;exact Code.wpIn_mono (fun e a' w' hh=>⟨hh.1,hh.2.mono g1 hn (fun c hc=>hc)⟩) (hd ro w0 ops _ A1 bt aK a w id h bK i2)
   ·cases h
  ·exact hd _ _ _ _ _ _ _ _ _ _ h hf inv
theorem aS4{pg:eL->C3->AW->bp xM}(uB:mc P E pg)(aT depth:Nat):mc P E (AH E sq (GB E sq) pg aT depth):=Wt ok aU (fun _ n hc=>XK ok aU hc n) uB aT depth
end
def nM(a b:Bool):Bool:=bs a b (not b)
theorem FK{a b:Bool}(h:nM a b=true):a=b:=by cases a<;>cases b<;>first|rfl|cases h
def KX(a b:Option aG):Bool:=
 match a,b with
 |some ⟨.cells x,e,ex,ro,ty⟩,some ⟨.cells y,e',fY,fT,gj⟩=>nI x y&&Nat.beq e e'&&nM ex fY&&nM ro fT&&Nat.beq ty gj
 |none,none=>true
 |_,_=>false
theorem aO9{a:Option aG}(h:KX a b=true):a=b:=by
 unfold KX at h;split at h
 ·simp only [xf] at h
  grind [oQ,xb,FK]
 ·rfl
 ·cases h
def fill(k:Nat):Gy->T (Option aG):=
 Nat.rec (motive:=fun _=>Gy->T (Option aG)) (fun _=> .nil) (fun _ ih l=>List.rec (motive:=fun _=>T (Option aG)) (.node (ih []) none (ih [])) (fun a r _=> .node (ih (alt r true)) a (ih (alt r false))) l) k
def vK(k:Nat)(l:Gy):AW:=⟨fill k l,bT l,[]⟩
theorem IY:∀(t:T (Option (Option Row))) (i:Nat) (r:Row),(join t).get none i=some r->t.get none i=some (some r)
 | .nil,i,r,h=>by cases h
 | .node l v q,i,r,h=>by
  have ja:∀x:Option Row,(T.node (join l) x (join q)).get none i=some r->(i=0/\x=some r)\/(i≠0/\(T.node l v q).get none i=some (some r)):=fun x hx=>by
   rw[T.ky] at hx;rw[T.ky];split at hx
   ·rename_i h0;exact .inl ⟨h0,hx⟩
   ·rename_i h0;refine .inr ⟨h0,?_⟩;rw[if_neg h0];split at hx
    ·rename_i h1;rw[if_pos h1];exact IY l _ r hx
    ·rename_i h1;rw[if_neg h1];exact IY q _ r hx
  cases v with
  |none=>
   rcases ja none h with⟨_,h2⟩|⟨_,h2⟩
   ·cases h2
   ·exact h2
  |some x=>
   rcases ja x h with⟨h1,h2⟩|⟨_,h2⟩
   ·rw[T.ky,if_pos h1,h2]
   ·exact h2
theorem Xw{i:TypeInfo}(h:P.types.toList[t]? =some i):P.info? t=some i:=by
 rw[Array.getElem?_toList] at h;have hl:=(Array.getElem?_eq_some_iff.1 h).1;show P.toTables.info? t=some i;unfold Tables.info?;rw[if_pos hl];exact h
theorem Yc{r:Row}{k:Nat}(h:(join (yY k (fC (Kc P.types.toList) P.types.toList))).get none t=some r):
 ∃i d,P.info? t=some i/\Q9 P.types.toList i.desc=some d/\r=⟨d,i.size,i.bytes,(Dz d i.zero).1,(Dz d i.zero).2⟩/\P.underlying t=some d:=by
 have h1:=Fw _ _ _ _ (IY _ _ _ h);rw[qc,xx] at h1;obtain⟨i,hi,hr⟩:=xp.1 h1;unfold Kc at hr;split at hr
 ·rename_i d hd;cases hr;have Zw:=Xw hi;refine⟨i,d,Zw,hd,rfl,?_⟩;unfold Program.underlying;rw[Zw];unfold Q9 at hd;obtain⟨ds,_⟩:=i;cases ds with
  |named nm u=>
   simp only [gg] at hd;split at hd
   ·rename_i j hj;cases hd;simp only [Xw hj,Option.map_some]
   ·cases hd
  |_=>cases hd;rfl
 ·cases hr
theorem aF1{G:GP}{ne:Es}{lay:List (Nat×Nat×Nat)}{mz:List (Nat×Nat)}(hm:P.follows .mixedOrders=true)(hn:∀fn∈P.funcs.toList,(fn.name== "runtime.NumGoroutine")=false)
 (bo:∀f,f∈ne->∀(x:xM) (w:World),(callFunc f #[x]).run P w= .ok (.value x) w)
 (hl:∀e u o,(e,u,o)∈lay->liesAt P P.depth e 1 o u 1=true) (ha:Nat.ble P.types.toList.length jN=true) (hq:∀δ nd,G.Q δ nd->bY δ nd) (hlx:∀w w':World,G.L w->(∀b,b<G.n->w'.heap[b]? =w.heap[b]?)->G.L w')
 (To:∀f t,(f,t)∈mz->∃ps,∀(args:KB) (w:World),(callFunc f args).run P w=(do pure (.value (<-Extern.BytealgMakeNoZero.makeNoZero ps #[t] args)):Sem Next).run P w:=by intro f t h;cases h):(Zg P G ne lay mz).Ok P:=by
 refine⟨hm,fun t r h=> ?_,fun f fn h=> ?_,fun t r i z h hi hz hiz=> ?_,bo,To,hl,fun r h=> ?_,hq,hlx⟩
 ·obtain⟨i,d,h1,h2,rfl,h4⟩:=Yc h;refine⟨h4,i,h1,rfl,rfl,fun hz=> ?_⟩;simp only at hz⊢;unfold Dz at hz⊢;split at hz
  ·rename_i l wb;refine⟨_,wb,?_⟩;cases hd:mT d with
   |true=>rfl
   |false=>rw[hd] at hz;cases hz
  ·cases hz
  ·rename_i v ez Tn wb;refine⟨_,wb,?_⟩;cases hd:mT d with
   |true=>rw[hd] at hz;cases hz
   |false=>cases v<;>first|rfl|(exfalso;exact ez _ rfl)|(exfalso;exact Tn _ rfl)
  ·cases hz
 ·have h1:=Fw _ _ _ _ (show(yY 10 P.funcs.toList).get none f=some fn from h);exact⟨by rw[Array.getElem?_toList] at h1;exact h1,hn fn (xu h1)⟩
 ·obtain⟨i2,d,h1,h2,rfl,h4⟩:=Yc h;rw[hi] at h1;cases h1;simp only at hz⊢;rw[hiz] at hz⊢;unfold Dz at hz⊢;split at hz
  ·rename_i l wb;cases wb;cases d<;>first|(cases hz;done)|exact⟨rfl,fun e=>by cases e⟩
  ·cases hz
  ·rename_i v ez Tn wb;cases wb;cases d<;>first|(cases hz;done)|(cases z<;>first|exact⟨rfl,fun _=>⟨_,rfl⟩⟩|(exfalso;exact ez _ rfl)|(exfalso;exact Tn _ rfl))
  ·cases hz
 ·have h1:=Fw _ _ _ _ (IY _ _ _ (show(join (yY 11 (fC (Kc P.types.toList) P.types.toList))).get none jN=some r from h));have h2:=(xe.1 h1).1;rw[qc,xm] at h2;have:=xh ha;omega
open Go.RowKit Go.WideShapes
section
def CV(P:Program)(g:xN->Option (List xO)):Nat->List Field->Option (List xO)
 |_,[]=>some []
 |o,f::fs=>if f.offset=o/\(f.name== "_")=false then
  (match g f.type with
  |some ks=>if ks.length=P.cellsOf f.type then(match CV P g (o+ks.length) fs with|some r=>some (ks++r)|none=>none) else none
  |none=>none)
  else none
def n5(P:Program):Nat->xN->Option (List xO)
 |0,_=>none
 |m+1,t=>
  match P.underlying t with
  |some (.int k)=>some [k]
  |some (.struct fs)=>if P.stoodInHeld t=false then CV P (n5 P m) 0 fs.toList else none
  |some (.array n e)=>(match n5 P m e with
   |some ks=>if ks.length=P.cellsOf e then some (List.replicate n ks).flatten else none
   |none=>none)
  |_=>none
def B4(P:Program)(t:xN)(a:C3)(x:xM):Prop:=
 (∃k,P.underlying t=some (.int k)/\a=[x])\/(((∃fs,P.underlying t=some (.struct fs))\/∃n e,P.underlying t=some (.array n e))/\x= .agg ⟨a⟩)
theorem IW:∀(fh oq:JI) (a b:C3) (r:Bool),eR (fh++oq) a b=some r->
 ∃r1 r2,eR fh (a.take fh.length) (b.take fh.length)=some r1/\eR oq (a.drop fh.length) (b.drop fh.length)=some r2/\r=(r1&&r2)
 |[],oq,a,b,r,h=>⟨true,r,rfl,h,NS⟩
 |k::fh,oq,a,b,r,h=>by
  have h':nK k (eR (fh++oq)) a b=some r:=h;clear h;unfold nK at h';split at h'
  ·rename_i j m a j' n b;replace h':=aC h';rcases h' with⟨hk,h'⟩|⟨_,h'⟩
   ·split at h'
    ·rename_i r' cF;obtain⟨r1,r2,h1,h2,rfl⟩:=IW fh oq a b r' cF;cases h';refine⟨bs (mC m n) r1 false,r2,?_,h2,?_⟩
     ·show nK k (eR fh) (.int j m::a.take fh.length) (.int j' n::b.take fh.length)=_
      grind [nK,hk,fK]
     ·cases mC m n
      ·grind [kz]
      grind [fK]
    ·cases h'
   ·cases h'
  ·cases h'
theorem Fo:∀(ks:JI) (a b:C3) (r:Bool),eR ks a b=some r->a.length=ks.length/\b.length=ks.length
 |[],a,b,r,h=>by
  have h':o7 a b=some r:=h;unfold o7 at h'
  grind
 |k::ks,a,b,r,h=>by
  have h':nK k (eR ks) a b=some r:=h;clear h;unfold nK at h';split at h'
  ·rename_i j m a j' n b;replace h':=aC h';rcases h' with⟨hk,h'⟩|⟨_,h'⟩
   ·split at h'
    ·rename_i r' cF;obtain⟨h1,h2⟩:=Fo ks a b r' cF;exact⟨by simp[h1],by simp[h2]⟩
    ·cases h'
   ·cases h'
  ·cases h'
theorem aF7{k:xO}{a b:C3}{r:Bool}(h:eR [k] a b=some r):∃m n,a=[.int k m]/\b=[.int k n]/\r=decide (m=n):=by
 have h':nK k o7 a b=some r:=h;clear h;unfold nK at h';split at h'
 ·rename_i j m a j' n b;replace h':=aC h';rcases h' with⟨hk,h'⟩|⟨_,h'⟩
  ·rw[xf] at hk;split at h'
   ·rename_i r' cF;unfold o7 at cF;split at cF
    ·cases cF;cases h';refine⟨m,n,by rw[qg hk.1],by rw[qg hk.2],?_⟩;rw[<-oU];cases mC m n<;>rfl
    ·cases cF
   ·cases h'
  ·cases h'
 ·cases h'
theorem Vp:∀(fh oq:JI) (a:C3),eR (fh++oq) a a=some true->eR fh (a.take fh.length) (a.take fh.length)=some true/\eR oq (a.drop fh.length) (a.drop fh.length)=some true:=by
 grind [IW]
theorem Nx{m:Nat}{e:xN}{ks:JI}(hk:n5 P m e=some ks):∃d i,P.underlying e=some d/\P.info? e=some i:=by
 cases m with
 |zero=>cases hk
 |succ m=>
  unfold n5 at hk;cases hu:P.underlying e with
  |none=>grind
  |some d=>
   obtain⟨i,hi⟩:=info_of_underlying hu
   grind
theorem E9(w:World){m:Nat}{e:xN}{ks:JI}(hk:n5 P m e=some ks)(hl:ks.length=P.cellsOf e)(xs:KB)(off:Nat)(aE:off+ks.length<=xs.size):
 ∃x,(part e xs off).run P w= .ok x w/\B4 P e ((xs.toList.drop off).take ks.length) x:=by
 obtain⟨d,i,hu,hi⟩:=Nx hk;have hx:(xs.extract off (off+P.cellsOf e)).toList=(xs.toList.drop off).take (P.cellsOf e):=by
  rw[Array.toList_extract];simp[List.extract]
 have pX:(⟨(xs.toList.drop off).take ks.length⟩:KB)=xs.extract off (off+P.cellsOf e):=by
  rw[hl,<-hx]
 cases m with
 |zero=>cases hk
 |succ m=>
  unfold n5 at hk;rw[hu] at hk;cases d with
  |int k=>
   cases hk;have hs:off<xs.size:=by simp only [List.length_singleton] at aE;omega
   refine⟨xs[off],run_part_plain w (by simp[Program.plainKey,hu]) (by simp[hs]),.inl ⟨k,hu,?_⟩⟩
   grind [List.length_singleton,List.drop_eq_getElem_cons]
  |struct fs=>
   refine⟨.agg (xs.extract off (off+P.cellsOf e)),by simp[part,isAgg,run_underlying hu,run_sizeOf w hi],.inr ⟨.inl ⟨_,hu⟩,by rw[pX]⟩⟩
  |array n e'=>
   refine⟨.agg (xs.extract off (off+P.cellsOf e)),by simp[part,isAgg,run_underlying hu,run_sizeOf w hi],.inr ⟨.inr ⟨_,_,hu⟩,by rw[pX]⟩⟩
  |_=>cases hk
def PR(P:Program)(dd:Nat)(t:xN)(ks:JI):Prop:=
 ∀w x y a b r,B4 P t a x->B4 P t b y->eR ks a b=some r->(Op.equalIn dd t x y).run P w= .ok r w
def aU7(P:Program)(em:Bool)(dd:Nat)(t:xN)(ks:JI):Prop:=
 ∀w x a,B4 P t a x->eR ks a a=some true->(Instr.checkKey em dd t x).run P w= .ok () w
theorem UA{m dd:Nat}(IH:∀t ks,n5 P m t=some ks->PR P dd t ks)(w:World)(xs ys:KB):∀(fs:List Field) (o:Nat) (ks:JI) (r:Bool),CV P (n5 P m) o fs=some ks->
 o<=xs.size->o<=ys.size->eR ks (xs.toList.drop o) (ys.toList.drop o)=some r->(Op.eqFields dd xs ys fs).run P w= .ok r w
 |[],o,ks,r,hf,hx,hy,hr=>by
  cases hf;have h':o7 (xs.toList.drop o) (ys.toList.drop o)=some r:=hr;unfold o7 at h';split at h'
  ·cases h';simp[Op.eqFields]
  ·cases h'
 |f::fs,o,ks,r,hf,hx,hy,hr=>by
  unfold CV at hf;split at hf
  ·rename_i hc;split at hf
   ·rename_i fh eW;split at hf
    ·rename_i hl;split at hf
     ·rename_i oq fO;cases hf;obtain⟨r1,r2,h1,h2,rfl⟩:=IW fh oq _ _ r hr;obtain⟨l1,l2⟩:=Fo _ _ _ _ h1;simp only [xz,List.length_drop,Array.length_toList] at l1 l2;have ox:o+fh.length<=xs.size:=MK
      have oy:o+fh.length<=ys.size:=MK
      obtain⟨x,px,vx⟩:=E9 w eW hl xs o ox;obtain⟨y,py,vy⟩:=E9 w eW hl ys o oy;have e1:=IH _ _ eW w x y _ _ r1 vx vy h1;have hn:f.name≠ "_":=fun e=>Ns
      rw[List.drop_drop,List.drop_drop] at h2;have e2:=UA IH w xs ys fs (o+fh.length) oq r2 fO ox oy h2;rw[<-hc.1] at px py;simp only [Op.eqFields,hn,ne_eq,not_false_eq_true,if_true,Sem.run_bind,px,py,e1,Result.andThen_ok];cases r1
      ·simp
      grind
     ·cases hf
    ·cases hf
   ·cases hf
  ·cases hf
theorem UK{m dd:Nat}{e:xN}{ks:JI}(hk:n5 P m e=some ks)(hl:ks.length=P.cellsOf e)(IH:PR P dd e ks)(w:World)(xs ys:KB):∀(n s:Nat) (r:Bool),
 eR (List.replicate n ks).flatten (xs.toList.drop (s*ks.length)) (ys.toList.drop (s*ks.length))=some r->(Op.eqItems dd e (P.cellsOf e) xs ys (List.range' s n)).run P w= .ok r w
 |0,s,r,hr=>by
  have h':o7 (xs.toList.drop (s*ks.length)) (ys.toList.drop (s*ks.length))=some r:=hr;unfold o7 at h';split at h'
  ·cases h';simp[Op.eqItems]
  ·cases h'
 |n+1,s,r,hr=>by
  rw[List.replicate_succ,List.flatten_cons] at hr;obtain⟨r1,r2,h1,h2,rfl⟩:=IW ks _ _ _ r hr;obtain⟨l1,l2⟩:=Fo _ _ _ _ h1;simp only [xz,List.length_drop,Array.length_toList] at l1 l2;have cq:∀zs:KB,min ks.length (zs.size - s*ks.length)=ks.length->∃z,(part e zs (s*P.cellsOf e)).run P w= .ok z w/\B4 P e ((zs.toList.drop (s*ks.length)).take ks.length) z:=fun zs hz=>by
   by_cases h0:s*ks.length+ks.length<=zs.size
   ·have:=E9 w hk hl zs (s*ks.length) h0
    grind
   grind
  obtain⟨x,px,vx⟩:=cq xs l1;obtain⟨y,py,vy⟩:=cq ys l2;have e1:=IH w x y _ _ r1 vx vy h1;rw[List.drop_drop,List.drop_drop,<-Nat.succ_mul] at h2;have e2:=UK hk hl IH w xs ys n (s+1) r2 h2;simp only [List.range'_succ,Op.eqItems,Sem.run_bind,px,py,e1,Result.andThen_ok];cases r1
  ·simp
  ·simpa using e2
theorem ON(d:Nat):∀(m:Nat) (t:xN) (ks:JI),n5 P m t=some ks->PR P (d+m) t ks
 |0,_,_,h=>by cases h
 |m+1,t,ks,hk=>by
  intro w x y a b r vx vy hr;unfold n5 at hk;cases hu:P.underlying t with
  |none=>grind
  |some kd=>
   rw[hu] at hk;have agg:(∀k,kd≠ .int k)->x= .agg ⟨a⟩/\y= .agg ⟨b⟩:=fun bo=>by
    have one:∀z c,B4 P t c z->z= .agg ⟨c⟩:=fun z c hv=>by
     rcases hv with⟨k,h1,_⟩|⟨_,h⟩
     ·grind
     ·exact h
    grind
   cases kd with
   |int k=>
    cases hk;obtain⟨m1,n1,rfl,rfl,rfl⟩:=aF7 hr;have one:∀z n,B4 P t [.int k n] z->z= .int k n:=fun z n hv=>by
     rcases hv with⟨_,_,h2⟩|⟨h|h,_⟩
     ·grind
     ·grind
     grind
    rw[one x m1 vx,one y n1 vy,show d+(m+1)=(d+m)+1 from rfl,run_equalIn_int w (d+m) t k k m1 n1 hu]
    congr 1
   |struct fs=>
    obtain⟨rfl,rfl⟩:=agg (fun k e=>by cases e);simp only at hk;split at hk
    ·rename_i hs;have hfs:P.fieldsOf t=fs:=by simp[Program.fieldsOf,hu]
     rw[show d+(m+1)=(d+m)+1 from rfl,run_equalIn_struct w (d+m) t _ _ Ns hs,hfs];exact UA (fun t ks h=>ON d m t ks h) w ⟨a⟩ ⟨b⟩ fs.toList 0 ks r hk (xL _) (xL _) hr
    ·cases hk
   |array n e=>
    obtain⟨rfl,rfl⟩:=agg (fun k e=>by cases e);simp only at hk;split at hk
    ·rename_i fh eW;split at hk
     ·rename_i hl;cases hk;obtain⟨_,i,_,hi⟩:=Nx eW;rw[show d+(m+1)=(d+m)+1 from rfl,run_equalIn_array w (d+m) ⟨a⟩ ⟨b⟩ hu hi,List.range_eq_range'];exact UK eW hl (ON d m e fh eW) w ⟨a⟩ ⟨b⟩ n 0 r (by simpa using hr)
     ·cases hk
    ·cases hk
   |_=>cases hk
theorem N4(em:Bool)(d:Nat):∀(m:Nat) (t:xN) (ks:JI),n5 P m t=some ks->aU7 P em (d+m) t ks
 |0,_,_,h=>by cases h
 |m+1,t,ks,hk=>by
  intro w x a vx hr;unfold n5 at hk;cases hu:P.underlying t with
  |none=>grind
  |some kd=>
   rw[hu] at hk;have agg:(∀k,kd≠ .int k)->x= .agg ⟨a⟩:=fun bo=>by
    rcases vx with⟨k,h1,_⟩|⟨_,h⟩
    ·grind
    ·exact h
   cases kd with
   |int k=>
    rw[show d+(m+1)=(d+m)+1 from rfl,Instr.checkKey];simp only [Sem.run_bind,run_underlying hu,Result.andThen_ok];rfl
   |struct fs=>
    obtain rfl:=agg (fun k e=>by cases e);simp only at hk;split at hk
    ·rw[show d+(m+1)=(d+m)+1 from rfl,Instr.checkKey];simp only [Sem.run_bind,run_underlying hu,Result.andThen_ok];rw[<-Array.forIn_toList];have go:∀(L:List Field) (o:Nat) (ks:JI),CV P (n5 P m) o L=some ks->o<=a.length->eR ks (a.drop o) (a.drop o)=some true->
      (forIn L PUnit.unit fun f (_:PUnit)=>(if f.name≠ "_" then(do
       let y<-part f.type ⟨a⟩ f.offset
       Instr.checkKey em (d+m) f.type y
       pure (ForInStep.yield PUnit.unit)) else pure (ForInStep.yield PUnit.unit):Sem (ForInStep PUnit))).run P w= .ok PUnit.unit w:=by
      intro L
      induction L with
      |nil=>simp_all
      |cons f L ih=>
       intro o ks hf ho hr;unfold CV at hf;split at hf
       ·rename_i hc;split at hf
        ·rename_i fh eW;split at hf
         ·rename_i hl;split at hf
          ·rename_i oq fO;cases hf;obtain⟨h1,h2⟩:=Vp fh oq _ hr;obtain⟨l1,_⟩:=Fo _ _ _ _ h1;simp only [xz,List.length_drop] at l1;have ox:o+fh.length<=a.length:=MK
           obtain⟨y,py,vy⟩:=E9 w eW hl ⟨a⟩ o Ns;have e1:=N4 em d m _ _ eW w y _ vy h1;have hn:f.name≠ "_":=fun e=>Ns
           rw[List.drop_drop] at h2;have e2:=ih (o+fh.length) oq fO ox h2
           simp_all
          ·cases hf
         ·cases hf
        ·cases hf
       ·cases hf
     rw[go fs.toList 0 ks hk (xL _) hr];rfl
    ·cases hk
   |array n e=>
    obtain rfl:=agg (fun k e=>by cases e);simp only at hk;split at hk
    ·rename_i fh eW;split at hk
     ·rename_i hl;cases hk;obtain⟨_,i,_,hi⟩:=Nx eW;rw[show d+(m+1)=(d+m)+1 from rfl,Instr.checkKey];simp only [Sem.run_bind,run_underlying hu,Result.andThen_ok];simp only [Std.Legacy.Range.forIn_eq_forIn_range',Std.Legacy.Range.size,Nat.sub_zero,Nat.add_one_sub_one,Nat.div_one];have go:∀(n s:Nat),eR (List.replicate n fh).flatten (a.drop (s*fh.length)) (a.drop (s*fh.length))=some true->
       (forIn (List.range' s n) PUnit.unit fun i (_:PUnit)=>(do
        Instr.checkKey em (d+m) e (<-part e ⟨a⟩ (i*(<-sizeOf e)))
        pure (ForInStep.yield PUnit.unit):Sem (ForInStep PUnit))).run P w= .ok PUnit.unit w:=by
       intro n
       induction n with
       |zero=>intro s _;simp
       |succ n ih=>
        intro s hr;rw[List.replicate_succ,List.flatten_cons] at hr;obtain⟨h1,h2⟩:=Vp fh _ _ hr;obtain⟨l1,_⟩:=Fo _ _ _ _ h1;simp only [xz,List.length_drop] at l1;have ox:s*fh.length+fh.length<=a.length:=by
         rcases xI fh.length with h0|h0
         ·rw[h0];simp
         ·omega
        obtain⟨y,py,vy⟩:=E9 w eW hl ⟨a⟩ (s*fh.length) Ns;have e1:=N4 em d m _ _ eW w y _ vy h1;rw[List.drop_drop,<-Nat.succ_mul] at h2;have e2:=ih (s+1) h2;rw[hl] at py;simp only [List.range'_succ,List.forIn_cons,Sem.run_bind,run_sizeOf w hi,Result.andThen_ok,py,e1,Sem.run_pure];exact e2
      simp_all
     ·cases hk
    ·cases hk
   |_=>cases hk
def K5:List xO->List xO->Bool
 |[],[]=>true
 |a::l,b::r=>dR a b&&K5 l r
 |_,_=>false
theorem Xr:∀a b,K5 a b=true->a=b
 |[],[],_=>rfl
 |[],_::_,h=>by cases h
 |_::_,[],h=>by cases h
 |a::l,b::r,h=>by
  unfold K5 at h;rw[xf] at h;rw[qg h.1,Xr l r h.2]
def ab2(P:Program)(p:Nat×JI):Bool:=
 (match n5 P 4 p.1 with|some ks=>K5 ks p.2|none=>false)&&not (P.eqGuardType P.depth p.1)&&
  (match P.underlying p.1 with|some (.struct _)=>true|some (.array _ _)=>true|_=>false)
theorem aV8{sq:Cf}(h:fb (ab2 P) sq=true):E.Seq P sq:=by
 have mem:∀(l:Cf) t ks,ib l t=some ks->(t,ks)∈l:=by
  intro l
  induction l with
  |nil=>intro t ks e;cases e
  |cons p l ih=>
   intro t ks e;have e':bs (Nat.beq p.1 t) (some p.2) (ib l t)=some ks:=e;rcases aC e' with⟨h1,h2⟩|⟨_,h2⟩
   ·grind [xb,xn]
   grind
 have SA:∀t ks,ib sq t=some ks->n5 P 4 t=some ks/\P.eqGuardType P.depth t=false/\((∃fs,P.underlying t=some (.struct fs))\/∃n e,P.underlying t=some (.array n e)):=fun t ks e=>by
  have h1:=oR _ _ h _ (mem sq t ks e);unfold ab2 at h1;simp only [xf,Bool.not_eq_true'] at h1
  grind [hk,Xr]
 refine⟨fun t ks a b r e hr w=> ?_,fun t ks e=>(SA t ks e).2.1,fun t ks e=> ?_,fun t ks a e hr em w=> ?_⟩
 ·obtain⟨h1,_,h3⟩:=SA t ks e;exact ON 9996 4 t ks h1 w _ _ a b r (.inr ⟨h3,rfl⟩) (.inr ⟨h3,rfl⟩) hr
 ·grind
 ·obtain⟨h1,_,h3⟩:=SA t ks e;exact N4 em 9996 4 t ks h1 w _ a (.inr ⟨h3,rfl⟩) hr
end
end
end Go.Ex
